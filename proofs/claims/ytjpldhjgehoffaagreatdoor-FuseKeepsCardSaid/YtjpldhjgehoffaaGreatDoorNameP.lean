import Derived.RangeFuncNested
import Derived.RangeFuncWrites
import Derived.RangeFuncBound
import Derived.RangeFuncCalls
import Derived.RangeFuncLeaves
import Derived.RangeFuncBox
import Derived.Shelf.Abstract
import Derived.WalkKit
import Derived.OwnWalkIn
import Derived.TacticsInMore
import Derived.LoopNIn
import Derived.LoopIn
import Derived.Test.YtjpldhjgehoffaaGreatDoorFreeA
set_option maxRecDepth 100000
set_option maxHeartbeats 8000000
namespace Go.Proofs.YtjpldhjgehoffaaGreatDoor
open Go.RowKit Go.Shelf
set_option linter.unusedVariables false
set_option linter.unusedSimpArgs false
attribute [local go_sem] Oper.semAt_some
def backF (l:List ByteArray) (j:Nat):Int×ByteArray:=(((l.length:Int)-1-j),l[l.length-1-j]?.getD .empty)
def Qx6 (l:List ByteArray) (k:Nat):List (Int×ByteArray):=(List.range k).map (backF l)
theorem backL_succ (l:List ByteArray) (k:Nat):Qx6 l (k+1)=Qx6 l k++[backF l k]:=by simp[Qx6,List.range_succ]
theorem backL_len (l:List ByteArray) (k:Nat):(Qx6 l k).length=k:=by simp[Qx6]
def KpB (n₀ Bs:Nat) (A B:World):Prop:=Below n₀ A B∧B.cell? ⟨Bs,0,none⟩=A.cell? ⟨Bs,0,none⟩
theorem KpB.refl (n₀ Bs:Nat) (A:World):KpB n₀ Bs A A:=⟨Below.refl _ _,rfl⟩
theorem KpB.trans {n₀ Bs:Nat} {A B C:World} (h:KpB n₀ Bs A B) (k:KpB n₀ Bs B C):KpB n₀ Bs A C:=⟨h.1.trans k.1,k.2.trans h.2⟩
theorem back1_in (F : Fence) (n : Nat) (h7 : F.fn 151) (hro : F.round = none) (hn : 1≤n) (lp Bs n₀ b off cap : Nat) (l : List ByteArray) (hreach : l.length≤8796093022207) (hb : b < n₀) (J Jx : List (Int×ByteArray)→World→Prop)
  (hY : ∀ pre x W,J pre W→pre.length < l.length→YieldAt F (n - 1) Tryz.prog lp #[.int .i64 x.1,.string x.2] W fun e W' =>
   (e = .returned (.bool true)∧J (pre ++ [x]) W'∧KpB n₀ Bs W W')∨(e = .returned (.bool false)∧Jx (pre ++ [x]) W'))
  (W : World) (hBs : W.cell? ⟨Bs,0,none⟩ = some (.slice (some ⟨b,off,none⟩) l.length cap)) (hc : ∀ j,j < l.length→W.cell? ⟨b,off + j,none⟩ = some (.string (l[j]?.getD .empty))) (h0 : J [] W) :
  CallsIn F n Tryz.prog 151 #[.func (.yield lp) #[] #[],.pointer (some ⟨Bs,0,none⟩)] W fun e W'=>(∃ v,e = .returned v) ∧
   ((∃ ys,ys = Qx6 l l.length∧J ys W')∨(∃ pre,(∃ k,k≤l.length∧pre = Qx6 l k)∧Jx pre W')):=by
 refine callsIn_of_wp Tryz.func151 rfl h7 ?_ hro
 simp only [Tryz.ntmps151,List.size_toArray,List.length_cons,List.length_nil,Nat.reduceAdd,Nat.reduceSub,Array.replicate_succ,Array.replicate_zero,List.push_toArray,List.append_toArray,List.nil_append,List.cons_append]
 gi_wp2
 gi_loopw [3] (fun i wr=>∃ k : Nat,k≤l.length∧i = .int .i64 ((l.length : Int) - 1 - k)∧J (Qx6 l k) wr∧KpB n₀ Bs W wr)
  (fun i _=>(intOf i + 1).toNat)
 case atStart=>exact ⟨0,Nat.zero_le _,by simp,h0,KpB.refl _ _ _⟩
 case round =>
  obtain ⟨k,hk,rfl,hJs,hnx⟩:=hrel
  have hcs : wr.cell? ⟨Bs,0,none⟩ = some (.slice (some ⟨b,off,none⟩) l.length cap):=hnx.2.trans hBs
  by_cases hlt : k < l.length
  ·have hcx : wr.cell? ⟨b,off + (l.length - 1 - k),none⟩ = some (.string (l[l.length - 1 - k]?.getD .empty)):=(hnx.1.cell (p:=⟨b,off + (l.length - 1 - k),none⟩) hb).trans (hc _ (by omega))
   obtain ⟨fn,tmps,assign,body,hy,hR⟩:=hY _ (backF l k) wr hJs (by rw [backL_len];exact hlt)
   dsimp only [backF] at hy
   obtain ⟨q,hq⟩ : ∃ q,l.length = q + 1 + k:=⟨l.length - 1 - k,by omega⟩
   have hqi : (l.length : Int) - 1 - k = (q : Int):=by omega
   have hqn : l.length - 1 - k = q:=by omega
   rw [hqi] at hy ⊢
   rw [hqn] at hy hcx
   have hql : q < l.length:=by omega
   obtain ⟨s,hs⟩ : ∃ s,l[q]?.getD .empty = s:=⟨_,rfl⟩
   rw [hs] at hy hcx
   clear hq
   gi_wp2
   refine hR.mono ?_
   rintro e W3 (⟨rfl,hJ3,hk3⟩ | ⟨rfl,hJx3⟩)
   ·gi_wp2
    go_roundw
    case rel=>exact ⟨k + 1,by omega,by simp;omega,by rw [backL_succ];exact hJ3,hnx.trans hk3⟩
    case measure=>simp [intOf]
   ·gi_wp2
    refine bodyPost_ret (results_none rfl _ _ _) rfl ?_
    exact ⟨⟨_,rfl⟩,.inr ⟨_,⟨k + 1,by omega,(backL_succ _ _).symm⟩,hJx3⟩⟩
  ·obtain rfl : k = l.length:=by omega
   have hqi : (l.length : Int) - 1 - (l.length : Int) = -1:=by omega
   rw [hqi]
   gi_wp2
   go_end0
   exact ⟨⟨_,rfl⟩,.inl ⟨_,rfl,hJs⟩⟩
theorem back1_nil_in (F : Fence) (n : Nat) (h7 : F.fn 151) (hro : F.round = none) (lp Bs : Nat) (a : Option Addr) (cc : Nat) (J : List (Int×ByteArray)→World→Prop) (W : World) (hBs : W.cell? ⟨Bs,0,none⟩ = some (.slice a 0 cc)) (h0 : J [] W) :
  CallsIn F n Tryz.prog 151 #[.func (.yield lp) #[] #[],.pointer (some ⟨Bs,0,none⟩)] W fun e W'=>(∃ v,e = .returned v)∧J [] W':=by
 refine callsIn_of_wp Tryz.func151 rfl h7 ?_ hro
 simp only [Tryz.ntmps151,List.size_toArray,List.length_cons,List.length_nil,Nat.reduceAdd,Nat.reduceSub,Array.replicate_succ,Array.replicate_zero,List.push_toArray,List.append_toArray,List.nil_append,List.cons_append]
 gi_wp2
 gi_loopw [3] (fun i wr=>i = .int .i64 (-1)∧J [] wr) (fun _ _=>0)
 case atStart=>exact ⟨by simp,h0⟩
 case round =>
  obtain ⟨rfl,hJs⟩:=hrel
  gi_wp2
  go_end0
  exact ⟨⟨_,rfl⟩,hJs⟩
theorem back_in (F : Fence) (n : Nat) (h5 : F.fn 136) (hro : F.round = none) (a : Option Addr) (len cap : Nat) (w : World) :
  CallsIn F n Tryz.prog 136 #[.slice a len cap] w fun e w'=>e = .returned (.func (.func 151) #[] #[.pointer (some ⟨w.heap.size,0,none⟩)])∧w' = w.alloc (.cells #[.slice a len cap] 41):=by
 refine callsIn_of_wp Tryz.func136 rfl h5 ?_ hro
 simp only [Tryz.ntmps136,List.size_toArray,List.length_cons,List.length_nil,Nat.reduceAdd,Nat.reduceSub,Array.replicate_succ,Array.replicate_zero,List.push_toArray,List.append_toArray,List.nil_append,List.cons_append]
 gi_wp2
 go_ret
 exact ⟨rfl,rfl⟩
def Strs (n₀:Nat) (W:World) (sv:Value) (l:List ByteArray):Prop:=
 (∃a cc,sv= .slice a 0 cc∧l=[])∨∃b off cap,sv= .slice (some ⟨b,off,none⟩) l.length cap∧b<n₀∧∀j,j<l.length→W.cell? ⟨b,off+j,none⟩=some (.string (l[j]?.getD .empty))
theorem Strs.below {n₀:Nat} {A B:World} (h:Below n₀ A B) {sv:Value} {l:List ByteArray}:Strs n₀ A sv l→Strs n₀ B sv l
 | .inl e=>.inl e
 | .inr ⟨b,off,cap,e,hb,hc⟩=>.inr ⟨b,off,cap,e,hb,fun j hj=>(h.cell (p:=⟨b,off+j,none⟩) hb).trans (hc j hj)⟩
theorem strs_of_rep {w:World} {ok:Nat→Prop} {l:List ByteArray} {v:Value} (h:Rep w ok (Q8 l) v) {n₀:Nat} (hok:∀b,ok b→b<n₀):Strs n₀ w v l:=by
 rw[Q8]at h;generalize hr:l.map Z0=rows at h;cases h with
 |empty a cc ha hcc=>
  have:l=[]:=by simpa using hr
  exact .inl ⟨a,cc,rfl,this⟩
 |sl rows size b o cc V hne hlen hcc hsz' hok' hcell hrep=>
  subst hr;have hs1:size=1:=by
   rcases l with _|⟨x,l⟩
   ·exact absurd rfl hne
   ·exact(hsz' 0 (Z0 x) rfl).symm.trans rfl
  subst hs1;refine .inr ⟨b,o,cc,by rw[List.length_map],hok _ hok',fun j hj=>?_⟩;have h1:=hcell j 0 (by simpa using hj) (by omega);have h2:l[j]? =some l[j]:=List.getElem?_eq_getElem hj;have h3:=hrep j 0 (Z0 l[j]) (.str l[j]) (by rw[List.getElem?_map,h2];rfl) rfl;rw[h2,Option.getD_some];simp only[Nat.mul_one,Nat.add_zero]at h1;rw[h1,h3.R9.1]
theorem back_stops (F:Fence) (n:Nat) (h8:F.fn 151) (hro:F.round=none) (hn:1≤n) (Bs n₀:Nat) (sv:Value) (l:List ByteArray) (hreach:l.length≤8796093022207) (w:World) (hBs:Bs<w.heap.size) (hn₀:n₀≤w.heap.size)
  (hc:w.cell? ⟨Bs,0,none⟩=some sv) (hI:Strs n₀ w sv l):
  SeqStopsK F n Tryz.prog 151 #[.pointer (some ⟨Bs,0,none⟩)] (fun x:Int×ByteArray=>#[Value.int .i64 x.1,Value.string x.2]) (KpB n₀ Bs) (fun ys=>ys=Qx6 l l.length)
   (fun pre=>∃k,k≤l.length∧pre=Qx6 l k) l.length w:=fun lp J Jx W hW _ _ hY h0=>by
 have hc':=(hW.cell (p:=⟨Bs,0,none⟩) hBs).trans hc;rcases hI.below (hW.mono hn₀)with⟨a,cc,rfl,rfl⟩|⟨b,off,cap,rfl,hb,hcs⟩
 ·exact(back1_nil_in F n h8 hro lp Bs a cc J W hc' h0).mono fun e W' ⟨he,hj⟩=>⟨he,.inl ⟨_,rfl,hj⟩⟩
 ·exact back1_in F n h8 hro hn lp Bs n₀ b off cap l hreach hb J Jx hY W hc' hcs h0
end Go.Proofs.YtjpldhjgehoffaaGreatDoor
namespace Go.Proofs.YtjpldhjgehoffaaGreatDoor
open Go.RowKit Go.Shelf
set_option linter.unusedVariables false
set_option linter.unusedSimpArgs false
attribute [local go_sem] Oper.semAt_some
def cnt (k:Int):List ByteArray→Tm→Tm
 |[],t=>t
 |s::r,t=>.mk k 0 s .empty [] [cnt k r t] []
def cntF (k:Int) (t:Tm) (pre:List (Int×ByteArray)):Tm:=pre.foldl (fun t x=>.mk k 0 x.2 .empty [] [t] []) t
theorem cntF_snoc (k:Int) (t:Tm) (pre:List (Int×ByteArray)) (x:Int×ByteArray):cntF k t (pre++[x])= .mk k 0 x.2 .empty [] [cntF k t pre] []:=by
 unfold cntF;rw[List.foldl_append];rfl
theorem cntF_back (k:Int) (t:Tm) (l:List ByteArray):∀j,j≤l.length→cntF k t (Qx6 l j)=cnt k (l.drop (l.length-j)) t
 |0,_=>by rw[Nat.sub_zero,List.drop_length];rfl
 |j+1,h=>by
  rw[backL_succ,cntF_snoc,cntF_back k t l j (by omega)];have h1:l.length-(j+1)<l.length:=by omega
  rw[List.drop_eq_getElem_cons h1,cnt,show l.length-(j+1)+1=l.length-j from by omega];unfold backF;rw[show l.length-1-j=l.length-(j+1)from by omega,List.getElem?_eq_getElem h1,Option.getD_some]
theorem cntF_all (k:Int) (t:Tm) (l:List ByteArray):cntF k t (Qx6 l l.length)=cnt k l t:=by
 rw[cntF_back k t l l.length (Nat.le_refl _),Nat.sub_self,List.drop_zero]
def BInv (k:Int) (t:Tm) (ok:Nat→Prop) (n0:Nat) (z:Array Value) (pre:List (Int×ByteArray)) (W:World):Prop:=
 n0+3≤W.heap.size∧∃(S:Nat→Prop) (c0 c1 c2 c3 c4 c5 c6:Value),(∀b,S b→n0+3≤b∧∃cs t fr,W.heap[b]? =some (.cells cs t fr))∧Blk W n0 45 #[c0,c1,c2,c3,c4,c5,c6]∧Blk W (n0+1) 45 z∧
  ((∀p∈pre,p.2.size≤maxLen)→RepRow W (fun b=>ok b∨S b) (cntF k t pre).row [c0,c1,c2,c3,c4,c5,c6])
theorem blk_kept {W W':World} {row:Option Nat} {b:Nat} {o:Obj} (ho:o.isCells=true) (h:W.heap[b]? =some o) (hg:W.grownBy W' row) (hr:∀r,row=some r→∃o:Obj,W.heap[r]? =some o∧o.isCells=false):W'.heap[b]? =some o:=by
 refine(hg.block b (Array.getElem?_eq_some_iff.1 h).1 fun e=>?_).trans h;obtain⟨o',h1,h2⟩:=hr b e.symm;rw[h]at h1;cases h1;rw[ho]at h2;cases h2
theorem BInv.own (k:Int) (t:Tm) (ok:Nat→Prop) (n0 B:Nat) (z:Array Value) (hB:n0≤B) (hok:∀b,ok b→b<n0):OwnFrom B (BInv k t ok n0 z):=by
 rintro pre W W' row ⟨hsz,S,c0,c1,c2,c3,c4,c5,c6,hS,hb3,hb4,hrow⟩ hg hr;have hr':∀r,row=some r→∃o:Obj,W.heap[r]? =some o∧o.isCells=false:=fun r e=>(hr r e).2
 refine⟨Nat.le_trans hsz hg.size,S,c0,c1,c2,c3,c4,c5,c6,fun b hb=>?_,blk_kept rfl hb3 hg hr',blk_kept rfl hb4 hg hr',fun hpre=>⟨(hrow hpre).1,fun j d v hd hv=>((hrow hpre).2 j d v hd hv).keep fun p hp=>World.J6 ?_⟩⟩
 ·obtain⟨h1,cs,t,fr,h2⟩:=hS b hb;exact⟨h1,cs,t,fr,blk_kept rfl h2 hg hr'⟩
 ·rcases hp with hp|hp
  ·have:=hok _ hp;have hlt:p.block<W.heap.size:=by have:=hb3.lt;omega
   refine hg.block _ hlt fun e=>?_
   have:=(hr _ e.symm).1;omega
  ·obtain⟨h1,cs,t,fr,h2⟩:=hS _ hp;exact(blk_kept rfl h2 hg hr').trans h2.symm
section
variable {F:Fence} {nF:Nat} {P:Program}
theorem O3 (w:World) {ops:Array Oper} {rest:List Oper} {o:Oper} {a:Act} {Q:Exit→Act→World→Prop} (hg:o.guard=none) (p x:Operand) (t:TypeId) (hop:o.op= .store t p x)
  {b:Nat} {te:TypeId} {cs vs:Array Value} (hp:a.eval p= .pointer (some ⟨b,0,none⟩)) (hx:a.eval x= .agg vs) (hb:Blk w b te cs) (hsz:(sizeOf t).run P w= .ok cs.size w) (hvs:vs.size=cs.size) (h1:∀v∈vs.toList,v.oneCell'=true)
  (hK:∀w',Blk w' b te vs→w'.heap.size=w.heap.size→(∀k,k≠b→w'.heap[k]? =w.heap[k]?)→w'.os=w.os→w'.tape=w.tape→w'.output=w.output→wpListIn F nF P ops Q rest (a.put o.dst undef) w'):wpListIn F nF P ops Q (o::rest) a w:=by
 refine wpListIn_plain hg fun K' hK'=>?_
 unfold Oper.wpIn;refine⟨by simp[Oper.about,hop],?_⟩;rw[Oper.semAt_plain F _ _ (by rw[hop];intro c hc';cases hc')];have hst:=run_storeCells_at P b 0 te vs.toList 0 cs w hb (by simp;omega) h1;have e1:(cs.toList.take (0+0)++vs.toList++cs.toList.drop (0+0+vs.toList.length)).toArray=vs:=by
  rw[List.drop_of_length_le (by simp;omega)];simp
 rw[e1]at hst;have hne:¬vs.size≠cs.size:=by omega
 have hrun:(execOp a.eval o).run P w= .ok .skip (w.setRow b vs):=by
  obtain⟨dst,op,ty,pos,after,guard⟩:=o;dsimp only at hop;subst hop;simp only[execOp,Instr.storeAt,hp,hx,Instr.sureAddr,Sem.run_bind,Sem.run_pure,Result.andThen_ok,storeVar,hsz,Value.cells,if_neg hne,hst]
 rw[hrun];exact hK' _ _ (hK _ (setRow_heap w b cs vs te (0,0) hb) (by simp[World.setRow]) (fun k hk=>setRow_other w b k vs hk) rfl rfl rfl)
end
theorem tm_cells {w:World} {ok:Nat→Prop} {g:Gh} {m:Me} {t:Tm} {v:Value} (h:VR w ok g m (X9 t) v):∃c0 c1 c2 c3 c4 c5 c6,v= .agg #[c0,c1,c2,c3,c4,c5,c6]∧RepRow w ok t.row [c0,c1,c2,c3,c4,c5,c6]:=by
 obtain⟨k,n,a,b,vs,xs,cs⟩:=t;obtain⟨vs',rfl,hl,h1,_⟩:=VR.Qv6 h;match vs',hl with
 |⟨[c0,c1,c2,c3,c4,c5,c6]⟩,_=>
 refine⟨c0,c1,c2,c3,c4,c5,c6,rfl,?_⟩;rw[Tm.row];refine⟨rfl,fun j d v hd hv=>?_⟩;have h2:=fun c hc=>h1 j c v hc (by simpa using hv)
 rcases j with _|_|_|_|_|_|_|j<;> simp at hd<;> subst hd
 all_goals first|exact(h2 _ rfl).Zv|(simp only[Tm.Q3,Cs.Q3];exact(h2 _ rfl).Zv)
theorem tm_of_cells {w:World} {ok:Nat→Prop} {g:Gh} {m:Me} {t:Tm} {c0 c1 c2 c3 c4 c5 c6:Value} (h:RepRow w ok t.row [c0,c1,c2,c3,c4,c5,c6]):VR w ok g m (X9 t) (.agg #[c0,c1,c2,c3,c4,c5,c6]):=by
 obtain⟨k,n,a,b,vs,xs,cs⟩:=t;rw[Tm.row]at h;simp only[Tm.Q3,Cs.Q3]at h;refine .agg _ _ rfl (fun j c v hc hv=>?_) (fun j v hv=>?_)
 ·rcases j with _|_|_|_|_|_|_|j<;> simp at hc hv<;> subst hc hv
  ·exact .d _ _ (h.2 0 _ _ rfl rfl)
  ·exact .d _ _ (h.2 1 _ _ rfl rfl)
  ·exact .d _ _ (h.2 2 _ _ rfl rfl)
  ·exact .d _ _ (h.2 3 _ _ rfl rfl)
  ·exact .d _ _ (h.2 4 _ _ rfl rfl)
  ·exact .d _ _ (h.2 5 _ _ rfl rfl)
  ·exact .d _ _ (h.2 6 _ _ rfl rfl)
 ·rcases j with _|_|_|_|_|_|_|j<;> simp at hv<;> subst hv
  ·exact(h.2 0 _ _ rfl rfl).oneCell
  ·exact(h.2 1 _ _ rfl rfl).oneCell
  ·exact(h.2 2 _ _ rfl rfl).oneCell
  ·exact(h.2 3 _ _ rfl rfl).oneCell
  ·exact(h.2 4 _ _ rfl rfl).oneCell
  ·exact(h.2 5 _ _ rfl rfl).oneCell
  ·exact(h.2 6 _ _ rfl rfl).oneCell
theorem fdrops_in (F : Fence) (n : Nat) (hfn : ∀ f,F.fn f) (hro : F.round = none) (hn : 3≤n) (l : List ByteArray) (hl : l.length≤8796093022207) (hls : ∀ s∈l,s.size≤maxLen) (t : Tm) (w : World) (ok : Nat→Prop) (hok : ∀ b,ok b→b < w.heap.size) (a : Option Addr) (len cap : Nat) (hs : Strs w.heap.size w (.slice a len cap) l)
  (c0 c1 c2 c3 c4 c5 c6 : Value) (hr : RepRow w ok t.row [c0,c1,c2,c3,c4,c5,c6]) :
  CallsIn F n Tryz.prog 113 #[.slice a len cap,.agg #[c0,c1,c2,c3,c4,c5,c6]] w fun e W'=>∃ (S : Nat→Prop) (d0 d1 d2 d3 d4 d5 d6 : Value),e = .returned (.agg #[d0,d1,d2,d3,d4,d5,d6])∧Below w.heap.size w W'∧(∀ b,S b→w.heap.size≤b∧b < W'.heap.size) ∧
   RepRow W' (fun b=>ok b∨S b) (cnt 9 l t).row [d0,d1,d2,d3,d4,d5,d6]:=by
 have h1 : 1≤n:=by omega
 refine callsIn_of_wp_marks Tryz.func113 rfl (hfn _) ?_ hro
 simp only [Tryz.ntmps113,List.size_toArray,List.length_cons,List.length_nil,Nat.reduceAdd,Nat.reduceSub,Array.replicate_succ,Array.replicate_zero,List.push_toArray,List.append_toArray,List.nil_append,List.cons_append]
 gi_wp2_with (gi_at_call 136;refine (back_in F (n - 1) (hfn _) hro _ _ _ _).mono ?_;rintro e w' ⟨rfl,rfl⟩)
 obtain ⟨z,hz⟩ : ∃ z : Array Value,z = #[.int .i64 0,.int .i64 0,.string ⟨#[]⟩,.string ⟨#[]⟩,.slice none 0 0,.slice none 0 0,.slice none 0 0]:=⟨_,rfl⟩
 rw [← hz]
 have b3:=Blk.new w 45 #[c0,c1,c2,c3,c4,c5,c6]
 have b4:=Blk.new (w.alloc (.cells #[c0,c1,c2,c3,c4,c5,c6] 45)) 45 z
 have b5:=Blk.new ((w.alloc (.cells #[c0,c1,c2,c3,c4,c5,c6] 45)).alloc (.cells z 45)) 41 #[.slice a len cap]
 have hB0 : Below w.heap.size w (((w.alloc (.cells #[c0,c1,c2,c3,c4,c5,c6] 45)).alloc (.cells z 45)).alloc (.cells #[.slice a len cap] 41)):=(((Below.refl _ w).alloc (Nat.le_refl _) _).alloc (by simp) _).alloc (by simp;omega) _
 have b3':=(b3.alloc (.cells z 45)).alloc (.cells #[.slice a len cap] 41)
 have b4':=b4.alloc (.cells #[.slice a len cap] 41)
 simp only [World.size_alloc] at b4 b5 b4'
 obtain ⟨W0,hW0⟩ : ∃ W0,((w.alloc (.cells #[c0,c1,c2,c3,c4,c5,c6] 45)).alloc (.cells z 45)).alloc (.cells #[.slice a len cap] 41) = W0:=⟨_,rfl⟩
 have hsz0 : W0.heap.size = w.heap.size + 3:=by rw [← hW0];simp
 rw [hW0] at b3' b4' b5 hB0 ⊢
 refine wpIn_rangeFunc_ownG hro h1 (gf:=151) (lb:=#[.pointer (some ⟨w.heap.size + 1 + 1,0,none⟩)]) rfl (hfn _) (enters_of Tryz.func151 (by kernel_rfl) rfl)
  (back_stops F (n - 1) (hfn _) hro (by omega) (w.heap.size + 1 + 1) w.heap.size _ l hl W0 (by omega) (by omega) (b5.cell 0) (hs.below hB0)) (fun h k=>KpB.trans h k)
  (fun W lp o o' hle h2 h3 h4=>⟨belowK_b (w:=W0) (by omega) W lp o o' hle h2 h3 h4,World.J6 (World.putObj_heap_other (by show w.heap.size + 1 + 1≠lp;omega))⟩) (Below.refl _ _) (fun _=>rfl)
  (fun pre W=>BInv 9 t ok w.heap.size z pre W∧Below w.heap.size w W) (fun _ _ _=>False)
  (OwnFrom.and (BInv.own 9 t ok _ _ z (by omega) hok) (ownFrom_below (Nat.le_refl _) (by omega)))
  (fun _ _ _ _ _ hs _ _=>hs)
  ⟨⟨by omega,fun _=>False,c0,c1,c2,c3,c4,c5,c6,fun _ h=>h.elim,b3',b4',fun _=>⟨hr.1,fun j d v hd hv=>((hr.2 j d v hd hv).keep fun p hp=>World.J6 (hB0.block p.block (hok _ hp))).weak fun b hb=>.inl hb⟩⟩,hB0⟩
  (fun x=>{ tmps:=#[.slice a len cap,.agg #[c0,c1,c2,c3,c4,c5,c6],undef,.pointer (some ⟨w.heap.size,0,none⟩),.pointer (some ⟨w.heap.size + 1,0,none⟩),undef,.string x.2,.slice a len cap,.func (.func 151) #[] #[.pointer (some ⟨w.heap.size + 1 + 1,0,none⟩)],.int .i64 x.1,.string x.2,undef,undef,undef,undef,undef],defers:=[] }) ?assign ?body ?done ?stop
 case assign =>
  intro l x W K hK
  gi_wp2
  exact hK
 case body =>
  rintro lp pre x W ⟨⟨hsz,S,e0,e1,e2,e3,e4,e5,e6,hS,hb3,hb4,hrow⟩,hB⟩ _
  have g0:=hb3.cell 0
  have g1:=hb3.cell 1
  have g2:=hb3.cell 2
  have g3:=hb3.cell 3
  have g4:=hb3.cell 4
  have g5:=hb3.cell 5
  have g6:=hb3.cell 6
  have f0:=hb3.frozen 0
  have f1:=hb3.frozen 1
  have f2:=hb3.frozen 2
  have f3:=hb3.frozen 3
  have f4:=hb3.frozen 4
  have f5:=hb3.frozen 5
  have f6:=hb3.frozen 6
  simp at g0 g1 g2 g3 g4 g5 g6
  gi_wp2_with (refine O3 _ rfl _ _ _ rfl rfl rfl (hb3.alloc _) (by kernel_rfl) rfl (by intro v hv;simp at hv;rcases hv with rfl | rfl | rfl | rfl | rfl | rfl | rfl <;> rfl) ?_;intro W1 k1 k2 k3 k4 k5 k6)
  rw [World.size_alloc] at k2
  have kh : ∀ k,k≠w.heap.size→k < W.heap.size→W1.heap[k]? = W.heap[k]?:=fun k hk hlt=>(k3 k hk).trans (Below.heap_alloc W _ k hlt)
  have kn : W1.heap[W.heap.size]? = some (.cells #[e0,e1,e2,e3,e4,e5,e6] 45 (0,0)):=(k3 _ (by omega)).trans (heap_alloc_new W _)
  have kb : Below w.heap.size W W1:=⟨k4,k5,k6,by omega,fun k hk=>kh k (by omega) (by omega)⟩
  have hlt : ∀ b,S b→b < W.heap.size:=fun b hb=>by
   obtain ⟨_,cs,t,fr,h⟩:=hS b hb
   exact (Array.getElem?_eq_some_iff.1 h).1
  refine ⟨⟨by omega,fun k o _ hk ho=>(kh k (by rintro rfl;rw [hb3] at hk;cases hk;cases ho) (Array.getElem?_eq_some_iff.1 hk).1).trans hk⟩,⟨kb,World.J6 (kh _ (by show w.heap.size + 1 + 1≠w.heap.size;omega) (by show w.heap.size + 1 + 1 < _;omega))⟩,
   ⟨by omega,fun b=>S b∨b = W.heap.size,_,_,_,_,_,_,_,fun b hb=>?_,k1,(kh _ (by omega) (by omega)).trans hb4,fun hpre=>?_⟩,hB.trans kb⟩
  ·rcases hb with hb | rfl
   ·obtain ⟨h1,cs,t,fr,h2⟩:=hS b hb
    exact ⟨h1,cs,t,fr,(kh b (by omega) (hlt b hb)).trans h2⟩
   ·exact ⟨hsz,_,_,_,kn⟩
  ·have hrow':=hrow fun p hp=>hpre p (List.mem_append_left _ hp)
   have hx:=hpre x (List.mem_append_right _ (List.mem_singleton.2 rfl))
   have kept : RepRow W1 (fun b=>ok b∨S b∨b = W.heap.size) (cntF 9 t pre).row [e0,e1,e2,e3,e4,e5,e6]:=⟨hrow'.1,fun j d v hd hv=>((hrow'.2 j d v hd hv).keep fun p hp=>World.J6 (by
    rcases hp with hp | hp
    ·have:=hok _ hp
     exact kh _ (by omega) (by omega)
    ·obtain ⟨h1,_⟩:=hS _ hp
     exact kh _ (by omega) (hlt _ hp))).weak fun b hb=>hb.imp id .inl⟩
   rw [cntF_snoc]
   simp only [Tm.row,Tm.Q3,Cs.Q3,List.map_cons,List.map_nil]
   refine ⟨rfl,fun j d v hd hv=>?_⟩
   rcases j with _ | _ | _ | _ | _ | _ | _ | j <;> simp at hd hv <;> subst hd hv
   ·exact .int _ (by omega) (by omega)
   ·exact .int _ (by omega) (by omega)
   ·exact .str _ hx
   ·exact .str _ (by simp)
   ·exact .empty none 0 (fun _=>rfl) (Nat.zero_le _)
   ·exact Rep.of_block kn _ kept (.inr (.inr rfl))
   ·exact .empty none 0 (fun _=>rfl) (Nat.zero_le _)
 case done =>
  rintro D ys W hD rfl ⟨⟨hsz,S,e0,e1,e2,e3,e4,e5,e6,hS,hb3,hb4,hrow⟩,hB⟩ hK
  have hrow:=hrow fun p hp=>by
   obtain ⟨j,_,rfl⟩:=List.mem_map.1 hp
   show (l[l.length - 1 - j]?.getD .empty).size≤maxLen
   rcases hg : l[l.length - 1 - j]? with _ | s
   ·simp
   ·exact hls s (List.mem_of_getElem? hg)
  have one : ∀ (j : Nat) (v : Value),[e0,e1,e2,e3,e4,e5,e6][j]? = some v→v.oneCell' = true:=fun j v hv=>by
   have hj : j < (cntF 9 t (Qx6 l l.length)).row.length:=by rw [hrow.1];exact (List.getElem?_eq_some_iff.1 hv).1
   exact (hrow.2 j _ v (List.getElem?_eq_getElem hj) hv).oneCell
  have g0:=hb3.cell 0
  have g1:=hb3.cell 1
  have g2:=hb3.cell 2
  have g3:=hb3.cell 3
  have g4:=hb3.cell 4
  have g5:=hb3.cell 5
  have g6:=hb3.cell 6
  simp at g0 g1 g2 g3 g4 g5 g6
  gi_wp2_with (refine O3 _ rfl _ _ _ rfl rfl rfl hb4 (by rw [hz];kernel_rfl) (by rw [hz];rfl) (fun v hv=>by obtain ⟨j,hj⟩:=List.mem_iff_getElem?.1 hv;exact one j v hj) ?_;intro W1 k1 k2 k3 k4 k5 k6)
  have hDn : D≠w.heap.size + 1:=by omega
  have hK' : W1.heap[D]? = some (.deferred (some [])):=(k3 D hDn).trans hK
  refine ⟨by simp,.inl ⟨_,_,rfl,run_takeDeferred hK',?_⟩⟩
  have kd : ∀ k,k≠D→(W1.putObj D (.deferred none)).heap[k]? = W1.heap[k]?:=fun k hk=>World.putObj_heap_other hk
  have k1' : Blk (W1.putObj D (.deferred none)) (w.heap.size + 1) 45 #[e0,e1,e2,e3,e4,e5,e6]:=(kd _ (Ne.symm hDn)).trans k1
  have q0:=k1'.cell 0
  have q1:=k1'.cell 1
  have q2:=k1'.cell 2
  have q3:=k1'.cell 3
  have q4:=k1'.cell 4
  have q5:=k1'.cell 5
  have q6:=k1'.cell 6
  simp at q0 q1 q2 q3 q4 q5 q6
  refine ⟨_,by simp [results,Tryz.f113,go_sem,q0,q1,q2,q3,q4,q5,q6],S,e0,e1,e2,e3,e4,e5,e6,rfl,?_,fun b hb=>?_,?_⟩
  ·exact hB.trans ⟨k4,k5,k6,by rw [World.putObj_size,k2];exact Nat.le_refl _,fun k hk=>(kd k (by omega)).trans (k3 k (by omega))⟩
  ·obtain ⟨h1,cs,t,fr,h2⟩:=hS b hb
   exact ⟨by omega,by rw [World.putObj_size,k2];exact (Array.getElem?_eq_some_iff.1 h2).1⟩
  ·rw [← cntF_all]
   refine ⟨hrow.1,fun j d v hd hv=>(hrow.2 j d v hd hv).keep fun p hp=>World.J6 ?_⟩
   rcases hp with hp | hp
   ·have:=hok _ hp
    exact (kd _ (by omega)).trans (k3 _ (by omega))
   ·obtain ⟨h1,cs,t,fr,h2⟩:=hS _ hp
    exact (kd _ (by rintro e;rw [e,hK] at h2;cases h2)).trans (k3 _ (by omega))
 case stop =>
  rintro D c pre W _ _ h _
  exact h.elim
theorem sp_fdrops (l:List ByteArray) (t:Tm) (hl:l.length≤8796093022207) (hls:∀s∈l,s.size≤maxLen):Z4 Tryz.prog 113 [Zk l,X9 t] (fun _=>X9 (cnt 9 l t)) none:=by
 have hcl:∀t:Tm,(X9 t).has (fun _=>true)=false:=fun t=>by obtain⟨k,n,a,b,vs,xs,cs⟩:=t;rfl
 have hcl2:∀(t:Tm) (q:Nat→Bool),(X9 t).has q=false:=fun t q=>by obtain⟨k,n,a,b,vs,xs,cs⟩:=t;rfl
 refine⟨⟨_,Tryz.func113,rfl,rfl⟩,fun d=>hcl2 _ _,fun _ d=>hcl _,by simp,fun d w ok vals hgi hok hlen hv=>?_⟩;match vals,hlen with
 |⟨[v0,v1]⟩,_=>
 have h0:Rep w ok (Q8 l) v0:=(hv 0 _ v0 rfl rfl).Zv;have h1:=hv 1 _ v1 rfl rfl;obtain⟨c0,c1,c2,c3,c4,c5,c6,rfl,hr⟩:=tm_cells h1;have hs:=strs_of_rep h0 hok;obtain⟨a,cap,rfl⟩:∃a cap,v0= .slice a l.length cap:=by
  rcases hs with⟨a,cc,rfl,rfl⟩|⟨b,o,cc,rfl,_⟩
  ·exact⟨_,_,rfl⟩
  ·exact⟨_,_,rfl⟩
 refine((callsIn_wide (n:=3)).1 (fdrops_in Fence.wide 3 (fun _=>trivial) rfl (by omega) l hl hls t w ok hok a l.length cap hs c0 c1 c2 c3 c4 c5 c6 hr)).mono ?_;rintro e w' ⟨S,d0,d1,d2,d3,d4,d5,d6,rfl,hB,hS,hrow⟩;exact⟨_,fun b=>ok b∨S b,noG,rfl,hB,fun b h=>.inl h,fun b h=>h.imp id fun h=>hS b h,tm_of_cells hrow,by simp⟩
end Go.Proofs.YtjpldhjgehoffaaGreatDoor
namespace Go.Proofs.YtjpldhjgehoffaaGreatDoor
open Go.RowKit
attribute [local simp] Iz mkRc ldOf stOf stOk Nw Mv Rw Kj V9 Yj Yw J3 Y8 Bz evA Vj Dz Value.oneCell' Zj Q4 Z7 Qx1 U6 Z5 AS.after Zq Kq J8 AV.ids Mj Qz.ids frNo Nv G6 Wj H6 Y1 Y3 Vx U1 U0 Yz toD1 Sw setAt U9 Ij Dj L8 Gz L9 binI AV.cells J4 Jq Gq Wq AV.kill Qz.kill AV.has AV.K6 Op.operands Call.operands Dq Dw Zw Qv2 Zx Xq E8 moQ Mk R4 Yk AV.ren E5 Qz.ren Qz.like kept Zz Mw AV.frz Pz Ik Ak F8 Uk AS.frz Tw Rq Qz.frz Hq Hz bleF Nat.ble_eq G9 G7 Yq D.Y5 N7 R8 Vv Vw phO Ew Dk Gx Uj Kv Low Ex
set_option linter.unusedVariables false
set_option linter.unusedSimpArgs false
theorem AWp.seqJ {P:Program} {Q:Exit→AS→Prop} {s:AS} {x y:Code} (s0:AS) (h2:AWp P y Q s0) (h1:∀W:AS→Prop,(∀s',Le s' s0→W s')→AWp P x (Qq W Q) s):AWp P (.seq x y) Q s:=
 AWp.seq (h1 _ fun _ hl=>AWp.le hl h2)
abbrev tmCells (k n:Int) (a b:ByteArray) (vs:List ByteArray) (xs:List Tm) (cs:List Cs):List AV:=
 [.d (.int k),.d (.int n),.d (.str a),.d (.str b),.d (Q8 vs),.d (.sl (xs.map Tm.row)),.d (.sl (cs.map Cs.row))]
def Qj (k n:Int) (a b:ByteArray) (vs:List ByteArray) (xs:List Tm) (cs:List Cs):Option Qz:=some (.blk 45 (tmCells k n a b vs xs cs))
structure Tm.Fit (t:Tm):Prop where
 ok:t.Ok
 sz:t.sz≤1048576
theorem Tm.Fit.arg {k n:Int} {a b:ByteArray} {vs:List ByteArray} {xs:List Tm} {cs:List Cs} (h:(Tm.mk k n a b vs xs cs).Fit) {x:Tm} (hx:x∈xs):x.Fit:=
 ⟨h.ok.arg hx,by have:=Tm.Qj3 (k:=k) (n:=n) (a:=a) (b:=b) (vs:=vs) (cs:=cs) hx;have:=h.sz;omega⟩
theorem Tm.Fit.case {k n:Int} {a b:ByteArray} {vs:List ByteArray} {xs:List Tm} {cs:List Cs} (h:(Tm.mk k n a b vs xs cs).Fit) {t:Int} {ws:List ByteArray} {x:Tm} (hx:Cs.mk t ws x∈cs):x.Fit∧ws.length≤8796093022207:=
 ⟨⟨(h.ok.case hx).body.1,by have:=Tm.O4 (k:=k) (n:=n) (a:=a) (b:=b) (vs:=vs) (xs:=xs) hx;have:=h.sz;omega⟩,(h.ok.case hx).body.2⟩
theorem sz_all {k n:Int} {a b:ByteArray} {vs:List ByteArray} {xs:List Tm} {cs:List Cs} (h:(Tm.mk k n a b vs xs cs).Fit):1+Tm.szs xs+Cs.szs cs≤1048576:=by
 have:=h.sz;simpa only[Tm.sz]using this
theorem addN_woN (skip:List ByteArray) (l:List ByteArray) {L:List ByteArray} {i:Nat} {x:ByteArray} (hx:l[i]? =some x):
  addN L (woN (l.take (i+1)) skip)=if !hasB skip x && !hasB (addN L (woN (l.take i) skip)) x then addN L (woN (l.take i) skip)++[x]else addN L (woN (l.take i) skip):=by
 rw[List.take_add_one,hx];simp only[woN,List.filter_append,addN,List.foldl_append,Option.toList_some];cases h:hasB skip x
 ·simp only[List.filter_cons,h,Bool.not_false,if_true,List.filter_nil,List.foldl_cons,List.foldl_nil,Bool.true_and];cases hasB (List.foldl (fun l s=>if hasB l s=true then l else l++[s]) L (List.filter (fun s=>!hasB skip s) (List.take i l))) x<;> rfl
 ·simp[List.filter_cons,h]
theorem cs_Free1 (L l skip:List ByteArray) (hl:L.length+l.length≤1048576) (hs:skip.length≤8796093022207):
  Qv Tryz.prog 124 [Zk l,Zk skip,.ptr 1000 0] [(1000,.blk 41 [.arr 500 0 L.length]),(500,.arr 9 1 (L.map Z0))] (Z6 [])
   [(1000,.blk 41 [.arr 500 0 (addN L (woN l skip)).length]),(500,.arr 9 1 ((addN L (woN l skip)).map Z0))]:=by
 refine Qv.of Tryz.func124 rfl rfl (Nat.le_of_ble_eq_true rfl) ?_;show AWp _ _ (Qk _ Tryz.f124 _ _) (Zz 28 _ _);repeat (first|refine AWp.seq ?_|refine AWp.block ?_)
 apply AWp.reg [] []
 ·conv=>lhs;simp
 ·trivial
 repeat (first|refine AWp.seq ?_|refine AWp.block ?_)
 refine AWp.loop (σ:=fun u:{i:Nat // i≤l.length}=>⟨28,[(1,Zk skip),(2,.ptr 1000 0),(7,Zk l),(8,.d (.int l.length)),(9,.d (.int u.1))],[(1000,some (.blk 41 [.arr 500 0 (addN L (woN (l.take u.1) skip)).length])),(500,some (.arr 9 1 ((addN L (woN (l.take u.1) skip)).map Z0)))]⟩)
  (μ:=fun u=>l.length-u.1) ⟨0,Nat.zero_le _⟩ (Le.sub (by simp[addN,woN]) (by simp[addN,woN])) (fun⟨i,hi⟩=>?_)
 dsimp only;have hN:=Qx7 (woN (l.take i) skip) L;have hw:=F5 (l.take i) skip;have hti:(l.take i).length=i:=by simp;omega
 have hS:∀x,l[i]? =some x→_:=fun x=>addN_woN skip l (L:=L) (i:=i) (x:=x)
 obtain⟨M,hM⟩:∃M,M=addN L (woN (l.take i) skip):=⟨_,rfl⟩
 rw[←hM]at hN hS⊢;repeat (first|refine AWp.seq ?_|refine AWp.block ?_)
 apply AWp.reg [] []
 ·conv=>lhs;simp
 ·trivial
 repeat (first|refine AWp.seq ?_|refine AWp.block ?_)
 refine AWp.cond rfl (fun h=>?_) (fun h=>?_)
 ·have hi1:i<l.length:=by have:=of_decide_eq_true h;omega
  have h1:l[i]? =some l[i]:=List.getElem?_eq_getElem hi1;generalize l[i]=x at h1;have hs1:=hS x h1;have hp:=sp_Has skip x (by omega);have hc:=cs_Has 1001 M x (by omega);obtain⟨A,hA⟩:∃A,A=hasB skip x:=⟨_,rfl⟩
  obtain⟨B,hB⟩:∃B,B=hasB M x:=⟨_,rfl⟩
  rw[←hA,←hB]at hs1;rw[←hA]at hp;rw[←hB]at hc;refine AWp.skip ?_;refine AWp.rg [] [] ?_ (hr:=by conv=>lhs;simp[h1]);cases A with
  |true=>
   repeat (first|refine AWp.seq ?_|refine AWp.block ?_)
   apply AWp.reg [] [.p (fun _=>.d (.bool true)) none,.c [(1001,500)] [.arr 1001 0 M.length,.d (.str x)] [(1001,.arr 9 1 (M.map Z0))] (.d (.bool B)) [(1001,.arr 9 1 (M.map Z0))]]
   ·conv=>lhs;simp
   ·exact hp
   refine AWp.cn ?_;refine AWp.skip ?_;refine AWp.rg [] [] ?_;refine⟨⟨i+1,hi1⟩,by simp;omega,?_⟩;dsimp only;rw[hs1];exact Le.sub (by simp) (by simp)
  |false=>
   cases B with
   |true=>
    repeat (first|refine AWp.seq ?_|refine AWp.block ?_)
    apply AWp.reg [] [.p (fun _=>.d (.bool false)) none,.c [(1001,500)] [.arr 1001 0 M.length,.d (.str x)] [(1001,.arr 9 1 (M.map Z0))] (.d (.bool true)) [(1001,.arr 9 1 (M.map Z0))]]
    ·conv=>lhs;simp
    ·exact⟨hp,hc⟩
    refine AWp.cn ?_;refine AWp.skip ?_;refine AWp.rg [] [] ?_;refine⟨⟨i+1,hi1⟩,by simp;omega,?_⟩;dsimp only;rw[hs1];exact Le.sub (by simp) (by simp)
   |false=>
    repeat (first|refine AWp.seq ?_|refine AWp.block ?_)
    apply AWp.reg [] [.p (fun _=>.d (.bool false)) none,.c [(1001,500)] [.arr 1001 0 M.length,.d (.str x)] [(1001,.arr 9 1 (M.map Z0))] (.d (.bool false)) [(1001,.arr 9 1 (M.map Z0))]]
    ·conv=>lhs;simp
    ·exact⟨hp,hc⟩
    refine AWp.cy ?_;refine AWp.rg [] [] ?_;refine AWp.rg [] [] ?_;refine⟨⟨i+1,hi1⟩,by simp;omega,?_⟩;dsimp only;rw[hs1];exact Le.sub (by simp) (by simp)
 have hi1:i=l.length:=by have:=of_decide_eq_false h;omega
 subst hi1;rw[List.take_length]at hM;refine AWp.exit ?_;rw[←hM];try dsimp only[Qq,Q6]
 apply Qk.normal
 ·rfl
 ·conv=>lhs;simp[Q9,Tryz.results124]
 ·rfl
 ·simp[Qx,Q4]
theorem woN_nil (l:List ByteArray):woN l []=l:=by simp[woN,hasB]
def N8 (xs:List Tm) (sk:Nat→List ByteArray) (o0:List ByteArray):Nat→List ByteArray
 |0=>o0
 |i+1=>match xs[i]? with
  |some x=>addN (N8 xs sk o0 i) (woN x.free (sk i))
  |none=>N8 xs sk o0 i
theorem rfree_snoc {xs:List Tm} (sk:Nat→List ByteArray) (o0:List ByteArray) {i:Nat} {x:Tm} (hx:xs[i]? =some x):N8 xs sk o0 (i+1)=addN (N8 xs sk o0 i) (woN x.free (sk i)):=by
 simp only[N8,hx]
theorem rfree_len (xs:List Tm) (sk:Nat→List ByteArray) (o0:List ByteArray):∀i,(N8 xs sk o0 i).length≤o0.length+Tm.szs (xs.take i)
 |0=>by simp[N8]
 |i+1=>by
  have ih:=rfree_len xs sk o0 i;simp only[N8];split
  ·rename_i x hx;have h1:=Qx7 (woN x.free (sk i)) (N8 xs sk o0 i);have h2:=F5 x.free (sk i);have h3:=x.H8;have h4:Tm.szs (xs.take (i+1))=Tm.szs (xs.take i)+x.sz:=by
    rw[List.take_add_one,hx];have:∀l:List Tm,Tm.szs (l++[x])=Tm.szs l+x.sz:=fun l=>by
     induction l with
     |nil=>simp[Tm.szs]
     |cons y r ih=>simp only[List.cons_append,Tm.szs,ih];omega
    exact this _
   omega
  ·rename_i hx;have h4:xs.take (i+1)=xs.take i:=by rw[List.take_add_one,hx];simp
   rw[h4];exact ih
theorem rfree_plain (xs:List Tm) (o0:List ByteArray):∀i,N8 xs (fun _=>[]) o0 i=Tm.frees o0 (xs.take i)
 |0=>by simp[N8,Tm.frees]
 |i+1=>by
  have ih:=rfree_plain xs o0 i;simp only[N8];split
  ·rename_i x hx;rw[Tm.frees_snoc hx,ih,woN_nil]
  ·rename_i hx;rw[List.take_add_one,hx,ih];simp
def A9 (k:Int) (a:ByteArray) (len i:Nat):List ByteArray:=if k=6∧len=2∧i=1 then[a]else[]
theorem skipA_len (k:Int) (a:ByteArray) (len i:Nat):(A9 k a len i).length≤1:=by unfold A9;split<;> simp
theorem rfree_all (k:Int) (a:ByteArray) (xs:List Tm) (o0:List ByteArray) (h:¬(k=6∧xs.length=2)):N8 xs (A9 k a xs.length) o0 xs.length=Tm.frees o0 xs:=by
 have e:A9 k a xs.length=fun _=>[]:=funext fun i=>by
  unfold A9;rw[if_neg (fun hh=>h ⟨hh.1,hh.2.1⟩)]
 rw[e,rfree_plain,List.take_length]
theorem rfree_let (a:ByteArray) (x y:Tm):N8 [x,y] (A9 6 a 2) [] 2=Tm.freeL a [] [x,y]:=by
 simp[N8,A9,Tm.freeL,Tm.freeB,woN_nil]
def Y2 (k n:Int) (a b:ByteArray) (vs:List ByteArray) (xs:List Tm) (cs:List Cs) (L:List ByteArray):List (Nat×Option Qz):=
 [(1,Qj k n a b vs xs cs),(3,some (.blk 41 [.arr 400 0 L.length])),(400,some (.arr 9 1 (L.map Z0)))]
theorem sp_refFree_at:∀(N:Nat) (t:Tm),t.sz<N→t.Fit→Z4 Tryz.prog 94 [X9 t] (fun d=>.arr d 0 t.free.length) (some (.arr 9 1 (t.free.map Z0))):=by
 intro N;induction N with
 |zero=>intro s h;omega
 |succ N ih=>
 intro t hN hF;have hO:=hF.ok;obtain⟨k,n,a,b,vs,xs,cs⟩:=t;obtain⟨o1,o2,o3,o4,o5⟩:=hO.vars;have hsz:=sz_all hF;refine Z4.ofArrX Tryz.func94 rfl rfl _ (Nat.le_of_ble_eq_true rfl) (fun d=>by simp[AV.has,AV.K6]) ?_;show AWp _ _ (endX _ Tryz.f94 _ _) (Z7 82 _);repeat (first|refine AWp.seq ?_|refine AWp.block ?_)
 apply AWp.reg [] []
 ·conv=>lhs;simp
 ·trivial
 repeat (first|refine AWp.seq ?_|refine AWp.block ?_)
 apply AWp.reg [] []
 ·conv=>lhs;simp
 ·trivial
 repeat (first|refine AWp.seq ?_|refine AWp.block ?_)
 apply AWp.reg [] []
 ·conv=>lhs;simp
 ·trivial
 by_cases e1:k=1
 ·subst e1;have hf:(Tm.mk 1 n a b vs xs cs).free=[a]:=by simp[Tm.free]
  rw[hf];repeat (first|refine AWp.seq ?_|refine AWp.block ?_)
  apply AWp.reg [] []
  ·conv=>lhs;simp
  ·trivial
  repeat (first|refine AWp.seq ?_|refine AWp.block ?_)
  apply AWp.reg [] []
  ·conv=>lhs;simp
  ·trivial
  repeat (first|refine AWp.seq ?_|refine AWp.block ?_)
  refine AWp.cond rfl (fun h=>?_) (fun h=>?_)
  ·refine AWp.rg [] [] ?_;refine AWp.ret ?_;try dsimp only[Qq,Q6]
   apply endX.ret 17
   ·conv=>lhs;simp[Q9,Tryz.results94]
   ·rfl
   ·rfl
   ·rfl
  ·simp at h
 obtain⟨o0,ho0⟩:∃o0,o0=if 8≤k∧k≤11 then[a]else[]:=⟨_,rfl⟩
 have hl0:o0.length≤1:=by rw[ho0];split<;> simp
 refine AWp.seqJ ⟨82,[(1,.ptr 1 0),(3,.ptr 3 0),(4,.clo 124 [.ptr 3 0])],Y2 k n a b vs xs cs o0⟩ ?_ (fun W hW=>?_);rotate_left
 ·by_cases k8:k=8
  ·subst k8;rw[if_pos (by omega)]at ho0;subst ho0;repeat (first|refine AWp.seq ?_|refine AWp.block ?_)
   apply AWp.reg [] []
   ·conv=>lhs;simp
   ·trivial
   repeat (first|refine AWp.seq ?_|refine AWp.block ?_)
   apply AWp.reg [] []
   ·conv=>lhs;simp
   ·trivial
   repeat (first|refine AWp.seq ?_|refine AWp.block ?_)
   refine AWp.cond rfl (fun h=>?_) (fun h=>?_)
   ·simp at h
   repeat (first|refine AWp.seq ?_|refine AWp.block ?_)
   apply AWp.reg [] []
   ·conv=>lhs;simp
   ·trivial
   repeat (first|refine AWp.seq ?_|refine AWp.block ?_)
   refine AWp.cond rfl (fun h0=>?_) (fun h0=>?_);rotate_left
   ·simp at h0
   refine AWp.skip ?_;repeat (first|refine AWp.seq ?_|refine AWp.block ?_)
   refine AWp.cond rfl (fun h6=>?_) (fun h6=>?_);rotate_left
   ·simp at h6
   refine AWp.rg [] [] ?_;exact hW _ (Le.trans (Le.swap _ 25 400 rfl rfl) (Le.sub (by simp[AS.swap,swN]) (by simp[AS.swap,swN,Y2,Qj])))
  by_cases k9:k=9
  ·subst k9;rw[if_pos (by omega)]at ho0;subst ho0;repeat (first|refine AWp.seq ?_|refine AWp.block ?_)
   apply AWp.reg [] []
   ·conv=>lhs;simp
   ·trivial
   repeat (first|refine AWp.seq ?_|refine AWp.block ?_)
   apply AWp.reg [] []
   ·conv=>lhs;simp
   ·trivial
   repeat (first|refine AWp.seq ?_|refine AWp.block ?_)
   refine AWp.cond rfl (fun h=>?_) (fun h=>?_)
   ·simp at h
   repeat (first|refine AWp.seq ?_|refine AWp.block ?_)
   apply AWp.reg [] []
   ·conv=>lhs;simp
   ·trivial
   repeat (first|refine AWp.seq ?_|refine AWp.block ?_)
   refine AWp.cond rfl (fun h0=>?_) (fun h0=>?_)
   ·simp at h0
   repeat (first|refine AWp.seq ?_|refine AWp.block ?_)
   apply AWp.reg [] []
   ·conv=>lhs;simp
   ·trivial
   repeat (first|refine AWp.seq ?_|refine AWp.block ?_)
   refine AWp.cond rfl (fun h1=>?_) (fun h1=>?_);rotate_left
   ·simp at h1
   refine AWp.skip ?_;repeat (first|refine AWp.seq ?_|refine AWp.block ?_)
   refine AWp.cond rfl (fun h6=>?_) (fun h6=>?_);rotate_left
   ·simp at h6
   refine AWp.rg [] [] ?_;exact hW _ (Le.trans (Le.swap _ 25 400 rfl rfl) (Le.sub (by simp[AS.swap,swN]) (by simp[AS.swap,swN,Y2,Qj])))
  by_cases k10:k=10
  ·subst k10;rw[if_pos (by omega)]at ho0;subst ho0;repeat (first|refine AWp.seq ?_|refine AWp.block ?_)
   apply AWp.reg [] []
   ·conv=>lhs;simp
   ·trivial
   repeat (first|refine AWp.seq ?_|refine AWp.block ?_)
   apply AWp.reg [] []
   ·conv=>lhs;simp
   ·trivial
   repeat (first|refine AWp.seq ?_|refine AWp.block ?_)
   refine AWp.cond rfl (fun h=>?_) (fun h=>?_)
   ·simp at h
   repeat (first|refine AWp.seq ?_|refine AWp.block ?_)
   apply AWp.reg [] []
   ·conv=>lhs;simp
   ·trivial
   repeat (first|refine AWp.seq ?_|refine AWp.block ?_)
   refine AWp.cond rfl (fun h0=>?_) (fun h0=>?_)
   ·simp at h0
   repeat (first|refine AWp.seq ?_|refine AWp.block ?_)
   apply AWp.reg [] []
   ·conv=>lhs;simp
   ·trivial
   repeat (first|refine AWp.seq ?_|refine AWp.block ?_)
   refine AWp.cond rfl (fun h1=>?_) (fun h1=>?_)
   ·simp at h1
   repeat (first|refine AWp.seq ?_|refine AWp.block ?_)
   apply AWp.reg [] []
   ·conv=>lhs;simp
   ·trivial
   repeat (first|refine AWp.seq ?_|refine AWp.block ?_)
   refine AWp.cond rfl (fun h2=>?_) (fun h2=>?_);rotate_left
   ·simp at h2
   refine AWp.skip ?_;repeat (first|refine AWp.seq ?_|refine AWp.block ?_)
   refine AWp.cond rfl (fun h6=>?_) (fun h6=>?_);rotate_left
   ·simp at h6
   refine AWp.rg [] [] ?_;exact hW _ (Le.trans (Le.swap _ 25 400 rfl rfl) (Le.sub (by simp[AS.swap,swN]) (by simp[AS.swap,swN,Y2,Qj])))
  by_cases k11:k=11
  ·subst k11;rw[if_pos (by omega)]at ho0;subst ho0;repeat (first|refine AWp.seq ?_|refine AWp.block ?_)
   apply AWp.reg [] []
   ·conv=>lhs;simp
   ·trivial
   repeat (first|refine AWp.seq ?_|refine AWp.block ?_)
   apply AWp.reg [] []
   ·conv=>lhs;simp
   ·trivial
   repeat (first|refine AWp.seq ?_|refine AWp.block ?_)
   refine AWp.cond rfl (fun h=>?_) (fun h=>?_)
   ·simp at h
   repeat (first|refine AWp.seq ?_|refine AWp.block ?_)
   apply AWp.reg [] []
   ·conv=>lhs;simp
   ·trivial
   repeat (first|refine AWp.seq ?_|refine AWp.block ?_)
   refine AWp.cond rfl (fun h0=>?_) (fun h0=>?_)
   ·simp at h0
   repeat (first|refine AWp.seq ?_|refine AWp.block ?_)
   apply AWp.reg [] []
   ·conv=>lhs;simp
   ·trivial
   repeat (first|refine AWp.seq ?_|refine AWp.block ?_)
   refine AWp.cond rfl (fun h1=>?_) (fun h1=>?_)
   ·simp at h1
   repeat (first|refine AWp.seq ?_|refine AWp.block ?_)
   apply AWp.reg [] []
   ·conv=>lhs;simp
   ·trivial
   repeat (first|refine AWp.seq ?_|refine AWp.block ?_)
   refine AWp.cond rfl (fun h2=>?_) (fun h2=>?_)
   ·simp at h2
   repeat (first|refine AWp.seq ?_|refine AWp.block ?_)
   apply AWp.reg [] []
   ·conv=>lhs;simp
   ·trivial
   repeat (first|refine AWp.seq ?_|refine AWp.block ?_)
   refine AWp.cond rfl (fun h6=>?_) (fun h6=>?_);rotate_left
   ·simp at h6
   refine AWp.rg [] [] ?_;exact hW _ (Le.trans (Le.swap _ 25 400 rfl rfl) (Le.sub (by simp[AS.swap,swN]) (by simp[AS.swap,swN,Y2,Qj])))
  rw[if_neg (by omega)]at ho0;subst ho0;repeat (first|refine AWp.seq ?_|refine AWp.block ?_)
  apply AWp.reg [] []
  ·conv=>lhs;simp
  ·trivial
  repeat (first|refine AWp.seq ?_|refine AWp.block ?_)
  apply AWp.reg [] []
  ·conv=>lhs;simp[e1]
  ·trivial
  refine AWp.cn ?_;repeat (first|refine AWp.seq ?_|refine AWp.block ?_)
  apply AWp.reg [] []
  ·conv=>lhs;simp[k8]
  ·trivial
  refine AWp.cn ?_;repeat (first|refine AWp.seq ?_|refine AWp.block ?_)
  apply AWp.reg [] []
  ·conv=>lhs;simp[k9]
  ·trivial
  refine AWp.cn ?_;repeat (first|refine AWp.seq ?_|refine AWp.block ?_)
  apply AWp.reg [] []
  ·conv=>lhs;simp[k10]
  ·trivial
  refine AWp.cn ?_;repeat (first|refine AWp.seq ?_|refine AWp.block ?_)
  apply AWp.reg [] []
  ·conv=>lhs;simp[k11]
  ·trivial
  repeat (first|refine AWp.seq ?_|refine AWp.block ?_)
  refine AWp.cond rfl (fun h6=>?_) (fun h6=>?_)
  ·cases h6
  refine AWp.skip ?_;exact hW _ (Le.low [400] [] rfl (by simp) (by simp[Y2,Qj]))
 repeat (first|refine AWp.seq ?_|refine AWp.block ?_)
 apply AWp.reg [] []
 ·conv=>lhs;simp[Y2,Qj]
 ·trivial
 repeat (first|refine AWp.seq ?_|refine AWp.block ?_)
 refine AWp.loop (σ:=fun u:{i:Nat // i≤xs.length}=>⟨82,[(1,.ptr 1 0),(3,.ptr 3 0),(4,.clo 124 [.ptr 3 0]),(27,.d (.sl (xs.map Tm.row))),(28,.d (.int xs.length)),(29,.d (.int u.1))],Y2 k n a b vs xs cs (N8 xs (A9 k a xs.length) o0 u.1)⟩)
  (μ:=fun u=>xs.length-u.1) ⟨0,Nat.zero_le _⟩ (Le.sub (by simp[N8]) (by simp[N8,Y2,Qj])) (fun⟨i,hi⟩=>?_)
 dsimp only;have hL0:=rfree_len xs (A9 k a xs.length) o0 i;have hS:∀x,xs[i]? =some x→_:=fun x=>rfree_snoc (A9 k a xs.length) o0 (x:=x) (i:=i)
 obtain⟨L,hL⟩:∃L,L=N8 xs (A9 k a xs.length) o0 i:=⟨_,rfl⟩
 rw[←hL]at hL0 hS⊢;repeat (first|refine AWp.seq ?_|refine AWp.block ?_)
 apply AWp.reg [] []
 ·conv=>lhs;simp
 ·trivial
 repeat (first|refine AWp.seq ?_|refine AWp.block ?_)
 refine AWp.cond rfl (fun h=>?_) (fun h=>?_)
 ·have hi1:i<xs.length:=by have:=of_decide_eq_true h;omega
  have h1:xs[i]? =some xs[i]:=List.getElem?_eq_getElem hi1;have hmem:xs[i]∈xs:=List.getElem_mem hi1;generalize xs[i]=x at h1 hmem;have hx:=ih x (by have:=Tm.Qj3 (k:=k) (n:=n) (a:=a) (b:=b) (vs:=vs) (cs:=cs) hmem;omega) (hF.arg hmem);have lx:=x.H8;have lt:=Tm.szs_take h1;have hsk:=skipA_len k a xs.length i;have had:=cs_Free1 L x.free (A9 k a xs.length i) (by omega) (by omega);have hS1:=hS x h1;have hskd:A9 k a xs.length i=if k=6∧xs.length=2∧i=1 then[a]else[]:=rfl
  generalize A9 k a xs.length i=sk at hskd had hS1;obtain⟨L',hS0⟩:∃L',L'=N8 xs (A9 k a xs.length) o0 (i+1):=⟨_,rfl⟩
  rw[←hS0]at hS1;generalize x.free=fx at *;rw[←hS1]at had;obtain⟨xk,xn,xa,xb,xv,xx,xc⟩:=x;refine AWp.skip ?_;refine AWp.rg [] [] ?_ (hr:=by conv=>lhs;simp[h1,Tm.row,Tm.Q3,Cs.Q3]);repeat (first|refine AWp.seq ?_|refine AWp.block ?_)
  apply AWp.reg [] []
  ·conv=>lhs;simp
  ·trivial
  refine AWp.seqJ ⟨82,[(1,.ptr 1 0),(3,.ptr 3 0),(4,.clo 124 [.ptr 3 0]),(6,.ptr 6 0),(7,Zk sk),(27,.d (.sl (xs.map Tm.row))),(28,.d (.int xs.length)),(29,.d (.int i))],(6,Qj xk xn xa xb xv xx xc)::Y2 k n a b vs xs cs L⟩ ?_ (fun W1 hW1=>?_);rotate_left
  ·by_cases k6:k=6
   ·subst k6;by_cases k7:xs.length=2
    ·have k7':(xs.length:Int)=2:=by omega
     by_cases k8:i=1
     ·have k8':(i:Int)=1:=by omega
      rw[if_pos ⟨rfl,k7,k8⟩]at hskd;subst hskd;refine AWp.rg [] [] ?_ (hr:=by conv=>lhs;simp[k7',k8',Y2,Qj]);repeat (first|refine AWp.seq ?_|refine AWp.block ?_)
      refine AWp.cond rfl (fun h2=>?_) (fun h2=>?_);rotate_left
      ·simp at h2
      refine AWp.rg [2] [] ?_;exact hW1 _ (Le.low [] [] rfl (by simp[Q8,k7',k8']) (by simp[Y2,Qj]))
     ·have k8':¬(i:Int)=1:=by omega
      rw[if_neg (fun hh=>k8 hh.2.2)]at hskd;subst hskd;refine AWp.rg [] [] ?_ (hr:=by conv=>lhs;simp[k7',k8',Y2,Qj]);refine AWp.cn ?_;refine AWp.skip ?_;exact hW1 _ (Le.low [] [] rfl (by simp[Q8,k7']) (by simp[Y2,Qj]))
    ·have k7':¬(xs.length:Int)=2:=by omega
     rw[if_neg (fun hh=>k7 hh.2.1)]at hskd;subst hskd;refine AWp.rg [] [] ?_ (hr:=by conv=>lhs;simp[k7',Y2,Qj]);refine AWp.cn ?_;refine AWp.skip ?_;exact hW1 _ (Le.low [] [] rfl (by simp[Q8]) (by simp[Y2,Qj]))
   ·rw[if_neg (fun hh=>k6 hh.1)]at hskd;subst hskd;refine AWp.rg [] [] ?_ (hr:=by conv=>lhs;simp[k6,Y2,Qj]);refine AWp.cn ?_;refine AWp.skip ?_;exact hW1 _ (Le.low [] [] rfl (by simp[Q8]) (by simp[Y2,Qj]))
  repeat (first|refine AWp.seq ?_|refine AWp.block ?_)
  apply AWp.reg [2] [.p (fun d=>.arr d 0 fx.length) (some (.arr 9 1 (fx.map Z0))),.c [(1000,3),(500,400)] [Zk fx,Zk sk,.ptr 1000 0] [(1000,.blk 41 [.arr 500 0 L.length]),(500,.arr 9 1 (L.map Z0))] (Z6 []) [(1000,.blk 41 [.arr 500 0 L'.length]),(500,.arr 9 1 (L'.map Z0))]]
  ·conv=>lhs;simp[X9,Qj,Y2,Z6]
  ·exact⟨hx,had⟩
  refine AWp.rg [] [] ?_;refine⟨⟨i+1,hi1⟩,by simp;omega,?_⟩;dsimp only;rw[←hS0];exact Le.sub (by simp) (by simp[Qj,Y2])
 have hi1:i=xs.length:=by have:=of_decide_eq_false h;omega
 subst hi1;clear h hS;have hlx:Tm.szs (xs.take xs.length)=Tm.szs xs:=by rw[List.take_length]
 refine AWp.exit ?_;by_cases e6:k=6∧xs.length=2
 ·have hf:(Tm.mk k n a b vs xs cs).free=L:=by
   obtain⟨e6,e7⟩:=e6;rw[hL,ho0,e6];match xs,e7 with
   |[x,y],_=>
    rw[if_neg (by omega)];refine Eq.trans ?_ (rfree_let a x y).symm;simp[Tm.free]
  rw[hf];obtain⟨e6,e7⟩:=e6;subst e6;have k7':(xs.length:Int)=2:=by omega
  refine AWp.rg [] [] ?_ (hr:=by conv=>lhs;simp[k7',Y2,Qj]);refine AWp.cy ?_;refine AWp.rg [] [] ?_;refine AWp.ret ?_;try dsimp only[Qq,Q6]
  apply endX.ret 400
  ·conv=>lhs;simp[Q9,Tryz.results94]
  ·rfl
  ·rfl
  ·rfl
 have hf:(Tm.mk k n a b vs xs cs).free=Cs.frees L cs:=by
  simp only[Tm.free,if_neg e1,if_neg e6];rw[hL,rfree_all k a xs o0 e6,ho0]
 rw[hf];refine AWp.seqJ ⟨82,[(1,.ptr 1 0),(3,.ptr 3 0),(4,.clo 124 [.ptr 3 0])],Y2 k n a b vs xs cs L⟩ ?_ (fun W1 hW1=>?_);rotate_left
 ·by_cases k6:k=6
  ·subst k6;have k7':¬(xs.length:Int)=2:=fun hh=>e6 ⟨rfl,by omega⟩
   refine AWp.rg [] [] ?_ (hr:=by conv=>lhs;simp[k7',Y2,Qj]);refine AWp.cn ?_;refine AWp.skip ?_;exact hW1 _ (Le.sub (by simp) (by simp[Y2,Qj]))
  ·refine AWp.rg [] [] ?_ (hr:=by conv=>lhs;simp[k6,Y2,Qj]);refine AWp.cn ?_;refine AWp.skip ?_;exact hW1 _ (Le.sub (by simp) (by simp[Y2,Qj]))
 repeat (first|refine AWp.seq ?_|refine AWp.block ?_)
 apply AWp.reg [] []
 ·conv=>lhs;simp[Y2,Qj]
 ·trivial
 repeat (first|refine AWp.seq ?_|refine AWp.block ?_)
 refine AWp.loop (σ:=fun u:{i:Nat // i≤cs.length}=>⟨82,[(1,.ptr 1 0),(3,.ptr 3 0),(4,.clo 124 [.ptr 3 0]),(67,.d (.sl (cs.map Cs.row))),(68,.d (.int cs.length)),(69,.d (.int u.1))],Y2 k n a b vs xs cs (Cs.frees L (cs.take u.1))⟩)
  (μ:=fun u=>cs.length-u.1) ⟨0,Nat.zero_le _⟩ (Le.sub (by simp[Cs.frees]) (by simp[Cs.frees,Y2,Qj])) (fun⟨i,hi⟩=>?_)
 dsimp only;have hM0:=Cs.Bq (cs.take i) L;have hS:∀x,cs[i]? =some x→Cs.frees L (cs.take (i+1))=addN (Cs.frees L (cs.take i)) x.Ev:=fun x=>Cs.frees_snoc
 obtain⟨M,hM⟩:∃M,M=Cs.frees L (cs.take i):=⟨_,rfl⟩
 rw[←hM]at hM0 hS⊢;repeat (first|refine AWp.seq ?_|refine AWp.block ?_)
 apply AWp.reg [] []
 ·conv=>lhs;simp
 ·trivial
 repeat (first|refine AWp.seq ?_|refine AWp.block ?_)
 refine AWp.cond rfl (fun h=>?_) (fun h=>?_)
 ·have hi1:i<cs.length:=by have:=of_decide_eq_true h;omega
  have h1:cs[i]? =some cs[i]:=List.getElem?_eq_getElem hi1;have hmem:cs[i]∈cs:=List.getElem_mem hi1;generalize cs[i]=x at h1 hmem;have lx:=x.freeC_len;have lt:=Cs.szs_take h1;have hS1:=hS x h1;obtain⟨g,ws,x⟩:=x;obtain⟨oc1,oc2⟩:=hF.case hmem;have hx:=ih x (by have:=Tm.O4 (k:=k) (n:=n) (a:=a) (b:=b) (vs:=vs) (xs:=xs) hmem;omega) oc1;have lx2:=x.H8;have hsz2:(Cs.mk g ws x).sz=x.sz:=rfl;simp only[Cs.Ev]at hS1;have had:=cs_Free1 M x.free ws (by omega) (by omega);rw[←hS1]at had;obtain⟨M',hM'⟩:∃M',M'=Cs.frees L (cs.take (i+1)):=⟨_,rfl⟩
  rw[←hM']at had;generalize x.free=fx at *;obtain⟨xk,xn,xa,xb,xv,xx,xc⟩:=x;refine AWp.skip ?_;refine AWp.rg [] [] ?_ (hr:=by conv=>lhs;simp[h1,Cs.row,Tm.row,Tm.Q3,Cs.Q3]);repeat (first|refine AWp.seq ?_|refine AWp.block ?_)
  apply AWp.draw [3] [.p (fun d=>.arr d 0 fx.length) (some (.arr 9 1 (fx.map Z0))),.c [(1000,3),(500,400)] [Zk fx,Zk ws,.ptr 1000 0] [(1000,.blk 41 [.arr 500 0 M.length]),(500,.arr 9 1 (M.map Z0))] (Z6 []) [(1000,.blk 41 [.arr 500 0 M'.length]),(500,.arr 9 1 (M'.map Z0))]] mixed
  ·conv=>lhs;simp[X9,Qj,Y2,Z6]
  ·kernel_rfl
  ·exact⟨hx,had⟩
  refine AWp.rg [] [] ?_;refine⟨⟨i+1,hi1⟩,by simp;omega,?_⟩;dsimp only;rw[←hM'];exact Le.sub (by simp) (by simp[Qj,Y2])
 have hi1:i=cs.length:=by have:=of_decide_eq_false h;omega
 subst hi1;rw[List.take_length]at hM;rw[←hM];refine AWp.exit ?_;repeat (first|refine AWp.seq ?_|refine AWp.block ?_)
 apply AWp.reg [] []
 ·conv=>lhs;simp[Y2]
 ·trivial
 refine AWp.ret ?_;try dsimp only[Qq,Q6]
 apply endX.ret 400
 ·conv=>lhs;simp[Q9,Tryz.results94]
 ·rfl
 ·rfl
 ·rfl
theorem Qj4 (t:Tm) (h:t.Fit):Z4 Tryz.prog 94 [X9 t] (fun d=>.arr d 0 t.free.length) (some (.arr 9 1 (t.free.map Z0))):=sp_refFree_at _ t (Nat.lt_succ_self _) h
@[simp] theorem u8min:IntKind.u8.min=0:=rfl
@[simp] theorem u8max:IntKind.u8.max=255:=rfl
@[simp] theorem i32min:IntKind.i32.min= -2147483648:=rfl
@[simp] theorem i32max:IntKind.i32.max=2147483647:=rfl
def chOk (i:Nat) (c:UInt8):Bool:=(decide ((97:Int)≤c.toNat) && decide ((c.toNat:Int)≤122))||((decide ((48:Int)≤c.toNat) && decide ((c.toNat:Int)≤57)) && !(i==0))
def R7 (s:ByteArray):Bool:=((List.range s.size).all fun j=>match s[j]? with|some c=>chOk j c|none=>true) && (decide (1≤(s.size:Int)) && decide ((s.size:Int)≤8))
theorem nameB_bad {s:ByteArray} {i:Nat} {c:UInt8} (h:s[i]? =some c) (hi:i<s.size) (hc:chOk i c=false):R7 s=false:=by
 unfold R7;rw[Bool.and_eq_false_iff];left;rw[List.all_eq_false];exact⟨i,List.mem_range.2 hi,by rw[h];simp[hc]⟩
theorem nameB_good {s:ByteArray} (h:∀j<s.size,∀c,s[j]? =some c→chOk j c=true):R7 s=(decide (1≤(s.size:Int)) && decide ((s.size:Int)≤8)):=by
 unfold R7;have:((List.range s.size).all fun j=>match s[j]? with|some c=>chOk j c|none=>true)=true:=by
  rw[List.all_eq_true];intro j hj;have:=h j (List.mem_range.1 hj);revert this;cases s[j]? with
  |none=>intro _;rfl
  |some c=>intro h;exact h c rfl
 rw[this,Bool.true_and]
theorem sp_Name (s:ByteArray) (hs:s.size≤9223372036854775806):Z4 Tryz.prog 23 [.d (.str s)] (fun _=>.d (.bool (R7 s))) none:=by
 refine Z4.of Tryz.func23 rfl rfl rfl (Nat.le_of_ble_eq_true rfl) ?_;show AWp _ _ (Z8 _ Tryz.f23 _ _ _) (Z7 50 _);repeat (first|refine AWp.seq ?_|refine AWp.block ?_)
 apply AWp.reg [] []
 ·conv=>lhs;simp
 ·trivial
 repeat (first|refine AWp.seq ?_|refine AWp.block ?_)
 apply AWp.reg [] []
 ·conv=>lhs;simp
 ·trivial
 repeat (first|refine AWp.seq ?_|refine AWp.block ?_)
 refine AWp.loop (σ:=fun u:{i:Nat // i≤s.size∧∀j<i,∀c,s[j]? =some c→chOk j c=true}=>⟨50,[(0,.d (.str s)),(7,.d (.int s.size)),(8,.d (.int u.1))],[]⟩)
  (μ:=fun u=>s.size-u.1) ⟨0,Nat.zero_le _,by simp⟩ (Le.sub (by simp) (by simp)) (fun⟨i,hi,ht⟩=>?_)
 dsimp only;repeat (first|refine AWp.seq ?_|refine AWp.block ?_)
 apply AWp.reg [] []
 ·conv=>lhs;simp
 ·trivial
 repeat (first|refine AWp.seq ?_|refine AWp.block ?_)
 refine AWp.cond rfl (fun h=>?_) (fun h=>?_)
 ·have hi1:i<s.size:=by have:=of_decide_eq_true h;omega
  have h1:s[i]? =some s[i]:=by rw[getElem?_pos]
  generalize s[i]=c at h1;have hc:chOk i c=((decide ((97:Int)≤c.toNat) && decide ((c.toNat:Int)≤122))||((decide ((48:Int)≤c.toNat) && decide ((c.toNat:Int)≤57)) && !(i==0))):=rfl;obtain⟨A,hA⟩:∃A,A=decide ((97:Int)≤c.toNat):=⟨_,rfl⟩
  obtain⟨B,hB⟩:∃B,B=decide ((c.toNat:Int)≤122):=⟨_,rfl⟩
  obtain⟨C,hC⟩:∃C,C=decide ((48:Int)≤c.toNat):=⟨_,rfl⟩
  obtain⟨E,hE⟩:∃E,E=decide ((c.toNat:Int)≤57):=⟨_,rfl⟩
  rw[←hA,←hB,←hC,←hE]at hc;refine AWp.skip ?_;repeat (first|refine AWp.seq ?_|refine AWp.block ?_)
  apply AWp.reg [] []
  ·conv=>lhs;simp
  ·trivial
  refine AWp.seqJ ⟨50,[(0,.d (.str s)),(3,.d (.int i)),(4,.d (.bool (A && B))),(5,.d (.bool (C && E))),(7,.d (.int s.size)),(8,.d (.int i))],[]⟩ ?_ (fun W hW=>?_);rotate_left
  ·cases A<;> cases B<;> cases C<;> cases E
   all_goals (
    have qA:=hA.symm;have qB:=hB.symm;have qC:=hC.symm;have qE:=hE.symm;simp only[decide_eq_true_eq,decide_eq_false_iff_not]at qA qB qC qE;refine AWp.dw [] [] mixed ?_ (hr:=by conv=>lhs;simp[h1,qA,qB,qC,qE]);exact hW _ (Le.sub (by simp) (by simp)))
  obtain⟨L,hL⟩:∃L,L=(A && B):=⟨_,rfl⟩
  obtain⟨G,hG⟩:∃G,G=(C && E):=⟨_,rfl⟩
  rw[←hL,←hG]at hc⊢;have step:chOk i c=true→∀j<i+1,∀c,s[j]? =some c→chOk j c=true:=fun hok j hj c' hc'=>by
   rcases Nat.lt_or_ge j i with hlt|hge
   ·exact ht j hlt c' hc'
   ·obtain rfl:j=i:=by omega
    rw[h1]at hc';cases hc';exact hok
  by_cases hz:i=0
  ·subst hz;cases L<;> cases G
   all_goals first
    |(
     have hbad:=nameB_bad h1 hi1 (by rw[hc];rfl);refine AWp.rg [] [] ?_;repeat (first|refine AWp.seq ?_|refine AWp.block ?_)
     refine AWp.cond rfl (fun h2=>?_) (fun h2=>?_);rotate_left
     ·cases h2
     refine AWp.rg [] [] ?_;refine AWp.ret ?_;try dsimp only[Qq,Q6]
     apply Z8.ret
     ·rfl
     ·conv=>lhs;simp[Q9,Tryz.results23]
     rw[hbad];rfl)
    |(
     have hgood:=step (by rw[hc];rfl);refine AWp.rg [] [] ?_;repeat (first|refine AWp.seq ?_|refine AWp.block ?_)
     refine AWp.cond rfl (fun h2=>?_) (fun h2=>?_)
     ·cases h2
     refine AWp.skip ?_;refine AWp.rg [] [] ?_;refine⟨⟨0+1,hi1,hgood⟩,by simp;omega,Le.sub (by simp) (by simp)⟩)
  ·have hz':¬(i:Int)=0:=by omega
   have hzb:(i==0)=false:=by simp[hz]
   rw[hzb]at hc;cases L<;> cases G
   all_goals first
    |(
     have hbad:=nameB_bad h1 hi1 (by rw[hc];rfl);refine AWp.rg [] [] ?_ (hr:=by conv=>lhs;simp[hz]);repeat (first|refine AWp.seq ?_|refine AWp.block ?_)
     refine AWp.cond rfl (fun h2=>?_) (fun h2=>?_);rotate_left
     ·cases h2
     refine AWp.rg [] [] ?_;refine AWp.ret ?_;try dsimp only[Qq,Q6]
     apply Z8.ret
     ·rfl
     ·conv=>lhs;simp[Q9,Tryz.results23]
     rw[hbad];rfl)
    |(
     have hgood:=step (by rw[hc];rfl);refine AWp.rg [] [] ?_ (hr:=by conv=>lhs;simp[hz]);repeat (first|refine AWp.seq ?_|refine AWp.block ?_)
     refine AWp.cond rfl (fun h2=>?_) (fun h2=>?_)
     ·cases h2
     refine AWp.skip ?_;refine AWp.rg [] [] ?_;refine⟨⟨i+1,hi1,hgood⟩,by simp;omega,Le.sub (by simp) (by simp)⟩)
 have hi1:i=s.size:=by have:=of_decide_eq_false h;omega
 subst hi1;have hg:=nameB_good ht;rw[hg];refine AWp.exit ?_;by_cases g1:(1:Int)≤s.size
 ·by_cases g2:(s.size:Int)≤8
  ·refine AWp.rg [] [] ?_ (hr:=by conv=>lhs;simp[g1,g2]);refine AWp.ret ?_;try dsimp only[Qq,Q6]
   apply Z8.ret
   ·rfl
   ·conv=>lhs;simp[Q9,Tryz.results23]
   rw[decide_eq_true g1,decide_eq_true g2];rfl
  ·refine AWp.rg [] [] ?_ (hr:=by conv=>lhs;simp[g1,g2]);refine AWp.ret ?_;try dsimp only[Qq,Q6]
   apply Z8.ret
   ·rfl
   ·conv=>lhs;simp[Q9,Tryz.results23]
   rw[decide_eq_true g1,decide_eq_false g2];rfl
 ·refine AWp.rg [] [] ?_ (hr:=by conv=>lhs;simp[g1]);refine AWp.ret ?_;try dsimp only[Qq,Q6]
  apply Z8.ret
  ·rfl
  ·conv=>lhs;simp[Q9,Tryz.results23]
  rw[decide_eq_false g1];rfl
def twB (l:List ByteArray):Bool:=(List.range l.length).any fun j=>match l[j]? with|some x=>hasB (l.take j) x|none=>false
theorem twB_yes {l:List ByteArray} {i:Nat} {x:ByteArray} (h:l[i]? =some x) (hc:hasB (l.take i) x=true):twB l=true:=by
 unfold twB;rw[List.any_eq_true];exact⟨i,List.mem_range.2 (List.getElem?_eq_some_iff.1 h).1,by rw[h];exact hc⟩
theorem twB_no {l:List ByteArray} (h:∀j<l.length,∀x,l[j]? =some x→hasB (l.take j) x=false):twB l=false:=by
 unfold twB;rw[List.any_eq_false];intro j hj;have:=h j (List.mem_range.1 hj);revert this;cases l[j]? with
 |none=>simp
 |some c=>intro h;simp[h c rfl]
theorem twB_snoc {l:List ByteArray} {i:Nat} {x:ByteArray} (h1:l[i]? =some x) (ht:∀j<i,∀x,l[j]? =some x→hasB (l.take j) x=false) (hc:hasB (l.take i) x=false):∀j<i+1,∀x,l[j]? =some x→hasB (l.take j) x=false:=fun j hj c' hc'=>by
 rcases Nat.lt_or_ge j i with hlt|hge
 ·exact ht j hlt c' hc'
 ·obtain rfl:j=i:=by omega
  rw[h1]at hc';cases hc';exact hc
theorem sp_twice (l:List ByteArray) (hl:l.length≤8796093022208):Z4 Tryz.prog 24 [Zk l] (fun _=>.d (.bool (twB l))) none:=by
 refine Z4.of Tryz.func24 rfl rfl rfl (Nat.le_of_ble_eq_true rfl) ?_;show AWp _ _ (Z8 _ Tryz.f24 _ _ _) (Z7 18 _);repeat (first|refine AWp.seq ?_|refine AWp.block ?_)
 apply AWp.reg [] []
 ·conv=>lhs;simp
 ·trivial
 repeat (first|refine AWp.seq ?_|refine AWp.block ?_)
 apply AWp.reg [] []
 ·conv=>lhs;simp
 ·trivial
 repeat (first|refine AWp.seq ?_|refine AWp.block ?_)
 refine AWp.loop (σ:=fun u:{i:Nat // i≤l.length∧∀j<i,∀x,l[j]? =some x→hasB (l.take j) x=false}=>⟨18,[(0,Zk l),(5,Zk l),(6,.d (.int l.length)),(7,.d (.int u.1))],[]⟩)
  (μ:=fun u=>l.length-u.1) ⟨0,Nat.zero_le _,by simp⟩ (Le.sub (by simp) (by simp)) (fun⟨i,hi,ht⟩=>?_)
 dsimp only;repeat (first|refine AWp.seq ?_|refine AWp.block ?_)
 apply AWp.reg [] []
 ·conv=>lhs;simp
 ·trivial
 repeat (first|refine AWp.seq ?_|refine AWp.block ?_)
 refine AWp.cond rfl (fun h=>?_) (fun h=>?_)
 ·have hi1:i<l.length:=by have:=of_decide_eq_true h;omega
  have h1:l[i]? =some l[i]:=List.getElem?_eq_getElem hi1;generalize l[i]=x at h1;have hp:=sp_Has (l.take i) x (by simp;omega);have hs:=fun hc=>twB_snoc (i:=i) h1 ht hc
  have hy:=fun hc=>twB_yes (i:=i) h1 hc
  have htl:(l.map Z0).take i=(l.take i).map Z0:=by rw[List.map_take]
  obtain⟨T,hT⟩:∃T,T=l.take i:=⟨_,rfl⟩
  rw[←hT]at hp hs hy htl;obtain⟨B,hB⟩:∃B,B=hasB T x:=⟨_,rfl⟩
  rw[←hB]at hp hs hy;refine AWp.skip ?_;refine AWp.rg [] [] ?_ (hr:=by conv=>lhs;simp[h1]);cases B with
  |true=>
   repeat (first|refine AWp.seq ?_|refine AWp.block ?_)
   apply AWp.reg [] [.p (fun _=>.d (.bool true)) none]
   ·conv=>lhs;simp[htl]
   ·exact⟨by omega,hp⟩
   refine AWp.cy ?_;refine AWp.rg [] [] ?_;refine AWp.ret ?_;try dsimp only[Qq,Q6]
   apply Z8.ret
   ·rfl
   ·conv=>lhs;simp[Q9,Tryz.results24]
   rw[hy rfl];rfl
  |false=>
   repeat (first|refine AWp.seq ?_|refine AWp.block ?_)
   apply AWp.reg [] [.p (fun _=>.d (.bool false)) none]
   ·conv=>lhs;simp[htl]
   ·exact⟨by omega,hp⟩
   refine AWp.cn ?_;refine AWp.skip ?_;refine AWp.rg [] [] ?_;refine⟨⟨i+1,hi1,hs rfl⟩,by simp;omega,Le.sub (by simp) (by simp)⟩
 have hi1:i=l.length:=by have:=of_decide_eq_false h;omega
 subst hi1;have hn:=twB_no ht;refine AWp.exit ?_;repeat (first|refine AWp.seq ?_|refine AWp.block ?_)
 apply AWp.reg [] []
 ·conv=>lhs;simp
 ·trivial
 refine AWp.ret ?_;try dsimp only[Qq,Q6]
 apply Z8.ret
 ·rfl
 ·conv=>lhs;simp[Q9,Tryz.results24]
 rw[hn];rfl
def badB (l:List ByteArray):Bool:=l.any fun s=>!R7 s
theorem sp_bad (l:List ByteArray) (hl:l.length≤8796093022208) (hs:∀s∈l,s.size≤9223372036854775806):Z4 Tryz.prog 25 [Zk l] (fun _=>.d (.bool (badB l))) none:=by
 refine Z4.of Tryz.func25 rfl rfl rfl (Nat.le_of_ble_eq_true rfl) ?_;show AWp _ _ (Z8 _ Tryz.f25 _ _ _) (Z7 15 _);repeat (first|refine AWp.seq ?_|refine AWp.block ?_)
 apply AWp.reg [] []
 ·conv=>lhs;simp
 ·trivial
 repeat (first|refine AWp.seq ?_|refine AWp.block ?_)
 apply AWp.reg [] []
 ·conv=>lhs;simp
 ·trivial
 repeat (first|refine AWp.seq ?_|refine AWp.block ?_)
 refine AWp.loop (σ:=fun u:{i:Nat // i≤l.length∧∀y∈l.take i,(!R7 y)=false}=>⟨15,[(5,Zk l),(6,.d (.int l.length)),(7,.d (.int u.1))],[]⟩)
  (μ:=fun u=>l.length-u.1) ⟨0,Nat.zero_le _,by simp⟩ (Le.sub (by simp) (by simp)) (fun⟨i,hi,ht⟩=>?_)
 dsimp only;repeat (first|refine AWp.seq ?_|refine AWp.block ?_)
 apply AWp.reg [] []
 ·conv=>lhs;simp
 ·trivial
 repeat (first|refine AWp.seq ?_|refine AWp.block ?_)
 refine AWp.cond rfl (fun h=>?_) (fun h=>?_)
 ·have hi1:i<l.length:=by have:=of_decide_eq_true h;omega
  have h1:l[i]? =some l[i]:=List.getElem?_eq_getElem hi1;have hmem:l[i]∈l:=List.getElem_mem hi1;generalize l[i]=x at h1 hmem;have hp:=sp_Name x (hs x hmem);obtain⟨B,hB⟩:∃B,B=R7 x:=⟨_,rfl⟩
  rw[←hB]at hp;refine AWp.skip ?_;refine AWp.rg [] [] ?_ (hr:=by conv=>lhs;simp[h1]);cases B with
  |true=>
   repeat (first|refine AWp.seq ?_|refine AWp.block ?_)
   apply AWp.reg [] [.p (fun _=>.d (.bool true)) none]
   ·conv=>lhs;simp
   ·exact hp
   refine AWp.cn ?_;refine AWp.skip ?_;refine AWp.rg [] [] ?_;refine⟨⟨i+1,hi1,Pv h1 ht (by rw[←hB];rfl)⟩,by simp;omega,Le.sub (by simp) (by simp)⟩
  |false=>
   repeat (first|refine AWp.seq ?_|refine AWp.block ?_)
   apply AWp.reg [] [.p (fun _=>.d (.bool false)) none]
   ·conv=>lhs;simp
   ·exact hp
   refine AWp.cy ?_;refine AWp.rg [] [] ?_;refine AWp.ret ?_;try dsimp only[Qq,Q6]
   apply Z8.ret
   ·rfl
   ·conv=>lhs;simp[Q9,Tryz.results25]
   rw[show badB l=true from List.any_eq_true.2 ⟨x,hmem,by rw[←hB];rfl⟩];rfl
 have hi1:i=l.length:=by have:=of_decide_eq_false h;omega
 subst hi1;rw[List.take_length]at ht;refine AWp.exit ?_;repeat (first|refine AWp.seq ?_|refine AWp.block ?_)
 apply AWp.reg [] []
 ·conv=>lhs;simp
 ·trivial
 refine AWp.ret ?_;try dsimp only[Qq,Q6]
 apply Z8.ret
 ·rfl
 ·conv=>lhs;simp[Q9,Tryz.results25]
 rw[show badB l=false from List.any_eq_false.2 fun y hy=>by rw[ht y hy];simp];rfl
abbrev nmObj:Qz:=.blk 65 [.d (.fn 23)]
abbrev fnsObj (ents:List (D×List D)):Qz:=.map true false 1 ents
inductive Vl where
 |mk (con:Bool) (n:Int) (kids:List Vl)
def Vl.con:Vl→Bool| .mk c _ _=>c
def Vl.n:Vl→Int| .mk _ n _=>n
def Vl.kids:Vl→List Vl| .mk _ _ k=>k
mutual
def Vl.row:Vl→List D
 | .mk c n ks=>[.bool c,.int n,.sl (Vl.rows ks)]
def Vl.rows:List Vl→List (List D)
 |[]=>[]
 |t::r=>t.row::Vl.rows r
end
theorem Vl.Q3 (l:List Vl):Vl.rows l=l.map Vl.row:=by
 induction l with
 |nil=>rfl
 |cons t r ih=>simp only[Vl.rows,List.map_cons,ih]
mutual
def Vl.sz:Vl→Nat
 | .mk _ _ ks=>1+Vl.szs ks
def Vl.szs:List Vl→Nat
 |[]=>0
 |t::r=>t.sz+Vl.szs r
end
theorem Vl.X0 {t:Vl}:∀{l:List Vl},t∈l→t.sz≤Vl.szs l
 |[],h=>by cases h
 |x::l,h=>by
  simp only[Vl.szs];rcases List.mem_cons.1 h with rfl|h
  ·omega
  ·have:=Vl.X0 h;omega
mutual
def Vl.Ok:Vl→Prop
 | .mk _ n ks=>(-9223372036854775808≤n∧n≤9223372036854775807)∧ks.length≤3518437208883∧Vl.Oks ks
def Vl.Oks:List Vl→Prop
 |[]=>True
 |t::r=>t.Ok∧Vl.Oks r
end
theorem Vl.X8:∀{l:List Vl},Vl.Oks l↔∀t∈l,t.Ok
 |[]=>by simp[Vl.Oks]
 |t::r=>by simp[Vl.Oks,Vl.X8 (l:=r)]
theorem Vl.sz_kid {c:Bool} {n:Int} {ks:List Vl} {x:Vl} (hx:x∈ks):x.sz<(Vl.mk c n ks).sz:=by
 have:=Vl.X0 hx;simp only[Vl.sz];omega
mutual
def Vl.left:Vl→Int→Int
 | .mk _ _ ks,l=>Vl.lefts ks (l-1)
def Vl.lefts:List Vl→Int→Int
 |[],l=>l
 |x::r,l=>Vl.lefts r (if 0≤l then x.left l else l)
end
end Go.Proofs.YtjpldhjgehoffaaGreatDoor
namespace Go.Proofs.YtjpldhjgehoffaaGreatDoor
open Go.RowKit
set_option linter.unusedVariables false
set_option linter.unusedSimpArgs false
def inN (l o:List ByteArray):List ByteArray:=l.filter fun s=>hasB o s
theorem Rj (l o:List ByteArray):(inN l o).length≤l.length:=List.length_filter_le _ _
theorem inN_snoc {l:List ByteArray} (o:List ByteArray) {i:Nat} {x:ByteArray} (hx:l[i]? =some x):inN (l.take (i+1)) o=if hasB o x then inN (l.take i) o++[x]else inN (l.take i) o:=by
 unfold inN;rw[List.take_add_one,hx,List.filter_append];cases hq:hasB o x<;> simp[List.filter,hq]
theorem woN_snoc {l:List ByteArray} (o:List ByteArray) {i:Nat} {x:ByteArray} (hx:l[i]? =some x):woN (l.take (i+1)) o=if hasB o x then woN (l.take i) o else woN (l.take i) o++[x]:=by
 unfold woN;rw[List.take_add_one,hx,List.filter_append];cases hq:hasB o x<;> simp[List.filter,hq]
def Tm.nm:Tm→ByteArray
 | .mk _ _ a _ _ _ _=>a
def R3 (had:List ByteArray):List Tm→List ByteArray
 |[]=>[]
 |x::r=>if hasB had x.nm then x.nm::R3 (had++[x.nm]) r else R3 (had++[x.nm]) r
theorem Qz6:∀(l:List Tm) (had:List ByteArray),(R3 had l).length≤l.length
 |[],_=>Nat.le_refl _
 |x::r,had=>by
  have:=Qz6 r (had++[x.nm]);rw[R3];split<;> simp<;> omega
theorem inN_woN (l f g:List ByteArray):woN (inN l f) g=inN l (woN f g):=by
 unfold woN inN;rw[List.filter_filter];refine List.filter_congr fun s _=>?_
 rw[Bool.eq_iff_iff];simp[X3,H7,and_comm]
theorem inN_inN (l f g:List ByteArray):inN (inN l f) (inN l g)=inN (inN l f) g:=by
 unfold inN;refine List.filter_congr fun s hs=>?_
 have:=(List.mem_filter.1 hs).1;rw[Bool.eq_iff_iff];simp[X3,this]
def letH (a:ByteArray) (own:List ByteArray):List Tm→List (List ByteArray)
 |[x,y]=>[inN own x.free,inN own (woN y.free [a])++[a]]
 |_=>[]
def letD (a:ByteArray) (own:List ByteArray):List Tm→List ByteArray
 |[x,y]=>inN (inN own x.free) (woN y.free [a])
 |_=>[]
def nmH:List Tm→ByteArray
 |x::_=>x.nm
 |[]=>.empty
mutual
def Tm.ow:Tm→List ByteArray→Tm
 | .mk k n a b vs xs cs,has=>cnt 9 (woN has (Tm.mk k n a b vs xs cs).free) (
   if k=3∨k=4∨k=5 then cnt 8 (R3 [] xs) (.mk k n a b vs xs cs)
   else if k=6 then cnt 8 (letD a (inN has (Tm.mk k n a b vs xs cs).free) xs) (.mk 6 0 a .empty [] (Tm.owZ xs (letH a (inN has (Tm.mk k n a b vs xs cs).free) xs)) [])
   else if k=7 then .mk 7 0 .empty .empty [] xs (Cs.owL cs (inN has (Tm.mk k n a b vs xs cs).free) (nmH xs))
   else .mk k n a b vs xs cs)
def Tm.owZ:List Tm→List (List ByteArray)→List Tm
 |[],_=>[]
 |x::r,hs=>x.ow (hs.headD [])::Tm.owZ r hs.tail
def Cs.owL:List Cs→List ByteArray→ByteArray→List Cs
 |[],_,_=>[]
 |c::r,own,nm=>c.ow own nm::Cs.owL r own nm
def Cs.ow:Cs→List ByteArray→ByteArray→Cs
 | .mk t ws y,own,nm=>.mk t ws (cnt 8 (inN ws y.free) (cnt 9 (if hasB y.free nm then[]else[nm]) (y.ow (if hasB y.free nm then own++inN ws y.free else woN (own++inN ws y.free) [nm]))))
end
theorem Cs.owL_snoc {l:List Cs} {i:Nat} {x:Cs} (hx:l[i]? =some x) (own:List ByteArray) (nm:ByteArray):Cs.owL (l.take (i+1)) own nm=Cs.owL (l.take i) own nm++[x.ow own nm]:=by
 have:∀l:List Cs,Cs.owL l own nm=l.map fun c=>c.ow own nm:=fun l=>by
  induction l with
  |nil=>rfl
  |cons c r ih=>rw[Cs.owL,ih];rfl
 rw[this,this,List.take_add_one,hx,List.map_append];rfl
theorem Cs.owL_len (own:List ByteArray) (nm:ByteArray):∀l:List Cs,(Cs.owL l own nm).length=l.length
 |[]=>rfl
 |c::r=>by rw[Cs.owL,List.length_cons,Cs.owL_len own nm r,List.length_cons]
def Fn.ow (f:Fn):Fn:=⟨f.name,f.params,f.body.ow f.params⟩
theorem AWp.seqJ2 {P:Program} {Q:Exit→AS→Prop} {s:AS} {x y z:Code} (s0:AS) (h2:AWp P z Q s0) (h1:∀W:AS→Prop,(∀s',Le s' s0→W s')→AWp P x (Qq (AWp P y (Qq W Q)) Q) s):AWp P (.seq x (.seq y z)) Q s:=by
 refine AWp.seq (AWp.mono (h1 (AWp P z Q) fun s' hl=>AWp.le hl h2) ?_);intro e s' h;cases e<;> first|exact h|exact AWp.seq h
theorem AWp.seqJP1 {P:Program} {Q:Exit→AS→Prop} {s:AS} {x y:Code} (φ:Prop) (s0:AS) (h2:φ→AWp P y Q s0) (h1:∀W:AS→Prop,(φ→∀s',Le s' s0→W s')→AWp P x (Qq W Q) s):AWp P (.seq x y) Q s:=
 AWp.seq (h1 _ fun hφ s' hl=>AWp.le hl (h2 hφ))
theorem AWp.seqJP2 {P:Program} {Q:Exit→AS→Prop} {s:AS} {x y z:Code} (φ:Prop) (s0:AS) (h2:φ→AWp P z Q s0) (h1:∀W:AS→Prop,(φ→∀s',Le s' s0→W s')→AWp P x (Qq (AWp P y (Qq W Q)) Q) s):AWp P (.seq x (.seq y z)) Q s:=by
 refine AWp.seq (AWp.mono (h1 (AWp P z Q) fun hφ s' hl=>AWp.le hl (h2 hφ)) ?_);intro e s' h;cases e<;> first|exact h|exact AWp.seq h
theorem AWp.keep {P:Program} {c:Code} {Q:Exit→AS→Prop} {s:AS} (lf lm:List Nat) {fr:List (Nat×AV)} {mem:List (Nat×Option Qz)} (hf:Dq s.fr lf=fr) (hm:Dw s.mem lm=mem) (h:AWp P c Q ⟨s.n,fr,mem⟩):AWp P c Q s:=
 AWp.le (by have:=Le.keep s lf lm;rw[hf,hm]at this;exact this) h
abbrev Jj:=List (ByteArray×Nat)
def Jj.get (f:Jj) (s:ByteArray):Option Nat:=(f.find? fun x=>decide (x.1=s)).map (·.2)
def J9 (f:Jj) (k n:Int) (a:ByteArray) (names:List ByteArray) (na:Nat):Int:=
 if k=1 then (if hasB names a then 0 else 6)
 else if k=2 then (if n< -2147483648∨2147483647<n then 3 else 0)
 else if k=3 then (if n<0∨9<n then 3 else 0)
 else if k=5 then (if n<1∨5<n then 1 else 0)
 else if k=6 then (if R7 a then 0 else 7)
 else if k=4 then (match f.get a with|none=>6|some m=>if m=na then 0 else 5)
 else 0
def X6 (k:Int) (na nc:Nat):Bool:=
 (if k=3∨k=4 then decide (6<na)else if k=7 then decide (na≠1)else if k=5∨k=6 then decide (na≠2)else decide (na≠0))||(decide (k≠7) && decide (0<nc))
mutual
def Tm.wrong (f:Jj):Tm→List ByteArray→Int→Int
 | .mk k n a _ _ xs cs,names,deep=>
  if 24<deep then 9 else if k<1∨7<k then 1 else if X6 k xs.length cs.length then 5
  else if J9 f k n a names xs.length≠0 then J9 f k n a names xs.length
  else if Tm.J5 f k a names deep 0 xs≠0 then Tm.J5 f k a names deep 0 xs
  else if k≠7 then 0 else if cs.length=0∨5<cs.length then 5 else Cs.J5 f names deep [] cs
def Tm.J5 (f:Jj) (k:Int) (a:ByteArray) (names:List ByteArray) (deep:Int):Nat→List Tm→Int
 |_,[]=>0
 |i,x::r=>if x.wrong f (if k=6∧i=1 then names++[a]else names) (deep+1)≠0 then x.wrong f (if k=6∧i=1 then names++[a]else names) (deep+1)else Tm.J5 f k a names deep (i+1) r
def Cs.J5 (f:Jj) (names:List ByteArray) (deep:Int):List Int→List Cs→Int
 |_,[]=>0
 |had,c::r=>if Cs.wrongC f names deep had c≠0 then Cs.wrongC f names deep had c else Cs.J5 f names deep (c.tag::had) r
def Cs.wrongC (f:Jj) (names:List ByteArray) (deep:Int):List Int→Cs→Int
 |had,.mk t vs b=>if t<0∨9<t then 3 else if (had.contains t||twB vs||badB vs)then 7 else if 6<vs.length then 5 else b.wrong f (names++vs) (deep+1)
end
def Fn.J9 (f:Jj) (x:Fn):Int:=
 if ((f.get x.name).isSome|| !R7 x.name||twB x.params||badB x.params)=true then 7
 else if 6<x.params.length then 5 else if 400<wr x.body.sz then 4 else 0
def Ow:Jj→List Fn→Int
 |_,[]=>0
 |f,x::r=>if x.J9 f≠0 then x.J9 f else Ow ((x.name,x.params.length)::f) r
def Qv5 (l:List Fn):Jj:=l.reverse.map fun x=>(x.name,x.params.length)
theorem arOf_snoc (l:List Fn) (x:Fn):Qv5 (l++[x])=(x.name,x.params.length)::Qv5 l:=by simp[Qv5]
def Oq (f:Jj):List Fn→Int
 |[]=>0
 |x::r=>if x.body.wrong f x.params 0≠0 then x.body.wrong f x.params 0 else Oq f r
def Kz (l:List Fn):Int:=
 if l.length=0∨6<l.length then 5 else if Ow [] l≠0 then Ow [] l else Oq (Qv5 l) l
theorem Gv {f:Jj} {k n:Int} {a b:ByteArray} {vs names:List ByteArray} {xs:List Tm} {cs:List Cs} {deep:Int} (h:(Tm.mk k n a b vs xs cs).wrong f names deep=0):
  deep≤24∧1≤k∧k≤7∧X6 k xs.length cs.length=false∧J9 f k n a names xs.length=0∧Tm.J5 f k a names deep 0 xs=0∧(k=7→cs.length≠0∧cs.length≤5∧Cs.J5 f names deep [] cs=0):=by
 simp only[Tm.wrong]at h;split at h
 ·cases h
 rename_i h1;split at h
 ·cases h
 rename_i h2;split at h
 ·cases h
 rename_i h3;split at h
 ·rename_i h4;exact absurd h h4
 rename_i h4;split at h
 ·rename_i h5;exact absurd h h5
 rename_i h5;refine⟨by omega,by omega,by omega,by simpa using h3,by omega,by omega,fun h7=>?_⟩;rw[if_neg (by omega)]at h;split at h
 ·cases h
 rename_i h6;exact⟨by omega,by omega,h⟩
theorem Tq {f:Jj} {k:Int} {a:ByteArray} {names:List ByteArray} {deep:Int}:∀{l:List Tm} {i:Nat},Tm.J5 f k a names deep i l=0→
  ∀(j:Nat) (x:Tm),l[j]? =some x→x.wrong f (if k=6∧i+j=1 then names++[a]else names) (deep+1)=0
 |[],_,_,j,x,hj=>by simp at hj
 |y::r,i,h,j,x,hj=>by
  simp only[Tm.J5]at h;obtain⟨ns,hns⟩:∃ns,ns=if k=6∧i=1 then names++[a]else names:=⟨_,rfl⟩
  rw[←hns]at h;by_cases h1:y.wrong f ns (deep+1)=0;rotate_left
  ·rw[if_pos h1]at h;exact absurd h h1
  rw[if_neg (fun e=>e h1)]at h;match j with
  |0=>
   simp at hj;subst hj;rw[Nat.add_zero,←hns];exact h1
  |j+1=>
   have:=Tq h j x (by simpa using hj)
   rwa [show i+1+j=i+(j+1)by omega]at this
theorem M5 {f:Jj} {names:List ByteArray} {deep:Int}:∀{l:List Cs} {had:List Int},Cs.J5 f names deep had l=0→
  ∀{t:Int} {vs:List ByteArray} {b:Tm},Cs.mk t vs b∈l→0≤t∧t≤9∧twB vs=false∧badB vs=false∧vs.length≤6∧b.wrong f (names++vs) (deep+1)=0
 |[],_,_,t,vs,b,hm=>by cases hm
 |c::r,had,h,t,vs,b,hm=>by
  simp only[Cs.J5]at h;split at h
  ·rename_i h1;exact absurd h h1
  rename_i h1;rcases List.mem_cons.1 hm with rfl|hm
  ·have h1:=Decidable.byContradiction fun e=>h1 e
   simp only[Cs.wrongC]at h1;split at h1
   ·cases h1
   split at h1
   ·cases h1
   split at h1
   ·cases h1
   rename_i h2 h3 h4;simp only[Bool.or_eq_true,not_or,Bool.not_eq_true]at h3;exact⟨by omega,by omega,h3.1.2,h3.2,by omega,h1⟩
  ·exact M5 h hm
def gB:Nat→Nat
 |0=>0
 |n+1=>1+6 * gB n
theorem szs_le {g:Nat}:∀{l:List Tm},(∀x∈l,x.sz≤g)→Tm.szs l≤l.length * g
 |[],_=>by simp[Tm.szs]
 |x::r,h=>by
  have h1:=h x (List.mem_cons_self ..);have h2:=szs_le (l:=r) fun y hy=>h y (List.mem_cons_of_mem _ hy)
  simp only[Tm.szs,List.length_cons,Nat.succ_mul];omega
theorem cszs_le {g:Nat}:∀{l:List Cs},(∀x∈l,x.sz≤g)→Cs.szs l≤l.length * g
 |[],_=>by simp[Cs.szs]
 |x::r,h=>by
  have h1:=h x (List.mem_cons_self ..);have h2:=cszs_le (l:=r) fun y hy=>h y (List.mem_cons_of_mem _ hy)
  simp only[Cs.szs,List.length_cons,Nat.succ_mul];omega
theorem many_six {k:Int} {na nc:Nat} (h:X6 k na nc=false) (h2:k=7→nc≤5):na+nc≤6:=by
 unfold X6 at h;simp only[Bool.or_eq_false_iff,Bool.and_eq_false_iff,decide_eq_false_iff_not]at h;obtain⟨h,h'⟩:=h;by_cases h7:k=7
 ·have:=h2 h7;subst h7;simp at h;omega
 ·have hc:nc=0:=by
   rcases h' with h'|h'
   ·exact absurd h7 h'
   ·omega
  split at h
  ·simp at h;omega
  ·split at h
   ·simp at h;omega
   ·simp at h;omega
theorem wrong_sz (f:Jj):∀(N:Nat) (t:Tm) (names:List ByteArray) (n:Nat) (deep:Int),t.sz<N→deep=25-(n:Int)→t.wrong f names deep=0→t.sz≤gB n:=by
 intro N;induction N with
 |zero=>intro t _ _ _ h;omega
 |succ N ih=>
 intro t names n deep hN hd h;obtain⟨k,m,a,b,vs,xs,cs⟩:=t;obtain⟨h1,h2,h3,h4,h5,h6,h7⟩:=Gv h;match n with
 |0=>omega
 |n+1=>
  have hx:∀x∈xs,x.sz≤gB n:=fun x hx=>by
   obtain⟨j,hj⟩:=List.mem_iff_getElem?.1 hx;exact ih x _ n (deep+1) (by have:=Tm.Qj3 (k:=k) (n:=m) (a:=a) (b:=b) (vs:=vs) (cs:=cs) hx;omega) (by omega) (Tq h6 j x hj)
  have hc:Cs.szs cs≤cs.length * gB n:=by
   by_cases h8:k=7
   ·refine cszs_le fun c hc=>?_
    obtain⟨g,ws,x⟩:=c;have:=(M5 (h7 h8).2.2 hc).2.2.2.2.2;exact ih x _ n (deep+1) (by have:=Tm.O4 (k:=k) (n:=m) (a:=a) (b:=b) (vs:=vs) (xs:=xs) hc;omega) (by omega) this
   ·have:=many_six h4 (fun h=>absurd h h8);have hl:cs.length=0:=by
     unfold X6 at h4;simp only[Bool.or_eq_false_iff,Bool.and_eq_false_iff,decide_eq_false_iff_not]at h4;rcases h4.2 with h'|h'
     ·exact absurd h8 h'
     ·omega
    have:cs=[]:=List.eq_nil_of_length_eq_zero hl;subst this;simp[Cs.szs]
  have h8:=szs_le hx;have h9:=many_six h4 fun h=>(h7 h).2.1
  simp only[Tm.sz,gB];have:xs.length * gB n+cs.length * gB n≤6 * gB n:=by
   rw[←Nat.add_mul];exact Nat.mul_le_mul_right _ h9
  omega
theorem wrong_small {f:Jj} {t:Tm} {names:List ByteArray} (h:t.wrong f names 0=0):wr t.sz=t.sz:=by
 have h1:=wrong_sz f _ t names 25 0 (Nat.lt_succ_self _) (by omega) h;have h2:gB 25≤9223372036854775807:=by decide+kernel
 exact wr_id ⟨by omega,by omega⟩
theorem Tj {s:ByteArray} (more:List ByteArray):∀l:List ByteArray,s∈addN l more↔s∈l∨s∈more:=by
 induction more with
 |nil=>intro l;simp[addN]
 |cons x more ih=>
  intro l;have:=ih (if hasB l x then l else l++[x]);simp only[addN,List.foldl_cons]at this⊢;rw[this];split
  ·rename_i h;have h:=X3.1 h;simp only[List.mem_cons];constructor
   ·rintro(h|h)
    ·exact .inl h
    ·exact .inr (.inr h)
   ·rintro(h'|rfl|h')
    ·exact .inl h'
    ·exact .inl h
    ·exact .inr h'
  ·simp only[List.mem_append,List.mem_cons,List.not_mem_nil,or_false,or_assoc]
theorem Xw {s:ByteArray} {l gone:List ByteArray}:s∈woN l gone↔s∈l∧s ∉ gone:=by
 unfold woN;rw[List.mem_filter,←H7 (l:=gone)];simp
theorem mem_frees {s:ByteArray} (l:List Tm):∀o,s∈Tm.frees o l↔s∈o∨∃x∈l,s∈x.free:=by
 induction l with
 |nil=>intro o;simp[Tm.frees]
 |cons x r ih=>
  intro o;simp only[Tm.frees,ih,Tj,List.mem_cons,exists_eq_or_imp,or_assoc]
theorem Qk0 {s:ByteArray} (l:List Cs):∀o,s∈Cs.frees o l↔s∈o∨∃x∈l,s∈x.Ev:=by
 induction l with
 |nil=>intro o;simp[Cs.frees]
 |cons x r ih=>
  intro o;simp only[Cs.frees,ih,Tj,List.mem_cons,exists_eq_or_imp,or_assoc]
theorem wrong_free (f:Jj):∀(N:Nat) (t:Tm) (names:List ByteArray) (deep:Int),t.sz<N→t.wrong f names deep=0→∀s∈t.free,s∈names:=by
 intro N;induction N with
 |zero=>intro t _ _ h;omega
 |succ N ih=>
 intro t names deep hN h s hs;obtain⟨k,m,a,b,vs,xs,cs⟩:=t;obtain⟨h1,h2,h3,h4,h5,h6,h7⟩:=Gv h;have hx:∀(j:Nat) (x:Tm),xs[j]? =some x→s∈x.free→s∈(if k=6∧0+j=1 then names++[a]else names):=fun j x hj hs=>
  ih x _ (deep+1) (by have:=Tm.Qj3 (k:=k) (n:=m) (a:=a) (b:=b) (vs:=vs) (cs:=cs) (List.mem_of_getElem? hj);omega) (Tq h6 j x hj) s hs
 simp only[Tm.free]at hs;split at hs
 ·rename_i hk;subst hk;unfold J9 at h5;rw[if_pos rfl]at h5;split at h5
  ·rename_i hh;simp at hs;subst hs;exact X3.1 hh
  ·cases h5
 split at hs
 ·rename_i hk;obtain⟨hk,hl⟩:=hk;match xs,hl with
  |[x,y],_=>
   simp only[Tm.freeL,Tm.freeB]at hs;rw[Tj,Tj,Xw]at hs;rcases hs with(hs|hs)|hs
   ·cases hs
   ·have:=hx 0 x rfl hs
    rwa [if_neg (by omega)]at this
   ·have:=hx 1 y rfl hs.1;rw[if_pos (by omega)]at this;rcases List.mem_append.1 this with h|h
    ·exact h
    ·exact absurd h hs.2
 ·rename_i hk1 hk2;rw[if_neg (by omega),Qk0,mem_frees]at hs;rcases hs with(hs|⟨x,hm,hs⟩)|⟨c,hm,hs⟩
  ·cases hs
  ·obtain⟨j,hj⟩:=List.mem_iff_getElem?.1 hm;have:=hx j x hj hs;have hj2:j<xs.length:=by
    have:=List.getElem?_eq_some_iff.1 hj;exact this.1
   rw[if_neg]at this
   ·exact this
   rintro⟨rfl,hj1⟩;unfold X6 at h4;simp at h4;simp at hk2;exact hk2 h4.1
  ·have hk7:k=7:=by
    unfold X6 at h4;simp only[Bool.or_eq_false_iff,Bool.and_eq_false_iff,decide_eq_false_iff_not]at h4;rcases h4.2 with h'|h'
    ·omega
    ·have:=List.length_pos_of_mem hm;omega
   obtain⟨g,ws,x⟩:=c;have h8:=(M5 (h7 hk7).2.2 hm).2.2.2.2.2;simp only[Cs.Ev]at hs;rw[Xw]at hs;have:=ih x _ (deep+1) (by have:=Tm.O4 (k:=k) (n:=m) (a:=a) (b:=b) (vs:=vs) (xs:=xs) hm;omega) h8 s hs.1;rcases List.mem_append.1 this with h|h
   ·exact h
   ·exact absurd h hs.2
theorem heads_zero:∀{l:List Fn} {f:Jj},Ow f l=0→∀x∈l,R7 x.name=true∧twB x.params=false∧badB x.params=false∧x.params.length≤6∧wr x.body.sz≤400
 |[],_,_,x,hx=>by cases hx
 |y::r,f,h,x,hx=>by
  simp only[Ow]at h;split at h
  ·rename_i h1;exact absurd h h1
  rename_i h1;rcases List.mem_cons.1 hx with rfl|hx
  ·have h1:=Decidable.byContradiction fun e=>h1 e
   unfold Fn.J9 at h1;split at h1
   ·cases h1
   split at h1
   ·cases h1
   split at h1
   ·cases h1
   rename_i h2 h3 h4;simp only[Bool.or_eq_true,not_or,Bool.not_eq_true,Bool.not_eq_false,Bool.not_eq_true']at h2;exact⟨by simpa using h2.1.1.2,h2.1.2,h2.2,by omega,by omega⟩
  ·exact heads_zero h x hx
theorem bodies_zero {f:Jj}:∀{l:List Fn},Oq f l=0→∀x∈l,x.body.wrong f x.params 0=0
 |[],_,x,hx=>by cases hx
 |y::r,h,x,hx=>by
  simp only[Oq]at h;split at h
  ·rename_i h1;exact absurd h h1
  rename_i h1;rcases List.mem_cons.1 hx with rfl|hx
  ·exact Decidable.byContradiction fun e=>h1 e
  ·exact bodies_zero h x hx
structure Fn.Right (f:Jj) (x:Fn):Prop where
 name:R7 x.name=true
 twice:twB x.params=false
 bad:badB x.params=false
 params:x.params.length≤6
 sz:x.body.sz≤400
 wrong:x.body.wrong f x.params 0=0
structure Fn.Fit (f:Jj) (x:Fn):Prop where
 params:x.params.length≤6
 wrong:∃deep,x.body.wrong f x.params deep=0
theorem Fn.Right.fit {f:Jj} {x:Fn} (h:x.Right f):x.Fit f:=⟨h.params,0,h.wrong⟩
theorem Qv1 {l:List Fn} (h:Kz l=0):l.length≠0∧l.length≤6∧Ow [] l=0∧∀x∈l,x.Right (Qv5 l):=by
 unfold Kz at h;split at h
 ·cases h
 split at h
 ·rename_i h1;exact absurd h h1
 rename_i h1 h2;have h2:=Decidable.byContradiction fun e=>h2 e
 refine⟨by omega,by omega,h2,fun x hx=>?_⟩;obtain⟨k1,k2,k3,k4,k5⟩:=heads_zero h2 x hx;have k6:=bodies_zero h x hx;rw[wrong_small k6]at k5;exact⟨k1,k2,k3,k4,by omega,k6⟩
theorem Fn.Right.free {f:Jj} {x:Fn} (h:x.Right f):∀s∈x.body.free,s∈x.params:=wrong_free f _ x.body x.params 0 (Nat.lt_succ_self _) h.wrong
def Tm.Rt:Nat→Tm→Prop
 |0,_=>False
 |d+1,.mk k n a b vs xs cs=>(1≤k∧k≤7)∧X6 k xs.length cs.length=false∧xs.length+cs.length≤6∧(∀x∈xs,Tm.Rt d x)∧(∀c∈cs,c.2.length≤6∧Tm.Rt d c.3)
theorem wrong_rt (A:Jj):∀(d:Nat) (t:Tm) (names:List ByteArray) (deep:Int),deep=25-(d:Int)→t.wrong A names deep=0→t.Rt d:=by
 intro d;induction d with
 |zero=>
  intro t names deep hd hw;obtain⟨k,n,a,b,vs,xs,cs⟩:=t;obtain⟨h1,_⟩:=Gv hw;omega
 |succ d ih=>
 intro t names deep hd hw;obtain⟨k,n,a,b,vs,xs,cs⟩:=t;obtain⟨h1,h2,h3,h4,h5,h6,h7⟩:=Gv hw;have hn6:=many_six h4 fun h=>(h7 h).2.1
 refine⟨⟨h2,h3⟩,h4,hn6,fun x hx=>?_,fun c hc=>?_⟩
 ·obtain⟨j,hj⟩:=List.mem_iff_getElem?.1 hx;exact ih x _ (deep+1) (by omega) (Tq h6 j x hj)
 ·obtain⟨t,ws,y⟩:=c;by_cases h8:k=7
  ·have h9:=M5 (h7 h8).2.2 hc;exact⟨h9.2.2.2.2.1,ih y _ (deep+1) (by omega) h9.2.2.2.2.2⟩
  ·exfalso;have h4':=h4;unfold X6 at h4';simp only[Bool.or_eq_false_iff,Bool.and_eq_false_iff,decide_eq_false_iff_not]at h4';have:=List.length_pos_of_mem hc;omega
abbrev Ps:=List (ByteArray×ByteArray)
def psR (p:ByteArray×ByteArray):List D:=[.str p.1,.str p.2]
abbrev psAV (ps:Ps):AV:=.d (.sl (ps.map psR))
def vNm (c:Int):ByteArray:=⟨#[118]⟩++Gj c
theorem E9:((⟨#[118]⟩:ByteArray).size≤maxLen)=True:=eq_true (by show 1≤9223372036854775807;omega)
def J2:List ByteArray→Int→List ByteArray
 |[],_=>[]
 |_::r,c=>vNm (wr (c+1))::J2 r (wr (c+1))
def U7:List ByteArray→Int→Int
 |[],c=>c
 |_::r,c=>U7 r (wr (c+1))
theorem Wx:∀(l:List ByteArray) (c:Int),(J2 l c).length=l.length
 |[],_=>rfl
 |_::r,c=>by simp[J2,Wx r]
def nowP (ps:Ps) (s:ByteArray):ByteArray:=ps.foldl (fun o p=>if p.1=s then p.2 else o) s
mutual
def Tm.rn:Tm→Ps→Int→Tm×Int
 | .mk k n a b vs xs cs,ps,c=>if k=1 then (.mk k n (nowP ps a) b vs [] [],c)
  else (.mk k n (Tm.rns k a ps 0 xs a c).2.1 b vs (Tm.rns k a ps 0 xs a c).1 (Cs.rnL cs ps (Tm.rns k a ps 0 xs a c).2.2).1,(Cs.rnL cs ps (Tm.rns k a ps 0 xs a c).2.2).2)
def Tm.rns (k:Int) (a:ByteArray) (ps:Ps):Nat→List Tm→ByteArray→Int→List Tm×ByteArray×Int
 |_,[],nm,c=>([],nm,c)
 |i,x::r,nm,c=>if k=6∧i=1 then
   ((x.rn (ps++[(a,vNm (wr (c+1)))]) (wr (c+1))).1::(Tm.rns k a ps (i+1) r (vNm (wr (c+1))) (x.rn (ps++[(a,vNm (wr (c+1)))]) (wr (c+1))).2).1,(Tm.rns k a ps (i+1) r (vNm (wr (c+1))) (x.rn (ps++[(a,vNm (wr (c+1)))]) (wr (c+1))).2).2)
  else ((x.rn ps c).1::(Tm.rns k a ps (i+1) r nm (x.rn ps c).2).1,(Tm.rns k a ps (i+1) r nm (x.rn ps c).2).2)
def Cs.rnL:List Cs→Ps→Int→List Cs×Int
 |[],_,c=>([],c)
 |d::r,ps,c=>((d.rn ps c).1::(Cs.rnL r ps (d.rn ps c).2).1,(Cs.rnL r ps (d.rn ps c).2).2)
def Cs.rn:Cs→Ps→Int→Cs×Int
 | .mk t ws y,ps,c=>(.mk t (J2 ws c) (y.rn (ps++ws.zip (J2 ws c)) (U7 ws c)).1,(y.rn (ps++ws.zip (J2 ws c)) (U7 ws c)).2)
end
end Go.Proofs.YtjpldhjgehoffaaGreatDoor
