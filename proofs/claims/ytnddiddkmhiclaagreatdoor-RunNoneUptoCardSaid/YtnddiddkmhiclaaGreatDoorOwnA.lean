import Derived.Test.YtnddiddkmhiclaaGreatDoorHeapZ
import Derived.Maps.RangeRun
import Derived.SizedLaws
import Derived.Deep.Slices
import Derived.Carry
import Derived.JoinedOf
import Derived.KernelRfl
import Derived.Shelf.Strconv.Itoa0
import Derived.Shelf.Strconv.Itoa1
import Derived.Shelf.LaysM
import Derived.Shelf.Strconv.Itoa2
import Derived.Shelf.Strconv.Itoa3
import Derived.Shelf.LaysC
import Derived.Shelf.Strconv.AtoiAll
import Derived.Shelf.Strconv.ErrVarAll
import Derived.Lib.ItoaLen
import Derived.RangeFuncNested
import Derived.RangeFuncWrites
import Derived.RangeFuncBound
import Derived.RangeFuncCalls
import Derived.RangeFuncLeaves
import Derived.RangeFuncBox
import Derived.Shelf.Abstract
import Derived.OwnWalkIn
import Derived.TacticsInMore
import Derived.LoopNIn
import Derived.LoopIn
import Derived.Lib.AtoiAll
import Derived.Lib.AtoiAllCases
import Derived.Lib.AtoiErrMem
set_option maxHeartbeats 16000000
set_option maxRecDepth 100000
set_option linter.unusedVariables false
set_option linter.unusedSimpArgs false
namespace Go.Proofs.YtnddiddkmhiclaaGreatDoor
section
open Go.RowKit
def J5(l:List Qx)(i:Nat):Nat:=l.countP λs=>s.kind==2 && s.n==(i:Int)
theorem Kv(i:Nat):J5 [] i=0:=rfl
theorem Qw(a b:List Qx)(i:Nat):J5 (a++b) i=J5 a i+J5 b i:=by simp[J5]
theorem Z9(s:Qx)(l:List Qx)(i:Nat):J5 (s::l) i=J5 [s] i+J5 l i:=by
 rw[<-List.singleton_append,Qw]
theorem UI(l:List Qx)(i:Nat):J5 l.reverse i=J5 l i:=by simp[J5]
theorem ZG{s:Qx}(h:s.kind≠2)(i:Nat):J5 [s] i=0:=by simp[J5,h]
theorem Oq{s:Qx}(h:s.kind=2){i:Nat}(f:s.n=(i:Int)):J5 [s] i=1:=by simp[J5,h,f]
theorem Rk{s:Qx}{i:Nat}(f:s.n≠(i:Int)):J5 [s] i=0:=by simp[J5,f]
theorem Yy{s:Qx}{l:List Qx}(h:s∈l)(f:s.kind=2){i:Nat}(g:s.n=(i:Int)):1<=J5 l i:=by
 unfold J5;exact List.countP_pos_iff.2 ⟨s,h,by simp[f,g]⟩
theorem YA{l:List Qx}{i:Nat}(h:1<=J5 l i):∃s∈l,s.kind=2/\s.n=(i:Int):=by
 obtain⟨s,g,f⟩:=List.countP_pos_iff.1 h;simp at f;exact⟨s,g,f⟩
def Tx(l:List Qk):List Qx:=l.flatMap (·.slots)
theorem VD(a:List Qk)(x:Qk)(b:List Qk):Tx (a++x::b)=Tx a++(x.slots++Tx b):=by simp[Tx]
theorem Gw{l:List Qk}{s:Qx}:s∈Tx l<->∃c∈l,s∈c.slots:=by simp[Tx]
def nz(l:List Qk):Nat:=l.countP λc=>c.count !=0
def Py(n:Int):Nat:=if n=0 then 0 else 1
theorem Dz{n:Int}(h:n=0):Py n=0:=if_pos h
theorem Yj{n:Int}(h:n≠0):Py n=1:=if_neg h
theorem XD(a:List Qk)(x:Qk)(b:List Qk):nz (a++x::b)=nz a+nz b+Py x.count:=by
 unfold nz Py;rw[List.countP_append,List.countP_cons];by_cases h:x.count=0<;> simp[h]<;> omega
def II(n:Nat)(s:Qx):Prop:=s.kind=2->0<=s.n/\s.n<n
def YG(l:List Qk):Prop:=∃f:Nat->Nat,∀i c,l[i]? =some c->∀s∈c.slots,s.kind=2->f s.n.toNat<f i
structure VF (h:Hp) (R:List Qx):Prop where
 rngC:∀c∈h.cells,∀s∈c.slots,II h.cells.length s
 rngR:∀s∈R,II h.cells.length s
 cnt:∀i c,h.cells[i]? =some c->c.count=((J5 (Tx h.cells) i+J5 R i:Nat):Int)
 zero:∀c∈h.cells,c.count=0->c.slots=[]
 live:h.live=nz h.cells
 acyc:YG h.cells
theorem Yk{f:Type}(a:List f)(x:f)(b:List f)(i:Nat):(a++x::b)[i]? =if i=a.length then some x else if i<a.length then a[i]? else b[i-a.length-1]?:=by
 rw[List.getElem?_append];split
 ·rw[if_neg oM]
 ·rename_i h;by_cases g:i=a.length
  ·subst g;simp
  ·rw[if_neg g,List.getElem?_cons,if_neg oM]
theorem YG.sub{a b:List Qk}{x y:Qk}(h:YG (a++x::b))(o:∀s∈y.slots,s∈x.slots):YG (a++y::b):=by
 obtain⟨r,h⟩:=h;refine⟨r,λi c f s j l=>?_⟩;rw[Yk]at f;by_cases g:i=a.length
 ·rw[if_pos g]at f;cases f;exact h i x (by rw[Yk,if_pos g]) s (o s j) l
 ·rw[if_neg g]at f;exact h i c (by rw[Yk,if_neg g];exact f) s j l
theorem Xv2{l:List Qx}{s:Qx}(f:Qx->Nat)(h:s∈l):f s<=(l.map f).sum:=by
 induction l with
 |nil=>simp at h
 |cons x r g=>
  rcases List.mem_cons.1 h with rfl|h
  ·simp
  ·have:=g h;simp;omega
theorem YG.new{a b:List Qk}{x y:Qk}(h:YG (a++x::b))(t:∀c∈a++b,∀s∈c.slots,s.kind=2->s.n.toNat≠a.length)(C:∀s∈y.slots,s.kind=2->s.n.toNat≠a.length):YG (a++y::b):=by
 obtain⟨l,h⟩:=h;refine⟨λi=>if i=a.length then 1+(y.slots.map λs=>l s.n.toNat).sum else l i,λi c f s j o=>?_⟩;rw[Yk]at f;dsimp only;by_cases g:i=a.length
 ·rw[if_pos g]at f;cases f;rw[if_neg (C s j o),if_pos g];have:=Xv2 (λs=>l s.n.toNat) j;omega
 ·rw[if_neg g]at f;have r:c∈a++b:=by
   split at f
   ·exact List.mem_append_left _ (List.mem_of_getElem? f)
   ·exact List.mem_append_right _ (List.mem_of_getElem? f)
  rw[if_neg (t c r s j o),if_neg g];exact h i c (by rw[Yk,if_neg g];exact f) s j o
theorem Z8{h:Hp}{n:Int}{a b:List Qk}{x y:Qk}(f:h.cells=a++x::b)(g:(a.length:Int)=n):(h.put n y).cells=a++y::b:=by
 have:n.toNat=a.length:=oM;simp[Hp.put,f,this]
theorem VF.split{h:Hp}{s:Qx}(g:h.there s=true):s.kind=2/\∃a x b,h.at s.n=some x/\h.cells=a++x::b/\(a.length:Int)=s.n/\1<=x.count:=by
 obtain⟨i,x,f,j⟩:=Hp.Xt g;obtain⟨o,_,a,b,l,r⟩:=Hp.Gv f;exact⟨i,a,x,b,f,l,oM,j⟩
theorem Xw6{h:Hp}{s:Qx}(f:h.there s=true):II h.cells.length s:=λi=>by
 obtain⟨_,a,x,b,_,g,j,_⟩:=VF.split f;have:h.cells.length=a.length+b.length+1:=by rw[g];simp;omega
 omega
theorem Af(h:Hp)(s:Qx):(s.kind≠2/\h.dup s=(h,0))\/(∃a x b,s.kind=2/\h.there s=true/\h.at s.n=some x/\h.cells=a++x::b/\(a.length:Int)=s.n/\1<=x.count/\h.dup s=(h.put s.n { x with count:=x.count+1 },0))\/(h.there s=false/\s.kind=2/\h.dup s=(Hp.zero,14)):=by
 by_cases f:s.kind=2
 ·cases ht:h.there s with
  |true=>
   obtain⟨_,a,x,b,g,j,l,i⟩:=VF.split ht;exact .inr (.inl ⟨a,x,b,f,rfl,g,j,l,i,by rw[Hp.dup,if_pos f,g];simp[i]⟩)
  |false=>
   refine .inr (.inr ⟨rfl,f,?_⟩);rw[Hp.dup,if_pos f];unfold Hp.there at ht;rcases g:h.at s.n with _|x
   ·rfl
   ·rw[g]at ht;simp[f]at ht;simp[show¬1<=x.count by omega]
 ·exact .inl ⟨f,by rw[Hp.dup,if_neg f]⟩
theorem BD(l:List Qk):(room l=l.length/\∀x∈l,x.count≠0)\/∃a x b,l=a++x::b/\a.length=room l/\x.count=0:=by
 induction l with
 |nil=>exact .inl ⟨rfl,by simp⟩
 |cons x r j=>
  unfold room;split
  ·rename_i h;exact .inr ⟨[],x,r,rfl,rfl,h⟩
  ·rename_i h;rcases j with⟨f,g⟩|⟨a,y,b,f,g,o⟩
   ·exact .inl ⟨by simp[f],λy i=>by
     rcases List.mem_cons.1 i with rfl|i
     ·exact h
     ·exact g y i⟩
   ·exact .inr ⟨x::a,y,b,by rw[f];rfl,by simp[g],o⟩
theorem VF.none{h:Hp}(t:VF h []):h.live=0:=by
 rw[t.live];have:nz h.cells=0:=by
  obtain⟨o,hr⟩:=t.acyc;have key:∀n i c,h.cells[i]? =some c->c.count≠0->(∀j d,h.cells[j]? =some d->o j<=n+o i)->False:=λn=>by
   induction n with
   |zero=>
    intro i c C hc f;have I:=t.cnt i c C;rw[Kv]at I;obtain⟨s,J,h3,h4⟩:=YA (l:=Tx h.cells) (i:=i) oM;obtain⟨d,h5,P⟩:=Gw.1 J;obtain⟨j,T,U⟩:=List.getElem_of_mem h5;have g:h.cells[j]? =some d:=by rw[List.getElem?_eq_getElem T,U]
    have h7:=hr j d g s P h3;have h8:=f j d g;rw[h4]at h7;simp at h7 h8;omega
   |succ n ih=>
    intro i c C hc f;have I:=t.cnt i c C;rw[Kv]at I;obtain⟨s,J,h3,h4⟩:=YA (l:=Tx h.cells) (i:=i) oM;obtain⟨d,h5,P⟩:=Gw.1 J;obtain⟨j,T,U⟩:=List.getElem_of_mem h5;have g:h.cells[j]? =some d:=by rw[List.getElem?_eq_getElem T,U]
    have h7:=hr j d g s P h3;rw[h4]at h7;simp at h7;refine ih j d g (λh0=>?_) λk e hk=>?_
    ·have:=t.zero d h5 h0;rw[this]at P;cases P
    ·have:=f k e hk;omega
  rcases Nat.eq_zero_or_pos (nz h.cells)with h0|h0
  ·exact h0
  ·obtain⟨c,I,J⟩:=List.countP_pos_iff.1 h0;obtain⟨i,C,U⟩:=List.getElem_of_mem I;have hb:∃n,∀j d,h.cells[j]? =some d->o j<=n+o i:=by
    refine⟨((List.range h.cells.length).map o).sum,λj d T=>?_⟩;have a1:=(List.getElem?_eq_some_iff.1 T).1;have:∀(l:List Nat) (x:Nat),x∈l->x<=l.sum:=λl=>by
     induction l with
     |nil=>simp
     |cons y r ih=>intro x hx;rcases List.mem_cons.1 hx with rfl|hx;simp;have:=ih x hx;simp;omega
    have:=this _ (o j) (List.mem_map.2 ⟨j,List.mem_range.2 a1,rfl⟩);omega
   obtain⟨n,hb⟩:=hb;exact(key n i c (by rw[List.getElem?_eq_getElem C,U]) (by simpa using J) hb).elim
 rw[this];rfl
end
section
open Go.RowKit
open Go.ChangeMaps (setBlock)
def AOps(P:Program)(ops:Array Oper)(l:List Oper)(Q:Exit->AS->Prop)(s:AS):Prop:=
 ∀C a w,St C s a w->wpList P ops (λe f w'=>∃s',Q e s'/\St C s' f w') l a w
section
variable {P:Program} {Q:Exit->AS->Prop} {s:AS} {ops:Array Oper}
end
section
variable {C:Cx} {w:World} {ok:Nat->Prop} {g:Gh} {m:Me}
end
section
variable {P:Program} {Q:Exit->AS->Prop} {s:AS} {ops:Array Oper}
end
def ZR(o p i:Nat):Nat:=if i==o then p else if i==p then o else i
theorem QE(o p i:Nat):ZR o p (ZR o p i)=i:=by
 unfold ZR;simp only[beq_iff_eq];repeat' split
 all_goals omega
theorem AV.GY(o p:Nat)(c:AV):(c.ren (ZR o p)).ren (ZR o p)=c:=
 AV.rec (motive_1:=λc=>(c.ren (ZR o p)).ren (ZR o p)=c) (motive_2:=λl=>ZU (ZR o p) (ZU (ZR o p) l)=l) (by rfl) (λ_=>rfl) (λ_=>rfl) (λ_=>rfl) (λi k=>by simp only[AV.ren,QE]) (λi k n=>by simp only[AV.ren,QE]) (λi k n=>by simp only[AV.ren,QE]) (λi=>by simp only[AV.ren,QE])
  (λcs h=>by simp only[AV.ren,h]) (λcs h=>by simp only[AV.ren,h]) (λ_ cs h=>by simp only[AV.ren,h]) rfl (λx r f g=>by simp only[ZU,f,g]) c
theorem Zk7(o p:Nat)(l:List AV):ZU (ZR o p) (ZU (ZR o p) l)=l:=by
 have:=AV.GY o p (.agg l);simpa only[AV.ren,AV.agg.injEq]using this
theorem Q9.GY(o p:Nat)(x:Q9):(x.ren (ZR o p)).ren (ZR o p)=x:=by
 cases x<;> simp only[Q9.ren,Zk7]
def AS.swap(s:AS)(o p:Nat):AS:=⟨s.n,s.fr.map λx=>(x.1,x.2.ren (ZR o p)),s.mem.map λx=>(ZR o p x.1,x.2.map (Q9.ren (ZR o p)))⟩
theorem CB(o p:Nat)(f:List (Nat×AV))(t:Nat):X4 (f.map λx=>(x.1,x.2.ren (ZR o p))) t=(X4 f t).ren (ZR o p):=by
 induction f with
 |nil=>rfl
 |cons x r g=>
  simp only[List.map_cons,X4,g];split<;> rfl
theorem Ec(o p:Nat)(f:List (Nat×Option Q9))(t:Nat):Q4 (f.map λx=>(ZR o p x.1,x.2.map (Q9.ren (ZR o p)))) t=(Q4 f (ZR o p t)).map (Q9.ren (ZR o p)):=by
 induction f with
 |nil=>rfl
 |cons x r g=>
  have e:(ZR o p x.1==t)=(x.1==ZR o p t):=by
   rw[Bool.eq_iff_iff,beq_iff_eq,beq_iff_eq];constructor
   ·rintro rfl;rw[QE]
   ·intro h;rw[h,QE]
  simp only[List.map_cons,Q4,g,e];split<;> rfl
theorem Bi{o p i:Nat}(f:Nat.ble 500 o=false)(hp:Nat.ble 500 p=false)(g:500<=i):ZR o p i=i:=by
 have j:¬500<=o:=λh=>by rw[Nat.ble_eq_true_of_le h]at f;cases f
 have l:¬500<=p:=λh=>by rw[Nat.ble_eq_true_of_le h]at hp;cases hp
 unfold ZR;simp only[beq_iff_eq];repeat' split
 all_goals omega
theorem Le.swap(s:AS)(o p:Nat)(ho:Nat.ble 500 o=false)(hp:Nat.ble 500 p=false):Le s (s.swap o p):=by
 rintro C a w ⟨ok,g,f,h1,h2,h3⟩;have em:Q4 (s.swap o p).mem=λi=>(Q4 s.mem (ZR o p i)).map (Q9.ren (ZR o p)):=funext λi=>Ec o p s.mem i
 have l:∀{i x},Q4 (s.swap o p).mem i=some x->Q4 s.mem (ZR o p i)=some (x.ren (ZR o p)):=λ{i x} h=>by
  rw[em]at h;obtain⟨y,hy,rfl⟩:=Option.map_eq_some_iff.1 h;rw[hy,Q9.GY]
 let g':Gh:=⟨λi=>g.bl (ZR o p i),λi=>g.cp (ZR o p i)⟩
 have vr:∀{c v},VR w ok g (Q4 s.mem) c v->VR w ok g' (Q4 (s.swap o p).mem) (c.ren (ZR o p)) v:=λ{c v} h=>by
  refine VR.OP (g:=g) (M:=Q4 s.mem) (ZR o p) (λi x P=>⟨l P,rfl,rfl⟩) ?_;rw[AV.GY];exact h
 refine⟨ok,g',⟨λi x P=>?_,λi j xi xj b I hj U a1=>?_,λi x b P hb=>?_,f.okb,f.okk,f.size,f.heap,λi I=>?_,f.os,f.tape,f.output,f.gi,f.gb⟩,h1,h2,λt=>?_⟩
 ·have T:=f.obj _ _ (l P);cases x with
  |blk t cs=>
   obtain⟨b,vs,k1,k2,J,k4,k5⟩:=T;refine⟨b,vs,k1,k2,by simpa[Bz]using J,λj c v hc hv=>?_,k5⟩;have:=vr (k4 j (c.ren (ZR o p)) v (by rw[Bz,List.getElem?_map,hc];rfl) hv)
   rwa [AV.GY]at this
  |arr e sz rows=>exact T
  |map ks ag n a2=>exact T
  |raw r=>exact RV.at' T rfl
 ·have:=f.inj _ _ _ _ b (l I) (l hj) U a1;rw[<-QE o p i,this,QE]
 ·obtain⟨k1,k2,J⟩:=f.own _ _ b (l P) hb;refine⟨k1,k2,?_⟩;rcases J with J|⟨J,k4⟩
  ·exact .inl J
  ·refine .inr ⟨J,?_⟩;rcases Nat.lt_or_ge i 500 with I|I
   ·exfalso;have h5:=Bi ho hp k4;rw[QE]at h5;omega
   ·exact I
 ·have h5:ZR o p i=i:=Bi ho hp (by have:=Nat.le_of_ble_eq_true I;omega);simp only[g',h5];exact f.keep i I
 ·have e:X4 (s.swap o p).fr t=(X4 s.fr t).ren (ZR o p):=CB o p s.fr t;rw[e];exact vr (h3 t)
theorem X8.Hw{P:Program}{c:Code}{Q:Exit->AS->Prop}{s s':AS}(l:List Nat)(h:Hw l s=some s')(k:X8 P c Q s'):X8 P c Q s:=X8.le (Le.Hw l h) k
theorem Qv.Gl{P:Program}{k:Nat}{args:List AV}{r:Nat->AV}{x:Option Q9}(h:Qv P k (args.map AV.Jk) r x):Qv P k args r x:=by
 refine⟨h.ent,h.rcl,h.nil,h.arr,λd w ok vals o f t C=>h.run d w ok vals o f (by simpa using t) λi c v l g=>?_⟩;rw[List.getElem?_map]at l;obtain⟨I,j,rfl⟩:=Option.map_eq_some_iff.1 l;exact(C i I v j g).Jk
end
section
open Go.RowKit Go.ChangeShapes Go.WideShapes
inductive RT (P:Program):TypeId->List D->Prop where
 |int {t:TypeId} (n:Int) (h:P.underlying t=some (.int .i64)) (lo: -9223372036854775808<=n) (hi:n<=9223372036854775807):RT P t [.int n]
 |bool {t:TypeId} (b:Bool) (h:P.underlying t=some .bool):RT P t [.bool b]
 |str {t:TypeId} (s:ByteArray) (h:P.underlying t=some .string) (hs:s.size<=reachBytes):RT P t [.str s]
 |sl {t e:TypeId} (rows:List (List D)) (h:P.underlying t=some (.slice e)) (hl:rows.length * P.bytesOf e<=reachBytes) (hr:∀r∈rows,RT P e r):RT P t [.sl rows]
 |struct {t:TypeId} {fs:Array Field} (parts:List (List D)) (h:P.underlying t=some (.struct fs)) (hl:parts.length=fs.size)
   (hf:∀(i:Nat) (f:Field) (p:List D),fs[i]? =some f->parts[i]? =some p->RT P f.type p):RT P t parts.flatten
mutual
def D.bulk:D->Nat
 | .str s=>s.size+1
 | .sl rows=>D.Tw rows+1
 | .ptr row=>D.Vq row+1
 |_=>1
def D.Vq:List D->Nat
 |[]=>0
 |d::r=>D.bulk d+D.Vq r
def D.Tw:List (List D)->Nat
 |[]=>0
 |r::l=>D.Vq r+D.Tw l
end
theorem Ff(a b:List D):D.Vq (a++b)=D.Vq a+D.Vq b:=by
 induction a with
 |nil=>simp[D.Vq]
 |cons d r f=>simp only[List.cons_append,D.Vq,f];omega
def tiled(P:Program):Nat->List Field->Nat->Bool
 |n,[],m=>n==m
 |n,f::r,m=>f.offset==n && tiled P (n+P.cellsOf f.type) r m
def JY(P:Program)(S:List TypeId):Bool:=
 S.all λt=>match P.underlying t with
  |some (.int .i64)=>true
  |some .bool=>true
  |some .string=>true
  |some (.slice e)=>S.contains e && decide (0<P.cellsOf e)
  |some (.struct g)=>g.toList.all (λf=>S.contains f.type) && tiled P 0 g.toList (P.cellsOf t)
  |_=>false
section
variable {H:Type} {enc:TypeId×Value->H} {P:Program} {w:World} {spare:Nat->Bool} {held:Bool}
def Reads(w:World)(cs:List Value)(ds:List D):Prop:=
 ds.length=cs.length/\∀(i:Nat) (d:D) (v:Value),ds[i]? =some d->cs[i]? =some v->Xk w (λb=>b<w.heap.size) d v
theorem Reads.one{d:D}{v:Value}(h:Xk w (λb=>b<w.heap.size) d v):Reads w [v] [d]:=by
 refine⟨rfl,λi j l f g=>?_⟩;match i with
 |0=>simp only[List.getElem?_cons_zero,Option.some.injEq]at f g;subst f;subst g;exact h
 |i+1=>simp at f
theorem Reads.append{cs f:List Value}{ds g:List D}(h:Reads w cs ds)(h':Reads w f g):Reads w (cs++f) (ds++g):=by
 refine⟨by simp[h.1,h'.1],λi d v j l=>?_⟩;by_cases o:i<ds.length
 ·rw[List.getElem?_append_left o]at j;rw[List.getElem?_append_left (by rw[<-h.1];exact o)]at l;exact h.2 i d v j l
 ·rw[List.getElem?_append_right (by omega)]at j;rw[List.getElem?_append_right (by rw[<-h.1];omega),<-h.1]at l;exact h'.2 _ d v j l
theorem Fe{p:Addr}{v:Value}(h:w.cell? p=some v):p.block<w.heap.size:=by
 unfold World.cell? at h;rcases Nat.lt_or_ge p.block w.heap.size with f|f
 ·exact f
 ·rw[Array.getElem?_eq_none f]at h;cases h
theorem TG{t:TypeId}{ds:List (DataW H)}{i:Nat}{d:DataW H}(h:(DataW.weightsAll P t ds).all (·<=reachBytes)=true)(f:ds[i]? =some d):(d.weights P t).all (·<=reachBytes)=true:=by
 induction ds generalizing i with
 |nil=>simp at f
 |cons x r g=>
  simp only[DataW.weightsAll,List.all_append,Bool.and_eq_true]at h;match i with
  |0=>simp only[List.getElem?_cons_zero,Option.some.injEq]at f;subst f;exact h.1
  |i+1=>exact g h.2 (by simpa using f)
theorem ME{ts:List TypeId}{ds:List (DataW H)}{i:Nat}{t:TypeId}{d:DataW H}(h:(DataW.weightsEach P ts ds).all (·<=reachBytes)=true)(f:ts[i]? =some t)(g:ds[i]? =some d):(d.weights P t).all (·<=reachBytes)=true:=by
 refine List.all_eq_true.2 λn j=>?_
 exact List.all_eq_true.1 h n (DataW.weights_mem_each f g n j)
theorem SA{S:List TypeId}(hS:JY P S=true):∀(fuel:Nat) (t:TypeId) (cs:List Value) (x:DataW H×List MemPlace),t∈S->DataW.trod enc P w 0 spare held fuel t cs=some x->
  (x.1.weights P t).all (·<=reachBytes)=true->∃ds,Reads w cs ds/\RT P t ds/\D.Vq ds<=Rows.uptoBulk x.1:=by
 intro fuel;induction fuel with
 |zero=>intro t cs x _ h;simp[DataW.trod]at h
 |succ n ih=>
  intro t cs x hT h hw;have hp:=List.all_eq_true.1 hS t hT;cases hu:P.underlying t with
  |none=>simp[hu]at hp
  |some u=>
   rw[hu]at hp;cases u with
   |int k=>
    cases k<;> first|(simp at hp;done)|skip
    obtain⟨m,rfl,rfl,b6⟩:=DataW.trod_int hu h;have hb: -9223372036854775808<=m/\m<=9223372036854775807:=by simpa[Lit.wf,IntKind.min,IntKind.max,IntKind.signed,IntKind.bits]using b6
    exact⟨[.int m],Reads.one (.int m hb.1 hb.2),.int m hu hb.1 hb.2,by simp[D.Vq,D.bulk,Rows.uptoBulk]⟩
   |bool=>
    obtain⟨b,rfl,rfl⟩:=DataW.trod_bool hu h;exact⟨[.bool b],Reads.one (.bool b),.bool b hu,by simp[D.Vq,D.bulk,Rows.uptoBulk]⟩
   |string=>
    obtain⟨s,rfl,rfl,hs⟩:=DataW.trod_string hu h;refine⟨[.str s],Reads.one (.str s hs),.str s hu ?_,by simp[D.Vq,D.bulk,Rows.uptoBulk]⟩;simpa[DataW.weights]using hw
   |slice e=>
    simp only[Bool.and_eq_true,decide_eq_true_eq]at hp;have b7:e∈S:=by simpa using hp.1
    rcases DataW.trod_slice hu h with⟨rfl,rfl⟩|⟨a,len,cap,J,a8,n',hn,rfl,rfl,hb,hl,hm,a9,b8,_,_⟩
    ·exact⟨[.sl []],Reads.one (.empty none 0 (λ_=>rfl) (Nat.zero_le _)),.sl [] hu (by simp) (by simp),by simp[D.Vq,D.bulk,D.Tw,Rows.uptoBulk]⟩
    ·cases hn;simp only[DataW.weights,hu,List.all_cons,List.all_append,Bool.and_eq_true,decide_eq_true_eq,List.length_map]at hw;obtain⟨d0,b9,_⟩:=hw;have c0:∀i,i<len->∃q:List Value×List D,q.1.length=P.cellsOf e/\(∀j,j<P.cellsOf e->w.cell? ((a.add (i * P.cellsOf e)).add j)=q.1[j]?)/\Reads w q.1 q.2/\RT P e q.2/\∀y,J[i]? =some y->D.Vq q.2<=Rows.uptoBulk y.1:=by
      intro i I;have hb:=b8 i I;rw[List.getElem?_eq_getElem (by omega)]at hb;obtain⟨b0,h1,h2⟩:=Option.bind_eq_some_iff.1 hb;obtain⟨_,h3,h4⟩:=World.cells?_some h1;obtain⟨ds,h5,h6,h7⟩:=ih e b0 _ b7 h2 (TG b9 (i:=i) (by rw[List.getElem?_map,List.getElem?_eq_getElem (by omega)];rfl));exact⟨(b0,ds),h3,h4,h5,h6,λy hy=>by rw[List.getElem?_eq_getElem (by omega)]at hy;cases hy;exact h7⟩
     obtain⟨q,hq⟩:=Deep.choose_lt c0;have T:∀(i:Nat) (r:List D),((List.range len).map λi=>(q i).2)[i]? =some r->i<len/\r=(q i).2:=by
      intro i r hr;rw[List.getElem?_map]at hr;rcases Nat.lt_or_ge i len with I|I
      ·rw[List.getElem?_range I]at hr;exact⟨I,(Option.some.inj hr).symm⟩
      ·rw[List.getElem?_eq_none (by simpa using I)]at hr;cases hr
     have c1:∀(l:List (DataW H×List MemPlace)) (k:Nat),(∀i,i<l.length->∀y,l[i]? =some y->D.Vq (q (k+i)).2<=Rows.uptoBulk y.1)->D.Tw ((List.range' k l.length).map λi=>(q i).2)<=Rows.uptoBulkAll (l.map (·.1)):=by
      intro l;induction l with
      |nil=>intro k _;simp[D.Tw]
      |cons y l a4=>
       intro k b1;simp only[List.length_cons,List.range'_succ,List.map_cons,D.Tw,Rows.uptoBulkAll];have h1:=b1 0 (by simp) y rfl;have h2:=a4 (k+1) λi I z hz=>by have:=b1 (i+1) (by simpa using I) z (by simpa using hz);rw[show k+1+i=k+(i+1)from by omega];exact this
       rw[Nat.add_zero]at h1;omega
     have c2:=c1 J 0 λi I y hy=>by rw[Nat.zero_add];exact(hq i (by omega)).2.2.2.2 y hy
     rw[a9,<-List.range_eq_range']at c2;refine⟨[.sl ((List.range len).map λi=>(q i).2)],Reads.one ?_,.sl _ hu ?_ ?_,by simp only[D.Vq,D.bulk,Rows.uptoBulk];omega⟩
     ·rcases Nat.eq_zero_or_pos len with rfl|a1
      ·exact .empty (some a) cap (by simp) hm
      ·obtain⟨b,o,sp⟩:=a;have b2:=hq 0 a1;have a5:∃v,(q 0).1[0]? =some v:=⟨(q 0).1[0]'(by rw[b2.1];exact hp.2),List.getElem?_eq_getElem _⟩
       obtain⟨v0,a5⟩:=a5;have U:=(b2.2.1 0 hp.2).trans a5;have c3:sp=none:=by simpa[Addr.add]using World.cell?_spot U
       subst c3;have b3:=Fe U;have b4:=Xk.sl (w:=w) (ok:=λb=>b<w.heap.size) ((List.range len).map λi=>(q i).2) (P.cellsOf e) b o cap (λi j=>(q i).1.getD j .nilIface) (by simp;omega) (by simpa using hl) hm
        (λi r hr=>by obtain⟨I,rfl⟩:=T i r hr;rw[(hq i I).2.2.1.1,(hq i I).1]) (by simpa[Addr.add]using b3) ?_ ?_
       ·simpa using b4
       ·intro i j I hj;have a2:i<len:=by simpa using I
        have:=(hq i a2).2.1 j hj;rw[Deep.add_add,add_plain]at this;rw[this,List.getD,List.getElem?_eq_getElem (by rw[(hq i a2).1];exact hj)];rfl
       ·intro i j r d hr hd;obtain⟨I,rfl⟩:=T i r hr;have hj:j<(q i).2.length:=(List.getElem?_eq_some_iff.1 hd).1;rw[(hq i I).2.2.1.1]at hj;refine(hq i I).2.2.1.2 j d _ hd ?_;rw[List.getD,List.getElem?_eq_getElem hj];rfl
     ·have:len * P.bytesOf e<=(J.length+a8.length) * P.bytesOf e:=Nat.mul_le_mul_right _ (by omega);simp;omega
     ·intro r hr;obtain⟨i,I⟩:=List.mem_iff_getElem?.1 hr;obtain⟨a2,rfl⟩:=T i r I;exact(hq i a2).2.2.2.1
   |struct fs=>
    simp only[Bool.and_eq_true]at hp;obtain⟨xs,n',hn,rfl,c4,c5,hf⟩:=DataW.trod_struct hu h;cases hn;simp only[DataW.weights,hu]at hw;have key:∀(l:List Field) (k pos:Nat),(∀i,l[i]? =fs[k+i]?)->tiled P pos l (P.cellsOf t)=true->pos<=cs.length->∃C:List (List D),C.length=l.length/\Reads w (cs.drop pos) C.flatten/\D.Vq C.flatten<=Rows.uptoBulkAll ((xs.drop k).map (·.1))/\
      ∀(i:Nat) (f:Field) (p:List D),l[i]? =some f->C[i]? =some p->RT P f.type p:=by
     intro l;induction l with
     |nil=>
      intro k pos _ ht a1;simp only[tiled,beq_iff_eq]at ht;refine⟨[],rfl,?_,by simp[D.Vq],by simp⟩;rw[List.drop_of_length_le (by omega)];exact⟨rfl,by simp⟩
     |cons f r a4=>
      intro k pos hl ht a1;simp only[tiled,Bool.and_eq_true,beq_iff_eq]at ht;have a3:fs[k]? =some f:=by have:=hl 0;simpa using this.symm
      have c6:f.type∈S:=by
       have:=List.all_eq_true.1 hp.1 f (by have:=Array.mem_of_getElem? a3;simpa using this);simpa using this
      have hx:=hf k f a3;have a6:k<xs.length:=by rw[c5];exact(Array.getElem?_eq_some_iff.1 a3).1
      rw[List.getElem?_eq_getElem a6,ht.1]at hx;obtain⟨ds,h5,h6,d1⟩:=ih f.type _ _ c6 hx (ME hw (i:=k) (by rw[List.getElem?_map];simp[a3]) (by rw[List.getElem?_map,List.getElem?_eq_getElem a6];rfl));have c7:pos+P.cellsOf f.type<=cs.length:=by
       have hm:∀(l:List Field) (p m:Nat),tiled P p l m=true->p<=m:=by
        intro l;induction l with
        |nil=>intro p m h;simp only[tiled,beq_iff_eq]at h;omega
        |cons g r ih=>intro p m h;simp only[tiled,Bool.and_eq_true]at h;have:=ih _ _ h.2;omega
       rw[c4];exact hm _ _ _ ht.2
      obtain⟨C,h7,h8,b5,h9⟩:=a4 (k+1) (pos+P.cellsOf f.type) (λi=>by have:=hl (i+1);rw[List.getElem?_cons_succ]at this;rw[this];congr 1;omega) ht.2 c7;refine⟨ds::C,by simp[h7],?_,?_,?_⟩
      ·have e:cs.drop pos=(cs.drop pos).take (P.cellsOf f.type)++cs.drop (pos+P.cellsOf f.type):=by
        rw[<-List.drop_drop,List.take_append_drop]
       rw[e,List.flatten_cons];exact h5.append h8
      ·rw[List.flatten_cons,Ff,List.drop_eq_getElem_cons a6];simp only[List.map_cons,Rows.uptoBulkAll];omega
      ·intro i g p hg a7;match i with
       |0=>simp only[List.getElem?_cons_zero,Option.some.injEq]at hg a7;subst hg;subst a7;exact h6
       |i+1=>exact h9 i g p (by simpa using hg) (by simpa using a7)
    obtain⟨C,h7,h8,b5,h9⟩:=key fs.toList 0 0 (λi=>by simp) hp.2 (Nat.zero_le _);refine⟨C.flatten,by simpa using h8,.struct C hu (by simpa using h7) λi f p c8 c9=>h9 i f p (by simpa using c8) c9,?_⟩;simp only[Rows.uptoBulk];simp only[List.drop_zero]at b5;omega
   |_=>simp at hp
end
end
section
open Go.RowKit Go.ChangeShapes Go.WideShapes
inductive Ql (P:Program):TypeId->AV->Prop where
 |one {t:TypeId} {d:D} (h:RT P t [d]) (hn:∀fs,P.underlying t≠some (.struct fs)):Ql P t (.d d)
 |agg {t:TypeId} {ds:List D} {fs:Array Field} (h:RT P t ds) (hs:P.underlying t=some (.struct fs)):Ql P t (.agg (ds.map .d))
def AV.bulk:AV->Nat
 | .d x=>x.bulk
 | .agg cs=>D.Vq ((ZQ cs).getD [])
 |_=>0
def VA:List AV->Nat
 |[]=>0
 |c::r=>c.bulk+VA r
theorem OX(ds:List D):ZQ (ds.map .d)=some ds:=by
 induction ds with
 |nil=>rfl
 |cons d r f=>simp only[List.map_cons,ZQ,KI,f]
def JA(P:Program):List TypeId->List AV->Prop
 |[],[]=>True
 |t::ts,c::cs=>Ql P t c/\JA P ts cs
 |_,_=>False
section
variable {H:Type} {enc:TypeId×Value->H} {P:Program} {w W W':World}
theorem Qj2{cs:List Value}{ds:List D}(h:Reads w cs ds)(i:Nat)(c:AV)(v:Value)(f:(ds.map AV.d)[i]? =some c)(g:cs[i]? =some v):VR w (λb=>b<w.heap.size) Ug FQ c v:=by
 rw[List.getElem?_map]at f;cases hd:ds[i]? with
 |none=>rw[hd]at f;cases f
 |some d=>
  rw[hd]at f;cases f;exact .d d v (h.2 i d v hd g)
theorem LV{cs:List Value}{ds:List D}(h:Reads w cs ds)(i:Nat)(v:Value)(f:cs[i]? =some v):v.oneCell'=true:=by
 have g:i<ds.length:=by rw[h.1];exact(List.getElem?_eq_some_iff.1 f).1
 exact(h.2 i ds[i] v (List.getElem?_eq_getElem g) f).oneCell
theorem EU{S:List TypeId}(J:JY P S=true){spare:Nat->Bool}{held:Bool}{t:TypeId}{v:Value}{d:DataW H}{ps:List MemPlace}(T:t∈S){base:Nat}(f:Value.okWide P w .any base t v)
  (h:DataW.Trod enc P w 0 spare held t v d ps) (hw:(d.weights P t).all (·<=reachBytes)=true):∃c,Ql P t c/\VR w (λb=>b<w.heap.size) Ug FQ c v/\c.bulk<=Rows.uptoBulk d:=by
 obtain⟨n,hn⟩:=h;obtain⟨ds,r,U,o⟩:=SA J n t _ _ T hn hw;have g:(∀fs,P.underlying t≠some (.struct fs))->v.cells= #[v]->∃c,Ql P t c/\VR w (λb=>b<w.heap.size) Ug FQ c v/\c.bulk<=Rows.uptoBulk d:=λC j=>by
  rw[j]at r;have hl:=r.1;match ds,hl with
  |[d],_=>exact⟨.d d,.one U C,.d d v (r.2 0 d v rfl rfl),by simpa[D.Vq,AV.bulk]using o⟩
 have hp:=List.all_eq_true.1 J t T;cases hu:P.underlying t with
 |none=>simp[hu]at hp
 |some u=>
  cases u with
  |int k=>obtain⟨_,rfl⟩:=okWide_int hu f;exact g (by simp[hu]) rfl
  |bool=>obtain⟨_,rfl⟩:=okWide_bool hu f;exact g (by simp[hu]) rfl
  |string=>obtain⟨_,rfl⟩:=okWide_string hu f;exact g (by simp[hu]) rfl
  |slice e=>obtain⟨_,_,_,rfl⟩:=okWide_slice hu f;exact g (by simp[hu]) rfl
  |struct fs=>
   obtain⟨cs,rfl,_⟩:=okWide_struct hu f;have l:Reads w cs.toList ds:=r;refine⟨.agg (ds.map .d),.agg U hu,.agg _ _ (by have:=l.1;simpa using this) (λi c v hc I=>?_) (λi v I=>?_),by simp only[AV.bulk,OX,Option.getD_some];exact o⟩
   ·exact Qj2 l i c v hc (by simpa using I)
   ·exact LV l i v (by simpa using I)
  |_=>simp[hu]at hp
theorem UT{S:List TypeId}(C:JY P S=true){spare:Nat->Bool}{held:Bool}{base:Nat}:∀{ts:List TypeId} {vs:List Value} {ds:List (DataW H)} {ps:List MemPlace},(∀t∈ts,t∈S)->
  (∀(j:Nat) t v,ts[j]? =some t->vs[j]? =some v->Value.okWide P w .any base t v)->DataW.TrodAll enc P w 0 spare held ts vs ds ps->(DataW.weightsEach P ts ds).all (·<=reachBytes)=true->
  ∃cs,JA P ts cs/\cs.length=vs.length/\(∀(i:Nat) (c:AV) (v:Value),cs[i]? =some c->vs[i]? =some v->VR w (λb=>b<w.heap.size) Ug FQ c v)/\VA cs<=Rows.uptoBulkAll ds
 |[],[],[],_,_,_,_,_=>⟨[],trivial,rfl,λi c v h=>by simp at h,by simp[VA]⟩
 |t::ts,v::vs,d::ds,ps,I,f,⟨p,q,J,T,e⟩,l=>by
  simp only[DataW.weightsEach,List.all_append,Bool.and_eq_true]at l;obtain⟨c,U,k2,a1⟩:=EU C (I t (List.mem_cons_self ..)) (f 0 t v rfl rfl) J l.1;obtain⟨cs,k3,k4,k5,k6⟩:=UT C (λt o=>I t (List.mem_cons_of_mem _ o)) (λj t v o g=>f (j+1) t v (by simpa using o) (by simpa using g)) T l.2;refine⟨c::cs,⟨U,k3⟩,by simp[k4],λi c' v' r g=>?_,by simp only[VA,Rows.uptoBulkAll];omega⟩;match i with
  |0=>simp only[List.getElem?_cons_zero,Option.some.injEq]at r g;subst r;subst g;exact k2
  |i+1=>exact k5 i c' v' (by simpa using r) (by simpa using g)
theorem Kt(j:laidOutB P=true)(l:Below W.heap.size W W'):∀{ts:List TypeId} {vs:List Value} {ds:List (DataW H)} {ps:List MemPlace},(∀t∈ts,P.readableRec t=true/\t<P.types.size)->
  DataW.TrodAll enc P W 0 (λ_=>true) true ts vs ds ps->(∀x∈ps,x.block<W.heap.size)->DataW.TrodAll enc P W' 0 (λb=>decide (b<W.heap.size)) true ts vs ds ps
 |[],[],[],_,_,h,_=>h
 |t::ts,v::vs,d::ds,ps,g,⟨p,q,o,r,e⟩,f=>by
  subst e;exact⟨p,q,Below.trod j (g t (List.mem_cons_self ..)).1 (g t (List.mem_cons_self ..)).2 o l (λx i=>f x (List.mem_append_left _ i)),
   Kt j l (λt C=>g t (List.mem_cons_of_mem _ C)) r (λx i=>f x (List.mem_append_right _ i)),rfl⟩
theorem Ri:∀{ts:List TypeId} {vs:List Value} {ds:List (DataW H)} {ps:List MemPlace} {b:Nat} {f:Nat->Bool} {g:Bool},DataW.TrodAll enc P W b f g ts vs ds ps->ds.length=ts.length
 |[],[],[],_,_,_,_,_=>rfl
 |t::ts,v::vs,d::ds,ps,_,_,_,⟨p,q,j,i,e⟩=>by simp[Ri i]
theorem PR{S:List TypeId}(hS:JY P S=true){k:Nat}{fn:Func}(hp:∀t∈fn.params.toList,t∈S){s:ChangeSpec}(o:s.vars=[]){tb:TypeId}(T:fn.resultTypes= #[tb])(U:P.underlying tb=some .bool)
  (hl:laidOutB P=true) (hr:∀t∈fn.params.toList,P.readableRec t=true/\t<P.types.size)
  (hs:∀ds:List (DataW H),ds.length=fn.params.toList.length->s.fn H ds={ results:=[.lit (.bool true)],args:=ds })
  {B:Nat} (l:∀cs:List AV,JA P fn.params.toList cs->VA cs<=B->Qv P k cs (λ_=>.d (.bool true)) none)
  {base:Nat} {args:Array Value} {ds gs:List (DataW H)} {g:List MemPlace} (a1:Rows.uptoBulkAll ds<=B) (C:∀(j:Nat) t v,fn.params[j]? =some t->args[j]? =some v->Value.okWide P W .any base t v)
  (hW:DataW.Whole enc P fn.params.toList s.vars false W args.toList ds gs g) (hw:(DataW.weightsEach P (fn.params.toList++s.plain.varTypes P) (ds++gs)).all (·<=reachBytes)=true) (a2:GI W):
  Calls P k args W λe W'=>∃v,e= .returned v/\s.post enc P fn false true false false W args v W':=by
 have I:=hW;obtain⟨p,q,hA,hV,rfl,a8,a9⟩:=hW;rw[o]at hV;obtain⟨a3,rfl⟩:=trodVars_none hV;subst a3;have f:=Ri hA;have a4:(DataW.weightsEach P fn.params.toList ds).all (·<=reachBytes)=true:=by
  refine List.all_eq_true.2 λn hn=>List.all_eq_true.1 hw n ?_
  rw[List.append_nil];have:∀(ts J:List TypeId) (ds:List (DataW H)),n∈DataW.weightsEach P ts ds->n∈DataW.weightsEach P (ts++J) ds:=by
   intro ts;induction ts with
   |nil=>intro J ds h;simp[DataW.weightsEach]at h
   |cons t r ih=>
    intro J ds h;cases ds with
    |nil=>simp[DataW.weightsEach]at h
    |cons d ds=>
     simp only[List.cons_append,DataW.weightsEach,List.mem_append]at h⊢;exact h.imp id (ih J ds)
  exact this _ _ _ hn
 obtain⟨cs,h1,h2,h3,h4⟩:=UT hS (base:=base) hp (λj t v ht o=>C j t v (by simpa using ht) (by simpa using o)) hA a4;refine((l cs h1 (by omega)).run 0 W (λb=>b<W.heap.size) args a2 (λb hb=>hb) (by simpa using h2) (λi c v hc o=>h3 i c v hc (by simpa using o))).mono ?_;rintro e W' ⟨v,ok',g',rfl,hB,_,_,a5,_⟩;have a6:v= .bool true:=by
  cases a5 with
  |d _ _ h=>cases h;rfl
 subst a6;have a7:∀x∈p++[],x.block<W.heap.size:=I.lt;refine⟨_,rfl,ds,[],p++[],[],p++[],[],I,?_,?_,?_,hB.frame _,λh=>by cases h⟩
 ·rw[List.append_nil,hs ds f,T];exact trodAll_cons_mk (shut_bool U _) trodAll_mk0
 ·rw[List.append_nil,hs ds f,List.append_nil];exact Kt hl hB hr hA (by simpa using a7)
 ·rw[List.append_nil,hs ds f,o];rfl
end
end
section
section
variable {P:Program} {t e:TypeId} {ds:List D} {c:AV}
theorem RT.X5(h:RT P t ds)(f:P.underlying t=some (.int .i64)):∃n:Int,ds=[.int n]∧-9223372036854775808<=n/\n<=9223372036854775807:=by
 cases h<;> simp_all
theorem RT.P9(h:RT P t ds)(f:P.underlying t=some .string):∃s:ByteArray,ds=[.str s]/\s.size<=reachBytes:=by
 cases h<;> simp_all
theorem RT.Ik(h:RT P t ds)(f:P.underlying t=some (.slice e)):∃rows:List (List D),ds=[.sl rows]/\rows.length * P.bytesOf e<=reachBytes/\∀r∈rows,RT P e r:=by
 cases h with
 |sl rows h g hr=>
  rw[f]at h;cases h;exact⟨rows,rfl,g,hr⟩
 |_=>simp_all
theorem RT.Lt{j:Array Field}(h:RT P t ds)(l:P.underlying t=some (.struct j)):∃g:List (List D),ds=g.flatten/\g.length=j.size/\
  ∀(i:Nat) (f:Field) (p:List D),j[i]? =some f->g[i]? =some p->RT P f.type p:=by
 cases h with
 |struct g h o r=>
  rw[l]at h;cases h;exact⟨g,rfl,o,r⟩
 |_=>simp_all
theorem RT.TM{l f1 o:Field}(h:RT P t ds)(C:P.underlying t=some (.struct #[l,f1,o])):∃g i j,ds=g++(i++j)/\RT P l.type g/\RT P f1.type i/\RT P o.type j:=by
 obtain⟨f,rfl,I,r⟩:=h.Lt C;match f,I with
 |[g,i,j],_=>exact⟨g,i,j,by simp,r 0 l g rfl rfl,r 1 f1 i rfl rfl,r 2 o j rfl rfl⟩
theorem VW{f:Type}{row:f->List D}{p:f->Prop}:∀{rows:List (List D)},(∀r∈rows,∃x,r=row x/\p x)->∃l:List f,rows=l.map row/\∀x∈l,p x
 |[],_=>⟨[],rfl,by simp⟩
 |r::g,h=>by
  obtain⟨x,rfl,i⟩:=h r (List.mem_cons_self ..);obtain⟨l,rfl,j⟩:=VW (rows:=g) λr hr=>h r (List.mem_cons_of_mem _ hr)
  exact⟨x::l,rfl,by simpa using⟨i,j⟩⟩
theorem RT.Eh{g:Type}{row:g->List D}{p:g->Prop}(f:∀r,RT P e r->∃x,r=row x/\p x)(h:RT P t ds)(i:P.underlying t=some (.slice e)):
  ∃l:List g,ds=[.sl (l.map row)]/\l.length * P.bytesOf e<=reachBytes/\∀x∈l,p x:=by
 obtain⟨rows,rfl,j,hr⟩:=h.Ik i;obtain⟨l,rfl,hp⟩:=VW λr h=>f r (hr r h)
 exact⟨l,rfl,by simpa using j,hp⟩
theorem RT.Qq5(h:RT P t ds)(f:P.underlying t=some (.slice e))(g:P.underlying e=some .string):
  ∃l:List ByteArray,ds=[.sl (l.map λn=>[.str n])]/\l.length * P.bytesOf e<=reachBytes/\∀n∈l,n.size<=reachBytes:=
 RT.Eh (λr hr=>hr.P9 g) h f
theorem Ql.Pp(h:Ql P t c)(f:∀g,P.underlying t≠some (.struct g)):∃d,c= .d d/\RT P t [d]:=by
 cases h with
 |one h _=>exact⟨_,rfl,h⟩
 |agg h i=>exact absurd i (f _)
theorem Ql.int(h:Ql P t c)(f:P.underlying t=some (.int .i64)):∃n:Int,c= .d (.int n)∧-9223372036854775808<=n/\n<=9223372036854775807:=by
 obtain⟨d,rfl,g⟩:=h.Pp (by simp[f]);obtain⟨n,i,j,l⟩:=g.X5 f;exact⟨n,by simpa using i,j,l⟩
theorem Ql.str(h:Ql P t c)(f:P.underlying t=some .string):∃s:ByteArray,c= .d (.str s)/\s.size<=reachBytes:=by
 obtain⟨d,rfl,g⟩:=h.Pp (by simp[f]);obtain⟨n,i,j⟩:=g.P9 f;exact⟨n,by simpa using i,j⟩
theorem Ql.list{g:Type}{row:g->List D}{p:g->Prop}(h:Ql P t c)(f:∀r,RT P e r->∃x,r=row x/\p x)(i:P.underlying t=some (.slice e)):
  ∃l:List g,c= .d (.sl (l.map row))/\l.length * P.bytesOf e<=reachBytes/\∀x∈l,p x:=by
 obtain⟨d,rfl,j⟩:=h.Pp (by simp[i]);obtain⟨l,o,C⟩:=RT.Eh f j i;exact⟨l,by simpa using o,C⟩
theorem Ql.ints(h:Ql P t c)(f:P.underlying t=some (.slice e))(g:P.underlying e=some (.int .i64)):
  ∃l:List Int,c= .d (.sl (l.map λn=>[.int n]))/\l.length * P.bytesOf e<=reachBytes/\∀n∈l,-9223372036854775808<=n/\n<=9223372036854775807:=
 h.list (λr hr=>hr.X5 g) f
theorem JA.cons_inv{ts:List TypeId}{cs:List AV}(h:JA P (t::ts) cs):∃c r,cs=c::r/\Ql P t c/\JA P ts r:=by
 cases cs with
 |nil=>exact h.elim
 |cons c r=>exact⟨c,r,rfl,h.1,h.2⟩
theorem JA.Zv9{cs:List AV}(h:JA P [] cs):cs=[]:=by
 cases cs with
 |nil=>rfl
 |cons c r=>exact h.elim
end
end
end Go.Proofs.YtnddiddkmhiclaaGreatDoor
namespace Go.Proofs
open Go.Shelf
def Tryz.PP:Go.Shelf.Ren:=⟨fun|171=>71|243=>87|246=>96|283=>102|284=>103|285=>104|286=>105|129=>110|317=>109|318=>111|319=>112|320=>113|337=>116|338=>117|n=>n,fun|3=>3|9=>9|2=>2|4=>4|171=>168|0=>0|53=>169|37=>162|5=>5|173=>172|212=>183|51=>184|20=>20|213=>185|46=>176|232=>194|233=>195|n=>n,fun|17=>2|18=>3|19=>4|n=>n⟩
theorem Tryz.Qw6:Go.Proofs.LaysM.n171 Tryz.prog Tryz.PP:={
 mixed:=by kernel_rfl
 f129:=Tryz.func110.trans (congrArg some (by kernel_rfl))
 f171:=Tryz.func71.trans (congrArg some (by kernel_rfl))
 f243:=Tryz.func87.trans (congrArg some (by kernel_rfl))
 f246:=Tryz.func96.trans (congrArg some (by kernel_rfl))
 f283:=Tryz.func102.trans (congrArg some (by kernel_rfl))
 f284:=Tryz.func103.trans (congrArg some (by kernel_rfl))
 f285:=Tryz.func104.trans (congrArg some (by kernel_rfl))
 f286:=Tryz.func105.trans (congrArg some (by kernel_rfl))
 f317:=Tryz.func109.trans (congrArg some (by kernel_rfl))
 f318:=Tryz.func111.trans (congrArg some (by kernel_rfl))
 f319:=Tryz.func112.trans (congrArg some (by kernel_rfl))
 f320:=Tryz.func113.trans (congrArg some (by kernel_rfl))
 f337:=Tryz.func116.trans (congrArg some (by kernel_rfl))
 f338:=Tryz.func117.trans (congrArg some (by kernel_rfl))
 t0:=Tryz.underlying0
 a0:=Tryz.isAgg0
 z0:=Tryz.sizeOf0
 v0:=Tryz.zeroValue0
 t2:=Tryz.underlying2
 a2:=Tryz.isAgg2
 z2:=Tryz.sizeOf2
 v2:=Tryz.zeroValue2
 t3:=Tryz.underlying3
 a3:=Tryz.isAgg3
 z3:=Tryz.sizeOf3
 v3:=Tryz.zeroValue3
 t4:=Tryz.underlying4
 a4:=Tryz.isAgg4
 z4:=Tryz.sizeOf4
 v4:=Tryz.zeroValue4
 t5:=Tryz.underlying5
 a5:=Tryz.isAgg5
 z5:=Tryz.sizeOf5
 v5:=Tryz.zeroValue5
 t9:=Tryz.underlying9
 a9:=Tryz.isAgg9
 z9:=Tryz.sizeOf9
 v9:=Tryz.zeroValue9
 t20:=Tryz.underlying20
 a20:=Tryz.isAgg20
 z20:=Tryz.sizeOf20
 v20:=Tryz.zeroValue20
 t37:=Tryz.underlying162
 a37:=Tryz.isAgg162
 z37:=Tryz.sizeOf162
 v37:=Tryz.zeroValue162
 t46:=Tryz.underlying176
 a46:=Tryz.isAgg176
 z46:=Tryz.sizeOf176
 v46:=Tryz.zeroValue176
 t51:=Tryz.underlying184
 a51:=Tryz.isAgg184
 z51:=Tryz.sizeOf184
 v51:=Tryz.zeroValue184
 t53:=Tryz.underlying169
 a53:=Tryz.isAgg169
 z53:=Tryz.sizeOf169
 v53:=Tryz.zeroValue169
 t171:=Tryz.underlying168
 a171:=Tryz.isAgg168
 z171:=Tryz.sizeOf168
 v171:=Tryz.zeroValue168
 t173:=Tryz.underlying172
 a173:=Tryz.isAgg172
 z173:=Tryz.sizeOf172
 v173:=Tryz.zeroValue172
 t212:=Tryz.underlying183
 a212:=Tryz.isAgg183
 z212:=Tryz.sizeOf183
 v212:=Tryz.zeroValue183
 t213:=Tryz.underlying185
 a213:=Tryz.isAgg185
 z213:=Tryz.sizeOf185
 t232:=Tryz.underlying194
 a232:=Tryz.isAgg194
 z232:=Tryz.sizeOf194
 v232:=Tryz.zeroValue194
 t233:=Tryz.underlying195
 a233:=Tryz.isAgg195
 z233:=Tryz.sizeOf195
 v233:=Tryz.zeroValue195
 g17:=by kernel_rfl
 g18:=by kernel_rfl
 g19:=by kernel_rfl
 i0:=by kernel_rfl
 i2:=by kernel_rfl
 i3:=by kernel_rfl
 i4:=by kernel_rfl
 i5:=by kernel_rfl
 i9:=by kernel_rfl
 i20:=by kernel_rfl
 i37:=by kernel_rfl
 i46:=by kernel_rfl
 i51:=by kernel_rfl
 i53:=by kernel_rfl
 i171:=by kernel_rfl
 i173:=by kernel_rfl
 i212:=by kernel_rfl
 i232:=by kernel_rfl
 i233:=by kernel_rfl
 m17:=by kernel_rfl
 m18:=by kernel_rfl
 m19:=by kernel_rfl }
open Go.RowKit Go.Sort Go.Lib in
theorem Tryz.strconv_Itoa(n:Int)(g: -9223372036854775808<=n)(i:n<=9223372036854775807)(w:World)(f:Lib.TabIs Tryz.prog w "internal/strconv.uint64pow10" .u64 Lib.pow10Tab):
  Calls Tryz.prog 71 #[.int .i64 n] w λe w'=>e= .returned (.string ⟨(Lib.itoa n).toArray⟩)/\∃k os,w'=grow (w.drewN k) os:=Any.strconv_Itoa Tryz.Qw6 n g i w f
def Tryz.PQ:Go.Shelf.Ren:=⟨fun|172=>76|244=>88|245=>89|247=>97|279=>98|280=>99|281=>100|282=>101|287=>106|316=>107|171=>71|205=>108|321=>114|322=>115|243=>87|246=>96|283=>102|284=>103|285=>104|286=>105|129=>110|317=>109|318=>111|319=>112|320=>113|337=>116|338=>117|n=>n,fun|9=>9|3=>3|75=>137|76=>138|4=>4|5=>5|167=>161|37=>162|0=>0|85=>163|2=>2|168=>165|53=>169|175=>174|46=>176|210=>179|127=>189|145=>192|143=>190|21=>21|171=>168|173=>172|212=>183|51=>184|20=>20|213=>185|232=>194|233=>195|80=>78|n=>n,fun|15=>0|16=>1|17=>2|18=>3|19=>4|n=>n⟩
theorem Tryz.Dy:Go.Proofs.LaysC.n172 Tryz.prog Tryz.PQ:={
 mixed:=by kernel_rfl
 f129:=Tryz.func110.trans (congrArg some (by kernel_rfl))
 f171:=Tryz.func71.trans (congrArg some (by kernel_rfl))
 f172:=Tryz.func76.trans (congrArg some (by kernel_rfl))
 f205:=Tryz.func108.trans (congrArg some (by kernel_rfl))
 f243:=Tryz.func87.trans (congrArg some (by kernel_rfl))
 f244:=Tryz.func88.trans (congrArg some (by kernel_rfl))
 f245:=Tryz.func89.trans (congrArg some (by kernel_rfl))
 f246:=Tryz.func96.trans (congrArg some (by kernel_rfl))
 f247:=Tryz.func97.trans (congrArg some (by kernel_rfl))
 f279:=Tryz.func98.trans (congrArg some (by kernel_rfl))
 f280:=Tryz.func99.trans (congrArg some (by kernel_rfl))
 f281:=Tryz.func100.trans (congrArg some (by kernel_rfl))
 f282:=Tryz.func101.trans (congrArg some (by kernel_rfl))
 f283:=Tryz.func102.trans (congrArg some (by kernel_rfl))
 f284:=Tryz.func103.trans (congrArg some (by kernel_rfl))
 f285:=Tryz.func104.trans (congrArg some (by kernel_rfl))
 f286:=Tryz.func105.trans (congrArg some (by kernel_rfl))
 f287:=Tryz.func106.trans (congrArg some (by kernel_rfl))
 f316:=Tryz.func107.trans (congrArg some (by kernel_rfl))
 f317:=Tryz.func109.trans (congrArg some (by kernel_rfl))
 f318:=Tryz.func111.trans (congrArg some (by kernel_rfl))
 f319:=Tryz.func112.trans (congrArg some (by kernel_rfl))
 f320:=Tryz.func113.trans (congrArg some (by kernel_rfl))
 f321:=Tryz.func114.trans (congrArg some (by kernel_rfl))
 f322:=Tryz.func115.trans (congrArg some (by kernel_rfl))
 f337:=Tryz.func116.trans (congrArg some (by kernel_rfl))
 f338:=Tryz.func117.trans (congrArg some (by kernel_rfl))
 t0:=Tryz.underlying0
 a0:=Tryz.isAgg0
 z0:=Tryz.sizeOf0
 v0:=Tryz.zeroValue0
 t2:=Tryz.underlying2
 a2:=Tryz.isAgg2
 z2:=Tryz.sizeOf2
 v2:=Tryz.zeroValue2
 t3:=Tryz.underlying3
 a3:=Tryz.isAgg3
 z3:=Tryz.sizeOf3
 v3:=Tryz.zeroValue3
 t4:=Tryz.underlying4
 a4:=Tryz.isAgg4
 z4:=Tryz.sizeOf4
 v4:=Tryz.zeroValue4
 t5:=Tryz.underlying5
 a5:=Tryz.isAgg5
 z5:=Tryz.sizeOf5
 v5:=Tryz.zeroValue5
 t9:=Tryz.underlying9
 a9:=Tryz.isAgg9
 z9:=Tryz.sizeOf9
 v9:=Tryz.zeroValue9
 t20:=Tryz.underlying20
 a20:=Tryz.isAgg20
 z20:=Tryz.sizeOf20
 v20:=Tryz.zeroValue20
 t21:=Tryz.underlying21
 a21:=Tryz.isAgg21
 z21:=Tryz.sizeOf21
 v21:=Tryz.zeroValue21
 t37:=Tryz.underlying162
 a37:=Tryz.isAgg162
 z37:=Tryz.sizeOf162
 v37:=Tryz.zeroValue162
 t46:=Tryz.underlying176
 a46:=Tryz.isAgg176
 z46:=Tryz.sizeOf176
 v46:=Tryz.zeroValue176
 t51:=Tryz.underlying184
 a51:=Tryz.isAgg184
 z51:=Tryz.sizeOf184
 v51:=Tryz.zeroValue184
 t53:=Tryz.underlying169
 a53:=Tryz.isAgg169
 z53:=Tryz.sizeOf169
 v53:=Tryz.zeroValue169
 t75:=Tryz.underlying137
 a75:=Tryz.isAgg137
 z75:=Tryz.sizeOf137
 v75:=Tryz.zeroValue137
 t76:=Tryz.underlying138
 a76:=Tryz.isAgg138
 z76:=Tryz.sizeOf138
 v76:=Tryz.zeroValue138
 t85:=Tryz.underlying163
 a85:=Tryz.isAgg163
 z85:=Tryz.sizeOf163
 v85:=Tryz.zeroValue163
 t127:=Tryz.underlying189
 a127:=Tryz.isAgg189
 z127:=Tryz.sizeOf189
 v127:=Tryz.zeroValue189
 t143:=Tryz.underlying190
 a143:=Tryz.isAgg190
 z143:=Tryz.sizeOf190
 v143:=Tryz.zeroValue190
 t145:=Tryz.underlying192
 a145:=Tryz.isAgg192
 z145:=Tryz.sizeOf192
 v145:=Tryz.zeroValue192
 t167:=Tryz.underlying161
 a167:=Tryz.isAgg161
 z167:=Tryz.sizeOf161
 v167:=Tryz.zeroValue161
 t168:=Tryz.underlying165
 a168:=Tryz.isAgg165
 z168:=Tryz.sizeOf165
 v168:=Tryz.zeroValue165
 t171:=Tryz.underlying168
 a171:=Tryz.isAgg168
 z171:=Tryz.sizeOf168
 v171:=Tryz.zeroValue168
 t173:=Tryz.underlying172
 a173:=Tryz.isAgg172
 z173:=Tryz.sizeOf172
 v173:=Tryz.zeroValue172
 t175:=Tryz.underlying174
 a175:=Tryz.isAgg174
 z175:=Tryz.sizeOf174
 v175:=Tryz.zeroValue174
 t210:=Tryz.underlying179
 a210:=Tryz.isAgg179
 z210:=Tryz.sizeOf179
 v210:=Tryz.zeroValue179
 t212:=Tryz.underlying183
 a212:=Tryz.isAgg183
 z212:=Tryz.sizeOf183
 v212:=Tryz.zeroValue183
 t213:=Tryz.underlying185
 a213:=Tryz.isAgg185
 z213:=Tryz.sizeOf185
 t232:=Tryz.underlying194
 a232:=Tryz.isAgg194
 z232:=Tryz.sizeOf194
 v232:=Tryz.zeroValue194
 t233:=Tryz.underlying195
 a233:=Tryz.isAgg195
 z233:=Tryz.sizeOf195
 v233:=Tryz.zeroValue195
 g15:=by kernel_rfl
 g16:=by kernel_rfl
 g17:=by kernel_rfl
 g18:=by kernel_rfl
 g19:=by kernel_rfl
 t80:=Tryz.underlying78
 a80:=Tryz.isAgg78
 z80:=Tryz.sizeOf78
 v80:=Tryz.zeroValue78
 i0:=by kernel_rfl
 i2:=by kernel_rfl
 i3:=by kernel_rfl
 i4:=by kernel_rfl
 i5:=by kernel_rfl
 i9:=by kernel_rfl
 i20:=by kernel_rfl
 i21:=by kernel_rfl
 i37:=by kernel_rfl
 i46:=by kernel_rfl
 i51:=by kernel_rfl
 i53:=by kernel_rfl
 i75:=by kernel_rfl
 i76:=by kernel_rfl
 i80:=by kernel_rfl
 i85:=by kernel_rfl
 i127:=by kernel_rfl
 i143:=by kernel_rfl
 i145:=by kernel_rfl
 i167:=by kernel_rfl
 i168:=by kernel_rfl
 i171:=by kernel_rfl
 i173:=by kernel_rfl
 i175:=by kernel_rfl
 i210:=by kernel_rfl
 i212:=by kernel_rfl
 i232:=by kernel_rfl
 i233:=by kernel_rfl
 m15:=by kernel_rfl
 m16:=by kernel_rfl
 m17:=by kernel_rfl
 m18:=by kernel_rfl
 m19:=by kernel_rfl
 c0:=by kernel_rfl
 c2:=by kernel_rfl
 c3:=by kernel_rfl
 c4:=by kernel_rfl
 c5:=by kernel_rfl
 c9:=by kernel_rfl
 c20:=by kernel_rfl
 c21:=by kernel_rfl
 c37:=by kernel_rfl
 c46:=by kernel_rfl
 c51:=by kernel_rfl
 c53:=by kernel_rfl
 c75:=by kernel_rfl
 c76:=by kernel_rfl
 c80:=by kernel_rfl
 c85:=by kernel_rfl
 c127:=by kernel_rfl
 c143:=by kernel_rfl
 c145:=by kernel_rfl
 c167:=by kernel_rfl
 c168:=by kernel_rfl
 c171:=by kernel_rfl
 c173:=by kernel_rfl
 c175:=by kernel_rfl
 c210:=by kernel_rfl
 c212:=by kernel_rfl
 c213:=by kernel_rfl
 c232:=by kernel_rfl
 c233:=by kernel_rfl }
open Go.RowKit in
theorem Tryz.strconv_Atoi_ok(s:ByteArray)(f:s.size<=9223372036854775806)(v:Int)(h:Lib.atoiAll s.data.toList= .ok v)(w:World):
  Calls Tryz.prog 76 #[.string s] w λe w'=>e= .returned (.tuple #[.int .i64 v,.nilIface])/\(w'=w\/∃t,w'=Lib.bytesWorld w 5 t):=Any.strconv_Atoi_ok Tryz.Dy s f v h w
open Go.RowKit in
theorem Tryz.strconv_Atoi_syntax_var(s:ByteArray)(f:s.size<=281474976710656)(h:Lib.atoiAll s.data.toList=Lib.atoiAll [])(tp:TypeId)(p:Value)(w:World)(g:w.var? Tryz.prog "strconv.ErrSyntax" =some #[.iface tp p]):
  Calls Tryz.prog 76 #[.string s] w λe w'=>∃N,e= .returned (.tuple #[.int .i64 0,.iface 165 (.pointer (some ⟨N,0,none⟩))])/\w.heap.size<=N/\w'.heap[N]? =some (.cells #[.string ⟨#[65,116,111,105]⟩,.string s,.iface tp p] 179 (0,0))/\Below w.heap.size w w':=Any.strconv_Atoi_syntax_var Tryz.Dy s f h tp p w g
open Go.RowKit in
theorem Tryz.strconv_Atoi_range_var(s:ByteArray)(f:s.size<=281474976710656)(h:Lib.atoiAll s.data.toList= .range)(tp:TypeId)(p:Value)(w:World)(g:w.var? Tryz.prog "strconv.ErrRange" =some #[.iface tp p]):
  Calls Tryz.prog 76 #[.string s] w λe w'=>∃N,e= .returned (.tuple #[.int .i64 (Lib.atoiSat s.data.toList),.iface 165 (.pointer (some ⟨N,0,none⟩))])/\w.heap.size<=N/\w'.heap[N]? =some (.cells #[.string ⟨#[65,116,111,105]⟩,.string s,.iface tp p] 179 (0,0))/\Below w.heap.size w w':=Any.strconv_Atoi_range_var Tryz.Dy s f h tp p w g
end Go.Proofs
namespace Go.Proofs.YtnddiddkmhiclaaGreatDoor
section
open Go.RowKit
mutual
inductive Tm where
 |mk (kind n:Int) (name token:ByteArray) (vars:List ByteArray) (args:List Tm) (cases:List Cs)
inductive Cs where
 |mk (tag:Int) (vars:List ByteArray) (body:Tm)
end
structure Fn where
 name:ByteArray
 params:List ByteArray
 body:Tm
mutual
def Tm.Ok:Tm->Prop
 | .mk _ _ a b vs xs cs=>(a.size<=140737488355328/\b.size<=140737488355328/\(∀s∈vs,s.size<=140737488355328))/\(vs.length<=8796093022207/\xs.length<=1172812402960/\cs.length<=925904528652)/\Tm.VI xs/\Cs.VI cs
def Tm.VI:List Tm->Prop
 |[]=>True
 |t::r=>t.Ok/\Tm.VI r
def Cs.Ok:Cs->Prop
 | .mk _ vs b=>(∀s∈vs,s.size<=140737488355328)/\vs.length<=8796093022207/\b.Ok
def Cs.VI:List Cs->Prop
 |[]=>True
 |c::r=>c.Ok/\Cs.VI r
end
theorem Tm.Xz:∀{l:List Tm},Tm.VI l<->∀t∈l,t.Ok
 |[]=>by simp[Tm.VI]
 |t::r=>by simp[Tm.VI,Tm.Xz (l:=r)]
theorem Cs.Xz:∀{l:List Cs},Cs.VI l<->∀t∈l,t.Ok
 |[]=>by simp[Cs.VI]
 |t::r=>by simp[Cs.VI,Cs.Xz (l:=r)]
structure Fn.Ok (f:Fn):Prop where
 name:f.name.size<=140737488355328
 params:f.params.length<=8796093022207
 sizes:∀s∈f.params,s.size<=140737488355328
 body:f.body.Ok
structure H5 (l:List Fn):Prop where
 len:l.length<=879609302220
 all:∀f∈l,f.Ok
abbrev Jj(s:ByteArray):List D:=[.str s]
abbrev Q6(l:List ByteArray):D:=.sl (l.map Jj)
mutual
def Tm.row:Tm->List D
 | .mk k n a b vs xs cs=>[.int k,.int n,.str a,.str b,Q6 vs,.sl (Tm.rows xs),.sl (Cs.rows cs)]
def Tm.rows:List Tm->List (List D)
 |[]=>[]
 |t::r=>t.row::Tm.rows r
def Cs.row:Cs->List D
 | .mk t vs b=>.int t::Q6 vs::b.row
def Cs.rows:List Cs->List (List D)
 |[]=>[]
 |c::r=>c.row::Cs.rows r
end
theorem Tm.Q3(l:List Tm):Tm.rows l=l.map Tm.row:=by
 induction l with
 |nil=>rfl
 |cons t r f=>simp only[Tm.rows,List.map_cons,f]
theorem Cs.Q3(l:List Cs):Cs.rows l=l.map Cs.row:=by
 induction l with
 |nil=>rfl
 |cons t r f=>simp only[Cs.rows,List.map_cons,f]
def Fn.row(f:Fn):List D:=.str f.name::Q6 f.params::f.body.row
mutual
def Tm.sz:Tm->Nat
 | .mk _ _ _ _ _ xs cs=>1+Tm.Xv xs+Cs.Xv cs
def Tm.Xv:List Tm->Nat
 |[]=>0
 |t::r=>t.sz+Tm.Xv r
def Cs.sz:Cs->Nat
 | .mk _ _ b=>b.sz
def Cs.Xv:List Cs->Nat
 |[]=>0
 |c::r=>c.sz+Cs.Xv r
end
theorem Tm.Z4{t:Tm}:∀{l:List Tm},t∈l->t.sz<=Tm.Xv l
 |[],h=>by cases h
 |x::l,h=>by
  simp only[Tm.Xv];rcases List.mem_cons.1 h with rfl|h
  ·omega
  ·have:=Tm.Z4 h;omega
theorem Cs.Z4{t:Cs}:∀{l:List Cs},t∈l->t.sz<=Cs.Xv l
 |[],h=>by cases h
 |x::l,h=>by
  simp only[Cs.Xv];rcases List.mem_cons.1 h with rfl|h
  ·omega
  ·have:=Cs.Z4 h;omega
def Cs.tag:Cs->Int| .mk t _ _=>t
def Cs.vars:Cs->List ByteArray| .mk _ v _=>v
def Cs.body:Cs->Tm| .mk _ _ b=>b
def Tm.kind:Tm->Int| .mk k _ _ _ _ _ _=>k
def Tm.n:Tm->Int| .mk _ n _ _ _ _ _=>n
def Tm.name:Tm->ByteArray| .mk _ _ a _ _ _ _=>a
def Tm.token:Tm->ByteArray| .mk _ _ _ b _ _ _=>b
def Tm.vars:Tm->List ByteArray| .mk _ _ _ _ v _ _=>v
def Tm.args:Tm->List Tm| .mk _ _ _ _ _ a _=>a
def Tm.cases:Tm->List Cs| .mk _ _ _ _ _ _ c=>c
abbrev Y3:Tm->AV
 | .mk k n a b vs xs cs=>.agg [Iv k,Iv n,Sv a,Sv b,.d (Q6 vs),La (xs.map Tm.row),La (cs.map Cs.row)]
abbrev F4(l:List Fn):AV:=La (l.map Fn.row)
abbrev Zh9(l:List Tm):AV:=La (l.map Tm.row)
abbrev Xw(l:List ByteArray):AV:=.d (Q6 l)
section
variable {ds:List D}
theorem MK(h:RT Tryz.prog 50 ds):∃l:List ByteArray,ds=[Q6 l]/\l.length<=8796093022207/\∀s∈l,s.size<=140737488355328:=by
 obtain⟨l,rfl,f,g⟩:=h.Qq5 Tryz.underlying50 Tryz.underlying9;rw[show Tryz.prog.bytesOf 9=16 by kernel_rfl]at f;unfold reachBytes at f g;exact⟨l,rfl,oM,λs i=>by have:=g s i;omega⟩
theorem Xz3:∀(t:TypeId) (ds:List D),RT Tryz.prog t ds->(t=54->∃x:Tm,ds=x.row/\x.Ok)/\(t=51->∃x:List Tm,ds=[.sl (x.map Tm.row)]/\x.length<=1172812402960/\∀y∈x,y.Ok)/\(t=87->∃x:Cs,ds=x.row/\x.Ok)/\(t=52->∃x:List Cs,ds=[.sl (x.map Cs.row)]/\x.length<=925904528652/\∀y∈x,y.Ok):=by
 intro t ds h;induction h with
 |int n h lo hi=>
  refine⟨?_,?_,?_,?_⟩<;> (rintro rfl;first|(rw[Tryz.underlying54]at h;cases h)|(rw[Tryz.underlying51]at h;cases h)|(rw[Tryz.underlying87]at h;cases h)|(rw[Tryz.underlying52]at h;cases h))
 |bool b h=>
  refine⟨?_,?_,?_,?_⟩<;> (rintro rfl;first|(rw[Tryz.underlying54]at h;cases h)|(rw[Tryz.underlying51]at h;cases h)|(rw[Tryz.underlying87]at h;cases h)|(rw[Tryz.underlying52]at h;cases h))
 |str s h hs=>
  refine⟨?_,?_,?_,?_⟩<;> (rintro rfl;first|(rw[Tryz.underlying54]at h;cases h)|(rw[Tryz.underlying51]at h;cases h)|(rw[Tryz.underlying87]at h;cases h)|(rw[Tryz.underlying52]at h;cases h))
 |sl rows h g hr C=>
  refine⟨?_,?_,?_,?_⟩
  ·rintro rfl;rw[Tryz.underlying54]at h;cases h
  ·rintro rfl;rw[Tryz.underlying51]at h;cases h;obtain⟨l,rfl,hp⟩:=VW (row:=Tm.row) (p:=Tm.Ok) λr i=>(C r i).1 rfl
   refine⟨l,rfl,?_,hp⟩;rw[List.length_map,show Tryz.prog.bytesOf 54=120 by kernel_rfl]at g;unfold reachBytes at g;omega
  ·rintro rfl;rw[Tryz.underlying87]at h;cases h
  ·rintro rfl;rw[Tryz.underlying52]at h;cases h;obtain⟨l,rfl,hp⟩:=VW (row:=Cs.row) (p:=Cs.Ok) λr i=>(C r i).2.2.1 rfl
   refine⟨l,rfl,?_,hp⟩;rw[List.length_map,show Tryz.prog.bytesOf 87=152 by kernel_rfl]at g;unfold reachBytes at g;omega
 |struct f h g j C=>
  refine⟨?_,?_,?_,?_⟩
  ·rintro rfl;rw[Tryz.underlying54]at h;cases h;match f,g with
   |[I,J,P,p3,p4,p5,p6],_=>
    obtain⟨k,rfl,_⟩:=(j 0 _ I rfl rfl).X5 Tryz.underlying3;obtain⟨n,rfl,_⟩:=(j 1 _ J rfl rfl).X5 Tryz.underlying3;obtain⟨a,rfl,ha⟩:=(j 2 _ P rfl rfl).P9 Tryz.underlying9;obtain⟨b,rfl,T⟩:=(j 3 _ p3 rfl rfl).P9 Tryz.underlying9;obtain⟨vs,rfl,U,o⟩:=MK (j 4 _ p4 rfl rfl);obtain⟨xs,rfl,hx,a1⟩:=(C 5 _ p5 rfl rfl).2.1 rfl;obtain⟨cs,rfl,hc,a2⟩:=(C 6 _ p6 rfl rfl).2.2.2 rfl;unfold reachBytes at ha T;exact⟨.mk k n a b vs xs cs,by simp[Tm.row,Tm.Q3,Cs.Q3],⟨⟨oM,oM,o⟩,⟨U,hx,hc⟩,Tm.Xz.2 a1,Cs.Xz.2 a2⟩⟩
  ·rintro rfl;rw[Tryz.underlying51]at h;cases h
  ·rintro rfl;rw[Tryz.underlying87]at h;cases h;match f,g with
   |[I,J,P],_=>
    obtain⟨k,rfl,_⟩:=(j 0 _ I rfl rfl).X5 Tryz.underlying3;obtain⟨vs,rfl,U,o⟩:=MK (j 1 _ J rfl rfl);obtain⟨b,rfl,T⟩:=(C 2 _ P rfl rfl).1 rfl;exact⟨.mk k vs b,by simp[Cs.row],o,U,T⟩
  ·rintro rfl;rw[Tryz.underlying52]at h;cases h
theorem Xh1(h:RT Tryz.prog 56 ds):∃f:Fn,ds=f.row/\f.Ok:=by
 obtain⟨C,I,J,rfl,i,j,l⟩:=h.TM Tryz.underlying56;obtain⟨a,rfl,o⟩:=i.P9 Tryz.underlying9;obtain⟨vs,rfl,r,g⟩:=MK j;obtain⟨b,rfl,t⟩:=(Xz3 _ _ l).1 rfl;unfold reachBytes at o;exact⟨⟨a,vs,b⟩,by simp[Fn.row],⟨(by omega:a.size<=140737488355328),r,g,t⟩⟩
theorem Zg0{c:AV}(h:Ql Tryz.prog 22 c):∃l:List Fn,c=La (l.map Fn.row)/\H5 l:=by
 obtain⟨l,rfl,f,hp⟩:=h.list (λr hr=>Xh1 hr) Tryz.underlying22;rw[show Tryz.prog.bytesOf 56=160 by kernel_rfl]at f;unfold reachBytes at f;exact⟨l,rfl,oM,hp⟩
end
end
section
open Go.RowKit
def Mv(n:Int):ByteArray:=⟨(Lib.itoa n).toArray⟩
theorem Ew{n:Int}(h:P7 n):(Mv n).size<=21:=by
 have:=Lib.itoa_length_le n h.1 h.2;simpa[Mv,ByteArray.size]using this
theorem MN(n:Int)(h:P7 n):Qv Tryz.prog 71 [Iv n] (λ_=>Sv (Mv n)) none:=by
 refine⟨⟨_,Tryz.func71,rfl,rfl⟩,λd=>rfl,λ_ d=>rfl,by simp,λd w ok vals f g i j=>?_⟩;match vals,i with
 |⟨[v]⟩,_=>
 obtain⟨rfl,_⟩:=(j 0 _ v rfl rfl).Zj.X5;refine(Tryz.strconv_Itoa n h.1 h.2 w f.pow).mono ?_;rintro e w' ⟨rfl,k,os,rfl⟩;have o:=Ew h;refine⟨_,ok,Ug,rfl,⟨rfl,rfl,rfl,by simp[Go.Sort.grow,World.drewN],λb l=>?_⟩,λb h=>h,λb h=>.inl h,.d _ _ (.str _ (by unfold maxLen;omega)),by simp⟩;simp only[Go.Sort.grow,World.drewN];rw[Array.getElem?_append_left l]
section
variable {w:World} {ok:Nat->Prop} {g:Gh} {m m':Me}
end
end
section
open Go.RowKit
structure EntS (l:List (D×List D)):Prop where
 form:∀p∈l,∃(s:ByteArray) (r:List D),p=(.str s,r)
 nodup:l.Pairwise λp q=>D.Ut p.1 q.1=false
structure Mid (bents:List (Nat×D×List D)) (O0:List (D×List D)) (seen:List Nat) (O:List (D×List D)):Prop where
 ents:EntS O
 get:∀s r,D.JI (.str s) O=some r<->(∃k,(k,D.str s,r)∈bents/\k∈seen)\/((¬∃k r',(k,D.str s,r')∈bents/\k∈seen)/\D.JI (.str s) O0=some r)
end
section
open Go.RowKit
attribute [local simp] Jb WL WQ WA VO QA Zo Pv Uw Wv Vk Vj Y4 V8 Xo V5 Gj O1 Value.oneCell' X4 Q4 Z6 Yn Nv Z5 AS.after Zz Uj K7 AV.ids ZB Q9.ids UC Qy E5 Nw Lx Kk V9 Gz D8 D6 U4 KI ZQ setAt Fz Je O4 XT L8 XU WY AV.cells Yv K9 L6 M6 AV.kill Q9.kill AV.has AV.Uv Op.operands Call.operands Qf QB X3 Km Zw Jv ZV NE Qt Mj Vv AV.ren ZU Q9.ren Q9.like kept X7 Zr AV.F7 ZC Jp JD Qo Hw AS.F7 Xf T9 Q9.F7 Sz FV Nat.ble_eq Ez E9 U6 D.U7 Xa Ij Rw H6 Ki XM O5 Bw Fx R8 Low ZX
noncomputable def NY {f:Type} (a b:f):Bool:=@decide (a=b) (Classical.propDecidable _)
theorem DV{f:Type}(a:f):NY a a=true:=by simp[NY]
theorem CK{f:Type}{a b:f}(h:a≠b):NY a b=false:=by simp[NY,h]
theorem Ur:∀(l:List (List D)),(∀r∈l,r≠[])->l.length<=D.Tw l
 |[],_=>Nat.le_refl _
 |r::l,h=>by
  have g:=Ur l λr hr=>h r (List.mem_cons_of_mem _ hr)
  have f:=h r (List.mem_cons_self ..);simp only[D.Tw,List.length_cons];have:1<=D.Vq r:=by
   cases r with
   |nil=>exact absurd rfl f
   |cons d r=>
    simp only[D.Vq];have:1<=D.bulk d:=by cases d<;> simp[D.bulk]
    omega
  omega
theorem Tm.Ok.vars{k n:Int}{a b:ByteArray}{vs:List ByteArray}{xs:List Tm}{cs:List Cs}(h:(Tm.mk k n a b vs xs cs).Ok):vs.length<=8796093022207/\xs.length<=1172812402960/\cs.length<=925904528652/\a.size<=140737488355328/\b.size<=140737488355328:=by
 unfold Tm.Ok at h;exact⟨h.2.1.1,h.2.1.2.1,h.2.1.2.2,h.1.1,h.1.2.1⟩
theorem Tm.Ok.arg{k n:Int}{a b:ByteArray}{vs:List ByteArray}{xs:List Tm}{cs:List Cs}(h:(Tm.mk k n a b vs xs cs).Ok){x:Tm}(f:x∈xs):x.Ok:=by
 unfold Tm.Ok at h;exact Tm.Xz.1 h.2.2.1 x f
theorem Tm.Ok.case{k n:Int}{a b:ByteArray}{vs:List ByteArray}{xs:List Tm}{cs:List Cs}(h:(Tm.mk k n a b vs xs cs).Ok){x:Cs}(f:x∈cs):x.Ok:=by
 unfold Tm.Ok at h;exact Cs.Xz.1 h.2.2.2 x f
theorem Cs.Ok.body{t:Int}{vs:List ByteArray}{b:Tm}(h:(Cs.mk t vs b).Ok):b.Ok/\vs.length<=8796093022207:=by
 unfold Cs.Ok at h;exact⟨h.2.2,h.2.1⟩
theorem Cs.Ok.sizes{t:Int}{vs:List ByteArray}{b:Tm}(h:(Cs.mk t vs b).Ok):∀s∈vs,s.size<=140737488355328:=by
 unfold Cs.Ok at h;exact h.1
theorem Tm.Wu{k n:Int}{a b:ByteArray}{vs:List ByteArray}{xs:List Tm}{cs:List Cs}{x:Tm}(f:x∈xs):x.sz<(Tm.mk k n a b vs xs cs).sz:=by
 have:=Tm.Z4 f;simp only[Tm.sz];omega
theorem Tm.YI{k n:Int}{a b:ByteArray}{vs:List ByteArray}{xs:List Tm}{cs:List Cs}{t:Int}{ws:List ByteArray}{y:Tm}(f:Cs.mk t ws y∈cs):y.sz<(Tm.mk k n a b vs xs cs).sz:=by
 have:=Cs.Z4 f;simp only[Cs.sz]at this;simp only[Tm.sz];omega
theorem Tm.QH(t:Tm):t.row.length=7:=by cases t;rfl
theorem Cs.QH(t:Cs):t.row.length=9:=by cases t;simp[Cs.row,Tm.QH]
def hasB(l:List ByteArray)(s:ByteArray):Bool:=l.any λx=>decide (x=s)
theorem X9{l:List ByteArray}{s:ByteArray}:hasB l s=true<->s∈l:=by
 unfold hasB;rw[List.any_eq_true];constructor
 ·rintro⟨x,f,g⟩;rw[<-of_decide_eq_true g];exact f
 ·exact λh=>⟨s,h,decide_eq_true rfl⟩
theorem Av{l:List ByteArray}{s:ByteArray}:hasB l s=false<->s ∉ l:=by
 rw[<-Bool.not_eq_true,X9]
theorem PG{l:List ByteArray}{i:Nat}{x s:ByteArray}(g:l[i]? =some x)(h:s ∉ l.take i)(f:x≠s):s ∉ l.take (i+1):=by
 rw[List.take_add_one,g];simp only[Option.toList_some,List.mem_append,List.mem_singleton,not_or];exact⟨h,λe=>f e.symm⟩
theorem JR(l:List ByteArray)(s:ByteArray)(I:l.length<=8796093022208):Qv Tryz.prog 35 [Xw l,Sv s] (λ_=>Bv (hasB l s)) none:=by
 refine Qv.of Tryz.func35 rfl rfl rfl (Nat.le_of_ble_eq_true rfl) ?_;show X8 _ _ (Z7 _ Tryz.f35 _ _ _) (Z6 17 _);refine Wb ?_;apply Wx [] []
 ·conv=>lhs;simp
 ·trivial
 refine Wb ?_;apply Wx [] []
 ·conv=>lhs;simp
 ·trivial
 refine Wb ?_;refine Wl (σ:=λu:{i:Nat // i<=l.length/\s ∉ l.take i}=>⟨17,[(1,Sv s),(7,Xw l),(8,Iv l.length),(9,Iv u.1)],[]⟩)
  (μ:=λu=>l.length-u.1) ⟨0,Nat.zero_le _,by simp⟩ (Le.sub (by simp) (by simp)) (λ⟨i,J,o⟩=>?_)
 dsimp only;refine Wb ?_;apply Wx [] []
 ·conv=>lhs;simp
 ·trivial
 refine Wb ?_;refine Wc rfl (λh=>?_) (λh=>?_)
 ·have f:i<l.length:=by have:=of_decide_eq_true h;omega
  have t:l[i]? =some l[i]:=List.getElem?_eq_getElem f;have g:l[i]∈l:=List.getElem_mem f;generalize l[i]=x at t g;refine Ws ?_;refine Wr ?_ (r:=by conv=>lhs;simp[t]);by_cases C:x=s
  ·subst C;refine Wb ?_;apply Wx [] []
   ·conv=>lhs;simp
   ·trivial
   refine Wb ?_;refine Wc rfl (λj=>?_) (λj=>?_)
   ·refine Wb ?_;apply Wx [] []
    ·conv=>lhs;simp
    ·trivial
    refine Wt ?_;try dsimp only[Q8,Q5]
    apply Z7.ret
    ·rfl
    ·conv=>lhs;simp[Q7,Tryz.results35]
    rw[X9.2 g];rfl
   ·simp at j
  ·refine Wb ?_;apply Wx [] []
   ·conv=>lhs;simp[C]
   ·trivial
   refine Wb ?_;refine Wc rfl (λj=>?_) (λj=>?_)
   ·simp at j
   refine Ws ?_;refine Wr ?_;refine⟨⟨i+1,f,PG t o C⟩,by simp;omega,Le.sub (by simp) (by simp)⟩
 have f:i=l.length:=by have:=of_decide_eq_false h;omega
 subst f;rw[List.take_length]at o;refine We ?_;refine Wb ?_;apply Wx [] []
 ·conv=>lhs;simp
 ·trivial
 refine Wt ?_;try dsimp only[Q8,Q5]
 apply Z7.ret
 ·rfl
 ·conv=>lhs;simp[Q7,Tryz.results35]
 rw[Av.2 o];rfl
theorem FH{l:List ByteArray}{p:ByteArray->Bool}{i:Nat}{x:ByteArray}(g:l[i]? =some x)(h:∀y∈l.take i,p y=false)(hp:p x=false):∀y∈l.take (i+1),p y=false:=by
 rw[List.take_add_one,g];intro y f;rcases List.mem_append.1 f with f|f
 ·exact h y f
 ·simp at f;subst f;exact hp
theorem Qv.toC{P:Program}{k:Nat}{args l:List AV}{d:D}(T:Qv P k l (λ_=>.d d) none)(o:Nat){e:TypeId}{sz:Nat}{rows:List (List D)}(he:args.map (AV.F7 o (.arr e sz rows))=l)(hd:d.flat):
  Z0 P k args [(o,.arr e sz rows)] (.d d) [(o,.arr e sz rows)]:=by
 subst he;refine⟨T.ent,λw ok g vals j hl hv=>?_⟩;have U:Jv [(o,Q9.arr e sz rows)] o=some (.arr e sz rows):=by simp[Jv]
 refine(T.run 0 w (λb=>ok b\/g.bl o=some b) vals j.giw (λb f=>?_) (by simpa using hl) (λi c v hc t=>?_)).mono ?_
 ·rcases f with f|f
  ·exact(j.okb b f).1
  ·exact(j.own o _ b U f).2.1
 ·rw[List.getElem?_map]at hc;obtain⟨c',C,rfl⟩:=Option.map_eq_some_iff.1 hc;exact((hv i c' v C t).F7 j U).Jq3
 ·rintro ex w' ⟨v,ok',g',rfl,f,a2,a1,hr,-⟩;refine⟨v,ok,g,rfl,⟨λi y r=>?_,j.inj,λi y b r I=>?_,λb h=>?_,j.okk,f.size,λb h _=>f.block b h,λ_ _=>⟨rfl,rfl⟩,f.os,f.tape,f.output,j.gi,j.gb⟩,?_⟩
  ·have J:o=i/\Q9.arr e sz rows=y:=by
    simp only[Jv]at r;split at r
    ·rename_i h;exact⟨by simpa using h,by simpa using r⟩
    ·cases r
   obtain⟨rfl,rfl⟩:=J;refine(j.obj _ _ r).mono (λ_=>false) trivial (λb h=>f.block b (j.own _ _ b r h).2.1) rfl rfl (λp h=>f.cell (j.okb _ h).1) (λ_ h=>h) (λo x' _ h=>⟨x',h,Q9.O6 _,rfl,rfl⟩)
  ·obtain⟨h1,h2,h3⟩:=j.own i y b r I;exact⟨h1,by have:=f.size;omega,h3⟩
  ·obtain⟨h1,h2⟩:=j.okb b h;exact⟨by have:=f.size;omega,.inl h⟩
  ·cases hr with
   |d _ _ hr=>exact .d _ _ (hr.flat hd)
theorem Xh6(o:Nat)(l:List ByteArray)(s:ByteArray)(f:l.length<=8796093022208):Z0 Tryz.prog 35 [.arr o 0 l.length,Sv s] [(o,.arr 9 1 (l.map Jj))] (Bv (hasB l s)) [(o,.arr 9 1 (l.map Jj))]:=
 (JR l s f).toC o (by simp[AV.F7,ZC,List.take_of_length_le]) trivial
def Rv(l gone:List ByteArray):List ByteArray:=l.filter λs=>!hasB gone s
theorem Sq(l gone:List ByteArray):(Rv l gone).length<=l.length:=List.length_filter_le _ _
def addN(l more:List ByteArray):List ByteArray:=more.foldl (λl s=>if hasB l s then l else l++[s]) l
theorem XV(more:List ByteArray):∀l,(addN l more).length<=l.length+more.length:=by
 induction more with
 |nil=>intro l;simp[addN]
 |cons s more f=>
  intro l;have:=f (if hasB l s then l else l++[s]);simp only[addN,List.foldl_cons,List.length_cons]at this⊢;refine Nat.le_trans this ?_;split
  ·omega
  ·simp;omega
theorem OB(a b:Nat):wr (wr (a:Int)+wr (b:Int))=wr ((a+b:Nat):Int):=by rw[Xz0,Zx1];congr 1
@[simp] theorem wr_one:wr 1=1:=rfl
theorem KL:∀(l r:List Tm),Tm.Xv (l++r)=Tm.Xv l+Tm.Xv r
 |[],r=>by simp[Tm.Xv]
 |x::l,r=>by simp only[List.cons_append,Tm.Xv,KL l r];omega
theorem Yt:∀(l r:List Cs),Cs.Xv (l++r)=Cs.Xv l+Cs.Xv r
 |[],r=>by simp[Cs.Xv]
 |x::l,r=>by simp only[List.cons_append,Cs.Xv,Yt l r];omega
theorem Qq1(l:List Tm)(x:Tm):Tm.Xv (l++(some x).toList)=Tm.Xv l+x.sz:=by rw[KL];simp[Tm.Xv]
theorem Oc(l:List Cs)(x:Cs):Cs.Xv (l++(some x).toList)=Cs.Xv l+x.sz:=by rw[Yt];simp[Cs.Xv]
theorem Tm.JN(l:List Tm)(i:Nat):Tm.Xv (l.take i)<=Tm.Xv l:=by
 have:=KL (l.take i) (l.drop i);rw[List.take_append_drop]at this;omega
theorem Cs.JN(l:List Cs)(i:Nat):Cs.Xv (l.take i)<=Cs.Xv l:=by
 have:=Yt (l.take i) (l.drop i);rw[List.take_append_drop]at this;omega
def GM(k n:Int)(a b:ByteArray)(vs:List ByteArray)(xs:List Tm)(cs:List Cs):List (Nat×Option Q9):=
 [(1,some (.blk 54 [Iv k,Iv n,Sv a,Sv b,.d (Q6 vs),La (xs.map Tm.row),La (cs.map Cs.row)]))]
theorem FJ:∀(N:Nat) (t:Tm),t.sz<N->t.Ok->Qv Tryz.prog 16 [Y3 t] (λ_=>Iv (wr t.sz)) none:=by
 intro N;induction N with
 |zero=>intro s h;omega
 |succ N T=>
 intro t hN C;obtain⟨k,n,a,b,vs,xs,cs⟩:=t;obtain⟨o1,o2,o3,o4,o5⟩:=C.vars;refine Qv.of Tryz.func16 rfl rfl rfl (Nat.le_of_ble_eq_true rfl) ?_;show X8 _ _ (Z7 _ Tryz.f16 _ _ _) (Z6 34 _);refine Wb ?_;apply Wx [] []
 ·conv=>lhs;simp
 ·trivial
 refine Wb ?_;apply Wx [] []
 ·conv=>lhs;simp
 ·trivial
 refine Wb ?_;apply Wx [] []
 ·conv=>lhs;simp
 ·trivial
 refine Wb ?_;refine Wl (σ:=λu:{i:Nat // i<=xs.length}=>⟨34,[(1,.ptr 1 0),(3,Iv (wr ((1+Tm.Xv (xs.take u.1):Nat):Int))),(9,La (xs.map Tm.row)),(10,Iv xs.length),(11,Iv u.1)],GM k n a b vs xs cs⟩)
  (μ:=λu=>xs.length-u.1) ⟨0,Nat.zero_le _⟩ (Le.sub (by simp[Tm.Xv]) (by simp[GM])) (λ⟨i,U⟩=>?_)
 dsimp only;refine Wb ?_;apply Wx [] []
 ·conv=>lhs;simp
 ·trivial
 refine Wb ?_;refine Wc rfl (λh=>?_) (λh=>?_)
 ·have f:i<xs.length:=by have:=of_decide_eq_true h;omega
  have o:xs[i]? =some xs[i]:=List.getElem?_eq_getElem f;have j:xs[i]∈xs:=List.getElem_mem f;generalize xs[i]=x at o j;have hp:=T x (by have:=Tm.Wu (k:=k) (n:=n) (a:=a) (b:=b) (vs:=vs) (cs:=cs) j;omega) (C.arg j);have l:Tm.Xv (xs.take (i+1))=Tm.Xv (xs.take i)+x.sz:=by rw[List.take_add_one,o];exact Qq1 _ _
  have I:=Tm.JN xs (i+1);refine Ws ?_;generalize x.sz=z at hp l;generalize Tm.Xv (xs.take i)=y at l⊢;obtain⟨xk,xn,xa,xb,xv,xx,xc⟩:=x;refine Wr ?_ (r:=by conv=>lhs;simp[o,Tm.row,Tm.Q3,Cs.Q3]);refine Wb ?_;apply Wx [3] [.p (λ_=>Iv (wr z)) none]
  ·conv=>lhs;simp
  ·exact hp
  refine Wr ?_;refine⟨⟨i+1,f⟩,by simp;omega,?_⟩;dsimp only;rw[l];have J:∀u v w:Nat,w=u+v->wr (wr (u:Int)+wr (v:Int))=wr (w:Int):=λu v w e=>by rw[OB,e]
  refine Le.sub ?_ (by simp[GM]);simp;exact J _ _ _ oM
 have f:i=xs.length:=by have:=of_decide_eq_false h;omega
 subst f;refine We ?_;rw[List.take_length];clear h;refine Wb ?_;apply Wx [] []
 ·conv=>lhs;simp[GM]
 ·trivial
 refine Wb ?_;refine Wl (σ:=λu:{i:Nat // i<=cs.length}=>⟨34,[(1,.ptr 1 0),(3,Iv (wr ((1+Tm.Xv xs+Cs.Xv (cs.take u.1):Nat):Int))),(21,La (cs.map Cs.row)),(22,Iv cs.length),(23,Iv u.1)],GM k n a b vs xs cs⟩)
  (μ:=λu=>cs.length-u.1) ⟨0,Nat.zero_le _⟩ (Le.sub (by simp[Cs.Xv]) (by simp[GM])) (λ⟨i,U⟩=>?_)
 dsimp only;refine Wb ?_;apply Wx [] []
 ·conv=>lhs;simp
 ·trivial
 refine Wb ?_;refine Wc rfl (λh=>?_) (λh=>?_)
 ·have f:i<cs.length:=by have:=of_decide_eq_true h;omega
  have o:cs[i]? =some cs[i]:=List.getElem?_eq_getElem f;have j:cs[i]∈cs:=List.getElem_mem f;generalize cs[i]=x at o j;have l:Cs.Xv (cs.take (i+1))=Cs.Xv (cs.take i)+x.sz:=by rw[List.take_add_one,o];exact Oc _ _
  have I:=Cs.JN cs (i+1);obtain⟨g,ws,x⟩:=x;obtain⟨P,a1⟩:=(C.case j).body;have hp:=T x (by have:=Tm.YI (k:=k) (n:=n) (a:=a) (b:=b) (vs:=vs) (xs:=xs) j;omega) P;rw[show(Cs.mk g ws x).sz=x.sz from rfl]at l;refine Ws ?_;generalize x.sz=z at hp l;generalize Cs.Xv (cs.take i)=y at l⊢;obtain⟨xk,xn,xa,xb,xv,xx,xc⟩:=x;refine Wr ?_ (r:=by conv=>lhs;simp[o,Cs.row,Tm.row,Tm.Q3,Cs.Q3]);refine Wb ?_;apply Wx [4] [.p (λ_=>Iv (wr z)) none]
  ·conv=>lhs;simp
  ·exact hp
  refine Wr ?_;refine⟨⟨i+1,f⟩,by simp;omega,?_⟩;dsimp only;rw[l];have J:∀u v w:Nat,w=u+v->wr (wr (u:Int)+wr (v:Int))=wr (w:Int):=λu v w e=>by rw[OB,e]
  refine Le.sub ?_ (by simp[GM]);simp;exact J _ _ _ oM
 have f:i=cs.length:=by have:=of_decide_eq_false h;omega
 subst f;refine We ?_;rw[List.take_length];refine Wb ?_;apply Wx [] []
 ·conv=>lhs;simp
 ·trivial
 refine Wt ?_;try dsimp only[Q8,Q5]
 apply Z7.ret
 ·rfl
 ·conv=>lhs;simp[Q7,Tryz.results16]
 rfl
theorem Lu(t:Tm)(h:t.Ok):Qv Tryz.prog 16 [Y3 t] (λ_=>Iv (wr t.sz)) none:=FJ _ t (Nat.lt_succ_self _) h
theorem GL(h:Hp)(s:Qx)(f:∀x∈h.cells,x.slots.length<=8796093022208)(i:∀x∈h.cells,P7 x.tag):Qv Tryz.prog 34 [Aq h,Dq s] (λ_=>.tuple [Iv ((h.get s).1),Rn (h.get s).2.1,Iv ((h.get s).2.2)]) none:=
 Xz7 _ ⟨_,Tryz.func34,rfl,rfl⟩ s i λw ok a n c g j=>Qg1 h s ok a n c w f g j
end
section
open Go.RowKit
def CL(P:Program)(fn:Func)(r:Nat->AV)(x:Option Q9):Exit->AS->Prop:=λe s=>∃o,(∀d,r d=(r o).ren (λ_=>d))/\(∀i∈(r o).ids,i=o)/\Z7 P fn r x o e s
theorem CL.ret{P:Program}{fn:Func}{n:Nat}(o:Nat){s:AS}{cs:List AV}{y:Q9}(h:Q7 P s fn.results.toList=some cs)(hr:(Zv cs).Jk= .arr o 0 n)(f:Q4 s.mem o=some y)(g:Nat.ble 500 o=false):CL P fn (λd=>.arr d 0 n) (some y) .ret s:=
 ⟨o,λ_=>rfl,by simp[AV.ids],.inl rfl,s,Le.refl s,cs,h,hr,rfl,λz i=>by cases i;exact⟨f,g⟩⟩
theorem Qv.Xj7{P:Program}{k:Nat}{fn:Func}{c:Code}(hf:P.funcs[k]? =some fn)(a5:(fn.name== "runtime.NumGoroutine")=false)(f:fn.body=some c){args:List AV}(r:Nat->AV){e:TypeId}{sz:Nat}{rows:List (List D)}(hn:args.length<=fn.ntmps)
  (a1:∀d,(r d).has (λi=>!(d==i))=false) (h:X8 P c (CL P fn r (some (.arr e sz rows))) (Z6 fn.ntmps args)):Qv P k args r (some (.arr e sz rows)):=by
 refine⟨⟨fn,hf,a5,by rw[f];rfl⟩,a1,(λh=>by cases h),λy hy=>⟨e,sz,rows,by cases hy;rfl⟩,λd w ok vals a6 a7 hl hv=>?_⟩;refine calls_of_wp hf f ?_;have a8:St ⟨w,ok,λ_=>False,Ug⟩ (Z6 fn.ntmps args) { tmps:=vals++Array.replicate (fn.ntmps-vals.size) undef,defers:=[] } w:=by
  refine⟨ok,Ug,⟨(λo x hx=>by cases hx),(λi j xi xj b hi=>by cases hi),(λi x b hi=>by cases hi),λb f=>⟨a7 b f,.inl f⟩,λb f=>f,Nat.le_refl _,λb _ _=>rfl,λi _=>⟨rfl,rfl⟩,rfl,rfl,rfl,a6,λ_ _ h=>h⟩,by simp[Z6];omega,rfl,λt=>?_⟩;exact Ad (C:=⟨w,ok,λ_=>False,Ug⟩) hl hn hv t
 refine wp_mono (h _ _ w a8) ?_;rintro ex a' w' ⟨s,⟨o,a2,a3,he,s',a9,cs,a4,hr,b0,hx⟩,hs⟩;obtain⟨ok',g,l,h1,h2,h3⟩:=a9 _ _ _ hs;obtain⟨v,b1,I⟩:=KU l h3 a4;obtain⟨T,b2⟩:=hx _ rfl;have I:=I.Jk;rw[hr,b0]at I;have J:a'.defers=[]/\∃v,(results fn a'.tmps).run P w'= .ok v w'/\∃v' ok' g',Ending.returned v= .returned v'/\Below w.heap.size w w'/\(∀b,ok b->ok' b)/\(∀b,ok' b->ok b\/(w.heap.size<=b/\b<w'.heap.size))/\VR w' ok' g' (FP d (some (.arr e sz rows))) (r d) v'/\
   (∀y,(some (.arr e sz rows):Option Q9)=some y->OR w' ok' g' (FP d (some (.arr e sz rows))) d y/\∀b,g'.bl d=some b->¬ok' b/\w.heap.size<=b/\b<w'.heap.size):=by
  refine⟨h2,v,b1,v,ok',⟨λ_=>g.bl o,λ_=>g.cp o⟩,rfl,⟨l.os,l.tape,l.output,l.size,λb f=>l.heap b f (λh=>h)⟩,l.okk,λb f=>?_,?_,λy hy=>?_⟩
  ·obtain⟨k1,U⟩:=l.okb b f;rcases U with U|U
   ·exact .inl U
   ·exact .inr ⟨U,k1⟩
  ·rw[a2 d];refine VR.Qj0 _ I λi hi=>?_
   have:=a3 i hi;subst this;exact⟨_,T,by simp[FP,Q9.ren],rfl,rfl⟩
  ·cases hy;have hO:=l.obj o _ T;refine⟨hO,λb f=>?_⟩;obtain⟨k1,U,k3⟩:=l.own o _ b T f;refine⟨k1,?_,U⟩;rcases k3 with k3|⟨k3,_⟩
   ·exact k3
   ·exact k3.elim
 rcases he with rfl|rfl
 ·exact J
 ·exact J
mutual
def Tm.free:Tm->List ByteArray
 | .mk k _ a _ _ xs cs=>if k=1 then[a]else if k=6/\xs.length=2 then Tm.UB a [] xs else Cs.frees (Tm.frees (if 8<=k/\k<=11 then[a]else[]) xs) cs
def Tm.frees:List ByteArray->List Tm->List ByteArray
 |o,[]=>o
 |o,x::r=>Tm.frees (addN o x.free) r
def Tm.UB(a:ByteArray):List ByteArray->List Tm->List ByteArray
 |o,[]=>o
 |o,x::r=>Tm.RD a (addN o x.free) r
def Tm.RD(a:ByteArray):List ByteArray->List Tm->List ByteArray
 |o,[]=>o
 |o,x::_=>addN o (Rv x.free [a])
def Cs.frees:List ByteArray->List Cs->List ByteArray
 |o,[]=>o
 |o,c::r=>Cs.frees (addN o c.QC) r
def Cs.QC:Cs->List ByteArray
 | .mk _ vs b=>Rv b.free vs
end
theorem Tm.DR(l:List Tm):∀o,Tm.frees o l=l.foldl (λo x=>addN o x.free) o:=by
 induction l with
 |nil=>intro o;simp[Tm.frees]
 |cons x r f=>intro o;simp[Tm.frees,f]
theorem Cs.DR(l:List Cs):∀o,Cs.frees o l=l.foldl (λo x=>addN o x.QC) o:=by
 induction l with
 |nil=>intro o;simp[Cs.frees]
 |cons x r f=>intro o;simp[Cs.frees,f]
mutual
theorem Tm.Mw:∀t:Tm,t.free.length<=t.sz
 | .mk k n a b vs xs cs=>by
  simp only[Tm.free,Tm.sz];split
  ·simp;omega
  split
  ·have:=Tm.IU a xs [];simp at this;omega
  ·have f:=Tm.QV xs (if 8<=k/\k<=11 then[a]else[]);have i:=Cs.QV cs (Tm.frees (if 8<=k/\k<=11 then[a]else[]) xs);have g:(if 8<=k/\k<=11 then[a]else[]).length<=1:=by split<;> simp
   omega
theorem Tm.QV:∀(l:List Tm) (o:List ByteArray),(Tm.frees o l).length<=o.length+Tm.Xv l
 |[],o=>by simp[Tm.frees]
 |x::r,o=>by
  have f:=Tm.Mw x;have i:=Tm.QV r (addN o x.free);have g:=XV x.free o;simp only[Tm.frees,Tm.Xv];omega
theorem Tm.IU(a:ByteArray):∀(l:List Tm) (o:List ByteArray),(Tm.UB a o l).length<=o.length+Tm.Xv l
 |[],o=>by simp[Tm.UB]
 |x::r,o=>by
  have f:=Tm.Mw x;have i:=Tm.IV a r (addN o x.free);have g:=XV x.free o;simp only[Tm.UB,Tm.Xv];omega
theorem Tm.IV(a:ByteArray):∀(l:List Tm) (o:List ByteArray),(Tm.RD a o l).length<=o.length+Tm.Xv l
 |[],o=>by simp[Tm.RD]
 |x::r,o=>by
  have f:=Tm.Mw x;have g:=XV (Rv x.free [a]) o;have j:=Sq x.free [a];simp only[Tm.RD,Tm.Xv];omega
theorem Cs.QV:∀(l:List Cs) (o:List ByteArray),(Cs.frees o l).length<=o.length+Cs.Xv l
 |[],o=>by simp[Cs.frees]
 |x::r,o=>by
  have f:=Cs.NR x;have i:=Cs.QV r (addN o x.QC);have g:=XV x.QC o;simp only[Cs.frees,Cs.Xv];omega
theorem Cs.NR:∀(c:Cs),c.QC.length<=c.sz
 | .mk t vs b=>by
  have f:=Tm.Mw b;have j:=Sq b.free vs;simp only[Cs.QC,Cs.sz];omega
end
theorem Tm.GJ{l:List Tm}{i:Nat}{x:Tm}(f:l[i]? =some x):Tm.Xv (l.take i)+x.sz<=Tm.Xv l:=by
 induction l generalizing i with
 |nil=>simp at f
 |cons y r g=>
  cases i with
  |zero=>simp at f;subst f;simp[Tm.Xv]
  |succ i=>have:=g (i:=i) (by simpa using f);simp only[List.take_succ_cons,Tm.Xv];omega
theorem Cs.GJ{l:List Cs}{i:Nat}{x:Cs}(f:l[i]? =some x):Cs.Xv (l.take i)+x.sz<=Cs.Xv l:=by
 induction l generalizing i with
 |nil=>simp at f
 |cons y r g=>
  cases i with
  |zero=>simp at f;subst f;simp[Cs.Xv]
  |succ i=>have:=g (i:=i) (by simpa using f);simp only[List.take_succ_cons,Cs.Xv];omega
theorem Tm.Vi{o:List ByteArray}{l:List Tm}{i:Nat}{x:Tm}(f:l[i]? =some x):Tm.frees o (l.take (i+1))=addN (Tm.frees o (l.take i)) x.free:=by
 rw[List.take_add_one,f];simp[Tm.DR]
theorem Cs.Vi{o:List ByteArray}{l:List Cs}{i:Nat}{x:Cs}(f:l[i]? =some x):Cs.frees o (l.take (i+1))=addN (Cs.frees o (l.take i)) x.QC:=by
 rw[List.take_add_one,f];simp[Cs.DR]
end
section
open Go.RowKit Go.Shelf
attribute [local go_sem] Oper.semAt_some
def KpB(f Bs:Nat)(A B:World):Prop:=Below f A B/\B.cell? ⟨Bs,0,none⟩=A.cell? ⟨Bs,0,none⟩
end
section
open Go.RowKit Go.Shelf
attribute [local go_sem] Oper.semAt_some
def cnt(k:Int):List ByteArray->Tm->Tm
 |[],t=>t
 |s::r,t=>.mk k 0 s .empty [] [cnt k r t] []
def cntF(k:Int)(t:Tm)(f:List (Int×ByteArray)):Tm:=f.foldl (λt x=>.mk k 0 x.2 .empty [] [t] []) t
def BInv(k:Int)(t:Tm)(ok:Nat->Prop)(g:Nat)(z:Array Value)(f:List (Int×ByteArray))(W:World):Prop:=
 g+3<=W.heap.size/\∃(S:Nat->Prop) (i j l o r C I:Value),(∀b,S b->g+3<=b/\∃cs t fr,W.heap[b]? =some (.cells cs t fr))/\U8 W g 54 #[i,j,l,o,r,C,I]/\U8 W (g+1) 54 z/\
  ((∀p∈f,p.2.size<=maxLen)->Xm W (λb=>ok b\/S b) (cntF k t f).row [i,j,l,o,r,C,I])
section
variable {F:Fence} {nF:Nat} {P:Program}
end
end
section
open Go.RowKit
attribute [local simp] Jb WL WQ WA VO QA Zo Pv Uw Wv Vk Vj Y4 V8 Xo V5 Gj O1 Value.oneCell' X4 Q4 Z6 Yn Nv Z5 AS.after Zz Uj K7 AV.ids ZB Q9.ids UC Qy E5 Nw Lx Kk V9 Gz D8 D6 U4 KI ZQ setAt Fz Je O4 XT L8 XU WY AV.cells Yv K9 L6 M6 AV.kill Q9.kill AV.has AV.Uv Op.operands Call.operands Qf QB X3 Km Zw Jv ZV NE Qt Mj Vv AV.ren ZU Q9.ren Q9.like kept X7 Zr AV.F7 ZC Jp JD Qo Hw AS.F7 Xf T9 Q9.F7 Sz FV Nat.ble_eq Ez E9 U6 D.U7 Xa Ij Rw H6 Ki XM O5 Bw Fx R8 Low ZX
theorem X8.AU{P:Program}{Q:Exit->AS->Prop}{s:AS}{x y:Code}(f:AS)(g:X8 P y Q f)(i:∀W:AS->Prop,(∀s',Le s' f->W s')->X8 P x (Q8 W Q) s):X8 P (.seq x y) Q s:=
 Wq (i _ λ_ j=>X8.le j g)
abbrev Bh(k n:Int)(a b:ByteArray)(vs:List ByteArray)(xs:List Tm)(cs:List Cs):List AV:=
 [Iv k,Iv n,Sv a,Sv b,.d (Q6 vs),La (xs.map Tm.row),La (cs.map Cs.row)]
def X0(k n:Int)(a b:ByteArray)(vs:List ByteArray)(xs:List Tm)(cs:List Cs):Option Q9:=some (.blk 54 (Bh k n a b vs xs cs))
structure Tm.Fit (t:Tm):Prop where
 ok:t.Ok
 sz:t.sz<=1048576
theorem Tm.Fit.arg{k n:Int}{a b:ByteArray}{vs:List ByteArray}{xs:List Tm}{cs:List Cs}(h:(Tm.mk k n a b vs xs cs).Fit){x:Tm}(f:x∈xs):x.Fit:=
 ⟨h.ok.arg f,by have:=Tm.Wu (k:=k) (n:=n) (a:=a) (b:=b) (vs:=vs) (cs:=cs) f;have:=h.sz;omega⟩
theorem Tm.Fit.case{k n:Int}{a b:ByteArray}{vs:List ByteArray}{xs:List Tm}{cs:List Cs}(h:(Tm.mk k n a b vs xs cs).Fit){t:Int}{ws:List ByteArray}{x:Tm}(f:Cs.mk t ws x∈cs):x.Fit/\ws.length<=8796093022207:=
 ⟨⟨(h.ok.case f).body.1,by have:=Tm.YI (k:=k) (n:=n) (a:=a) (b:=b) (vs:=vs) (xs:=xs) f;have:=h.sz;omega⟩,(h.ok.case f).body.2⟩
theorem Qq3{k n:Int}{a b:ByteArray}{vs:List ByteArray}{xs:List Tm}{cs:List Cs}(h:(Tm.mk k n a b vs xs cs).Fit):1+Tm.Xv xs+Cs.Xv cs<=1048576:=by
 have:=h.sz;simpa only[Tm.sz]using this
theorem Zz2(skip:List ByteArray)(l:List ByteArray){L:List ByteArray}{i:Nat}{x:ByteArray}(f:l[i]? =some x):
  addN L (Rv (l.take (i+1)) skip)=if !hasB skip x && !hasB (addN L (Rv (l.take i) skip)) x then addN L (Rv (l.take i) skip)++[x]else addN L (Rv (l.take i) skip):=by
 rw[List.take_add_one,f];simp only[Rv,List.filter_append,addN,List.foldl_append,Option.toList_some];cases h:hasB skip x
 ·simp only[List.filter_cons,h,Bool.not_false,if_true,List.filter_nil,List.foldl_cons,List.foldl_nil,Bool.true_and];cases hasB (List.foldl (λl s=>if hasB l s=true then l else l++[s]) L (List.filter (λs=>!hasB skip s) (List.take i l))) x<;> rfl
 ·simp[h]
theorem ER(L l skip:List ByteArray)(U:L.length+l.length<=1048576)(hs:skip.length<=8796093022207):
  Z0 Tryz.prog 86 [Xw l,Xw skip,.ptr 1000 0] [(1000,.blk 50 [.arr 500 0 L.length]),(500,.arr 9 1 (L.map Jj))] (Zv [])
   [(1000,.blk 50 [.arr 500 0 (addN L (Rv l skip)).length]),(500,.arr 9 1 ((addN L (Rv l skip)).map Jj))]:=by
 refine Z0.of Tryz.func86 rfl rfl (Nat.le_of_ble_eq_true rfl) ?_;show X8 _ _ (Qz _ Tryz.f86 _ _) (X7 28 _ _);refine Wb ?_;apply Wx [] []
 ·conv=>lhs;simp
 ·trivial
 refine Wb ?_;refine Wl (σ:=λu:{i:Nat // i<=l.length}=>⟨28,[(1,Xw skip),(2,.ptr 1000 0),(7,Xw l),(8,Iv l.length),(9,Iv u.1)],[(1000,some (.blk 50 [.arr 500 0 (addN L (Rv (l.take u.1) skip)).length])),(500,some (.arr 9 1 ((addN L (Rv (l.take u.1) skip)).map Jj)))]⟩)
  (μ:=λu=>l.length-u.1) ⟨0,Nat.zero_le _⟩ (Le.sub (by simp) (by simp[addN,Rv])) (λ⟨i,hi⟩=>?_)
 dsimp only;have P:=XV (Rv (l.take i) skip) L;have hw:=Sq (l.take i) skip;have T:(l.take i).length=i:=by simp;omega
 have C:∀x,l[i]? =some x->_:=λx=>Zz2 skip l (L:=L) (i:=i) (x:=x)
 obtain⟨M,j⟩:∃M,M=addN L (Rv (l.take i) skip):=⟨_,rfl⟩
 rw[<-j]at P C⊢;refine Wb ?_;apply Wx [] []
 ·conv=>lhs;simp
 ·trivial
 refine Wb ?_;refine Wc rfl (λh=>?_) (λh=>?_)
 ·have f:i<l.length:=by have:=of_decide_eq_true h;omega
  have o:l[i]? =some l[i]:=List.getElem?_eq_getElem f;generalize l[i]=x at o;have g:=C x o;have hp:=JR skip x oM;have t:=Xh6 1001 M x oM;obtain⟨A,I⟩:∃A,A=hasB skip x:=⟨_,rfl⟩
  obtain⟨B,J⟩:∃B,B=hasB M x:=⟨_,rfl⟩
  rw[<-I,<-J]at g;rw[<-I]at hp;rw[<-J]at t;refine Ws ?_;refine Wr ?_ (r:=by conv=>lhs;simp[o]);cases A with
  |true=>
   refine Wb ?_;apply Wx [] [.p (λ_=>Bv true) none,.c [(1001,500)] [.arr 1001 0 M.length,Sv x] [(1001,.arr 9 1 (M.map Jj))] (Bv B) [(1001,.arr 9 1 (M.map Jj))]]
   ·conv=>lhs;simp
   ·exact hp
   refine Wn ?_;refine Ws ?_;refine Wr ?_;refine⟨⟨i+1,f⟩,by simp;omega,?_⟩;dsimp only;rw[g];exact Le.sub (by simp) (by simp)
  |false=>
   cases B with
   |true=>
    refine Wb ?_;apply Wx [] [.p (λ_=>Bv false) none,.c [(1001,500)] [.arr 1001 0 M.length,Sv x] [(1001,.arr 9 1 (M.map Jj))] (Bv true) [(1001,.arr 9 1 (M.map Jj))]]
    ·conv=>lhs;simp
    ·exact⟨hp,t⟩
    refine Wn ?_;refine Ws ?_;refine Wr ?_;refine⟨⟨i+1,f⟩,by simp;omega,?_⟩;dsimp only;rw[g];exact Le.sub (by simp) (by simp)
   |false=>
    refine Wb ?_;apply Wx [] [.p (λ_=>Bv false) none,.c [(1001,500)] [.arr 1001 0 M.length,Sv x] [(1001,.arr 9 1 (M.map Jj))] (Bv false) [(1001,.arr 9 1 (M.map Jj))]]
    ·conv=>lhs;simp
    ·exact⟨hp,t⟩
    refine Wy ?_;refine Wr ?_;refine Wr ?_;refine⟨⟨i+1,f⟩,by simp;omega,?_⟩;dsimp only;rw[g];exact Le.sub (by simp) (by simp)
 have f:i=l.length:=by have:=of_decide_eq_false h;omega
 subst f;rw[List.take_length]at j;refine We ?_;rw[<-j];try dsimp only[Q8,Q5]
 apply Qz.normal
 ·rfl
 ·conv=>lhs;simp[Q7,Tryz.results86]
 ·rfl
 ·simp[Qq,Q4]
theorem Ba(l:List ByteArray):Rv l []=l:=by simp[Rv,hasB]
def Bq(xs:List Tm)(f:Nat->List ByteArray)(g:List ByteArray):Nat->List ByteArray
 |0=>g
 |i+1=>match xs[i]? with
  |some x=>addN (Bq xs f g i) (Rv x.free (f i))
  |none=>Bq xs f g i
theorem LU{xs:List Tm}(f:Nat->List ByteArray)(g:List ByteArray){i:Nat}{x:Tm}(j:xs[i]? =some x):Bq xs f g (i+1)=addN (Bq xs f g i) (Rv x.free (f i)):=by
 simp only[Bq,j]
theorem Ns(xs:List Tm)(f:Nat->List ByteArray)(g:List ByteArray):∀i,(Bq xs f g i).length<=g.length+Tm.Xv (xs.take i)
 |0=>by simp[Bq]
 |i+1=>by
  have j:=Ns xs f g i;simp only[Bq];split
  ·rename_i x o;have C:=XV (Rv x.free (f i)) (Bq xs f g i);have I:=Sq x.free (f i);have J:=x.Mw;have t:Tm.Xv (xs.take (i+1))=Tm.Xv (xs.take i)+x.sz:=by
    rw[List.take_add_one,o];have:∀l:List Tm,Tm.Xv (l++[x])=Tm.Xv l+x.sz:=λl=>by
     induction l with
     |nil=>simp[Tm.Xv]
     |cons y r j=>simp only[List.cons_append,Tm.Xv,j];omega
    exact this _
   omega
  ·rename_i o;have t:xs.take (i+1)=xs.take i:=by rw[List.take_add_one,o];simp
   rw[t];exact j
theorem Ru(xs:List Tm)(f:List ByteArray):∀i,Bq xs (λ_=>[]) f i=Tm.frees f (xs.take i)
 |0=>by simp[Bq,Tm.frees]
 |i+1=>by
  have j:=Ru xs f i;simp only[Bq];split
  ·rename_i x g;rw[Tm.Vi g,j,Ba]
  ·rename_i g;rw[List.take_add_one,g,j];simp
def Zg(k:Int)(a:ByteArray)(len i:Nat):List ByteArray:=if k=6/\len=2/\i=1 then[a]else[]
theorem AR(k:Int)(a:ByteArray)(len i:Nat):(Zg k a len i).length<=1:=by unfold Zg;split<;> simp
theorem Ib(k:Int)(a:ByteArray)(xs:List Tm)(f:List ByteArray)(h:¬(k=6/\xs.length=2)):Bq xs (Zg k a xs.length) f xs.length=Tm.frees f xs:=by
 have e:Zg k a xs.length=λ_=>[]:=funext λi=>by
  unfold Zg;rw[if_neg (λg=>h ⟨g.1,g.2.1⟩)]
 rw[e,Ru,List.take_length]
theorem Ia(a:ByteArray)(x y:Tm):Bq [x,y] (Zg 6 a 2) [] 2=Tm.UB a [] [x,y]:=by
 simp[Bq,Zg,Tm.UB,Tm.RD,Ba]
def K6(k n:Int)(a b:ByteArray)(vs:List ByteArray)(xs:List Tm)(cs:List Cs)(L:List ByteArray):List (Nat×Option Q9):=
 [(1,X0 k n a b vs xs cs),(3,some (.blk 50 [.arr 400 0 L.length])),(400,some (.arr 9 1 (L.map Jj)))]
theorem FK:∀(N:Nat) (t:Tm),t.sz<N->t.Fit->Qv Tryz.prog 67 [Y3 t] (λd=>.arr d 0 t.free.length) (some (.arr 9 1 (t.free.map Jj))):=by
 intro N;induction N with
 |zero=>intro s h;omega
 |succ N ih=>
 intro t hN hF;have hO:=hF.ok;obtain⟨k,n,a,b,vs,xs,cs⟩:=t;obtain⟨o1,o2,o3,o4,o5⟩:=hO.vars;have b0:=Qq3 hF;refine Qv.Xj7 Tryz.func67 rfl rfl _ (Nat.le_of_ble_eq_true rfl) (λd=>by simp[AV.has]) ?_;show X8 _ _ (CL _ Tryz.f67 _ _) (Z6 82 _);refine Wb ?_;apply Wx [] []
 ·conv=>lhs;simp
 ·trivial
 refine Wb ?_;apply Wx [] []
 ·conv=>lhs;simp
 ·trivial
 refine Wb ?_;apply Wx [] []
 ·conv=>lhs;simp
 ·trivial
 by_cases e1:k=1
 ·subst e1;have hf:(Tm.mk 1 n a b vs xs cs).free=[a]:=by simp[Tm.free]
  rw[hf];refine Wb ?_;apply Wx [] []
  ·conv=>lhs;simp
  ·trivial
  refine Wb ?_;apply Wx [] []
  ·conv=>lhs;simp
  ·trivial
  refine Wb ?_;refine Wc rfl (λh=>?_) (λh=>?_)
  ·refine Wr ?_;refine Wt ?_;try dsimp only[Q8,Q5]
   apply CL.ret 17
   ·conv=>lhs;simp[Q7,Tryz.results67]
   ·rfl
   ·rfl
   ·rfl
  ·simp at h
 obtain⟨o0,j⟩:∃o0,o0=if 8<=k/\k<=11 then[a]else[]:=⟨_,rfl⟩
 have b1:o0.length<=1:=by rw[j];split<;> simp
 refine X8.AU ⟨82,[(1,.ptr 1 0),(3,.ptr 3 0),(4,.clo 86 [.ptr 3 0])],K6 k n a b vs xs cs o0⟩ ?_ (λW hW=>?_);rotate_left
 ·by_cases k8:k=8
  ·subst k8;rw[if_pos oM]at j;subst j;refine Wb ?_;apply Wx [] []
   ·conv=>lhs;simp
   ·trivial
   refine Wb ?_;apply Wx [] []
   ·conv=>lhs;simp
   ·trivial
   refine Wb ?_;refine Wc rfl (λh=>?_) (λh=>?_)
   ·simp at h
   refine Wb ?_;apply Wx [] []
   ·conv=>lhs;simp
   ·trivial
   refine Wb ?_;refine Wc rfl (λh0=>?_) (λh0=>?_);rotate_left
   ·simp at h0
   refine Ws ?_;refine Wb ?_;refine Wc rfl (λT=>?_) (λT=>?_);rotate_left
   ·simp at T
   refine Wr ?_;exact hW _ (Le.trans (Le.swap _ 25 400 rfl rfl) (Le.sub (by simp[AS.swap,ZR]) (by simp[AS.swap,ZR,K6,X0])))
  by_cases k9:k=9
  ·subst k9;rw[if_pos oM]at j;subst j;refine Wb ?_;apply Wx [] []
   ·conv=>lhs;simp
   ·trivial
   refine Wb ?_;apply Wx [] []
   ·conv=>lhs;simp
   ·trivial
   refine Wb ?_;refine Wc rfl (λh=>?_) (λh=>?_)
   ·simp at h
   refine Wb ?_;apply Wx [] []
   ·conv=>lhs;simp
   ·trivial
   refine Wb ?_;refine Wc rfl (λh0=>?_) (λh0=>?_)
   ·simp at h0
   refine Wb ?_;apply Wx [] []
   ·conv=>lhs;simp
   ·trivial
   refine Wb ?_;refine Wc rfl (λI=>?_) (λI=>?_);rotate_left
   ·simp at I
   refine Ws ?_;refine Wb ?_;refine Wc rfl (λT=>?_) (λT=>?_);rotate_left
   ·simp at T
   refine Wr ?_;exact hW _ (Le.trans (Le.swap _ 25 400 rfl rfl) (Le.sub (by simp[AS.swap,ZR]) (by simp[AS.swap,ZR,K6,X0])))
  by_cases a2:k=10
  ·subst a2;rw[if_pos oM]at j;subst j;refine Wb ?_;apply Wx [] []
   ·conv=>lhs;simp
   ·trivial
   refine Wb ?_;apply Wx [] []
   ·conv=>lhs;simp
   ·trivial
   refine Wb ?_;refine Wc rfl (λh=>?_) (λh=>?_)
   ·simp at h
   refine Wb ?_;apply Wx [] []
   ·conv=>lhs;simp
   ·trivial
   refine Wb ?_;refine Wc rfl (λh0=>?_) (λh0=>?_)
   ·simp at h0
   refine Wb ?_;apply Wx [] []
   ·conv=>lhs;simp
   ·trivial
   refine Wb ?_;refine Wc rfl (λI=>?_) (λI=>?_)
   ·simp at I
   refine Wb ?_;apply Wx [] []
   ·conv=>lhs;simp
   ·trivial
   refine Wb ?_;refine Wc rfl (λh2=>?_) (λh2=>?_);rotate_left
   ·simp at h2
   refine Ws ?_;refine Wb ?_;refine Wc rfl (λT=>?_) (λT=>?_);rotate_left
   ·simp at T
   refine Wr ?_;exact hW _ (Le.trans (Le.swap _ 25 400 rfl rfl) (Le.sub (by simp[AS.swap,ZR]) (by simp[AS.swap,ZR,K6,X0])))
  by_cases a3:k=11
  ·subst a3;rw[if_pos oM]at j;subst j;refine Wb ?_;apply Wx [] []
   ·conv=>lhs;simp
   ·trivial
   refine Wb ?_;apply Wx [] []
   ·conv=>lhs;simp
   ·trivial
   refine Wb ?_;refine Wc rfl (λh=>?_) (λh=>?_)
   ·simp at h
   refine Wb ?_;apply Wx [] []
   ·conv=>lhs;simp
   ·trivial
   refine Wb ?_;refine Wc rfl (λh0=>?_) (λh0=>?_)
   ·simp at h0
   refine Wb ?_;apply Wx [] []
   ·conv=>lhs;simp
   ·trivial
   refine Wb ?_;refine Wc rfl (λI=>?_) (λI=>?_)
   ·simp at I
   refine Wb ?_;apply Wx [] []
   ·conv=>lhs;simp
   ·trivial
   refine Wb ?_;refine Wc rfl (λh2=>?_) (λh2=>?_)
   ·simp at h2
   refine Wb ?_;apply Wx [] []
   ·conv=>lhs;simp
   ·trivial
   refine Wb ?_;refine Wc rfl (λT=>?_) (λT=>?_);rotate_left
   ·simp at T
   refine Wr ?_;exact hW _ (Le.trans (Le.swap _ 25 400 rfl rfl) (Le.sub (by simp[AS.swap,ZR]) (by simp[AS.swap,ZR,K6,X0])))
  rw[if_neg oM]at j;subst j;refine Wb ?_;apply Wx [] []
  ·conv=>lhs;simp
  ·trivial
  refine Wb ?_;apply Wx [] []
  ·conv=>lhs;simp[e1]
  ·trivial
  refine Wn ?_;refine Wb ?_;apply Wx [] []
  ·conv=>lhs;simp[k8]
  ·trivial
  refine Wn ?_;refine Wb ?_;apply Wx [] []
  ·conv=>lhs;simp[k9]
  ·trivial
  refine Wn ?_;refine Wb ?_;apply Wx [] []
  ·conv=>lhs;simp[a2]
  ·trivial
  refine Wn ?_;refine Wb ?_;apply Wx [] []
  ·conv=>lhs;simp[a3]
  ·trivial
  refine Wb ?_;refine Wc rfl (λT=>?_) (λT=>?_)
  ·cases T
  refine Ws ?_;exact hW _ (Le.low [400] [] rfl (by simp) (by simp[K6,X0]))
 refine Wb ?_;apply Wx [] []
 ·conv=>lhs;simp[K6,X0]
 ·trivial
 refine Wb ?_;refine Wl (σ:=λu:{i:Nat // i<=xs.length}=>⟨82,[(1,.ptr 1 0),(3,.ptr 3 0),(4,.clo 86 [.ptr 3 0]),(27,La (xs.map Tm.row)),(28,Iv xs.length),(29,Iv u.1)],K6 k n a b vs xs cs (Bq xs (Zg k a xs.length) o0 u.1)⟩)
  (μ:=λu=>xs.length-u.1) ⟨0,Nat.zero_le _⟩ (Le.sub (by simp) (by simp[Bq,K6,X0])) (λ⟨i,hi⟩=>?_)
 dsimp only;have a6:=Ns xs (Zg k a xs.length) o0 i;have hS:∀x,xs[i]? =some x->_:=λx=>LU (Zg k a xs.length) o0 (x:=x) (i:=i)
 obtain⟨L,hL⟩:∃L,L=Bq xs (Zg k a xs.length) o0 i:=⟨_,rfl⟩
 rw[<-hL]at a6 hS⊢;refine Wb ?_;apply Wx [] []
 ·conv=>lhs;simp
 ·trivial
 refine Wb ?_;refine Wc rfl (λh=>?_) (λh=>?_)
 ·have l:i<xs.length:=by have:=of_decide_eq_true h;omega
  have I:xs[i]? =some xs[i]:=List.getElem?_eq_getElem l;have o:xs[i]∈xs:=List.getElem_mem l;generalize xs[i]=x at I o;have hx:=ih x (by have:=Tm.Wu (k:=k) (n:=n) (a:=a) (b:=b) (vs:=vs) (cs:=cs) o;omega) (hF.arg o);have lx:=x.Mw;have lt:=Tm.GJ I;have b2:=AR k a xs.length i;have J:=ER L x.free (Zg k a xs.length i) oM oM;have U:=hS x I;have f:Zg k a xs.length i=if k=6/\xs.length=2/\i=1 then[a]else[]:=rfl
  generalize Zg k a xs.length i=sk at f J U;obtain⟨L',a4⟩:∃L',L'=Bq xs (Zg k a xs.length) o0 (i+1):=⟨_,rfl⟩
  rw[<-a4]at U;generalize x.free=fx at *;rw[<-U]at J;obtain⟨xk,xn,xa,xb,xv,xx,xc⟩:=x;refine Ws ?_;refine Wr ?_ (r:=by conv=>lhs;simp[I,Tm.row,Tm.Q3,Cs.Q3]);refine Wb ?_;apply Wx [] []
  ·conv=>lhs;simp
  ·trivial
  refine X8.AU ⟨82,[(1,.ptr 1 0),(3,.ptr 3 0),(4,.clo 86 [.ptr 3 0]),(6,.ptr 6 0),(7,Xw sk),(27,La (xs.map Tm.row)),(28,Iv xs.length),(29,Iv i)],(6,X0 xk xn xa xb xv xx xc)::K6 k n a b vs xs cs L⟩ ?_ (λW1 P=>?_);rotate_left
  ·by_cases k6:k=6
   ·subst k6;by_cases k7:xs.length=2
    ·have C:(xs.length:Int)=2:=oM;by_cases k8:i=1
     ·have a1:(i:Int)=1:=oM;rw[if_pos ⟨rfl,k7,k8⟩]at f;subst f;refine Wr ?_ (r:=by conv=>lhs;simp[C,a1,K6,X0]);refine Wb ?_;refine Wc rfl (λh2=>?_) (λh2=>?_);rotate_left
      ·simp at h2
      refine Wg [2] [] ?_;exact P _ (Le.low [] [] rfl (by simp[Q6,C,a1]) (by simp[K6,X0]))
     ·have a1:¬(i:Int)=1:=oM;rw[if_neg (λhh=>k8 hh.2.2)]at f;subst f;refine Wr ?_ (r:=by conv=>lhs;simp[C,a1,K6,X0]);refine Wn ?_;refine Ws ?_;exact P _ (Le.low [] [] rfl (by simp[Q6,C]) (by simp[K6,X0]))
    ·have C:¬(xs.length:Int)=2:=oM;rw[if_neg (λhh=>k7 hh.2.1)]at f;subst f;refine Wr ?_ (r:=by conv=>lhs;simp[C,K6,X0]);refine Wn ?_;refine Ws ?_;exact P _ (Le.low [] [] rfl (by simp[Q6]) (by simp[K6,X0]))
   ·rw[if_neg (λhh=>k6 hh.1)]at f;subst f;refine Wr ?_ (r:=by conv=>lhs;simp[k6,K6,X0]);refine Wn ?_;refine Ws ?_;exact P _ (Le.low [] [] rfl (by simp[Q6]) (by simp[K6,X0]))
  refine Wb ?_;apply Wx [2] [.p (λd=>.arr d 0 fx.length) (some (.arr 9 1 (fx.map Jj))),.c [(1000,3),(500,400)] [Xw fx,Xw sk,.ptr 1000 0] [(1000,.blk 50 [.arr 500 0 L.length]),(500,.arr 9 1 (L.map Jj))] (Zv []) [(1000,.blk 50 [.arr 500 0 L'.length]),(500,.arr 9 1 (L'.map Jj))]]
  ·conv=>lhs;simp[X0,K6,Zv]
  ·exact⟨hx,J⟩
  refine Wr ?_;refine⟨⟨i+1,l⟩,by simp;omega,?_⟩;dsimp only;rw[<-a4];exact Le.sub (by simp) (by simp[X0,K6])
 have l:i=xs.length:=by have:=of_decide_eq_false h;omega
 subst l;clear h hS;have b3:Tm.Xv (xs.take xs.length)=Tm.Xv xs:=by rw[List.take_length]
 refine We ?_;by_cases e6:k=6/\xs.length=2
 ·have hf:(Tm.mk k n a b vs xs cs).free=L:=by
   obtain⟨e6,e7⟩:=e6;rw[hL,j,e6];match xs,e7 with
   |[x,y],_=>
    rw[if_neg oM];refine Eq.trans ?_ (Ia a x y).symm;simp[Tm.free]
  rw[hf];obtain⟨e6,e7⟩:=e6;subst e6;have C:(xs.length:Int)=2:=oM;refine Wr ?_ (r:=by conv=>lhs;simp[C,K6,X0]);refine Wy ?_;refine Wr ?_;refine Wt ?_;try dsimp only[Q8,Q5]
  apply CL.ret 400
  ·conv=>lhs;simp[Q7,Tryz.results67]
  ·rfl
  ·rfl
  ·rfl
 have hf:(Tm.mk k n a b vs xs cs).free=Cs.frees L cs:=by
  simp only[Tm.free,if_neg e1,if_neg e6];rw[hL,Ib k a xs o0 e6,j]
 rw[hf];refine X8.AU ⟨82,[(1,.ptr 1 0),(3,.ptr 3 0),(4,.clo 86 [.ptr 3 0])],K6 k n a b vs xs cs L⟩ ?_ (λW1 P=>?_);rotate_left
 ·by_cases k6:k=6
  ·subst k6;have C:¬(xs.length:Int)=2:=λhh=>e6 ⟨rfl,oM⟩
   refine Wr ?_ (r:=by conv=>lhs;simp[C,K6,X0]);refine Wn ?_;refine Ws ?_;exact P _ (Le.sub (by simp) (by simp[K6,X0]))
  ·refine Wr ?_ (r:=by conv=>lhs;simp[k6,K6,X0]);refine Wn ?_;refine Ws ?_;exact P _ (Le.sub (by simp) (by simp[K6,X0]))
 refine Wb ?_;apply Wx [] []
 ·conv=>lhs;simp[K6,X0]
 ·trivial
 refine Wb ?_;refine Wl (σ:=λu:{i:Nat // i<=cs.length}=>⟨82,[(1,.ptr 1 0),(3,.ptr 3 0),(4,.clo 86 [.ptr 3 0]),(67,La (cs.map Cs.row)),(68,Iv cs.length),(69,Iv u.1)],K6 k n a b vs xs cs (Cs.frees L (cs.take u.1))⟩)
  (μ:=λu=>cs.length-u.1) ⟨0,Nat.zero_le _⟩ (Le.sub (by simp) (by simp[Cs.frees,K6,X0])) (λ⟨i,hi⟩=>?_)
 dsimp only;have a7:=Cs.QV (cs.take i) L;have hS:∀x,cs[i]? =some x->Cs.frees L (cs.take (i+1))=addN (Cs.frees L (cs.take i)) x.QC:=λx=>Cs.Vi
 obtain⟨M,hM⟩:∃M,M=Cs.frees L (cs.take i):=⟨_,rfl⟩
 rw[<-hM]at a7 hS⊢;refine Wb ?_;apply Wx [] []
 ·conv=>lhs;simp
 ·trivial
 refine Wb ?_;refine Wc rfl (λh=>?_) (λh=>?_)
 ·have l:i<cs.length:=by have:=of_decide_eq_true h;omega
  have I:cs[i]? =some cs[i]:=List.getElem?_eq_getElem l;have o:cs[i]∈cs:=List.getElem_mem l;generalize cs[i]=x at I o;have lx:=x.NR;have lt:=Cs.GJ I;have U:=hS x I;obtain⟨g,ws,x⟩:=x;obtain⟨a8,b4⟩:=hF.case o;have hx:=ih x (by have:=Tm.YI (k:=k) (n:=n) (a:=a) (b:=b) (vs:=vs) (xs:=xs) o;omega) a8;have b5:=x.Mw;have a9:(Cs.mk g ws x).sz=x.sz:=rfl;simp only[Cs.QC]at U;have J:=ER M x.free ws oM oM;rw[<-U]at J;obtain⟨M',a5⟩:∃M',M'=Cs.frees L (cs.take (i+1)):=⟨_,rfl⟩
  rw[<-a5]at J;generalize x.free=fx at *;obtain⟨xk,xn,xa,xb,xv,xx,xc⟩:=x;refine Ws ?_;refine Wr ?_ (r:=by conv=>lhs;simp[I,Cs.row,Tm.row,Tm.Q3,Cs.Q3]);refine Wb ?_;apply Ww [3] [.p (λd=>.arr d 0 fx.length) (some (.arr 9 1 (fx.map Jj))),.c [(1000,3),(500,400)] [Xw fx,Xw ws,.ptr 1000 0] [(1000,.blk 50 [.arr 500 0 M.length]),(500,.arr 9 1 (M.map Jj))] (Zv []) [(1000,.blk 50 [.arr 500 0 M'.length]),(500,.arr 9 1 (M'.map Jj))]] mixed
  ·conv=>lhs;simp[X0,K6,Zv]
  ·kernel_rfl
  ·exact⟨hx,J⟩
  refine Wr ?_;refine⟨⟨i+1,l⟩,by simp;omega,?_⟩;dsimp only;rw[<-a5];exact Le.sub (by simp) (by simp[X0,K6])
 have l:i=cs.length:=by have:=of_decide_eq_false h;omega
 subst l;rw[List.take_length]at hM;rw[<-hM];refine We ?_;refine Wb ?_;apply Wx [] []
 ·conv=>lhs;simp[K6]
 ·trivial
 refine Wt ?_;try dsimp only[Q8,Q5]
 apply CL.ret 400
 ·conv=>lhs;simp[Q7,Tryz.results67]
 ·rfl
 ·rfl
 ·rfl
theorem XX(t:Tm)(h:t.Fit):Qv Tryz.prog 67 [Y3 t] (λd=>.arr d 0 t.free.length) (some (.arr 9 1 (t.free.map Jj))):=FK _ t (Nat.lt_succ_self _) h
@[simp] theorem u8min:IntKind.u8.min=0:=rfl
@[simp] theorem u8max:IntKind.u8.max=255:=rfl
@[simp] theorem i32min:IntKind.i32.min= -2147483648:=rfl
@[simp] theorem i32max:IntKind.i32.max=2147483647:=rfl
def FU(i:Nat)(c:UInt8):Bool:=(decide ((97:Int)<=c.toNat) && decide ((c.toNat:Int)<=122))||((decide ((48:Int)<=c.toNat) && decide ((c.toNat:Int)<=57)) && !(i==0))
def F9(s:ByteArray):Bool:=((List.range s.size).all λj=>match s[j]? with|some c=>FU j c|none=>true) && (decide (1<=(s.size:Int)) && decide ((s.size:Int)<=8))
theorem NC{s:ByteArray}{i:Nat}{c:UInt8}(h:s[i]? =some c)(f:i<s.size)(g:FU i c=false):F9 s=false:=by
 unfold F9;rw[Bool.and_eq_false_iff];left;rw[List.all_eq_false];exact⟨i,List.mem_range.2 f,by rw[h];simp[g]⟩
theorem Ca{s:ByteArray}(h:∀j<s.size,∀c,s[j]? =some c->FU j c=true):F9 s=(decide (1<=(s.size:Int)) && decide ((s.size:Int)<=8)):=by
 unfold F9;have:((List.range s.size).all λj=>match s[j]? with|some c=>FU j c|none=>true)=true:=by
  rw[List.all_eq_true];intro j f;have:=h j (List.mem_range.1 f);revert this;cases s[j]? with
  |none=>intro _;rfl
  |some c=>intro h;exact h c rfl
 rw[this,Bool.true_and]
theorem VQ(s:ByteArray)(hs:s.size<=9223372036854775806):Qv Tryz.prog 13 [Sv s] (λ_=>Bv (F9 s)) none:=by
 refine Qv.of Tryz.func13 rfl rfl rfl (Nat.le_of_ble_eq_true rfl) ?_;show X8 _ _ (Z7 _ Tryz.f13 _ _ _) (Z6 50 _);refine Wb ?_;apply Wx [] []
 ·conv=>lhs;simp
 ·trivial
 refine Wb ?_;apply Wx [] []
 ·conv=>lhs;simp
 ·trivial
 refine Wb ?_;refine Wl (σ:=λu:{i:Nat // i<=s.size/\∀j<i,∀c,s[j]? =some c->FU j c=true}=>⟨50,[(0,Sv s),(7,Iv s.size),(8,Iv u.1)],[]⟩)
  (μ:=λu=>s.size-u.1) ⟨0,Nat.zero_le _,by simp⟩ (Le.sub (by simp) (by simp)) (λ⟨i,hi,ht⟩=>?_)
 dsimp only;refine Wb ?_;apply Wx [] []
 ·conv=>lhs;simp
 ·trivial
 refine Wb ?_;refine Wc rfl (λh=>?_) (λh=>?_)
 ·have g:i<s.size:=by have:=of_decide_eq_true h;omega
  have P:s[i]? =some s[i]:=by rw[getElem?_pos]
  generalize s[i]=c at P;have t:FU i c=((decide ((97:Int)<=c.toNat) && decide ((c.toNat:Int)<=122))||((decide ((48:Int)<=c.toNat) && decide ((c.toNat:Int)<=57)) && !(i==0))):=rfl;obtain⟨A,hA⟩:∃A,A=decide ((97:Int)<=c.toNat):=⟨_,rfl⟩
  obtain⟨B,hB⟩:∃B,B=decide ((c.toNat:Int)<=122):=⟨_,rfl⟩
  obtain⟨C,hC⟩:∃C,C=decide ((48:Int)<=c.toNat):=⟨_,rfl⟩
  obtain⟨E,hE⟩:∃E,E=decide ((c.toNat:Int)<=57):=⟨_,rfl⟩
  rw[<-hA,<-hB,<-hC,<-hE]at t;refine Ws ?_;refine Wb ?_;apply Wx [] []
  ·conv=>lhs;simp
  ·trivial
  refine X8.AU ⟨50,[(0,Sv s),(3,Iv i),(4,Bv (A && B)),(5,Bv (C && E)),(7,Iv s.size),(8,Iv i)],[]⟩ ?_ (λW hW=>?_);rotate_left
  ·cases A<;> cases B<;> cases C<;> cases E
   all_goals (
    have qA:=hA.symm;have qB:=hB.symm;have qC:=hC.symm;have qE:=hE.symm;simp only[decide_eq_true_eq,decide_eq_false_iff_not]at qA qB qC qE;refine Wz [] [] mixed ?_ (hr:=by conv=>lhs;simp[P,qA,qB,qC,qE]);exact hW _ (Le.sub (by simp) (by simp)))
  obtain⟨L,hL⟩:∃L,L=(A && B):=⟨_,rfl⟩
  obtain⟨G,hG⟩:∃G,G=(C && E):=⟨_,rfl⟩
  rw[<-hL,<-hG]at t⊢;have step:FU i c=true->∀j<i+1,∀c,s[j]? =some c->FU j c=true:=λU j hj c' I=>by
   rcases Nat.lt_or_ge j i with a1|a3
   ·exact ht j a1 c' I
   ·obtain rfl:j=i:=oM;rw[P]at I;cases I;exact U
  by_cases hz:i=0
  ·subst hz;cases L<;> cases G
   all_goals first
    |(
     have l:=NC P g (by rw[t];rfl);refine Wr ?_;refine Wb ?_;refine Wc rfl (λo=>?_) (λo=>?_);rotate_left
     ·cases o
     refine Wr ?_;refine Wt ?_;try dsimp only[Q8,Q5]
     apply Z7.ret
     ·rfl
     ·conv=>lhs;simp[Q7,Tryz.results13]
     rw[l];rfl)
    |(
     have f:=step (by rw[t];rfl);refine Wr ?_;refine Wb ?_;refine Wc rfl (λo=>?_) (λo=>?_)
     ·cases o
     refine Ws ?_;refine Wr ?_;refine⟨⟨0+1,g,f⟩,by simp;omega,Le.sub (by simp) (by simp)⟩)
  ·have a4:¬(i:Int)=0:=oM;have a2:(i==0)=false:=by simp[hz]
   rw[a2]at t;cases L<;> cases G
   all_goals first
    |(
     have l:=NC P g (by rw[t];rfl);refine Wr ?_;refine Wb ?_;refine Wc rfl (λo=>?_) (λo=>?_);rotate_left
     ·cases o
     refine Wr ?_;refine Wt ?_;try dsimp only[Q8,Q5]
     apply Z7.ret
     ·rfl
     ·conv=>lhs;simp[Q7,Tryz.results13]
     rw[l];rfl)
    |(
     have f:=step (by rw[t];rfl);refine Wr ?_ (r:=by conv=>lhs;simp[hz]);refine Wb ?_;refine Wc rfl (λo=>?_) (λo=>?_)
     ·cases o
     refine Ws ?_;refine Wr ?_;refine⟨⟨i+1,g,f⟩,by simp;omega,Le.sub (by simp) (by simp)⟩)
 have g:i=s.size:=by have:=of_decide_eq_false h;omega
 subst g;have hg:=Ca ht;rw[hg];refine We ?_;by_cases J:(1:Int)<=s.size
 ·by_cases T:(s.size:Int)<=8
  ·refine Wr ?_ (r:=by conv=>lhs;simp[J,T]);refine Wt ?_;try dsimp only[Q8,Q5]
   apply Z7.ret
   ·rfl
   ·conv=>lhs;simp[Q7,Tryz.results13]
   rw[decide_eq_true J,decide_eq_true T];rfl
  ·refine Wr ?_ (r:=by conv=>lhs;simp[J,T]);refine Wt ?_;try dsimp only[Q8,Q5]
   apply Z7.ret
   ·rfl
   ·conv=>lhs;simp[Q7,Tryz.results13]
   rw[decide_eq_true J,decide_eq_false T];rfl
 ·refine Wr ?_ (r:=by conv=>lhs;simp[J]);refine Wt ?_;try dsimp only[Q8,Q5]
  apply Z7.ret
  ·rfl
  ·conv=>lhs;simp[Q7,Tryz.results13]
  rw[decide_eq_false J];rfl
def Ld(l:List ByteArray):Bool:=(List.range l.length).any λj=>match l[j]? with|some x=>hasB (l.take j) x|none=>false
theorem Zx9{l:List ByteArray}{i:Nat}{x:ByteArray}(h:l[i]? =some x)(f:hasB (l.take i) x=true):Ld l=true:=by
 unfold Ld;rw[List.any_eq_true];exact⟨i,List.mem_range.2 (List.getElem?_eq_some_iff.1 h).1,by rw[h];exact f⟩
theorem OV{l:List ByteArray}(h:∀j<l.length,∀x,l[j]? =some x->hasB (l.take j) x=false):Ld l=false:=by
 unfold Ld;rw[List.any_eq_false];intro j f;have:=h j (List.mem_range.1 f);revert this;cases l[j]? with
 |none=>simp
 |some c=>intro h;simp[h c rfl]
theorem OT{l:List ByteArray}{i:Nat}{x:ByteArray}(o:l[i]? =some x)(r:∀j<i,∀x,l[j]? =some x->hasB (l.take j) x=false)(t:hasB (l.take i) x=false):∀j<i+1,∀x,l[j]? =some x->hasB (l.take j) x=false:=λj J C f=>by
 rcases Nat.lt_or_ge j i with g|I
 ·exact r j g C f
 ·obtain rfl:j=i:=oM;rw[o]at f;cases f;exact t
theorem TQ(l:List ByteArray)(hl:l.length<=8796093022208):Qv Tryz.prog 14 [Xw l] (λ_=>Bv (Ld l)) none:=by
 refine Qv.of Tryz.func14 rfl rfl rfl (Nat.le_of_ble_eq_true rfl) ?_;show X8 _ _ (Z7 _ Tryz.f14 _ _ _) (Z6 18 _);refine Wb ?_;apply Wx [] []
 ·conv=>lhs;simp
 ·trivial
 refine Wb ?_;apply Wx [] []
 ·conv=>lhs;simp
 ·trivial
 refine Wb ?_;refine Wl (σ:=λu:{i:Nat // i<=l.length/\∀j<i,∀x,l[j]? =some x->hasB (l.take j) x=false}=>⟨18,[(0,Xw l),(5,Xw l),(6,Iv l.length),(7,Iv u.1)],[]⟩)
  (μ:=λu=>l.length-u.1) ⟨0,Nat.zero_le _,by simp⟩ (Le.sub (by simp) (by simp)) (λ⟨i,hi,J⟩=>?_)
 dsimp only;refine Wb ?_;apply Wx [] []
 ·conv=>lhs;simp
 ·trivial
 refine Wb ?_;refine Wc rfl (λh=>?_) (λh=>?_)
 ·have f:i<l.length:=by have:=of_decide_eq_true h;omega
  have o:l[i]? =some l[i]:=List.getElem?_eq_getElem f;generalize l[i]=x at o;have hp:=JR (l.take i) x (by simp;omega);have t:=λC=>OT (i:=i) o J C
  have I:=λC=>Zx9 (i:=i) o C
  have g:(l.map Jj).take i=(l.take i).map Jj:=by rw[List.map_take]
  obtain⟨T,P⟩:∃T,T=l.take i:=⟨_,rfl⟩
  rw[<-P]at hp t I g;obtain⟨B,U⟩:∃B,B=hasB T x:=⟨_,rfl⟩
  rw[<-U]at hp t I;refine Ws ?_;refine Wr ?_ (r:=by conv=>lhs;simp[o]);cases B with
  |true=>
   refine Wb ?_;apply Wx [] [.p (λ_=>Bv true) none]
   ·conv=>lhs;simp[g]
   ·exact⟨oM,hp⟩
   refine Wy ?_;refine Wr ?_;refine Wt ?_;try dsimp only[Q8,Q5]
   apply Z7.ret
   ·rfl
   ·conv=>lhs;simp[Q7,Tryz.results14]
   rw[I rfl];rfl
  |false=>
   refine Wb ?_;apply Wx [] [.p (λ_=>Bv false) none]
   ·conv=>lhs;simp[g]
   ·exact⟨oM,hp⟩
   refine Wn ?_;refine Ws ?_;refine Wr ?_;refine⟨⟨i+1,f,t rfl⟩,by simp;omega,Le.sub (by simp) (by simp)⟩
 have f:i=l.length:=by have:=of_decide_eq_false h;omega
 subst f;have hn:=OV J;refine We ?_;refine Wb ?_;apply Wx [] []
 ·conv=>lhs;simp
 ·trivial
 refine Wt ?_;try dsimp only[Q8,Q5]
 apply Z7.ret
 ·rfl
 ·conv=>lhs;simp[Q7,Tryz.results14]
 rw[hn];rfl
def YC(l:List ByteArray):Bool:=l.any λs=>!F9 s
theorem Qq7(l:List ByteArray)(J:l.length<=8796093022208)(C:∀s∈l,s.size<=9223372036854775806):Qv Tryz.prog 15 [Xw l] (λ_=>Bv (YC l)) none:=by
 refine Qv.of Tryz.func15 rfl rfl rfl (Nat.le_of_ble_eq_true rfl) ?_;show X8 _ _ (Z7 _ Tryz.f15 _ _ _) (Z6 15 _);refine Wb ?_;apply Wx [] []
 ·conv=>lhs;simp
 ·trivial
 refine Wb ?_;apply Wx [] []
 ·conv=>lhs;simp
 ·trivial
 refine Wb ?_;refine Wl (σ:=λu:{i:Nat // i<=l.length/\∀y∈l.take i,(!F9 y)=false}=>⟨15,[(5,Xw l),(6,Iv l.length),(7,Iv u.1)],[]⟩)
  (μ:=λu=>l.length-u.1) ⟨0,Nat.zero_le _,by simp⟩ (Le.sub (by simp) (by simp)) (λ⟨i,P,j⟩=>?_)
 dsimp only;refine Wb ?_;apply Wx [] []
 ·conv=>lhs;simp
 ·trivial
 refine Wb ?_;refine Wc rfl (λh=>?_) (λh=>?_)
 ·have f:i<l.length:=by have:=of_decide_eq_true h;omega
  have o:l[i]? =some l[i]:=List.getElem?_eq_getElem f;have g:l[i]∈l:=List.getElem_mem f;generalize l[i]=x at o g;have hp:=VQ x (C x g);obtain⟨B,t⟩:∃B,B=F9 x:=⟨_,rfl⟩
  rw[<-t]at hp;refine Ws ?_;refine Wr ?_ (r:=by conv=>lhs;simp[o]);cases B with
  |true=>
   refine Wb ?_;apply Wx [] [.p (λ_=>Bv true) none]
   ·conv=>lhs;simp
   ·exact hp
   refine Wn ?_;refine Ws ?_;refine Wr ?_;refine⟨⟨i+1,f,FH o j (by rw[<-t];rfl)⟩,by simp;omega,Le.sub (by simp) (by simp)⟩
  |false=>
   refine Wb ?_;apply Wx [] [.p (λ_=>Bv false) none]
   ·conv=>lhs;simp
   ·exact hp
   refine Wy ?_;refine Wr ?_;refine Wt ?_;try dsimp only[Q8,Q5]
   apply Z7.ret
   ·rfl
   ·conv=>lhs;simp[Q7,Tryz.results15]
   rw[show YC l=true from List.any_eq_true.2 ⟨x,g,by rw[<-t];rfl⟩];rfl
 have f:i=l.length:=by have:=of_decide_eq_false h;omega
 subst f;rw[List.take_length]at j;refine We ?_;refine Wb ?_;apply Wx [] []
 ·conv=>lhs;simp
 ·trivial
 refine Wt ?_;try dsimp only[Q8,Q5]
 apply Z7.ret
 ·rfl
 ·conv=>lhs;simp[Q7,Tryz.results15]
 rw[show YC l=false from List.any_eq_false.2 λy I=>by rw[j y I];simp];rfl
abbrev Xh0(f:List (D×List D)):Q9:=.map true false 1 f
inductive Vl where
 |mk (KD:Bool) (n:Int) (kids:List Vl)
def Vl.KD:Vl->Bool| .mk c _ _=>c
def Vl.n:Vl->Int| .mk _ n _=>n
def Vl.kids:Vl->List Vl| .mk _ _ k=>k
mutual
def Vl.row:Vl->List D
 | .mk c n f=>[.bool c,.int n,.sl (Vl.rows f)]
def Vl.rows:List Vl->List (List D)
 |[]=>[]
 |t::r=>t.row::Vl.rows r
end
theorem Vl.Q3(l:List Vl):Vl.rows l=l.map Vl.row:=by
 induction l with
 |nil=>rfl
 |cons t r f=>simp only[Vl.rows,List.map_cons,f]
mutual
def Vl.sz:Vl->Nat
 | .mk _ _ f=>1+Vl.Xv f
def Vl.Xv:List Vl->Nat
 |[]=>0
 |t::r=>t.sz+Vl.Xv r
end
mutual
def Vl.Ok:Vl->Prop
 | .mk _ n f=>(-9223372036854775808<=n/\n<=9223372036854775807)/\f.length<=3518437208883/\Vl.VI f
def Vl.VI:List Vl->Prop
 |[]=>True
 |t::r=>t.Ok/\Vl.VI r
end
abbrev Xz2:Vl->AV
 | .mk c n f=>.agg [Bv c,Iv n,La (f.map Vl.row)]
mutual
def Vl.left:Vl->Int->Int
 | .mk _ _ f,l=>Vl.lefts f (l-1)
def Vl.lefts:List Vl->Int->Int
 |[],l=>l
 |x::r,l=>Vl.lefts r (if 0<=l then x.left l else l)
end
theorem Vl.WP:∀(r:List Vl) (l:Int),l<0->Vl.lefts r l=l
 |[],l,h=>rfl
 |x::r,l,h=>by rw[Vl.lefts,if_neg oM,Vl.WP r l h]
mutual
theorem Vl.BS:∀(v:Vl) (l:Int),0<=l→-1<=v.left l/\v.left l<=l
 | .mk _ _ f,l,h=>by
  have:=Vl.Dt f (l-1) oM;rw[Vl.left];omega
theorem Vl.Dt:∀(r:List Vl) (l:Int),-1<=l→-1<=Vl.lefts r l/\Vl.lefts r l<=l
 |[],l,h=>by rw[Vl.lefts];omega
 |x::r,l,h=>by
  rw[Vl.lefts];split
  ·have g:=Vl.BS x l oM;have i:=Vl.Dt r (x.left l) g.1;omega
  ·exact Vl.Dt r l h
end
end
section
open Go.RowKit
def Uq(l o:List ByteArray):List ByteArray:=l.filter λs=>hasB o s
theorem N8(l o:List ByteArray):(Uq l o).length<=l.length:=List.length_filter_le _ _
theorem Qw8{l:List ByteArray}(o:List ByteArray){i:Nat}{x:ByteArray}(f:l[i]? =some x):Uq (l.take (i+1)) o=if hasB o x then Uq (l.take i) o++[x]else Uq (l.take i) o:=by
 unfold Uq;rw[List.take_add_one,f,List.filter_append];cases hq:hasB o x<;> simp[List.filter,hq]
theorem OD{l:List ByteArray}(o:List ByteArray){i:Nat}{x:ByteArray}(f:l[i]? =some x):Rv (l.take (i+1)) o=if hasB o x then Rv (l.take i) o else Rv (l.take i) o++[x]:=by
 unfold Rv;rw[List.take_add_one,f,List.filter_append];cases hq:hasB o x<;> simp[List.filter,hq]
def Tm.nm:Tm->ByteArray
 | .mk _ _ a _ _ _ _=>a
def Dx(f:List ByteArray):List Tm->List ByteArray
 |[]=>[]
 |x::r=>if hasB f x.nm then x.nm::Dx (f++[x.nm]) r else Dx (f++[x.nm]) r
theorem XF:∀(l:List Tm) (f:List ByteArray),(Dx f l).length<=l.length
 |[],_=>Nat.le_refl _
 |x::r,f=>by
  have:=XF r (f++[x.nm]);rw[Dx];split<;> simp<;> omega
theorem Zw5(l f g:List ByteArray):Rv (Uq l f) g=Uq l (Rv f g):=by
 unfold Rv Uq;rw[List.filter_filter];refine List.filter_congr λs _=>?_
 rw[Bool.eq_iff_iff];simp[X9,Av,and_comm]
theorem Zw6(l f g:List ByteArray):Uq (Uq l f) (Uq l g)=Uq (Uq l f) g:=by
 unfold Uq;refine List.filter_congr λs i=>?_
 have:=(List.mem_filter.1 i).1;rw[Bool.eq_iff_iff];simp[X9,this]
def Dr(a:ByteArray)(own:List ByteArray):List Tm->List (List ByteArray)
 |[x,y]=>[Uq own x.free,Uq own (Rv y.free [a])++[a]]
 |_=>[]
def PM(a:ByteArray)(own:List ByteArray):List Tm->List ByteArray
 |[x,y]=>Uq (Uq own x.free) (Rv y.free [a])
 |_=>[]
def Xn:List Tm->ByteArray
 |x::_=>x.nm
 |[]=>.empty
mutual
def Tm.ow:Tm->List ByteArray->Tm
 | .mk k n a b vs xs cs,has=>cnt 9 (Rv has (Tm.mk k n a b vs xs cs).free) (
   if k=3\/k=4\/k=5 then cnt 8 (Dx [] xs) (.mk k n a b vs xs cs)
   else if k=6 then cnt 8 (PM a (Uq has (Tm.mk k n a b vs xs cs).free) xs) (.mk 6 0 a .empty [] (Tm.VH xs (Dr a (Uq has (Tm.mk k n a b vs xs cs).free) xs)) [])
   else if k=7 then .mk 7 0 .empty .empty [] xs (Cs.RU cs (Uq has (Tm.mk k n a b vs xs cs).free) (Xn xs))
   else .mk k n a b vs xs cs)
def Tm.VH:List Tm->List (List ByteArray)->List Tm
 |[],_=>[]
 |x::r,f=>x.ow (f.headD [])::Tm.VH r f.tail
def Cs.RU:List Cs->List ByteArray->ByteArray->List Cs
 |[],_,_=>[]
 |c::r,own,nm=>c.ow own nm::Cs.RU r own nm
def Cs.ow:Cs->List ByteArray->ByteArray->Cs
 | .mk t ws y,own,nm=>.mk t ws (cnt 8 (Uq ws y.free) (cnt 9 (if hasB y.free nm then[]else[nm]) (y.ow (if hasB y.free nm then own++Uq ws y.free else Rv (own++Uq ws y.free) [nm]))))
end
theorem Cs.Qk2{l:List Cs}{i:Nat}{x:Cs}(f:l[i]? =some x)(own:List ByteArray)(nm:ByteArray):Cs.RU (l.take (i+1)) own nm=Cs.RU (l.take i) own nm++[x.ow own nm]:=by
 have:∀l:List Cs,Cs.RU l own nm=l.map λc=>c.ow own nm:=λl=>by
  induction l with
  |nil=>rfl
  |cons c r g=>rw[Cs.RU,g];rfl
 rw[this,this,List.take_add_one,f,List.map_append];rfl
theorem Cs.Gg(own:List ByteArray)(nm:ByteArray):∀l:List Cs,(Cs.RU l own nm).length=l.length
 |[]=>rfl
 |c::r=>by rw[Cs.RU,List.length_cons,Cs.Gg own nm r,List.length_cons]
def Fn.ow(f:Fn):Fn:=⟨f.name,f.params,f.body.ow f.params⟩
theorem X8.Jz0{P:Program}{Q:Exit->AS->Prop}{s:AS}{x y z:Code}(f:AS)(g:X8 P z Q f)(i:∀W:AS->Prop,(∀s',Le s' f->W s')->X8 P x (Q8 (X8 P y (Q8 W Q)) Q) s):X8 P (.seq x (.seq y z)) Q s:=by
 refine Wq (X8.mono (i (X8 P z Q) λs' j=>X8.le j g) ?_);intro e s' h;cases e<;> first|exact h|exact Wq h
theorem X8.keep{P:Program}{c:Code}{Q:Exit->AS->Prop}{s:AS}(f g:List Nat){fr:List (Nat×AV)}{mem:List (Nat×Option Q9)}(i:Qf s.fr f=fr)(j:QB s.mem g=mem)(h:X8 P c Q ⟨s.n,fr,mem⟩):X8 P c Q s:=
 X8.le (by have:=Le.keep s f g;rw[i,j]at this;exact this) h
abbrev X6:=List (ByteArray×Nat)
def X6.get(f:X6)(s:ByteArray):Option Nat:=(f.find? λx=>decide (x.1=s)).map (·.2)
def Y2(f:X6)(k n:Int)(a:ByteArray)(names:List ByteArray)(na:Nat):Int:=
 if k=1 then (if hasB names a then 0 else 6)
 else if k=2 then (if n< -2147483648\/2147483647<n then 3 else 0)
 else if k=3 then (if n<0\/9<n then 3 else 0)
 else if k=5 then (if n<1\/5<n then 1 else 0)
 else if k=6 then (if F9 a then 0 else 7)
 else if k=4 then (match f.get a with|none=>6|some m=>if m=na then 0 else 5)
 else 0
def Xx(k:Int)(na nc:Nat):Bool:=
 (if k=3\/k=4 then decide (6<na)else if k=7 then decide (na≠1)else if k=5\/k=6 then decide (na≠2)else decide (na≠0))||(decide (k≠7) && decide (0<nc))
mutual
def Tm.wrong(f:X6):Tm->List ByteArray->Int->Int
 | .mk k n a _ _ xs cs,names,g=>
  if 24<g then 9 else if k<1\/7<k then 1 else if Xx k xs.length cs.length then 5
  else if Y2 f k n a names xs.length≠0 then Y2 f k n a names xs.length
  else if Tm.Y1 f k a names g 0 xs≠0 then Tm.Y1 f k a names g 0 xs
  else if k≠7 then 0 else if cs.length=0\/5<cs.length then 5 else Cs.Y1 f names g [] cs
def Tm.Y1(f:X6)(k:Int)(a:ByteArray)(names:List ByteArray)(g:Int):Nat->List Tm->Int
 |_,[]=>0
 |i,x::r=>if x.wrong f (if k=6/\i=1 then names++[a]else names) (g+1)≠0 then x.wrong f (if k=6/\i=1 then names++[a]else names) (g+1)else Tm.Y1 f k a names g (i+1) r
def Cs.Y1(f:X6)(names:List ByteArray)(g:Int):List Int->List Cs->Int
 |_,[]=>0
 |had,c::r=>if Cs.JL f names g had c≠0 then Cs.JL f names g had c else Cs.Y1 f names g (c.tag::had) r
def Cs.JL(f:X6)(names:List ByteArray)(g:Int):List Int->Cs->Int
 |had,.mk t vs b=>if t<0\/9<t then 3 else if (had.contains t||Ld vs||YC vs)then 7 else if 6<vs.length then 5 else b.wrong f (names++vs) (g+1)
end
def Fn.Y2(f:X6)(x:Fn):Int:=
 if ((f.get x.name).isSome|| !F9 x.name||Ld x.params||YC x.params)=true then 7
 else if 6<x.params.length then 5 else if 400<wr x.body.sz then 4 else 0
def Xl:X6->List Fn->Int
 |_,[]=>0
 |f,x::r=>if x.Y2 f≠0 then x.Y2 f else Xl ((x.name,x.params.length)::f) r
def ZW(l:List Fn):X6:=l.reverse.map λx=>(x.name,x.params.length)
theorem Oo(l:List Fn)(x:Fn):ZW (l++[x])=(x.name,x.params.length)::ZW l:=by simp[ZW]
def Xh(f:X6):List Fn->Int
 |[]=>0
 |x::r=>if x.body.wrong f x.params 0≠0 then x.body.wrong f x.params 0 else Xh f r
def Jq(l:List Fn):Int:=
 if l.length=0\/6<l.length then 5 else if Xl [] l≠0 then Xl [] l else Xh (ZW l) l
theorem K3{f:X6}{k n:Int}{a b:ByteArray}{vs names:List ByteArray}{xs:List Tm}{cs:List Cs}{g:Int}(h:(Tm.mk k n a b vs xs cs).wrong f names g=0):
  g<=24/\1<=k/\k<=7/\Xx k xs.length cs.length=false/\Y2 f k n a names xs.length=0/\Tm.Y1 f k a names g 0 xs=0/\(k=7->cs.length≠0/\cs.length<=5/\Cs.Y1 f names g [] cs=0):=by
 simp only[Tm.wrong]at h;split at h
 ·cases h
 rename_i o;split at h
 ·cases h
 rename_i r;split at h
 ·cases h
 rename_i l;split at h
 ·rename_i i;exact absurd h i
 rename_i i;split at h
 ·rename_i j;exact absurd h j
 rename_i j;refine⟨oM,oM,oM,by simpa using l,oM,oM,λt=>?_⟩;rw[if_neg oM]at h;split at h
 ·cases h
 rename_i C;exact⟨oM,oM,h⟩
theorem G6{f:X6}{k:Int}{a:ByteArray}{names:List ByteArray}{g:Int}:∀{l:List Tm} {i:Nat},Tm.Y1 f k a names g i l=0->
  ∀(j:Nat) (x:Tm),l[j]? =some x->x.wrong f (if k=6/\i+j=1 then names++[a]else names) (g+1)=0
 |[],_,_,j,x,o=>by simp at o
 |y::r,i,h,j,x,o=>by
  simp only[Tm.Y1]at h;obtain⟨I,t⟩:∃I,I=if k=6/\i=1 then names++[a]else names:=⟨_,rfl⟩
  rw[<-t]at h;by_cases C:y.wrong f I (g+1)=0;rotate_left
  ·rw[if_pos C]at h;exact absurd h C
  rw[if_neg (λe=>e C)]at h;match j with
  |0=>
   simp at o;subst o;rw[Nat.add_zero,<-t];exact C
  |j+1=>
   have:=G6 h j x (by simpa using o)
   rwa [show i+1+j=i+(j+1)by omega]at this
theorem Nq{f:X6}{names:List ByteArray}{i:Int}:∀{l:List Cs} {j:List Int},Cs.Y1 f names i j l=0->
  ∀{t:Int} {vs:List ByteArray} {b:Tm},Cs.mk t vs b∈l->0<=t/\t<=9/\Ld vs=false/\YC vs=false/\vs.length<=6/\b.wrong f (names++vs) (i+1)=0
 |[],_,_,t,vs,b,o=>by cases o
 |c::r,j,h,t,vs,b,o=>by
  simp only[Cs.Y1]at h;split at h
  ·rename_i g;exact absurd h g
  rename_i g;rcases List.mem_cons.1 o with rfl|o
  ·have g:=Decidable.byContradiction λe=>g e
   simp only[Cs.JL]at g;split at g
   ·cases g
   split at g
   ·cases g
   split at g
   ·cases g
   rename_i I C J;simp only[Bool.or_eq_true,not_or,Bool.not_eq_true]at C;exact⟨oM,oM,C.1.2,C.2,oM,g⟩
  ·exact Nq h o
def gB:Nat->Nat
 |0=>0
 |n+1=>1+6 * gB n
theorem Qq2{g:Nat}:∀{l:List Tm},(∀x∈l,x.sz<=g)->Tm.Xv l<=l.length * g
 |[],_=>by simp[Tm.Xv]
 |x::r,h=>by
  have i:=h x (List.mem_cons_self ..);have j:=Qq2 (l:=r) λy f=>h y (List.mem_cons_of_mem _ f)
  simp only[Tm.Xv,List.length_cons,Nat.succ_mul];omega
theorem Ai{g:Nat}:∀{l:List Cs},(∀x∈l,x.sz<=g)->Cs.Xv l<=l.length * g
 |[],_=>by simp[Cs.Xv]
 |x::r,h=>by
  have i:=h x (List.mem_cons_self ..);have j:=Ai (l:=r) λy f=>h y (List.mem_cons_of_mem _ f)
  simp only[Cs.Xv,List.length_cons,Nat.succ_mul];omega
theorem Ye{k:Int}{na nc:Nat}(h:Xx k na nc=false)(g:k=7->nc<=5):na+nc<=6:=by
 unfold Xx at h;simp only[Bool.or_eq_false_iff,Bool.and_eq_false_iff,decide_eq_false_iff_not]at h;obtain⟨h,h'⟩:=h;by_cases f:k=7
 ·have:=g f;subst f;simp at h;omega
 ·have i:nc=0:=by
   rcases h' with h'|h'
   ·exact absurd f h'
   ·omega
  split at h
  ·simp at h;omega
  ·split at h
   ·simp at h;omega
   ·simp at h;omega
theorem Oy(f:X6):∀(N:Nat) (t:Tm) (names:List ByteArray) (n:Nat) (i:Int),t.sz<N->i=25-(n:Int)->t.wrong f names i=0->t.sz<=gB n:=by
 intro N;induction N with
 |zero=>intro t _ _ _ h;omega
 |succ N I=>
 intro t names n i hN hd h;obtain⟨k,m,a,b,vs,xs,cs⟩:=t;obtain⟨h1,h2,h3,l,h5,P,J⟩:=K3 h;match n with
 |0=>omega
 |n+1=>
  have o:∀x∈xs,x.sz<=gB n:=λx o=>by
   obtain⟨j,T⟩:=List.mem_iff_getElem?.1 o;exact I x _ n (i+1) (by have:=Tm.Wu (k:=k) (n:=m) (a:=a) (b:=b) (vs:=vs) (cs:=cs) o;omega) oM (G6 P j x T)
  have C:Cs.Xv cs<=cs.length * gB n:=by
   by_cases r:k=7
   ·refine Ai λc C=>?_
    obtain⟨g,ws,x⟩:=c;have:=(Nq (J r).2.2 C).2.2.2.2.2;exact I x _ n (i+1) (by have:=Tm.YI (k:=k) (n:=m) (a:=a) (b:=b) (vs:=vs) (xs:=xs) C;omega) oM this
   ·have:=Ye l (λh=>absurd h r);have U:cs.length=0:=by
     unfold Xx at l;simp only[Bool.or_eq_false_iff,Bool.and_eq_false_iff,decide_eq_false_iff_not]at l;rcases l.2 with h'|h'
     ·exact absurd r h'
     ·omega
    have:cs=[]:=List.eq_nil_of_length_eq_zero U;subst this;simp[Cs.Xv]
  have r:=Qq2 o;have h9:=Ye l λh=>(J h).2.1
  simp only[Tm.sz,gB];have:xs.length * gB n+cs.length * gB n<=6 * gB n:=by
   rw[<-Nat.add_mul];exact Nat.mul_le_mul_right _ h9
  omega
theorem TD{f:X6}{t:Tm}{names:List ByteArray}(h:t.wrong f names 0=0):wr t.sz=t.sz:=by
 have g:=Oy f _ t names 25 0 (Nat.lt_succ_self _) oM h;have i:gB 25<=9223372036854775807:=by decide+kernel
 exact Zh8 ⟨oM,oM⟩
theorem Qe{s:ByteArray}(more:List ByteArray):∀l:List ByteArray,s∈addN l more<->s∈l\/s∈more:=by
 induction more with
 |nil=>intro l;simp[addN]
 |cons x more f=>
  intro l;have:=f (if hasB l x then l else l++[x]);simp only[addN,List.foldl_cons]at this⊢;rw[this];split
  ·rename_i h;have h:=X9.1 h;simp only[List.mem_cons];constructor
   ·rintro(h|h)
    ·exact .inl h
    ·exact .inr (.inr h)
   ·rintro(h'|rfl|h')
    ·exact .inl h'
    ·exact .inl h
    ·exact .inr h'
  ·simp only[List.mem_append,List.mem_cons,List.not_mem_nil,or_false,or_assoc]
theorem J8{s:ByteArray}{l gone:List ByteArray}:s∈Rv l gone<->s∈l/\s ∉ gone:=by
 unfold Rv;rw[List.mem_filter,<-Av (l:=gone)];simp
theorem YQ{s:ByteArray}(l:List Tm):∀o,s∈Tm.frees o l<->s∈o\/∃x∈l,s∈x.free:=by
 induction l with
 |nil=>intro o;simp[Tm.frees]
 |cons x r f=>
  intro o;simp only[Tm.frees,f,Qe,List.mem_cons,exists_eq_or_imp,or_assoc]
theorem Jf{s:ByteArray}(l:List Cs):∀o,s∈Cs.frees o l<->s∈o\/∃x∈l,s∈x.QC:=by
 induction l with
 |nil=>intro o;simp[Cs.frees]
 |cons x r f=>
  intro o;simp only[Cs.frees,f,Qe,List.mem_cons,exists_eq_or_imp,or_assoc]
theorem Lg(f:X6):∀(N:Nat) (t:Tm) (names:List ByteArray) (l:Int),t.sz<N->t.wrong f names l=0->∀s∈t.free,s∈names:=by
 intro N;induction N with
 |zero=>intro t _ _ h;omega
 |succ N ih=>
 intro t names l hN h s i;obtain⟨k,m,a,b,vs,xs,cs⟩:=t;obtain⟨h1,h2,h3,o,J,h6,h7⟩:=K3 h;have T:∀(j:Nat) (x:Tm),xs[j]? =some x->s∈x.free->s∈(if k=6/\0+j=1 then names++[a]else names):=λj x r i=>
  ih x _ (l+1) (by have:=Tm.Wu (k:=k) (n:=m) (a:=a) (b:=b) (vs:=vs) (cs:=cs) (List.mem_of_getElem? r);omega) (G6 h6 j x r) s i
 simp only[Tm.free]at i;split at i
 ·rename_i P;subst P;unfold Y2 at J;rw[if_pos rfl]at J;split at J
  ·rename_i hh;simp at i;subst i;exact X9.1 hh
  ·cases J
 split at i
 ·rename_i P;obtain⟨P,hl⟩:=P;match xs,hl with
  |[x,y],_=>
   simp only[Tm.UB,Tm.RD]at i;rw[Qe,Qe,J8]at i;rcases i with(i|i)|i
   ·cases i
   ·have:=T 0 x rfl i
    rwa [if_neg oM]at this
   ·have:=T 1 y rfl i.1;rw[if_pos oM]at this;rcases List.mem_append.1 this with h|h
    ·exact h
    ·exact absurd h i.2
 ·rename_i a1 C;rw[if_neg oM,Jf,YQ]at i;rcases i with(i|⟨x,I,i⟩)|⟨c,I,i⟩
  ·cases i
  ·obtain⟨j,r⟩:=List.mem_iff_getElem?.1 I;have:=T j x r i;have a2:j<xs.length:=by
    have:=List.getElem?_eq_some_iff.1 r;exact this.1
   rw[if_neg]at this
   ·exact this
   rintro⟨rfl,a3⟩;unfold Xx at o;simp at o;simp at C;exact C o.1
  ·have U:k=7:=by
    unfold Xx at o;simp only[Bool.or_eq_false_iff,Bool.and_eq_false_iff,decide_eq_false_iff_not]at o;rcases o.2 with h'|h'
    ·omega
    ·have:=List.length_pos_of_mem I;omega
   obtain⟨g,ws,x⟩:=c;have h8:=(Nq (h7 U).2.2 I).2.2.2.2.2;simp only[Cs.QC]at i;rw[J8]at i;have:=ih x _ (l+1) (by have:=Tm.YI (k:=k) (n:=m) (a:=a) (b:=b) (vs:=vs) (xs:=xs) I;omega) h8 s i.1;rcases List.mem_append.1 this with h|h
   ·exact h
   ·exact absurd h i.2
theorem Vg:∀{l:List Fn} {f:X6},Xl f l=0->∀x∈l,F9 x.name=true/\Ld x.params=false/\YC x.params=false/\x.params.length<=6/\wr x.body.sz<=400
 |[],_,_,x,i=>by cases i
 |y::r,f,h,x,i=>by
  simp only[Xl]at h;split at h
  ·rename_i g;exact absurd h g
  rename_i g;rcases List.mem_cons.1 i with rfl|i
  ·have g:=Decidable.byContradiction λe=>g e
   unfold Fn.Y2 at g;split at g
   ·cases g
   split at g
   ·cases g
   split at g
   ·cases g
   rename_i j o t;simp only[Bool.or_eq_true,not_or,Bool.not_eq_true,Bool.not_eq_false,Bool.not_eq_true']at j;exact⟨by simpa using j.1.1.2,j.1.2,j.2,oM,oM⟩
  ·exact Vg h x i
theorem RJ{f:X6}:∀{l:List Fn},Xh f l=0->∀x∈l,x.body.wrong f x.params 0=0
 |[],_,x,g=>by cases g
 |y::r,h,x,g=>by
  simp only[Xh]at h;split at h
  ·rename_i i;exact absurd h i
  rename_i i;rcases List.mem_cons.1 g with rfl|g
  ·exact Decidable.byContradiction λe=>i e
  ·exact RJ h x g
structure Fn.Right (f:X6) (x:Fn):Prop where
 name:F9 x.name=true
 twice:Ld x.params=false
 bad:YC x.params=false
 params:x.params.length<=6
 sz:x.body.sz<=400
 wrong:x.body.wrong f x.params 0=0
structure Fn.Fit (f:X6) (x:Fn):Prop where
 params:x.params.length<=6
 wrong:∃deep,x.body.wrong f x.params deep=0
theorem ZH{l:List Fn}(h:Jq l=0):l.length≠0/\l.length<=6/\Xl [] l=0/\∀x∈l,x.Right (ZW l):=by
 unfold Jq at h;split at h
 ·cases h
 split at h
 ·rename_i g;exact absurd h g
 rename_i g f;have f:=Decidable.byContradiction λe=>f e
 refine⟨oM,oM,f,λx i=>?_⟩;obtain⟨o,r,t,C,I⟩:=Vg f x i;have j:=RJ h x i;rw[TD j]at I;exact⟨o,r,t,C,oM,j⟩
def Tm.Rt:Nat->Tm->Prop
 |0,_=>False
 |d+1,.mk k n a b vs xs cs=>(1<=k/\k<=7)/\Xx k xs.length cs.length=false/\xs.length+cs.length<=6/\(∀x∈xs,Tm.Rt d x)/\(∀c∈cs,c.2.length<=6/\Tm.Rt d c.3)
theorem OA(A:X6):∀(d:Nat) (t:Tm) (names:List ByteArray) (f:Int),f=25-(d:Int)->t.wrong A names f=0->t.Rt d:=by
 intro d;induction d with
 |zero=>
  intro t names f P i;obtain⟨k,n,a,b,vs,xs,cs⟩:=t;obtain⟨T,_⟩:=K3 i;omega
 |succ d r=>
 intro t names f P i;obtain⟨k,n,a,b,vs,xs,cs⟩:=t;obtain⟨T,U,h3,l,h5,h6,C⟩:=K3 i;have o:=Ye l λh=>(C h).2.1
 refine⟨⟨U,h3⟩,l,o,λx hx=>?_,λc I=>?_⟩
 ·obtain⟨j,hj⟩:=List.mem_iff_getElem?.1 hx;exact r x _ (f+1) oM (G6 h6 j x hj)
 ·obtain⟨t,ws,y⟩:=c;by_cases h8:k=7
  ·have J:=Nq (C h8).2.2 I;exact⟨J.2.2.2.2.1,r y _ (f+1) oM J.2.2.2.2.2⟩
  ·exfalso;have g:=l;unfold Xx at g;simp only[Bool.or_eq_false_iff,Bool.and_eq_false_iff,decide_eq_false_iff_not]at g;have:=List.length_pos_of_mem I;omega
abbrev Ps:=List (ByteArray×ByteArray)
def Gb(p:ByteArray×ByteArray):List D:=[.str p.1,.str p.2]
abbrev Jx6(ps:Ps):AV:=La (ps.map Gb)
def Xp(c:Int):ByteArray:=⟨#[118]⟩++Mv c
theorem Xv0:((⟨#[118]⟩:ByteArray).size<=maxLen)=True:=eq_true (by show 1<=9223372036854775807;omega)
def Y5:List ByteArray->Int->List ByteArray
 |[],_=>[]
 |_::r,c=>Xp (wr (c+1))::Y5 r (wr (c+1))
def Rz:List ByteArray->Int->Int
 |[],c=>c
 |_::r,c=>Rz r (wr (c+1))
theorem Hq:∀(l:List ByteArray) (c:Int),(Y5 l c).length=l.length
 |[],_=>rfl
 |_::r,c=>by simp[Y5,Hq r]
def Yc(ps:Ps)(s:ByteArray):ByteArray:=ps.foldl (λo p=>if p.1=s then p.2 else o) s
mutual
def Tm.rn:Tm->Ps->Int->Tm×Int
 | .mk k n a b vs xs cs,ps,c=>if k=1 then (.mk k n (Yc ps a) b vs [] [],c)
  else (.mk k n (Tm.ZT k a ps 0 xs a c).2.1 b vs (Tm.ZT k a ps 0 xs a c).1 (Cs.VG cs ps (Tm.ZT k a ps 0 xs a c).2.2).1,(Cs.VG cs ps (Tm.ZT k a ps 0 xs a c).2.2).2)
def Tm.ZT(k:Int)(a:ByteArray)(ps:Ps):Nat->List Tm->ByteArray->Int->List Tm×ByteArray×Int
 |_,[],nm,c=>([],nm,c)
 |i,x::r,nm,c=>if k=6/\i=1 then
   ((x.rn (ps++[(a,Xp (wr (c+1)))]) (wr (c+1))).1::(Tm.ZT k a ps (i+1) r (Xp (wr (c+1))) (x.rn (ps++[(a,Xp (wr (c+1)))]) (wr (c+1))).2).1,(Tm.ZT k a ps (i+1) r (Xp (wr (c+1))) (x.rn (ps++[(a,Xp (wr (c+1)))]) (wr (c+1))).2).2)
  else ((x.rn ps c).1::(Tm.ZT k a ps (i+1) r nm (x.rn ps c).2).1,(Tm.ZT k a ps (i+1) r nm (x.rn ps c).2).2)
def Cs.VG:List Cs->Ps->Int->List Cs×Int
 |[],_,c=>([],c)
 |d::r,ps,c=>((d.rn ps c).1::(Cs.VG r ps (d.rn ps c).2).1,(Cs.VG r ps (d.rn ps c).2).2)
def Cs.rn:Cs->Ps->Int->Cs×Int
 | .mk t ws y,ps,c=>(.mk t (Y5 ws c) (y.rn (ps++ws.zip (Y5 ws c)) (Rz ws c)).1,(y.rn (ps++ws.zip (Y5 ws c)) (Rz ws c)).2)
end
abbrev PS:=Nat×Int
def Uy(c:UInt8):Bool:=c.toNat==32||(c.toNat==9||c.toNat==10)
def XK(c:UInt8):Bool:=c.toNat==40||c.toNat==41
def Ot:List UInt8->Nat
 |[]=>0
 |c::r=>if Uy c then Ot r+1 else 0
def Zd4:List UInt8->Nat
 |[]=>0
 |c::r=>if Uy c||XK c then 0 else Zd4 r+1
def Xd5:List UInt8->Nat
 |[]=>0
 |c::r=>if XK c then 1 else Zd4 (c::r)
def Bj(s:ByteArray)(a:Nat):Nat:=a+Ot (s.data.toList.drop a)
def FO(s:ByteArray)(a:Nat):Nat:=a+Xd5 (s.data.toList.drop a)
def Cq(s:ByteArray)(a:Nat):ByteArray:=s.extract (Bj s a) (FO s (Bj s a))
def ZM(e x:Int):Int:=if e=0 then x else e
def XE(s:ByteArray)(p:PS):PS:=(FO s (Bj s p.1),if (Cq s p.1).size=0 then ZM p.2 8 else p.2)
def Kj(s w:ByteArray)(p:PS):PS:=if Cq s p.1=w then XE s p else ((XE s p).1,ZM (XE s p).2 2)
def U2(s:ByteArray)(p:PS):ByteArray×PS:=(Cq s p.1,if F9 (Cq s p.1)then XE s p else ((XE s p).1,ZM (XE s p).2 7))
def Kl(w:ByteArray):Int×Bool:=match Lib.atoiAll w.data.toList with
 | .ok v=>(v,decide (Mv v=w))
 | .range=>(Lib.atoiSat w.data.toList,false)
 |_=>(0,false)
def sharp(w:ByteArray):Bool:=match w.data.toList with
 |c::_=>c.toNat==35
 |[]=>false
def GD(g:Bool)(s:ByteArray)(p:PS):Int×PS:=
 if decide (1<(Cq s p.1).size) && sharp (Cq s p.1) && (Kl ((Cq s p.1).extract 1 (Cq s p.1).size)).2 then ((Kl ((Cq s p.1).extract 1 (Cq s p.1).size)).1,XE s p)
 else (if g && (decide (1<(Cq s p.1).size) && sharp (Cq s p.1))then (Kl ((Cq s p.1).extract 1 (Cq s p.1).size)).1 else 0,((XE s p).1,ZM (XE s p).2 2))
theorem Qq0(s:ByteArray)(p:PS):GD false s p=if decide (1<(Cq s p.1).size) && sharp (Cq s p.1) && (Kl ((Cq s p.1).extract 1 (Cq s p.1).size)).2 then ((Kl ((Cq s p.1).extract 1 (Cq s p.1).size)).1,XE s p)
 else (0,((XE s p).1,ZM (XE s p).2 2)):=by
 unfold GD;rw[Bool.false_and];rfl
abbrev XA:ByteArray:=⟨#[41]⟩
abbrev FT:ByteArray:=⟨#[40]⟩
def J2{f:Type}(s:ByteArray)(one:PS->f×PS):Nat->PS->List f×PS
 |0,p=>([],p)
 |n+1,p=>
  if p.2=0 then
   if Cq s p.1=XA then ([],Kj s XA (Bj s p.1,p.2))
   else ((one (Bj s p.1,p.2)).1::(J2 s one n (one (Bj s p.1,p.2)).2).1,(J2 s one n (one (Bj s p.1,p.2)).2).2)
  else ([],Kj s XA p)
def Pf:List ByteArray:=[⟨#[43]⟩,⟨#[45]⟩,⟨#[42]⟩,⟨#[60]⟩,⟨#[61]⟩]
def GZ(w:ByteArray):List ByteArray->Int->Int->Int
 |[],_,r=>r
 |x::l,i,r=>GZ w l (i+1) (if w=x then i+1 else r)
abbrev wLet:ByteArray:=⟨#[108,101,116]⟩
abbrev Xz1:ByteArray:=⟨#[109,97,116,99,104]⟩
def ZK(g:Bool)(s:ByteArray)(one:PS->Tm×PS)(p:PS):Cs×PS:=
 let t:=GD g s (Kj s FT p)
 let ws:=J2 s (U2 s) (s.size+2) (Kj s FT t.2)
 let y:=one ws.2
 (.mk t.1 ws.1 y.1,Kj s XA y.2)
def Zq8(s:ByteArray)(p:PS):Tm×PS:=
 if (Kl (Cq s p.1)).2 then (.mk 2 (Kl (Cq s p.1)).1 .empty .empty [] [] [],XE s p)
 else (.mk 1 0 (Cq s p.1) .empty [] [] [],if F9 (Cq s p.1)then XE s p else ((XE s p).1,ZM (XE s p).2 7))
def JE(g:Bool)(s:ByteArray)(one:PS->Tm×PS)(w:ByteArray)(p:PS):Tm×PS:=
 if sharp w then
  let t:=GD g s p
  let xs:=J2 s one (s.size+2) t.2
  (.mk 3 t.1 .empty .empty [] xs.1 [],xs.2)
 else if w=wLet then
  let nm:=U2 s (XE s p)
  let x:=one nm.2
  let y:=one x.2
  (.mk 6 0 nm.1 .empty [] [x.1,y.1] [],Kj s XA y.2)
 else if w=Xz1 then
  let x:=one (XE s p)
  let cs:=J2 s (ZK g s one) (s.size+2) x.2
  (.mk 7 0 .empty .empty [] [x.1] cs.1,cs.2)
 else if 0<GZ w Pf 0 0 then
  let x:=one (XE s p)
  let y:=one x.2
  (.mk 5 (GZ w Pf 0 0) .empty .empty [] [x.1,y.1] [],Kj s XA y.2)
 else
  let nm:=U2 s p
  let xs:=J2 s one (s.size+2) nm.2
  (.mk 4 0 nm.1 .empty [] xs.1 [],xs.2)
def Tm.ps(g:Bool)(s:ByteArray):Nat->PS->Tm×PS
 |0,p=>(.mk 0 0 .empty .empty [] [] [],(p.1,ZM p.2 9))
 |n+1,p=>
  if Cq s p.1=FT then JE g s (Tm.ps g s n) (Cq s (XE s p).1) (Bj s (XE s p).1,(XE s p).2)
  else Zq8 s (Bj s p.1,p.2)
abbrev Jq0:ByteArray:=⟨#[102,110]⟩
def Xd7(g:Bool)(s:ByteArray)(p:PS):Fn×PS:=
 let nm:=U2 s (Kj s Jq0 (Kj s FT p))
 let ws:=J2 s (U2 s) (s.size+2) (Kj s FT nm.2)
 let y:=Tm.ps g s 25 ws.2
 (⟨nm.1,ws.1,y.1⟩,Kj s XA y.2)
def PW(g:Bool)(s:ByteArray):Nat->PS->List Fn×PS
 |0,p=>([],p)
 |n+1,p=>
  if p.2=0 then
   if (Cq s p.1).size=0 then ([],(Bj s p.1,p.2))
   else ((Xd7 g s (Bj s p.1,p.2)).1::(PW g s n (Xd7 g s (Bj s p.1,p.2)).2).1,(PW g s n (Xd7 g s (Bj s p.1,p.2)).2).2)
  else ([],p)
def WI(g:Bool)(s:ByteArray):List Fn×Int:=
 if 1500<s.size then ([],4)
 else if (PW g s (s.size+2) (0,0)).2.2=0 then ((PW g s (s.size+2) (0,0)).1,0)else ([],(PW g s (s.size+2) (0,0)).2.2)
structure Stp (s:ByteArray) (p q:PS):Prop where
 le:p.1<=q.1
 sz:q.1<=s.size
 er:p.2≠0->q.2=p.2
structure UW (s:ByteArray) (p q:PS):Prop extends Stp s p q where
 on:q.2≠0\/p.1<q.1
theorem Stp.trans{s:ByteArray}{p q r:PS}(h:Stp s p q)(f:Stp s q r):Stp s p r:=⟨Nat.le_trans h.le f.le,f.sz,λe=>by have g:=h.er e;rw[f.er (by rw[g];exact e),g]⟩
theorem UW.trans{s:ByteArray}{p q r:PS}(h:Stp s p q)(f:UW s q r):UW s p r:=⟨h.trans f.toStp,f.on.imp id λg=>Nat.lt_of_le_of_lt h.le g⟩
theorem UW.then{s:ByteArray}{p q r:PS}(h:UW s p q)(g:Stp s q r):UW s p r:=⟨h.toStp.trans g,by
 rcases h.on with f|f
 ·exact .inl (by rw[g.er f];exact f)
 ·exact .inr (Nat.lt_of_lt_of_le f g.le)⟩
theorem Qv6:∀l:List UInt8,Ot l<=l.length
 |[]=>Nat.le_refl _
 |c::r=>by
  have:=Qv6 r;rw[Ot];split<;> simp<;> omega
theorem Qv5:∀l:List UInt8,Zd4 l<=l.length
 |[]=>Nat.le_refl _
 |c::r=>by
  have:=Qv5 r;rw[Zd4];split<;> simp<;> omega
theorem Xk1:∀l:List UInt8,Xd5 l<=l.length
 |[]=>Nat.le_refl _
 |c::r=>by
  have:=Qv5 (c::r);rw[Xd5];split
  ·simp
  ·exact this
theorem JM(s:ByteArray):s.data.toList.length=s.size:=Array.length_toList
theorem R7{s:ByteArray}{a:Nat}(h:a<=s.size):a<=Bj s a/\Bj s a<=s.size:=by
 have:=Qv6 (s.data.toList.drop a);rw[List.length_drop,JM]at this;unfold Bj;omega
theorem KW{s:ByteArray}{a:Nat}(h:a<=s.size):a<=FO s a/\FO s a<=s.size:=by
 have:=Xk1 (s.data.toList.drop a);rw[List.length_drop,JM]at this;unfold FO;omega
theorem XB{s:ByteArray}{a:Nat}(h:a<=s.size):(Cq s a).size=FO s (Bj s a)-Bj s a:=by
 have f:=R7 h;have g:=KW f.2;unfold Cq;rw[ByteArray.size_extract];omega
theorem Am{e x:Int}(f:x≠0):ZM e x≠0:=by
 unfold ZM;split<;> assumption
theorem Gs{e x:Int}(h:e≠0):ZM e x=e:=if_neg h
theorem Stp.pk{s:ByteArray}{p:PS}(h:p.1<=s.size):Stp s p (Bj s p.1,p.2):=⟨(R7 h).1,(R7 h).2,λ_=>rfl⟩
theorem Stp.bad{s:ByteArray}{p q:PS}{x:Int}(h:Stp s p q):Stp s p (q.1,ZM q.2 x):=⟨h.le,h.sz,λe=>by
 have f:=h.er e;dsimp only;rw[Gs (by rw[f];exact e),f]⟩
theorem UW.bad{s:ByteArray}{p q:PS}{x:Int}(h:UW s p q):UW s p (q.1,ZM q.2 x):=⟨h.toStp.bad,by
 rcases h.on with f|f
 ·exact .inl (by dsimp only;rw[Gs f];exact f)
 ·exact .inr f⟩
theorem U0{s:ByteArray}{p:PS}(h:p.1<=s.size):UW s p (XE s p):=by
 have f:=R7 h;have g:=KW f.2;have i:=XB h;unfold XE;refine⟨⟨Nat.le_trans f.1 g.1,g.2,λe=>?_⟩,?_⟩
 ·dsimp only;split
  ·exact Gs e
  ·rfl
 ·dsimp only;split
  ·exact .inl (Am (by decide))
  ·exact .inr oM
theorem Kw{s w:ByteArray}{p:PS}(h:p.1<=s.size):UW s p (Kj s w p):=by
 unfold Kj;split
 ·exact U0 h
 ·exact(U0 h).bad
theorem G8{s:ByteArray}{p:PS}(h:p.1<=s.size):UW s p (U2 s p).2:=by
 unfold U2;dsimp only;split
 ·exact U0 h
 ·exact(U0 h).bad
theorem VN{g:Bool}{s:ByteArray}{p:PS}(h:p.1<=s.size):UW s p (GD g s p).2:=by
 unfold GD;split
 ·exact U0 h
 ·exact(U0 h).bad
theorem Lj{i:Type}{s:ByteArray}{one:PS->i×PS}(f:∀p:PS,p.1<=s.size->UW s p (one p).2):∀(n:Nat) (p:PS),p.1<=s.size->Stp s p (J2 s one n p).2/\(n≠0->UW s p (J2 s one n p).2)/\(J2 s one n p).1.length<=n
 |0,p,h=>⟨⟨Nat.le_refl _,h,λ_=>rfl⟩,λh=>absurd rfl h,Nat.le_refl _⟩
 |n+1,p,h=>by
  have key:UW s p (J2 s one (n+1) p).2/\(J2 s one (n+1) p).1.length<=n+1:=by
   rw[J2];split
   ·split
    ·exact⟨UW.trans (Stp.pk h) (Kw (R7 h).2),Nat.zero_le _⟩
    ·have g:=f (Bj s p.1,p.2) (R7 h).2;obtain⟨j,_,l⟩:=Lj f n (one (Bj s p.1,p.2)).2 g.sz;exact⟨UW.trans (Stp.pk h) (g.then j),by simpa using l⟩
   ·exact⟨Kw h,Nat.zero_le _⟩
  exact⟨key.1.toStp,λ_=>key.1,key.2⟩
theorem ES{g:Bool}{s:ByteArray}{one:PS->Tm×PS}(r:∀p:PS,p.1<=s.size->UW s p (one p).2){p:PS}(h:p.1<=s.size):UW s p (ZK g s one p).2:=by
 unfold ZK;dsimp only;have f:=Kw (w:=FT) h;have i:=VN (g:=g) f.sz;have j:=Kw (w:=FT) i.sz;have l:=(Lj (λp h=>G8 h) (s.size+2) _ j.sz).1;have o:=r _ l.sz;exact(f.then i.toStp).then ((j.toStp.trans l).trans (o.toStp.trans (Kw o.sz).toStp))
theorem IW{g:Bool}{s w:ByteArray}{one:PS->Tm×PS}(i:∀p:PS,p.1<=s.size->UW s p (one p).2){p:PS}(h:p.1<=s.size):UW s p (JE g s one w p).2:=by
 unfold JE;split
 ·have f:=VN (g:=g) h;exact f.then (Lj i _ _ f.sz).1
 split
 ·have f:=U0 h;have o:=G8 f.sz;have j:=i _ o.sz;have l:=i _ j.sz;exact(f.then o.toStp).then (j.toStp.trans (l.toStp.trans (Kw l.sz).toStp))
 split
 ·have f:=U0 h;have j:=i _ f.sz;exact f.then (j.toStp.trans (Lj (λp h=>ES i h) _ _ j.sz).1)
 split
 ·have f:=U0 h;have j:=i _ f.sz;have l:=i _ j.sz;exact f.then (j.toStp.trans (l.toStp.trans (Kw l.sz).toStp))
 ·have f:=G8 h;exact f.then (Lj i _ _ f.sz).1
theorem Pw{g:Bool}{s:ByteArray}:∀(n:Nat) (p:PS),p.1<=s.size->UW s p (Tm.ps g s n p).2
 |0,p,h=>⟨⟨Nat.le_refl _,h,λe=>Gs e⟩,.inl (Am (by decide))⟩
 |n+1,p,h=>by
  rw[Tm.ps];split
  ·have f:=U0 h;exact f.then ((Stp.pk f.sz).trans (IW (Pw n) (R7 f.sz).2).toStp)
  ·refine UW.trans (Stp.pk h) ?_;have f:=U0 (s:=s) (p:=(Bj s p.1,p.2)) (R7 h).2;unfold Zq8;split
   ·exact f
   ·dsimp only;split
    ·exact f
    ·exact f.bad
theorem Zg1{g:Bool}{s:ByteArray}{p:PS}(h:p.1<=s.size):UW s p (Xd7 g s p).2:=by
 unfold Xd7;dsimp only;have f:=Kw (w:=FT) h;have i:=Kw (w:=Jq0) f.sz;have j:=G8 i.sz;have l:=Kw (w:=FT) j.sz;have o:=(Lj (λp h=>G8 h) (s.size+2) _ l.sz).1;have r:=Pw (g:=g) 25 _ o.sz;exact(f.then i.toStp).then ((j.toStp.trans l.toStp).trans (o.trans (r.toStp.trans (Kw r.sz).toStp)))
theorem Zv7(s:ByteArray):P7 (Kl s).1:=by
 unfold Kl;rcases h:Lib.atoiAll s.data.toList with v|_|_
 ·exact Lib.atoiAll_bounds h
 ·exact⟨by dsimp only;decide,by dsimp only;decide⟩
 ·exact Lib.atoiSat_bounds _
theorem PE(s : ByteArray)(hs : s.size<=281474976710656)(w : World)(hg : GI w) : Calls Tryz.prog 51 #[.string s] w λe w'=>e = .returned (.tuple #[.int .i64 (Kl s).1,.bool (Kl s).2])/\Below w.heap.size w w':=by
 have gi : ∀ w' : World,Below w.heap.size w w'->GI w':=λw' hB=>hg.keep λb hb=>hB.block b (hg.lt hb)
 unfold Kl
 rcases h : Lib.atoiAll s.data.toList with v | _ | _
 ·have hv:=Lib.atoiAll_bounds h
  go_enter Tryz.func51,Tryz.ntmps51
  go_wp2_with (first
   | (go_at_call 76;refine (Tryz.strconv_Atoi_ok s (by omega) v h _).mono ?_;rintro e w1 ⟨rfl,hw⟩;have hB : Below w.heap.size w w1:=(by rcases hw with rfl | ⟨t,rfl⟩ <;> first | exact Below.refl _ _ | exact Lib.bytesWorld_below _ _ _);clear hw;have hG:=(gi _ hB).pow)
   | (go_at_call 71;refine (Tryz.strconv_Itoa v hv.1 hv.2 _ (by assumption)).mono ?_;rintro e w2 ⟨rfl,k,os,rfl⟩))
  go_ret2
  refine ⟨?_,hB.trans ⟨rfl,rfl,rfl,by simp [Go.Sort.grow,World.drewN],λb hb=>?_⟩⟩
  ·have e1 : (Lib.itoa v == s.toList) = decide ((⟨(Lib.itoa v).toArray⟩ : ByteArray) = s):=by
    have h2:=ByteArray.Vy (⟨(Lib.itoa v).toArray⟩ : ByteArray) s
    rwa [ByteArray.toList_eq (⟨(Lib.itoa v).toArray⟩ : ByteArray)] at h2
   show _ = Ending.returned (Value.tuple #[Value.int IntKind.i64 v,Value.bool (decide ((⟨(Lib.itoa v).toArray⟩ : ByteArray) = s))])
   rw [<- e1]
   rfl
  simp only [Go.Sort.grow,World.drewN]
  rw [Array.getElem?_append_left (Nat.lt_of_lt_of_le hb hB.size)]
 ·obtain ⟨tp,p,hvar⟩:=hg.syn
  go_enter Tryz.func51,Tryz.ntmps51
  go_wp2_with (go_at_call 76;refine (Tryz.strconv_Atoi_syntax_var s hs h tp p _ hvar).mono ?_;rintro e w' ⟨N,rfl,_,_,hB⟩)
  go_ret2
  exact ⟨rfl,hB⟩
 ·obtain ⟨tp,p,hvar⟩:=hg.rng
  go_enter Tryz.func51,Tryz.ntmps51
  go_wp2_with (go_at_call 76;refine (Tryz.strconv_Atoi_range_var s hs h tp p _ hvar).mono ?_;rintro e w' ⟨N,rfl,_,_,hB⟩)
  go_ret2
  exact ⟨rfl,hB⟩
theorem Ni(s:ByteArray)(l:s.size<=281474976710656):Qv Tryz.prog 51 [Sv s] (λ_=>.tuple [Iv ((Kl s).1),Bv ((Kl s).2)]) none:=by
 refine⟨⟨_,Tryz.func51,rfl,rfl⟩,λd=>rfl,λ_ d=>rfl,by simp,λd w ok vals g o r f=>?_⟩;match vals,r with
 |⟨[v]⟩,_=>
 obtain⟨rfl,_⟩:=(f 0 _ v rfl rfl).Zj.P9;refine(PE s l w g).mono ?_;rintro e w' ⟨rfl,t⟩;obtain⟨C,I⟩:=Zv7 s;exact⟨_,ok,Ug,rfl,t,λb h=>h,λb h=>.inl h,.tuple _ _ rfl (λi c v j f=>by
  rcases i with _|_|i<;> simp at j f<;> subst j f
  ·exact .d _ _ (.int _ C I)
  ·exact .d _ _ (.bool _)),by simp⟩
end
section
open Go.RowKit
attribute [local simp] Jb WL WQ WA VO QA Zo Pv Uw Wv Vk Vj Y4 V8 Xo V5 Gj O1 Value.oneCell' X4 Q4 Z6 Yn Nv Z5 AS.after Zz Uj K7 AV.ids ZB Q9.ids UC Qy E5 Nw Lx Kk V9 Gz D8 D6 U4 KI ZQ setAt Fz Je O4 XT L8 XU WY AV.cells Yv K9 L6 M6 AV.kill Q9.kill AV.has AV.Uv Op.operands Call.operands Qf QB X3 Km Zw Jv ZV NE Qt Mj Vv AV.ren ZU Q9.ren Q9.like kept X7 Zr AV.F7 ZC Jp JD Qo Hw AS.F7 Xf T9 Q9.F7 Sz FV Nat.ble_eq Ez E9 U6 D.U7 Xa Ij Rw H6 Ki XM O5 Bw Fx R8 Low ZX
abbrev Ih(c:Int):Q9:=.blk 118 [Iv c]
theorem vsz(e:Int)(h:P7 e):(Xp e).size<=22:=by
 have:=Ew h;show(⟨#[118]⟩++Mv e:ByteArray).size<=22;rw[ByteArray.size_append];have f:(⟨#[118]⟩:ByteArray).size=1:=rfl;omega
theorem Fa(ws:List ByteArray)(c:Int)(a3:ws.length<=6):Z0 Tryz.prog 63 [.ptr 1000 0,Xw ws] [(1000,Ih c)] (.tuple [Xw (Y5 ws c),Jx6 (ws.zip (Y5 ws c))]) [(1000,Ih (Rz ws c))]:=by
 obtain⟨U,t⟩:∃U,U=Y5 ws c:=⟨_,rfl⟩
 obtain⟨PS,C⟩:∃PS,PS=ws.zip U:=⟨_,rfl⟩
 obtain⟨E,hE⟩:∃E,E=Rz ws c:=⟨_,rfl⟩
 rw[<-t,<-C,<-hE];refine Z0.of Tryz.func63 rfl rfl (Nat.le_of_ble_eq_true rfl) ?_;show X8 _ _ (Qz _ Tryz.f63 _ _) (X7 43 _ _);refine Wr ?_;refine Wr ?_;refine Wr ?_;refine Wr ?_;refine Wb ?_;refine X8.le (Le.low [400,401] [] (fr:=[(0,.ptr 1000 0),(6,.arr 400 0 ([]:List ByteArray).length),(7,.arr 401 0 ([]:Ps).length),(11,.d (Q6 ws)),(12,Iv (ws.length:Int)),(13,Iv (0:Int))]) (mem:=[(400,some (.arr 9 1 (([]:List ByteArray).map Jj))),(401,some (.arr 149 2 (([]:Ps).map Gb))),(1000,some (.blk 118 [Iv (c:Int)]))]) rfl (by simp) (by simp)) ?_;refine Wl (σ:=λu:{u:Nat×List ByteArray×Ps×Int // u.1<=ws.length/\(Y5 ws c=u.2.1++Y5 (ws.drop u.1) u.2.2.2/\Rz ws c=Rz (ws.drop u.1) u.2.2.2/\u.2.1.length=u.1/\u.2.2.1=(ws.take u.1).zip u.2.1)}=>⟨43,[(0,.ptr 1000 0),(6,.arr 400 0 u.1.2.1.length),(7,.arr 401 0 u.1.2.2.1.length),(11,.d (Q6 ws)),(12,Iv (ws.length:Int)),(13,Iv (u.1.1:Int))],[(400,some (.arr 9 1 (u.1.2.1.map Jj))),(401,some (.arr 149 2 (u.1.2.2.1.map Gb))),(1000,some (.blk 118 [Iv u.1.2.2.2]))]⟩)
  (μ:=λu=>ws.length-u.1.1) ⟨(0,[],[],c),⟨Nat.zero_le _,⟨by simp,by simp,rfl,by simp⟩⟩⟩ (Le.sub (by simp) (by simp)) (λ⟨(i,us,ps,k),⟨a1,hw⟩⟩=>?_)
 dsimp only at a1 hw⊢;refine Wr ?_;refine Wb ?_;refine Wc rfl (λP=>?_) (λP=>?_)
 ·have f:i<ws.length:=by have:=of_decide_eq_true P;omega
  clear P;have I:ws[i]? =some ws[i]:=List.getElem?_eq_getElem f;have a2:ws[i]∈ws:=List.getElem_mem f;have J:ws.drop i=ws[i]::ws.drop (i+1):=List.drop_eq_getElem_cons f;generalize ws[i]=x at I a2 J;obtain⟨j,l,o,g⟩:=hw;obtain⟨e,he⟩:∃e:Int,wr (k+1)=e:=⟨_,rfl⟩
  have T:P7 e:=by rw[<-he];exact JB _
  have a4:=MN e T;have a5:=Ew T;have a6:(⟨#[118]⟩:ByteArray).size=1:=rfl;have a7:ps.length=i:=by rw[g,List.length_zip,o,List.length_take];omega
  refine Ws ?_;refine Wr ?_ (r:=by conv=>lhs;simp[I]);refine Wg [4] [] ?_ (hr:=by conv=>lhs;simp[he]);refine Wg [] [.p (λ_=>Sv (Mv e)) none] ?_ (hr:=by conv=>lhs;simp[Xv0]);refine Wr ?_;refine Wr ?_;refine Wr ?_;refine⟨⟨(i+1,us++[Xp e],ps++[(x,Xp e)],e),f,⟨by rw[j,J,Y5,he];simp,by rw[l,J,Rz,he],by simp[o],by rw[g,List.take_add_one,I,List.zip_append (by rw[List.length_take,o];omega)];rfl⟩⟩,by simp;omega,?_⟩;dsimp only;exact Le.sub (by simp[Xp]) (by simp[Xp,Gb])
 have f:i=ws.length:=by have:=of_decide_eq_false P;omega
 subst f;clear P;obtain⟨j,l,o,g⟩:=hw;rw[List.drop_length,Y5,List.append_nil]at j;rw[List.drop_length,Rz]at l;rw[List.take_length]at g;obtain rfl:us=U:=by rw[t,j]
 obtain rfl:ps=PS:=by rw[C,g]
 obtain rfl:k=E:=by rw[hE,l]
 clear j l g C t hE;refine We ?_;refine Wr ?_;refine Wt ?_;try dsimp only[Q8,Q5]
 apply Qz.JW [400,401]
 ·rfl
 ·conv=>lhs;simp
 ·conv=>lhs;simp[Q7,Tryz.results63]
 ·rfl
 ·simp[Qq,Q4]
theorem Og(s:ByteArray)(c:Int):Z0 Tryz.prog 63 [.ptr 1000 0,La [[.str s]]] [(1000,Ih c)] (.tuple [La [[.str (Xp (wr (c+1)))]],La [[.str s,.str (Xp (wr (c+1)))]]]) [(1000,Ih (wr (c+1)))]:=by
 exact Fa [s] c (by simp)
theorem Ig{ps:Ps}{i:Nat}{p:ByteArray×ByteArray}(h:ps[i]? =some p)(s:ByteArray):Yc (ps.take (i+1)) s=if p.1=s then p.2 else Yc (ps.take i) s:=by
 unfold Yc;rw[List.take_add_one,h,List.foldl_append];rfl
def RnE(N:Nat):Prop:=∀(t:Tm) (ps:Ps) (c:Int),t.Rt N->t.Ok->ps.length+6 * N<=1000->
 Z0 Tryz.prog 64 [.ptr 1000 0,Y3 t,Jx6 ps] [(1000,Ih c)] (Y3 (t.rn ps c).1) [(1000,Ih (t.rn ps c).2)]
theorem Zk5(N:Nat)(ih:RnE N):RnE (N+1):=by
 intro t ps c d2 hO e3;obtain⟨R,hR⟩:∃R,R=t.rn ps c:=⟨_,rfl⟩
 rw[<-hR];obtain⟨tk,tn,P,tb,T,g,l⟩:=t;obtain⟨e4,d3,h6,d4,d5⟩:=d2;have b5:∀x∈g,x.Ok:=λx hx=>Tm.Xz.1 hO.2.2.1 x hx
 refine Z0.of Tryz.func64 rfl rfl (Nat.le_of_ble_eq_true rfl) ?_;show X8 _ _ (Qz _ Tryz.f64 _ _) (X7 118 _ _);refine Wr ?_;refine Wr ?_;refine Wr ?_;by_cases q1:tk=1
 ·refine Wr ?_ (r:=by conv=>lhs;simp[q1]);refine Wy ?_;subst q1;obtain rfl:R=(.mk 1 tn (Yc ps P) tb T [] [],c):=by rw[hR,Tm.rn,if_pos rfl]
  refine Wr ?_;refine Wb ?_;refine Wl (σ:=λu:{u:Nat // u<=ps.length}=>⟨118,[(4,.ptr 4 0),(6,.ptr 6 0),(7,.ptr 7 0),(25,La (ps.map Gb)),(26,Iv (ps.length:Int)),(27,Iv (u.1:Int))],[(4,some (.blk 54 [Iv 1,Iv tn,Sv P,Sv tb,.d (Q6 T),La (g.map Tm.row),La (l.map Cs.row)])),(6,some (.blk 54 [Iv 0,Iv 0,Sv .empty,Sv .empty,.lit (.slice none 0 0),.lit (.slice none 0 0),.lit (.slice none 0 0)])),(7,some (.blk 54 [Iv 1,Iv tn,Sv (Yc (ps.take u.1) P),Sv tb,.d (Q6 T),.lit (.slice none 0 0),.lit (.slice none 0 0)])),(1000,some (.blk 118 [Iv c]))]⟩)
   (μ:=λu=>ps.length-u.1) ⟨0,Nat.zero_le _⟩ (Le.sub (by simp) (by simp[Yc])) (λ⟨i,e5⟩=>?_)
  dsimp only;refine Wr ?_;refine Wb ?_;refine Wc rfl (λU=>?_) (λU=>?_)
  ·have j:i<ps.length:=by have:=of_decide_eq_true U;omega
   clear U;have b6:ps[i]? =some ps[i]:=List.getElem?_eq_getElem j;have d6:ps[i]∈ps:=List.getElem_mem j;have d7:ps.drop i=ps[i]::ps.drop (i+1):=List.drop_eq_getElem_cons j;generalize ps[i]=p at b6 d6 d7;have a7:=Ig b6 P;generalize Yc (ps.take i) P=nw at a7⊢;obtain⟨pf,pg⟩:=p;refine Ws ?_;refine Wr ?_ (r:=by conv=>lhs;simp[Gb,b6]);by_cases q2:pf=P
   ·refine Wr ?_ (r:=by conv=>lhs;simp[q2]);refine Wy ?_;refine Wr ?_;refine Wr ?_;refine⟨⟨i+1,j⟩,by simp;omega,?_⟩;dsimp only;rw[if_pos (by assumption)]at a7;rw[a7];exact Le.sub (by simp) (by simp)
   refine Wr ?_ (r:=by conv=>lhs;simp[q2]);refine Wn ?_;refine Ws ?_;refine Wr ?_;refine⟨⟨i+1,j⟩,by simp;omega,?_⟩;dsimp only;rw[if_neg (by assumption)]at a7;rw[a7];exact Le.sub (by simp) (by simp)
  have j:i=ps.length:=by have:=of_decide_eq_false U;omega
  subst j;clear U;rw[List.take_length];refine We ?_;refine Wr ?_;refine Wt ?_;try dsimp only[Q8,Q5]
  apply Qz.ret
  ·rfl
  ·conv=>lhs;simp[Q7,Tryz.results64]
  ·rfl
  ·simp[Qq,Q4]
 refine Wr ?_ (r:=by conv=>lhs;simp[q1]);refine Wn ?_;refine Ws ?_;rw[Tm.rn,if_neg q1]at hR;refine Wr ?_;refine Wb ?_;refine X8.le (Le.low [400] [] (fr:=[(0,.ptr 1000 0),(2,La (ps.map Gb)),(4,.ptr 4 0),(6,.ptr 6 0),(7,.ptr 7 0),(42,La (g.map Tm.row)),(43,Iv (g.length:Int)),(44,Iv (0:Int))]) (mem:=[(4,some (.blk 54 [Iv tk,Iv tn,Sv P,Sv tb,.d (Q6 T),La (g.map Tm.row),La (l.map Cs.row)])),(6,some (.blk 54 [Iv 0,Iv 0,Sv .empty,Sv .empty,.lit (.slice none 0 0),.lit (.slice none 0 0),.lit (.slice none 0 0)])),(7,some (.blk 54 [Iv tk,Iv tn,Sv (P:ByteArray),Sv tb,.d (Q6 T),.arr 400 0 ([]:List Tm).length,.lit (.slice none 0 0)])),(400,some (.arr 54 7 (([]:List Tm).map Tm.row))),(1000,some (.blk 118 [Iv (c:Int)]))]) rfl (by simp) (by simp)) ?_;refine Wl (σ:=λu:{u:Nat×List Tm×ByteArray×Int // u.1<=g.length/\(Tm.ZT tk P ps 0 g P c=(u.2.1++(Tm.ZT tk P ps u.1 (g.drop u.1) u.2.2.1 u.2.2.2).1,(Tm.ZT tk P ps u.1 (g.drop u.1) u.2.2.1 u.2.2.2).2)/\u.2.1.length=u.1)}=>⟨118,[(0,.ptr 1000 0),(2,La (ps.map Gb)),(4,.ptr 4 0),(6,.ptr 6 0),(7,.ptr 7 0),(42,La (g.map Tm.row)),(43,Iv (g.length:Int)),(44,Iv (u.1.1:Int))],[(4,some (.blk 54 [Iv tk,Iv tn,Sv P,Sv tb,.d (Q6 T),La (g.map Tm.row),La (l.map Cs.row)])),(6,some (.blk 54 [Iv 0,Iv 0,Sv .empty,Sv .empty,.lit (.slice none 0 0),.lit (.slice none 0 0),.lit (.slice none 0 0)])),(7,some (.blk 54 [Iv tk,Iv tn,Sv u.1.2.2.1,Sv tb,.d (Q6 T),.arr 400 0 u.1.2.1.length,.lit (.slice none 0 0)])),(400,some (.arr 54 7 (u.1.2.1.map Tm.row))),(1000,some (.blk 118 [Iv u.1.2.2.2]))]⟩)
  (μ:=λu=>g.length-u.1.1) ⟨(0,[],P,c),⟨Nat.zero_le _,⟨by simp,rfl⟩⟩⟩ (Le.sub (by simp) (by simp)) (λ⟨(i,ys,nm,c1),⟨c0,hw⟩⟩=>?_)
 dsimp only at c0 hw⊢;refine Wr ?_;refine Wb ?_;refine Wc rfl (λU=>?_) (λU=>?_)
 ·have j:i<g.length:=by have:=of_decide_eq_true U;omega
  clear U;have b4:g[i]? =some g[i]:=List.getElem?_eq_getElem j;have a8:g[i]∈g:=List.getElem_mem j;have c4:g.drop i=g[i]::g.drop (i+1):=List.drop_eq_getElem_cons j;generalize g[i]=y at b4 a8 c4;obtain⟨f,a2⟩:=hw;have a5:=d4 y a8;rw[c4]at f;refine Ws ?_;by_cases a3:tk=6
  ·by_cases a9:(i:Int)=1
   ·have c5:=eq_true a9;rw[Tm.ZT,if_pos ⟨a3,oM⟩]at f;obtain⟨e,he⟩:∃e:Int,e=wr (c1+1):=⟨_,rfl⟩
    rw[<-he]at f;have a6:=Og P c1;rw[<-he]at a6;obtain⟨v,hv⟩:∃v,v=Xp e:=⟨_,rfl⟩
    rw[<-hv]at a6 f;obtain⟨nw,a4⟩:∃nw,nw=ps++[(P,v)]:=⟨_,rfl⟩
    rw[<-a4]at f;have b0:List.take (ps.length+1) (List.map Gb ps++[[D.str P,D.str v]])=List.map Gb nw:=by rw[a4,List.map_append,List.take_of_length_le (by simp)];rfl
    have hx:=ih y nw e a5 (b5 y a8) (by rw[a4,List.length_append,List.length_singleton];omega);generalize y.rn nw e=o at hx f;obtain⟨z,c2⟩:=o;dsimp only at hx f;obtain⟨yk,yn,ya,yb,b1,b2,b3⟩:=y;obtain⟨zk,zn,za,zb,C,I,J⟩:=z;refine Wr ?_ (r:=by conv=>lhs;simp[Tm.row,Tm.Q3,Cs.Q3,b4,a3]);refine Wr ?_;refine Wr ?_ (r:=by conv=>lhs;simp[c5]);refine Wy ?_;refine Wg [3] [.c [] [.ptr 1000 0,La [[.str P]]] [(1000,.blk 118 [Iv c1])] (.tuple [La [[.str v]],La [[.str P,.str v]]]) [(1000,.blk 118 [Iv e])]] ?_;refine Wr ?_;refine Wg [4] [] ?_ (hr:=by conv=>lhs;simp[Gb,b0]);refine Wz [] [.c [] [.ptr 1000 0,.agg [Iv yk,Iv yn,Sv ya,Sv yb,.d (Q6 b1),La (b2.map Tm.row),La (b3.map Cs.row)],La (nw.map Gb)] [(1000,.blk 118 [Iv e])] (.agg [Iv zk,Iv zn,Sv za,Sv zb,.d (Q6 C),La (I.map Tm.row),La (J.map Cs.row)]) [(1000,.blk 118 [Iv c2])]] mixed ?_;refine Wr ?_;refine⟨⟨(i+1,ys++[.mk zk zn za zb C I J],v,c2),j,⟨by rw[f];simp,by simp[a2]⟩⟩,by simp;omega,?_⟩;dsimp only;exact Le.sub (by simp) (by simp[Tm.row,Tm.Q3,Cs.Q3,a2,a3])
   have c6:=a9;rw[Tm.ZT,if_neg (λh=>a9 (by have:=h.2;omega))]at f;have hx:=ih y ps c1 a5 (b5 y a8) oM;generalize y.rn ps c1=o at hx f;obtain⟨z,c2⟩:=o;dsimp only at hx f;obtain⟨yk,yn,ya,yb,b1,b2,b3⟩:=y;obtain⟨zk,zn,za,zb,C,I,J⟩:=z;refine Wr ?_ (r:=by conv=>lhs;simp[Tm.row,Tm.Q3,Cs.Q3,b4,a3]);refine Wr ?_;refine Wr ?_ (r:=by conv=>lhs;simp[c6]);refine Wn ?_;refine Ws ?_;refine Wz [] [.c [] [.ptr 1000 0,.agg [Iv yk,Iv yn,Sv ya,Sv yb,.d (Q6 b1),La (b2.map Tm.row),La (b3.map Cs.row)],La (ps.map Gb)] [(1000,.blk 118 [Iv c1])] (.agg [Iv zk,Iv zn,Sv za,Sv zb,.d (Q6 C),La (I.map Tm.row),La (J.map Cs.row)]) [(1000,.blk 118 [Iv c2])]] mixed ?_;refine Wr ?_;refine⟨⟨(i+1,ys++[.mk zk zn za zb C I J],nm,c2),j,⟨by rw[f];simp,by simp[a2]⟩⟩,by simp;omega,?_⟩;dsimp only;exact Le.sub (by simp) (by simp[Tm.row,Tm.Q3,Cs.Q3,a2,a3])
  rw[Tm.ZT,if_neg (λh=>a3 h.1)]at f;have hx:=ih y ps c1 a5 (b5 y a8) oM;generalize y.rn ps c1=o at hx f;obtain⟨z,c2⟩:=o;dsimp only at hx f;obtain⟨yk,yn,ya,yb,b1,b2,b3⟩:=y;obtain⟨zk,zn,za,zb,C,I,J⟩:=z;refine Wr ?_ (r:=by conv=>lhs;simp[Tm.row,Tm.Q3,Cs.Q3,b4]);refine Wr ?_;refine Wr ?_ (r:=by conv=>lhs;simp[a3]);refine Wn ?_;refine Ws ?_;refine Wz [] [.c [] [.ptr 1000 0,.agg [Iv yk,Iv yn,Sv ya,Sv yb,.d (Q6 b1),La (b2.map Tm.row),La (b3.map Cs.row)],La (ps.map Gb)] [(1000,.blk 118 [Iv c1])] (.agg [Iv zk,Iv zn,Sv za,Sv zb,.d (Q6 C),La (I.map Tm.row),La (J.map Cs.row)]) [(1000,.blk 118 [Iv c2])]] mixed ?_;refine Wr ?_;refine⟨⟨(i+1,ys++[.mk zk zn za zb C I J],nm,c2),j,⟨by rw[f];simp,by simp[a2]⟩⟩,by simp;omega,?_⟩;dsimp only;exact Le.sub (by simp) (by simp[Tm.row,Tm.Q3,Cs.Q3,a2])
 have j:i=g.length:=by have:=of_decide_eq_false U;omega
 subst j;clear U;obtain⟨f,a2⟩:=hw;rw[List.drop_length,Tm.ZT]at f;simp only[List.append_nil]at f;rw[f]at hR;dsimp only at hR;clear f;refine We ?_;refine Wr ?_;refine Wb ?_;refine X8.le (Le.low [401] [] (fr:=[(0,.ptr 1000 0),(2,La (ps.map Gb)),(6,.ptr 6 0),(7,.ptr 7 0),(85,La (l.map Cs.row)),(86,Iv (l.length:Int)),(87,Iv (0:Int))]) (mem:=[(6,some (.blk 54 [Iv 0,Iv 0,Sv .empty,Sv .empty,.lit (.slice none 0 0),.lit (.slice none 0 0),.lit (.slice none 0 0)])),(7,some (.blk 54 [Iv tk,Iv tn,Sv nm,Sv tb,.d (Q6 T),.arr 400 0 ys.length,.arr 401 0 ([]:List Cs).length])),(400,some (.arr 54 7 (ys.map Tm.row))),(401,some (.arr 87 9 (([]:List Cs).map Cs.row))),(1000,some (.blk 118 [Iv (c1:Int)]))]) rfl (by simp) (by simp)) ?_;refine Wl (σ:=λu:{u:Nat×List Cs×Int // u.1<=l.length/\(Cs.VG l ps c1=(u.2.1++(Cs.VG (l.drop u.1) ps u.2.2).1,(Cs.VG (l.drop u.1) ps u.2.2).2)/\u.2.1.length=u.1)}=>⟨118,[(0,.ptr 1000 0),(2,La (ps.map Gb)),(6,.ptr 6 0),(7,.ptr 7 0),(85,La (l.map Cs.row)),(86,Iv (l.length:Int)),(87,Iv (u.1.1:Int))],[(6,some (.blk 54 [Iv 0,Iv 0,Sv .empty,Sv .empty,.lit (.slice none 0 0),.lit (.slice none 0 0),.lit (.slice none 0 0)])),(7,some (.blk 54 [Iv tk,Iv tn,Sv nm,Sv tb,.d (Q6 T),.arr 400 0 ys.length,.arr 401 0 u.1.2.1.length])),(400,some (.arr 54 7 (ys.map Tm.row))),(401,some (.arr 87 9 (u.1.2.1.map Cs.row))),(1000,some (.blk 118 [Iv u.1.2.2]))]⟩)
  (μ:=λu=>l.length-u.1.1) ⟨(0,[],c1),⟨Nat.zero_le _,⟨by simp,rfl⟩⟩⟩ (Le.sub (by simp) (by simp)) (λ⟨(i,ds,c3),⟨c7,b7⟩⟩=>?_)
 dsimp only at c7 b7⊢;refine Wr ?_;refine Wb ?_;refine Wc rfl (λU=>?_) (λU=>?_)
 ·have j:i<l.length:=by have:=of_decide_eq_true U;omega
  clear U;have c8:l[i]? =some l[i]:=List.getElem?_eq_getElem j;have b8:l[i]∈l:=List.getElem_mem j;have c9:l.drop i=l[i]::l.drop (i+1):=List.drop_eq_getElem_cons j;generalize l[i]=d at c8 b8 c9;obtain⟨f,b9⟩:=b7;rw[c9,Cs.VG]at f;have d8:=d5 d b8;obtain⟨dt,a1,y⟩:=d;obtain⟨d0,a5⟩:=d8;dsimp only at d0 a5;rw[Cs.rn]at f;have a6:=Fa a1 c3 d0;obtain⟨e,he⟩:∃e:Int,e=Rz a1 c3:=⟨_,rfl⟩
  rw[<-he]at a6 f;have d9:=Hq a1 c3;generalize Y5 a1 c3=us at a6 f d9;have d1:(a1.zip us).length=a1.length:=by rw[List.length_zip];omega
  generalize a1.zip us=PX at a6 f d1;obtain⟨nw,a4⟩:∃nw,nw=ps++PX:=⟨_,rfl⟩
  rw[<-a4]at f;have b0:List.take (ps.length+PX.length) (List.map Gb ps++List.map Gb PX)=List.map Gb nw:=by rw[a4,List.map_append,List.take_of_length_le (by simp)]
  have hx:=ih y nw e a5 (Cs.Xz.1 hO.2.2.2 _ b8).2.2 (by rw[a4,List.length_append];omega);generalize y.rn nw e=o at hx f;obtain⟨z,c2⟩:=o;dsimp only at hx f;obtain⟨dk,dn,da,db,e0,e1,e2⟩:=y;obtain⟨zk,zn,za,zb,C,I,J⟩:=z;refine Ws ?_;refine Wr ?_ (r:=by conv=>lhs;simp[Tm.row,Tm.Q3,Cs.Q3,c8,Cs.row]);refine Wg [] [.c [] [.ptr 1000 0,.d (Q6 a1)] [(1000,.blk 118 [Iv c3])] (.tuple [.d (Q6 us),La (PX.map Gb)]) [(1000,.blk 118 [Iv e])]] ?_;refine Wz [12] [.c [] [.ptr 1000 0,.agg [Iv dk,Iv dn,Sv da,Sv db,.d (Q6 e0),La (e1.map Tm.row),La (e2.map Cs.row)],La (nw.map Gb)] [(1000,.blk 118 [Iv e])] (.agg [Iv zk,Iv zn,Sv za,Sv zb,.d (Q6 C),La (I.map Tm.row),La (J.map Cs.row)]) [(1000,.blk 118 [Iv c2])]] mixed ?_ (hr:=by conv=>lhs;simp[Gb,b0]);refine Wr ?_;refine⟨⟨(i+1,ds++[.mk dt us (.mk zk zn za zb C I J)],c2),j,⟨by rw[f];simp,by simp[b9]⟩⟩,by simp;omega,?_⟩;dsimp only;exact Le.sub (by simp) (by simp[Cs.row,Tm.row,Tm.Q3,Cs.Q3,b9])
 have j:i=l.length:=by have:=of_decide_eq_false U;omega
 subst j;clear U;obtain⟨f,b9⟩:=b7;rw[List.drop_length,Cs.VG]at f;simp only[List.append_nil]at f;rw[f]at hR;dsimp only at hR;subst hR;refine We ?_;refine Wr ?_;refine Wt ?_;try dsimp only[Q8,Q5]
 apply Qz.JW [400,401]
 ·rfl
 ·conv=>lhs;simp
 ·conv=>lhs;simp[Q7,Tryz.results64]
 ·rfl
 ·simp[Qq,Q4]
theorem Qx7:∀N,RnE N
 |0=>λ_ _ _ h=>h.elim
 |N+1=>Zk5 N (Qx7 N)
theorem JP(l o:List ByteArray)(hl:l.length<=8796093022207)(U:o.length<=8796093022208):Qv Tryz.prog 68 [Xw l,Xw o,Bv true] (λ_=>Xw (Uq l o)) none:=by
 refine Qv.of Tryz.func68 rfl rfl rfl (Nat.le_of_ble_eq_true rfl) ?_;show X8 _ _ (Z7 _ Tryz.f68 _ _ _) (Z6 27 _);refine Wr ?_;refine Wr ?_;refine Wr ?_;refine Wb ?_;refine X8.le (Le.low [400] [] (fr:=[(1,.d (Q6 o)),(2,Bv true),(7,.arr 400 0 ([]:List ByteArray).length),(10,.d (Q6 l)),(11,Iv (l.length:Int)),(12,Iv (0:Int))]) (mem:=[(400,some (.arr 9 1 (([]:List ByteArray).map Jj)))]) rfl (by simp) (by simp)) ?_;refine Wl (σ:=λu:{u:Nat×List ByteArray // u.1<=l.length/\u.2=Uq (l.take u.1) o}=>⟨27,[(1,.d (Q6 o)),(2,Bv true),(7,.arr 400 0 u.1.2.length),(10,.d (Q6 l)),(11,Iv (l.length:Int)),(12,Iv (u.1.1:Int))],[(400,some (.arr 9 1 (u.1.2.map Jj)))]⟩)
  (μ:=λu=>l.length-u.1.1) ⟨(0,[]),⟨Nat.zero_le _,by simp[Uq]⟩⟩ (Le.sub (by simp) (by simp)) (λ⟨(i,I),⟨J,C⟩⟩=>?_)
 dsimp only at J C⊢;refine Wr ?_;refine Wb ?_;refine Wc rfl (λj=>?_) (λj=>?_)
 ·have f:i<l.length:=by have:=of_decide_eq_true j;omega
  clear j;have t:l[i]? =some l[i]:=List.getElem?_eq_getElem f;have P:l[i]∈l:=List.getElem_mem f;have T:l.drop i=l[i]::l.drop (i+1):=List.drop_eq_getElem_cons f;generalize l[i]=x at t P T;have a1:I.length<=i:=by have:=N8 (l.take i) o;rw[C];rw[List.length_take]at this;omega
  have g:=Qw8 o t;rw[<-C]at g;have j:=JR o x U;generalize hasB o x=q at j g;refine Ws ?_;refine Wr ?_ (r:=by conv=>lhs;simp[t]);cases q with
  |true=>
   refine Wg [] [.p (λ_=>Bv true) none] ?_;refine Wy ?_;refine Wr ?_;refine Wr ?_;refine⟨⟨(i+1,I++[x]),f,by rw[g];rfl⟩,by simp;omega,?_⟩;dsimp only;exact Le.sub (by simp) (by simp)
  |false=>
   refine Wg [] [.p (λ_=>Bv false) none] ?_;refine Wn ?_;refine Ws ?_;refine Wr ?_;refine⟨⟨(i+1,I),f,by rw[g];rfl⟩,by simp;omega,?_⟩;dsimp only;exact Le.sub (by simp) (by simp)
 have f:i=l.length:=by have:=of_decide_eq_false j;omega
 subst f;clear j;rw[List.take_length]at C;subst C;refine We ?_;refine Wr ?_;refine Wt ?_;try dsimp only[Q8,Q5]
 apply Z7.JW [400]
 ·rfl
 ·conv=>lhs;simp
 ·conv=>lhs;simp[Q7,Tryz.results68]
 rfl
theorem VP(l o:List ByteArray)(hl:l.length<=8796093022207)(U:o.length<=8796093022208):Qv Tryz.prog 68 [Xw l,Xw o,Bv false] (λ_=>Xw (Rv l o)) none:=by
 refine Qv.of Tryz.func68 rfl rfl rfl (Nat.le_of_ble_eq_true rfl) ?_;show X8 _ _ (Z7 _ Tryz.f68 _ _ _) (Z6 27 _);refine Wr ?_;refine Wr ?_;refine Wr ?_;refine Wb ?_;refine X8.le (Le.low [400] [] (fr:=[(1,.d (Q6 o)),(2,Bv false),(7,.arr 400 0 ([]:List ByteArray).length),(10,.d (Q6 l)),(11,Iv (l.length:Int)),(12,Iv (0:Int))]) (mem:=[(400,some (.arr 9 1 (([]:List ByteArray).map Jj)))]) rfl (by simp) (by simp)) ?_;refine Wl (σ:=λu:{u:Nat×List ByteArray // u.1<=l.length/\u.2=Rv (l.take u.1) o}=>⟨27,[(1,.d (Q6 o)),(2,Bv false),(7,.arr 400 0 u.1.2.length),(10,.d (Q6 l)),(11,Iv (l.length:Int)),(12,Iv (u.1.1:Int))],[(400,some (.arr 9 1 (u.1.2.map Jj)))]⟩)
  (μ:=λu=>l.length-u.1.1) ⟨(0,[]),⟨Nat.zero_le _,by simp[Rv]⟩⟩ (Le.sub (by simp) (by simp)) (λ⟨(i,I),⟨J,C⟩⟩=>?_)
 dsimp only at J C⊢;refine Wr ?_;refine Wb ?_;refine Wc rfl (λj=>?_) (λj=>?_)
 ·have f:i<l.length:=by have:=of_decide_eq_true j;omega
  clear j;have t:l[i]? =some l[i]:=List.getElem?_eq_getElem f;have P:l[i]∈l:=List.getElem_mem f;have T:l.drop i=l[i]::l.drop (i+1):=List.drop_eq_getElem_cons f;generalize l[i]=x at t P T;have a1:I.length<=i:=by have:=Sq (l.take i) o;rw[C];rw[List.length_take]at this;omega
  have g:=OD o t;rw[<-C]at g;have j:=JR o x U;generalize hasB o x=q at j g;refine Ws ?_;refine Wr ?_ (r:=by conv=>lhs;simp[t]);cases q with
  |true=>
   refine Wg [] [.p (λ_=>Bv true) none] ?_;refine Wn ?_;refine Ws ?_;refine Wr ?_;refine⟨⟨(i+1,I),f,by rw[g];rfl⟩,by simp;omega,?_⟩;dsimp only;exact Le.sub (by simp) (by simp)
  |false=>
   refine Wg [] [.p (λ_=>Bv false) none] ?_;refine Wy ?_;refine Wr ?_;refine Wr ?_;refine⟨⟨(i+1,I++[x]),f,by rw[g];rfl⟩,by simp;omega,?_⟩;dsimp only;exact Le.sub (by simp) (by simp)
 have f:i=l.length:=by have:=of_decide_eq_false j;omega
 subst f;clear j;rw[List.take_length]at C;subst C;refine We ?_;refine Wr ?_;refine Wt ?_;try dsimp only[Q8,Q5]
 apply Z7.JW [400]
 ·rfl
 ·conv=>lhs;simp
 ·conv=>lhs;simp[Q7,Tryz.results68]
 rfl
theorem Fb(k:Int):∀(x y:List ByteArray) (t:Tm),cnt k (x++y) t=cnt k x (cnt k y t)
 |[],_,_=>rfl
 |b::r,y,t=>by simp only[List.cons_append,cnt,Fb k r y t]
theorem G7(o:Int)(l:List ByteArray)(tk T:Int)(U tb:ByteArray)(f:List ByteArray)(g:List Tm)(i:List Cs)(hl:l.length<=8796093022207):Qv Tryz.prog 69 [Iv o,Xw l,Y3 (.mk tk T U tb f g i)] (λ_=>Y3 (cnt o l (.mk tk T U tb f g i))) none:=by
 obtain⟨R,hR⟩:∃R,R=cnt o l (.mk tk T U tb f g i):=⟨_,rfl⟩
 rw[<-hR];obtain⟨rk,rn,ra,rb,a3,a4,a5⟩:=R;refine Qv.of Tryz.func69 rfl rfl rfl (Nat.le_of_ble_eq_true rfl) ?_;show X8 _ _ (Z7 _ Tryz.f69 _ _ _) (Z6 24 _);refine Wr ?_;refine Wr ?_;refine Wb ?_;refine Wl (σ:=λu:{u:Nat×Int×Int×ByteArray×ByteArray×List ByteArray×List Tm×List Cs // (cnt o l (.mk tk T U tb f g i)=cnt o (l.take u.1) (.mk u.2.1 u.2.2.1 u.2.2.2.1 u.2.2.2.2.1 u.2.2.2.2.2.1 u.2.2.2.2.2.2.1 u.2.2.2.2.2.2.2)/\u.1<=l.length)}=>⟨24,[(0,Iv o),(1,.d (Q6 l)),(5,.ptr 5 0),(6,.ptr 6 0),(7,Iv ((u.1.1:Int)-1))],[(5,some (.blk 54 [Iv u.1.2.1,Iv u.1.2.2.1,Sv u.1.2.2.2.1,Sv u.1.2.2.2.2.1,.d (Q6 u.1.2.2.2.2.2.1),La (u.1.2.2.2.2.2.2.1.map Tm.row),La (u.1.2.2.2.2.2.2.2.map Cs.row)])),(6,some (.blk 54 [Iv 0,Iv 0,Sv .empty,Sv .empty,.lit (.slice none 0 0),.lit (.slice none 0 0),.lit (.slice none 0 0)]))]⟩)
  (μ:=λu=>u.1.1) ⟨(l.length,tk,T,U,tb,f,g,i),⟨by rw[List.take_length],Nat.le_refl _⟩⟩ (Le.sub (by simp) (by simp)) (λ⟨(j0,zk,zn,za,zb,C,I,J),t⟩=>?_)
 dsimp only at t⊢;obtain⟨t,hj⟩:=t;rcases j0 with _|j
 ·rw[show((0:Nat):Int)-1= -1 from rfl];refine Wr ?_;refine Wn ?_;refine We ?_;rw[List.take_zero]at t;obtain⟨rfl,rfl,rfl,rfl,rfl,rfl,rfl⟩:zk=rk/\zn=rn/\za=ra/\zb=rb/\C=a3/\I=a4/\J=a5:=by simpa[cnt]using (hR.trans t).symm
  refine Wr ?_;refine Wt ?_;try dsimp only[Q8,Q5]
  apply Z7.ret
  ·rfl
  ·conv=>lhs;simp[Q7,Tryz.results69]
  first|rfl|simp[Zv,Y3]
 rw[show((j+1:Nat):Int)-1=(j:Int)by omega];have a1:=eq_true (Int.natCast_nonneg j);have a6:j<l.length:=oM;have P:l[j]? =some l[j]:=List.getElem?_eq_getElem a6;have a2:l.take (j+1)=l.take j++[l[j]]:=by rw[List.take_add_one,P];rfl
 generalize l[j]=s at P a2;rw[a2,Fb]at t;dsimp only[cnt]at t;refine Wr ?_ (r:=by conv=>lhs;simp[a1]);refine Wy ?_;refine Ws ?_;refine Wz [6] [] mixed ?_ (hr:=by conv=>lhs;simp[P,a1]);refine Wb ?_;refine X8.le (Le.low [] [] (fr:=[(0,Iv o),(1,.d (Q6 l)),(5,.ptr 5 0),(6,.ptr 6 0),(7,Iv (j:Int))]) (mem:=[(5,some (.blk 54 [Iv o,Iv 0,Sv s,Sv .empty,La [],La [[.int zk,.int zn,.str za,.str zb,Q6 C,.sl (I.map Tm.row),.sl (J.map Cs.row)]],La []])),(6,some (.blk 54 [Iv 0,Iv 0,Sv .empty,Sv .empty,.lit (.slice none 0 0),.lit (.slice none 0 0),.lit (.slice none 0 0)]))]) rfl (by simp) (by simp)) ?_;refine Wr ?_;refine⟨⟨(j,o,0,s,.empty,[],[.mk zk zn za zb C I J],[]),⟨t,oM⟩⟩,by simp only[];omega,?_⟩;dsimp only;exact Le.sub (by simp[Q6]) (by simp[Tm.row,Tm.Q3,Cs.Q3,Q6])
end
end Go.Proofs.YtnddiddkmhiclaaGreatDoor
