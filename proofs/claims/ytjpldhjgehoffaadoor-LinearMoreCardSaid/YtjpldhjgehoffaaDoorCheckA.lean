import Derived.Test.YtjpldhjgehoffaaDoorOpen
import Derived.Test.YtjpldhjgehoffaaDoorTy
import Derived.Lib.ItoaLen
import Derived.RangeFuncNested
import Derived.RangeFuncWrites
import Derived.RangeFuncBound
import Derived.RangeFuncCalls
import Derived.RangeFuncLeaves
import Derived.RangeFuncBox
import Derived.Shelf.Abstract
import Derived.WalkKit
import Derived.OwnWalkIn
import Derived.TacticsInMore
import Derived.LoopNIn
import Derived.LoopIn
namespace Go.Proofs.YtjpldhjgehoffaaDoor
open Go.RowKit
set_option linter.unusedVariables false
set_option linter.unusedSimpArgs false
mutual
inductive Tm where
 | mk (kind n : Int) (name token : ByteArray) (vars : List ByteArray) (args : List Tm) (cases : List Cs)
inductive Cs where
 | mk (tag : Int) (vars : List ByteArray) (body : Tm)
end
structure Fn where
 name : ByteArray
 params : List ByteArray
 body : Tm
mutual
def Tm.Ok : Tm→Prop
 | .mk _ _ a b vs xs cs=>(a.size≤140737488355328∧b.size≤140737488355328∧(∀ s∈vs,s.size≤140737488355328))∧(vs.length≤8796093022207∧xs.length≤1172812402960∧cs.length≤925904528652)∧Tm.Oks xs∧Cs.Oks cs
def Tm.Oks : List Tm→Prop
 | []=>True
 | t :: r=>t.Ok∧Tm.Oks r
def Cs.Ok : Cs→Prop
 | .mk _ vs b=>(∀ s∈vs,s.size≤140737488355328)∧vs.length≤8796093022207∧b.Ok
def Cs.Oks : List Cs→Prop
 | []=>True
 | c :: r=>c.Ok∧Cs.Oks r
end
theorem Tm.Zq : ∀ {l : List Tm},Tm.Oks l↔∀ t∈l,t.Ok
 | []=>by simp [Tm.Oks]
 | t :: r=>by simp [Tm.Oks,Tm.Zq (l:=r)]
theorem Cs.Zq : ∀ {l : List Cs},Cs.Oks l↔∀ t∈l,t.Ok
 | []=>by simp [Cs.Oks]
 | t :: r=>by simp [Cs.Oks,Cs.Zq (l:=r)]
structure Fn.Ok (f : Fn) : Prop where
 name : f.name.size≤140737488355328
 params : f.params.length≤8796093022207
 sizes : ∀ s∈f.params,s.size≤140737488355328
 body : f.body.Ok
structure Gv (l : List Fn) : Prop where
 len : l.length≤879609302220
 all : ∀ f∈l,f.Ok
theorem Gv.fn {l : List Fn} (h : Gv l) : ∀ f∈l,f.body.Ok∧f.params.length≤8796093022207:=fun f hf=>⟨(h.all f hf).body,(h.all f hf).params⟩
abbrev Zw (s : ByteArray) : List D:=[.str s]
abbrev Q7 (l : List ByteArray) : D:=.sl (l.map Zw)
mutual
def Tm.row : Tm→List D
 | .mk k n a b vs xs cs=>[.int k,.int n,.str a,.str b,Q7 vs,.sl (Tm.rows xs),.sl (Cs.rows cs)]
def Tm.rows : List Tm→List (List D)
 | []=>[]
 | t :: r=>t.row :: Tm.rows r
def Cs.row : Cs→List D
 | .mk t vs b=>.int t :: Q7 vs :: b.row
def Cs.rows : List Cs→List (List D)
 | []=>[]
 | c :: r=>c.row :: Cs.rows r
end
theorem Tm.Q3 (l : List Tm) : Tm.rows l = l.map Tm.row:=by
 induction l with
 | nil=>rfl
 | cons t r ih=>simp only [Tm.rows,List.map_cons,ih]
theorem Cs.Q3 (l : List Cs) : Cs.rows l = l.map Cs.row:=by
 induction l with
 | nil=>rfl
 | cons t r ih=>simp only [Cs.rows,List.map_cons,ih]
def Fn.row (f : Fn) : List D:=.str f.name :: Q7 f.params :: f.body.row
mutual
def Tm.sz : Tm→Nat
 | .mk _ _ _ _ _ xs cs=>1 + Tm.szs xs + Cs.szs cs
def Tm.szs : List Tm→Nat
 | []=>0
 | t :: r=>t.sz + Tm.szs r
def Cs.sz : Cs→Nat
 | .mk _ _ b=>b.sz
def Cs.szs : List Cs→Nat
 | []=>0
 | c :: r=>c.sz + Cs.szs r
end
theorem Tm.Z4 {t : Tm} : ∀ {l : List Tm},t∈l→t.sz≤Tm.szs l
 | [],h=>by cases h
 | x :: l,h=>by
  simp only [Tm.szs]
  rcases List.mem_cons.1 h with rfl | h
  ·omega
  ·have:=Tm.Z4 h;omega
theorem Cs.Z4 {t : Cs} : ∀ {l : List Cs},t∈l→t.sz≤Cs.szs l
 | [],h=>by cases h
 | x :: l,h=>by
  simp only [Cs.szs]
  rcases List.mem_cons.1 h with rfl | h
  ·omega
  ·have:=Cs.Z4 h;omega
def Cs.tag : Cs→Int | .mk t _ _=>t
def Cs.vars : Cs→List ByteArray | .mk _ v _=>v
def Cs.body : Cs→Tm | .mk _ _ b=>b
def Tm.kind : Tm→Int | .mk k _ _ _ _ _ _=>k
def Tm.n : Tm→Int | .mk _ n _ _ _ _ _=>n
def Tm.name : Tm→ByteArray | .mk _ _ a _ _ _ _=>a
def Tm.token : Tm→ByteArray | .mk _ _ _ b _ _ _=>b
def Tm.vars : Tm→List ByteArray | .mk _ _ _ _ v _ _=>v
def Tm.args : Tm→List Tm | .mk _ _ _ _ _ a _=>a
def Tm.cases : Tm→List Cs | .mk _ _ _ _ _ _ c=>c
abbrev Xw : Tm→AV
 | .mk k n a b vs xs cs=>.agg [.d (.int k),.d (.int n),.d (.str a),.d (.str b),.d (Q7 vs),.d (.sl (xs.map Tm.row)),.d (.sl (cs.map Cs.row))]
abbrev D7 (l : List Fn) : AV:=.d (.sl (l.map Fn.row))
abbrev X6 (l : List ByteArray) : AV:=.d (Q7 l)
section
variable {ds : List D}
theorem strs_ok (h : RT Tryd.prog 28 ds) : ∃ l : List ByteArray,ds = [Q7 l]∧l.length≤8796093022207∧∀ s∈l,s.size≤140737488355328:=by
 obtain ⟨l,rfl,hl,hs⟩:=h.strs_inv Tryd.underlying28 Tryd.underlying9
 rw [show Tryd.prog.bytesOf 9 = 16 by kernel_rfl] at hl
 unfold reachBytes at hl hs
 exact ⟨l,rfl,by omega,fun s hm=>by have:=hs s hm;omega⟩
theorem tm_inv : ∀ (t : TypeId) (ds : List D),RT Tryd.prog t ds→(t = 32→∃ x : Tm,ds = x.row∧x.Ok)∧(t = 29→∃ x : List Tm,ds = [.sl (x.map Tm.row)]∧x.length≤1172812402960∧∀ y∈x,y.Ok)∧(t = 42→∃ x : Cs,ds = x.row∧x.Ok)∧(t = 30→∃ x : List Cs,ds = [.sl (x.map Cs.row)]∧x.length≤925904528652∧∀ y∈x,y.Ok):=by
 intro t ds h
 induction h with
 | int n h lo hi =>
  refine ⟨?_,?_,?_,?_⟩ <;> (rintro rfl;first | (rw [Tryd.underlying32] at h;cases h) | (rw [Tryd.underlying29] at h;cases h) | (rw [Tryd.underlying42] at h;cases h) | (rw [Tryd.underlying30] at h;cases h))
 | bool b h =>
  refine ⟨?_,?_,?_,?_⟩ <;> (rintro rfl;first | (rw [Tryd.underlying32] at h;cases h) | (rw [Tryd.underlying29] at h;cases h) | (rw [Tryd.underlying42] at h;cases h) | (rw [Tryd.underlying30] at h;cases h))
 | str s h hs =>
  refine ⟨?_,?_,?_,?_⟩ <;> (rintro rfl;first | (rw [Tryd.underlying32] at h;cases h) | (rw [Tryd.underlying29] at h;cases h) | (rw [Tryd.underlying42] at h;cases h) | (rw [Tryd.underlying30] at h;cases h))
 | sl rows h hl hr ih =>
  refine ⟨?_,?_,?_,?_⟩
  ·rintro rfl;rw [Tryd.underlying32] at h;cases h
  ·rintro rfl
   rw [Tryd.underlying29] at h
   cases h
   obtain ⟨l,rfl,hp⟩:=rows_inv (row:=Tm.row) (p:=Tm.Ok) fun r hr'=>(ih r hr').1 rfl
   refine ⟨l,rfl,?_,hp⟩
   rw [List.length_map,show Tryd.prog.bytesOf 32 = 120 by kernel_rfl] at hl
   unfold reachBytes at hl
   omega
  ·rintro rfl;rw [Tryd.underlying42] at h;cases h
  ·rintro rfl
   rw [Tryd.underlying30] at h
   cases h
   obtain ⟨l,rfl,hp⟩:=rows_inv (row:=Cs.row) (p:=Cs.Ok) fun r hr'=>(ih r hr').2.2.1 rfl
   refine ⟨l,rfl,?_,hp⟩
   rw [List.length_map,show Tryd.prog.bytesOf 42 = 152 by kernel_rfl] at hl
   unfold reachBytes at hl
   omega
 | struct parts h hl hf ih =>
  refine ⟨?_,?_,?_,?_⟩
  ·rintro rfl
   rw [Tryd.underlying32] at h
   cases h
   match parts,hl with
   | [p0,p1,p2,p3,p4,p5,p6],_ =>
    obtain ⟨k,rfl,_⟩:=(hf 0 _ p0 rfl rfl).Jw Tryd.underlying3
    obtain ⟨n,rfl,_⟩:=(hf 1 _ p1 rfl rfl).Jw Tryd.underlying3
    obtain ⟨a,rfl,ha⟩:=(hf 2 _ p2 rfl rfl).D9 Tryd.underlying9
    obtain ⟨b,rfl,hb⟩:=(hf 3 _ p3 rfl rfl).D9 Tryd.underlying9
    obtain ⟨vs,rfl,hv,hvs⟩:=strs_ok (hf 4 _ p4 rfl rfl)
    obtain ⟨xs,rfl,hx,hxs⟩:=(ih 5 _ p5 rfl rfl).2.1 rfl
    obtain ⟨cs,rfl,hc,hcs⟩:=(ih 6 _ p6 rfl rfl).2.2.2 rfl
    unfold reachBytes at ha hb
    exact ⟨.mk k n a b vs xs cs,by simp [Tm.row,Tm.Q3,Cs.Q3],⟨⟨by omega,by omega,hvs⟩,⟨hv,hx,hc⟩,Tm.Zq.2 hxs,Cs.Zq.2 hcs⟩⟩
  ·rintro rfl;rw [Tryd.underlying29] at h;cases h
  ·rintro rfl
   rw [Tryd.underlying42] at h
   cases h
   match parts,hl with
   | [p0,p1,p2],_ =>
    obtain ⟨k,rfl,_⟩:=(hf 0 _ p0 rfl rfl).Jw Tryd.underlying3
    obtain ⟨vs,rfl,hv,hvs⟩:=strs_ok (hf 1 _ p1 rfl rfl)
    obtain ⟨b,rfl,hb⟩:=(ih 2 _ p2 rfl rfl).1 rfl
    exact ⟨.mk k vs b,by simp [Cs.row],hvs,hv,hb⟩
  ·rintro rfl;rw [Tryd.underlying30] at h;cases h
theorem fn_inv (h : RT Tryd.prog 34 ds) : ∃ f : Fn,ds = f.row∧f.Ok:=by
 obtain ⟨p0,p1,p2,rfl,h0,h1,h2⟩:=h.struct3_inv Tryd.underlying34
 obtain ⟨a,rfl,ha⟩:=h0.D9 Tryd.underlying9
 obtain ⟨vs,rfl,hv,hvs⟩:=strs_ok h1
 obtain ⟨b,rfl,hb⟩:=(tm_inv _ _ h2).1 rfl
 unfold reachBytes at ha
 exact ⟨⟨a,vs,b⟩,by simp [Fn.row],⟨(by omega : a.size≤140737488355328),hv,hvs,hb⟩⟩
theorem fns_inv {c : AV} (h : Pq Tryd.prog 22 c) : ∃ l : List Fn,c = .d (.sl (l.map Fn.row))∧Gv l:=by
 obtain ⟨l,rfl,hl,hp⟩:=h.list (fun r hr=>fn_inv hr) Tryd.underlying22
 rw [show Tryd.prog.bytesOf 34 = 160 by kernel_rfl] at hl
 unfold reachBytes at hl
 exact ⟨l,rfl,by omega,hp⟩
end
end Go.Proofs.YtjpldhjgehoffaaDoor
namespace Go.Proofs.YtjpldhjgehoffaaDoor
open Go.RowKit
set_option linter.unusedVariables false
set_option linter.unusedSimpArgs false
def D5 (n : Int) : ByteArray:=⟨(Lib.itoa n).toArray⟩
theorem Nz {n : Int} (h : inI n) : (D5 n).size≤21:=by
 have:=Lib.itoa_length_le n h.1 h.2
 simpa [D5,ByteArray.size] using this
theorem sp_Itoa (n : Int) (h : inI n) : Qw Tryd.prog 62 [.d (.int n)] (fun _=>.d (.str (D5 n))) none:=by
 refine ⟨⟨_,Tryd.func62,rfl,rfl⟩,fun d=>rfl,fun _ d=>rfl,by simp,fun d w ok vals hgi hok hl hv=>?_⟩
 match vals,hl with
 | ⟨[v]⟩,_ =>
 obtain ⟨rfl,_⟩:=(hv 0 _ v rfl rfl).X0.Jw
 refine (Tryd.strconv_Itoa n h.1 h.2 w hgi.pow).mono ?_
 rintro e w' ⟨rfl,k,os,rfl⟩
 have hs:=Nz h
 refine ⟨_,ok,noG,rfl,⟨rfl,rfl,rfl,by simp [Go.Sort.grow,World.drewN],fun b hb=>?_⟩,fun b h=>h,fun b h=>.inl h,.d _ _ (.str _ (by unfold maxLen;omega)),by simp⟩
 simp only [Go.Sort.grow,World.drewN]
 rw [Array.getElem?_append_left hb]
mutual
def AV.inK (o k : Nat) : AV→Prop
 | .arr o' lo n=>o' = o→lo + n≤k
 | .agg cs=>AV.inKL o k cs
 | .tuple cs=>AV.inKL o k cs
 | .clo _ cs=>AV.inKL o k cs
 | _=>True
def AV.inKL (o k : Nat) : List AV→Prop
 | []=>True
 | x :: r=>AV.inK o k x∧AV.inKL o k r
end
theorem AV.inKL_get {o k : Nat} {l : List AV} (h : AV.inKL o k l) (i : Nat) (c : AV) (hi : l[i]? = some c) : c.inK o k:=by
 induction l generalizing i with
 | nil=>simp at hi
 | cons x r ih =>
  rcases i with _ | i
  ·simp at hi;subst hi;exact h.1
  ·simp at hi;exact ih h.2 i hi
def frInK (o k : Nat) : List (Nat×AV)→Prop
 | []=>True
 | x :: r=>x.2.inK o k∧frInK o k r
def memInK (o k : Nat) : List (Nat×Option Qz)→Prop
 | []=>True
 | x :: r=>(match x.2 with | some (.blk _ cs)=>AV.inKL o k cs | _=>True)∧memInK o k r
theorem frInK_get {o k : Nat} : ∀ {f : List (Nat×AV)} (h : frInK o k f) (t : Nat),(Zj f t).inK o k
 | [],_,t=>by simp [Zj,AV.inK]
 | x :: r,h,t=>by
  simp only [Zj]
  split
  ·exact h.1
  ·exact frInK_get h.2 t
theorem memInK_get {o k : Nat} : ∀ {f : List (Nat×Option Qz)} (h : memInK o k f) (i : Nat) (t : TypeId) (cs : List AV),Q4 f i = some (.blk t cs)→AV.inKL o k cs
 | [],_,i,t,cs,hi=>by simp [Q4] at hi
 | x :: r,h,i,t,cs,hi=>by
  simp only [Q4] at hi
  split at hi
  ·have:=h.1
   rw [hi] at this
   exact this
  ·exact memInK_get h.2 i t cs hi
section
variable {w : World} {ok : Nat→Prop} {g : Gh} {m m' : Me}
theorem VR.cut {o k : Nat} {e : TypeId} {sz : Nat} {rows : List (List D)} {c : AV} {v : Value} (h : VR w ok g m c v) (hx : m o = some (.arr e sz rows)) (hk : k≤rows.length)
  (hm : ∀ i,m' i = if i = o then some (.arr e sz (rows.take k)) else m i) : c.inK o k→VR w ok g m' c v:=by
 induction h with
 | any v=>exact fun _=>.any v
 | d d v h=>exact fun _=>.d d v h
 | lit v h=>exact fun _=>.lit v h
 | fl rows v h hr=>exact fun _=>.fl rows v h hr
 | ptr o1 off v hv h =>
  refine fun _=>.ptr o1 off v hv fun x hx'=>?_
  rw [hm] at hx'
  split at hx'
  ·rename_i h1;rw [h1] at h ⊢;exact h _ hx
  ·exact h x hx'
 | arr o1 lo n v hv h =>
  refine fun hc=>.arr o1 lo n v hv fun e' sz' rows' hx'=>?_
  rw [hm] at hx'
  split at hx'
  ·rename_i h1
   simp only [Option.some.injEq,Qz.arr.injEq] at hx'
   obtain ⟨rfl,rfl,rfl⟩:=hx'
   have:=hc h1
   rw [h1] at h ⊢
   refine ⟨by rw [List.length_take];omega,(h _ _ _ hx).2⟩
  ·exact h _ _ _ hx'
 | U2 o1 i j v hv h =>
  refine fun _=>.U2 o1 i j v hv fun e' sz' rows' hx'=>?_
  rw [hm] at hx'
  split at hx'
  ·rename_i h1
   simp only [Option.some.injEq,Qz.arr.injEq] at hx'
   obtain ⟨rfl,rfl,rfl⟩:=hx'
   rw [h1] at h ⊢
   exact h _ _ _ hx
  ·exact h _ _ _ hx'
 | mp o1 v hv h =>
  refine fun _=>.mp o1 v hv fun x hx'=>?_
  rw [hm] at hx'
  split at hx'
  ·rename_i h1;rw [h1] at h ⊢;exact h _ hx
  ·exact h x hx'
 | agg cs vs hl h h1 ih=>exact fun hc=>.agg cs vs hl (fun i c v hi hv=>ih i c v hi hv (AV.inKL_get hc i c hi)) h1
 | tuple cs vs hl h ih=>exact fun hc=>.tuple cs vs hl (fun i c v hi hv=>ih i c v hi hv (AV.inKL_get hc i c hi))
 | clo f cs vs hl h ih=>exact fun hc=>.clo f cs vs hl (fun i c v hi hv=>ih i c v hi hv (AV.inKL_get hc i c hi))
end
theorem Le.cut {s : AS} (o k : Nat) {e : TypeId} {sz : Nat} {rows rows' : List (List D)} (hx : Q4 s.mem o = some (.arr e sz rows)) (hr : rows.take k = rows') (hk : k≤rows.length)
  (hf : frInK o k s.fr) (hmm : memInK o k s.mem) : Le s ⟨s.n,s.fr,(o,some (.arr e sz rows')) :: s.mem⟩:=by
 subst hr
 rintro C a w ⟨ok,g,hM,h1,h2,h3⟩
 have em : ∀ i,Q4 ((o,some (.arr e sz (rows.take k))) :: s.mem) i = if i = o then some (.arr e sz (rows.take k)) else Q4 s.mem i:=fun i=>by
  simp only [Q4]
  by_cases h : i = o
  ·rw [if_pos h,h];simp
  ·rw [if_neg h,if_neg (by simpa using fun h'=>h h'.symm)]
 have vr : ∀ {c v},VR w ok g (Q4 s.mem) c v→c.inK o k→VR w ok g (Q4 ((o,some (.arr e sz (rows.take k))) :: s.mem)) c v:=fun h=>h.cut hx hk em
 have inv : ∀ {i x},Q4 ((o,some (.arr e sz (rows.take k))) :: s.mem) i = some x→∃ y,Q4 s.mem i = some y:=fun {i x} h=>by
  rw [em] at h
  split at h
  ·rename_i h1;exact ⟨_,h1 ▸ hx⟩
  ·exact ⟨x,h⟩
 refine ⟨ok,g,⟨fun i x hi=>?_,fun i j xi xj b hi hj hbi hbj=>?_,fun i x b hi hb=>?_,hM.okb,hM.okk,hM.size,hM.heap,hM.keep,hM.os,hM.tape,hM.output,hM.gi,hM.gb⟩,h1,h2,fun t=>?_⟩
 ·rw [em] at hi
  split at hi
  ·rename_i h1
   subst h1
   cases hi
   obtain ⟨k1,k2,k3⟩:=hM.obj _ _ hx
   have hlt : ∀ (j : Nat) (r : List D),(rows.take k)[j]? = some r→rows[j]? = some r:=fun j r h=>by
    rw [List.getElem?_take] at h
    split at h
    ·exact h
    ·cases h
   refine ⟨k1,fun j r hj=>k2 j r (hlt j r hj),?_⟩
   rcases k3 with ⟨k3,rfl⟩ | ⟨b,cur,k3,k4,k5,k6,k7,k8⟩
   ·exact .inl ⟨k3,by simp⟩
   ·exact .inr ⟨b,cur,k3,k4,by rw [List.length_take];omega,k6,k7,fun i j r c v hi=>k8 i j r c v (hlt i r hi)⟩
  ·rename_i h1
   have hO:=hM.obj _ _ hi
   cases x with
   | blk t cs =>
    obtain ⟨b,vs,k1,k2,k3,k4,k5⟩:=hO
    exact ⟨b,vs,k1,k2,k3,fun j c v hc hv=>vr (k4 j c v hc hv) (AV.inKL_get (memInK_get hmm i t cs hi) j c hc),k5⟩
   | arr e sz rows=>exact hO
   | map ks ag n ents=>exact hO
   | raw r=>exact hO
 ·obtain ⟨_,hi⟩:=inv hi
  obtain ⟨_,hj⟩:=inv hj
  exact hM.inj _ _ _ _ b hi hj hbi hbj
 ·obtain ⟨_,hi⟩:=inv hi
  exact hM.own _ _ b hi hb
 ·exact vr (h3 t) (frInK_get hf t)
theorem Qv.le {P : Program} {fn : Func} {r : AV} {m' : Mo} {x : Exit} {s s' : AS} (hl : Le s s') (h : Qv P fn r m' x s') : Qv P fn r m' x s:=by
 obtain ⟨h1,s2,h2,h3⟩:=h
 exact ⟨h1,s2,hl.trans h2,h3⟩
end Go.Proofs.YtjpldhjgehoffaaDoor
namespace Go.Proofs.YtjpldhjgehoffaaDoor
open Go.RowKit
set_option linter.unusedVariables false
set_option linter.unusedSimpArgs false
structure I9 (l : List (D×List D)) : Prop where
 form : ∀ p∈l,∃ (s : ByteArray) (r : List D),p = (.str s,r)
 nodup : l.Pairwise fun p q=>D.keq p.1 q.1 = false
theorem Qx7 (a b : ByteArray) : D.keq (.str a) (.str b) = decide (a = b):=rfl
theorem I9.nil : I9 []:=⟨(fun p hp=>by cases hp),List.Pairwise.nil⟩
theorem I9.put {l : List (D×List D)} (h : I9 l) (s : ByteArray) (r : List D) : I9 (D.Nk (.str s) r l):=by
 refine ⟨fun p hp=>?_,D.aput_nodup _ _ h.nodup⟩
 rcases List.mem_cons.1 hp with rfl | hp
 ·exact ⟨s,r,rfl⟩
 ·exact h.form p (List.mem_filter.1 hp).1
theorem I9.del {l : List (D×List D)} (h : I9 l) (s : ByteArray) : I9 (D.Ew (.str s) l):=⟨fun p hp=>h.form p (List.mem_filter.1 hp).1,D.adel_nodup _ h.nodup⟩
theorem I9.mem {l : List (D×List D)} (h : I9 l) {s : ByteArray} {r : List D} : (D.str s,r)∈l↔D.Xk (.str s) l = some r:=by
 constructor
 ·intro hm
  obtain ⟨j,hj⟩:=List.mem_iff_getElem?.1 hm
  exact D.aget_some (ks:=true) rfl h.nodup hj
 ·exact fun hg=>D.aget_mem hg
theorem aput_same {s : ByteArray} {r : List D} {l : List (D×List D)} : D.Xk (.str s) (D.Nk (.str s) r l) = some r:=D.aput_get _ (ks:=true) rfl _ _
theorem aput_other {s t : ByteArray} (h : ¬ t = s) {r : List D} {l : List (D×List D)} : D.Xk (.str s) (D.Nk (.str t) r l) = D.Xk (.str s) l:=D.aput_get_ne (by rw [Qx7];exact decide_eq_false h) _ _
theorem I9.nd {l : List (D×List D)} (h : I9 l) : l.Nodup:=by
 refine h.nodup.imp_of_mem fun {a b} ha hb hk e=>?_
 subst e
 obtain ⟨s,r,rfl⟩:=h.form a ha
 rw [Qx7] at hk
 simp at hk
theorem I9.perm {l l' : List (D×List D)} (h : I9 l) (h' : I9 l') (hg : ∀ s,D.Xk (.str s) l = D.Xk (.str s) l') : l.Perm l':=by
 refine (List.perm_ext_iff_of_nodup h.nd h'.nd).2 fun p=>⟨fun hp=>?_,fun hp=>?_⟩
 ·obtain ⟨s,r,rfl⟩:=h.form p hp
  exact h'.mem.2 (by rw [← hg s];exact h.mem.1 hp)
 ·obtain ⟨s,r,rfl⟩:=h'.form p hp
  exact h.mem.2 (by rw [hg s];exact h'.mem.1 hp)
def unseen (bents : List (Nat×D×List D)) (seen : List Nat) : Nat:=bents.countP fun p=>!(seen.contains p.1)
theorem countP_lt {α : Type} {p q : α→Bool} {a : α} : ∀ {l : List α},(∀ x,q x = true→p x = true)→a∈l→p a = true→q a = false→l.countP q < l.countP p
 | x :: l,hi,hm,hp,hq=>by
  rw [List.countP_cons,List.countP_cons]
  have hle : l.countP q≤l.countP p:=List.countP_mono_left fun x _=>hi x
  rcases List.mem_cons.1 hm with rfl | hm
  ·rw [hp,hq];simp;omega
  ·have:=countP_lt hi hm hp hq
   cases hx : q x with
   | true=>rw [hi x hx];simp;omega
   | false=>simp;omega
theorem unseen_lt {bents : List (Nat×D×List D)} {seen : List Nat} {p : Nat×D×List D} (hp : p∈bents) (hs : p.1 ∉ seen) : unseen bents (seen ++ [p.1]) < unseen bents seen:=by
 refine countP_lt (a:=p) (fun x hx=>?_) hp (by simpa using hs) (by simp)
 simp only [List.contains_append,Bool.not_or,Bool.and_eq_true] at hx
 exact hx.1
structure Mid (bents : List (Nat×D×List D)) (O0 : List (D×List D)) (seen : List Nat) (O : List (D×List D)) : Prop where
 ents : I9 O
 get : ∀ s r,D.Xk (.str s) O = some r↔(∃ k,(k,D.str s,r)∈bents∧k∈seen)∨((¬ ∃ k r',(k,D.str s,r')∈bents∧k∈seen)∧D.Xk (.str s) O0 = some r)
theorem births_one {bents : List (Nat×D×List D)} {l : List (D×List D)} (hp : (bents.map (·.2)).Perm l) (hl : I9 l) {k k' : Nat} {s : ByteArray} {r r' : List D} (h : (k,D.str s,r)∈bents) (h' : (k',D.str s,r')∈bents) : r = r':=by
 have e : ∀ {k r},(k,D.str s,r)∈bents→D.Xk (.str s) l = some r:=fun {k r} hm=>hl.mem.1 (hp.mem_iff.1 (List.mem_map.2 ⟨_,hm,rfl⟩))
 have:=e h
 rw [e h'] at this
 exact (Option.some.inj this).symm
theorem Mid.step {bents : List (Nat×D×List D)} {l O0 : List (D×List D)} {seen : List Nat} {O : List (D×List D)} (h : Mid bents O0 seen O) (hp : (bents.map (·.2)).Perm l) (hl : I9 l) (hn : (bents.map (·.1)).Nodup) {k : Nat} {t : ByteArray} {row : List D} (hm : (k,D.str t,row)∈bents) : Mid bents O0 (seen ++ [k]) (D.Nk (.str t) row O):=by
 refine ⟨h.ents.put t row,fun s r=>?_⟩
 by_cases e : t = s
 ·subst e
  rw [aput_same]
  constructor
  ·rintro ⟨rfl⟩
   exact .inl ⟨k,hm,by simp⟩
  ·rintro (⟨k',h1,_⟩ | ⟨h1,_⟩)
   ·rw [births_one hp hl hm h1]
   ·exact absurd ⟨k,row,hm,by simp⟩ h1
 ·rw [aput_other e,h.get s r]
  have hk : ∀ {k' r'},(k',D.str s,r')∈bents→k'∈seen ++ [k]→(bents.map (·.1)).Nodup→k'∈seen:=fun {k' r'} h1 h2 hn=>by
   rcases List.mem_append.1 h2 with h2 | h2
   ·exact h2
   ·exfalso
    rw [List.mem_singleton.1 h2] at h1
    obtain ⟨i,hi⟩:=List.mem_iff_getElem?.1 h1
    obtain ⟨j,hj⟩:=List.mem_iff_getElem?.1 hm
    have e1 : (bents.map (·.1))[i]? = some k:=by rw [List.getElem?_map,hi];rfl
    have e2 : (bents.map (·.1))[j]? = some k:=by rw [List.getElem?_map,hj];rfl
    have hij : i = j:=(List.getElem?_inj (List.getElem?_eq_some_iff.1 e1).1 hn).1 (e1.trans e2.symm)
    subst hij
    rw [hi] at hj
    simp only [Option.some.injEq,Prod.mk.injEq,D.str.injEq] at hj
    exact e hj.2.1.symm
  constructor
  ·rintro (⟨k',h1,h2⟩ | ⟨h1,h2⟩)
   ·exact .inl ⟨k',h1,by simp [h2]⟩
   ·exact .inr ⟨fun ⟨k',r',h3,h4⟩=>h1 ⟨k',r',h3,hk h3 h4 hn⟩,h2⟩
  ·rintro (⟨k',h1,h2⟩ | ⟨h1,h2⟩)
   ·exact .inl ⟨k',h1,hk h1 h2 hn⟩
   ·exact .inr ⟨fun ⟨k',r',h3,h4⟩=>h1 ⟨k',r',h3,by simp [h4]⟩,h2⟩
theorem Mid.over {bents : List (Nat×D×List D)} {l O0 : List (D×List D)} {seen : List Nat} {O : List (D×List D)} (h : Mid bents O0 seen O) (hp : (bents.map (·.2)).Perm l) (hl : I9 l) (ha : ∀ p∈bents,p.1∈seen) (s : ByteArray) : D.Xk (.str s) O = (D.Xk (.str s) l).or (D.Xk (.str s) O0):=by
 have hb : ∀ r,(∃ k,(k,D.str s,r)∈bents∧k∈seen)↔D.Xk (.str s) l = some r:=fun r=>by
  rw [← hl.mem,← hp.mem_iff,List.mem_map]
  constructor
  ·rintro ⟨k,h1,_⟩;exact ⟨_,h1,rfl⟩
  ·rintro ⟨⟨k,q⟩,h1,h2⟩
   dsimp only at h2
   subst h2
   exact ⟨k,h1,ha _ h1⟩
 apply Option.ext
 intro r
 rw [h.get s r,hb r]
 cases hg : D.Xk (.str s) l with
 | some r' =>
  simp only [Option.some_or]
  constructor
  ·rintro (h1 | ⟨h1,_⟩)
   ·exact h1
   ·exfalso
    obtain ⟨k,h2,h3⟩:=(hb r').2 hg
    exact h1 ⟨k,r',h2,h3⟩
  ·exact fun h1=>.inl h1
 | none =>
  simp only [Option.none_or]
  constructor
  ·rintro (h1 | ⟨_,h1⟩)
   ·cases h1
   ·exact h1
  ·refine fun h1=>.inr ⟨fun ⟨k,r',h2,h3⟩=>?_,h1⟩
   have:=(hb r').1 ⟨k,h2,h3⟩
   rw [hg] at this
   cases this
end Go.Proofs.YtjpldhjgehoffaaDoor
namespace Go.Proofs.YtjpldhjgehoffaaDoor
open Go.RowKit
attribute [local simp] Cq mkRc ldOf stOf Qz4 Fq M4 Rq K7 V3 Yv K4 J7 Y9 L9 evA Kv G8 Value.oneCell' Zj Q4 Z7 Iz Vz Z0 AS.after Z8 K8 Jv AV.ids Mq Qz.ids Qj3 F9 Wv U9 G6 Y0 Y5 Kk V9 V7 Yz Ov T9 setAt Vj Cj Gq Pj R9 Pk binI AV.cells J9 Jz R8 U1 AV.kill Qz.kill AV.has AV.K9 Op.operands Call.operands Gj Hw Zv Oz Zz Xz Tk moQ M6 Uz Yw AV.ren Tj Qz.ren Qz.like kept X8 M5 AV.frz Pz Cw Ex H9 F3 AS.frz Mv Uw Qz.frz Rx Rj bleF Nat.ble_eq R4 Ww K3 D.Yx F5 Uv Vx Vq phO Px Gz Wx U0 K6 Low Sq
set_option linter.unusedVariables false
set_option linter.unusedSimpArgs false
theorem Tm.Ok.vars {k n : Int} {a b : ByteArray} {vs : List ByteArray} {xs : List Tm} {cs : List Cs} (h : (Tm.mk k n a b vs xs cs).Ok) : vs.length≤8796093022207∧xs.length≤1172812402960∧cs.length≤925904528652∧a.size≤140737488355328∧b.size≤140737488355328:=by
 unfold Tm.Ok at h
 exact ⟨h.2.1.1,h.2.1.2.1,h.2.1.2.2,h.1.1,h.1.2.1⟩
theorem Tm.Ok.arg {k n : Int} {a b : ByteArray} {vs : List ByteArray} {xs : List Tm} {cs : List Cs} (h : (Tm.mk k n a b vs xs cs).Ok) {x : Tm} (hx : x∈xs) : x.Ok:=by
 unfold Tm.Ok at h
 exact Tm.Zq.1 h.2.2.1 x hx
theorem Tm.Ok.case {k n : Int} {a b : ByteArray} {vs : List ByteArray} {xs : List Tm} {cs : List Cs} (h : (Tm.mk k n a b vs xs cs).Ok) {x : Cs} (hx : x∈cs) : x.Ok:=by
 unfold Tm.Ok at h
 exact Cs.Zq.1 h.2.2.2 x hx
theorem Cs.Ok.body {t : Int} {vs : List ByteArray} {b : Tm} (h : (Cs.mk t vs b).Ok) : b.Ok∧vs.length≤8796093022207:=by
 unfold Cs.Ok at h
 exact ⟨h.2.2,h.2.1⟩
theorem Cs.Ok.sizes {t : Int} {vs : List ByteArray} {b : Tm} (h : (Cs.mk t vs b).Ok) : ∀ s∈vs,s.size≤140737488355328:=by
 unfold Cs.Ok at h
 exact h.1
theorem Tm.sz_arg {k n : Int} {a b : ByteArray} {vs : List ByteArray} {xs : List Tm} {cs : List Cs} {x : Tm} (hx : x∈xs) : x.sz < (Tm.mk k n a b vs xs cs).sz:=by
 have:=Tm.Z4 hx
 simp only [Tm.sz];omega
theorem Tm.sz_case {k n : Int} {a b : ByteArray} {vs : List ByteArray} {xs : List Tm} {cs : List Cs} {t : Int} {ws : List ByteArray} {y : Tm} (hx : Cs.mk t ws y∈cs) : y.sz < (Tm.mk k n a b vs xs cs).sz:=by
 have:=Cs.Z4 hx
 simp only [Cs.sz] at this
 simp only [Tm.sz];omega
theorem Tm.row_len (t : Tm) : t.row.length = 7:=by cases t;rfl
theorem Cs.row_len (t : Cs) : t.row.length = 9:=by cases t;simp [Cs.row,Tm.row_len]
def hasB (l : List ByteArray) (s : ByteArray) : Bool:=l.any fun x=>decide (x = s)
theorem Zx {l : List ByteArray} {s : ByteArray} : hasB l s = true↔s∈l:=by
 unfold hasB
 rw [List.any_eq_true]
 constructor
 ·rintro ⟨x,h1,h2⟩
  rw [← of_decide_eq_true h2];exact h1
 ·exact fun h=>⟨s,h,decide_eq_true rfl⟩
theorem Mj {l : List ByteArray} {s : ByteArray} : hasB l s = false↔s ∉ l:=by
 rw [← Bool.not_eq_true,Zx]
theorem not_mem_snoc {l : List ByteArray} {i : Nat} {x s : ByteArray} (hx : l[i]? = some x) (h : s ∉ l.take i) (hne : x≠s) : s ∉ l.take (i + 1):=by
 rw [List.take_add_one,hx]
 simp only [Option.toList_some,List.mem_append,List.mem_singleton,not_or]
 exact ⟨h,fun e=>hne e.symm⟩
set_option maxHeartbeats 1000000 in
theorem sp_Has (l : List ByteArray) (s : ByteArray) (hl : l.length≤8796093022208) : Qw Tryd.prog 57 [X6 l,.d (.str s)] (fun _=>.d (.bool (hasB l s))) none:=by
 refine Qw.of Tryd.func57 rfl rfl rfl (Nat.le_of_ble_eq_true rfl) ?_
 show AWp _ _ (Zk _ Tryd.f57 _ _ _) (Z7 17 _)
 repeat (first | refine AWp.seq ?_ | refine AWp.block ?_)
 apply AWp.reg [] []
 ·conv=>lhs;simp
 ·trivial
 repeat (first | refine AWp.seq ?_ | refine AWp.block ?_)
 apply AWp.reg [] []
 ·conv=>lhs;simp
 ·trivial
 repeat (first | refine AWp.seq ?_ | refine AWp.block ?_)
 refine AWp.loop (σ:=fun u : {i : Nat // i≤l.length∧s ∉ l.take i}=>⟨17,[(1,.d (.str s)),(7,X6 l),(8,.d (.int l.length)),(9,.d (.int u.1))],[]⟩)
  (μ:=fun u=>l.length - u.1) ⟨0,Nat.zero_le _,by simp⟩ (Le.sub (by simp) (by simp)) (fun ⟨i,hi,ht⟩=>?_)
 dsimp only
 repeat (first | refine AWp.seq ?_ | refine AWp.block ?_)
 apply AWp.reg [] []
 ·conv=>lhs;simp
 ·trivial
 repeat (first | refine AWp.seq ?_ | refine AWp.block ?_)
 refine AWp.cond rfl (fun h=>?_) (fun h=>?_)
 ·have hi1 : i < l.length:=by have:=of_decide_eq_true h;omega
  have h1 : l[i]? = some l[i]:=List.getElem?_eq_getElem hi1
  have hmem : l[i]∈l:=List.getElem_mem hi1
  generalize l[i] = x at h1 hmem
  refine AWp.skip ?_
  refine AWp.rg [] [] ?_ (hr:=by conv=>lhs;simp [h1])
  by_cases hx : x = s
  ·subst hx
   repeat (first | refine AWp.seq ?_ | refine AWp.block ?_)
   apply AWp.reg [] []
   ·conv=>lhs;simp
   ·trivial
   repeat (first | refine AWp.seq ?_ | refine AWp.block ?_)
   refine AWp.cond rfl (fun h2=>?_) (fun h2=>?_)
   ·repeat (first | refine AWp.seq ?_ | refine AWp.block ?_)
    apply AWp.reg [] []
    ·conv=>lhs;simp
    ·trivial
    refine AWp.ret ?_
    try dsimp only [Qq,Q8]
    apply Zk.ret
    ·rfl
    ·conv=>lhs;simp [Q9,Tryd.results57]
    rw [Zx.2 hmem];rfl
   ·simp at h2
  ·repeat (first | refine AWp.seq ?_ | refine AWp.block ?_)
   apply AWp.reg [] []
   ·conv=>lhs;simp [hx]
   ·trivial
   repeat (first | refine AWp.seq ?_ | refine AWp.block ?_)
   refine AWp.cond rfl (fun h2=>?_) (fun h2=>?_)
   ·simp at h2
   refine AWp.skip ?_
   refine AWp.rg [] [] ?_
   refine ⟨⟨i + 1,hi1,not_mem_snoc h1 ht hx⟩,by simp;omega,Le.sub (by simp) (by simp)⟩
 have hi1 : i = l.length:=by have:=of_decide_eq_false h;omega
 subst hi1
 rw [List.take_length] at ht
 refine AWp.exit ?_
 repeat (first | refine AWp.seq ?_ | refine AWp.block ?_)
 apply AWp.reg [] []
 ·conv=>lhs;simp
 ·trivial
 refine AWp.ret ?_
 try dsimp only [Qq,Q8]
 apply Zk.ret
 ·rfl
 ·conv=>lhs;simp [Q9,Tryd.results57]
 rw [Mj.2 ht];rfl
def indexI (l : List ByteArray) (p : ByteArray→Bool) : Int:=match l.findIdx? p with | some i=>i | none=>-1
theorem indexI_some {l : List ByteArray} {p : ByteArray→Bool} {i : Nat} {x : ByteArray} (hx : l[i]? = some x) (h : ∀ y∈l.take i,p y = false) (hp : p x = true) : indexI l p = i:=by
 unfold indexI
 have : l.findIdx? p = some i:=by
  rw [List.findIdx?_eq_some_iff_getElem]
  have hi:=(List.getElem?_eq_some_iff.1 hx)
  refine ⟨hi.1,by rw [hi.2];exact hp,fun j hj=>?_⟩
  have hjl : j < l.length:=by have:=hi.1;omega
  have:=h (l[j]'hjl) (List.mem_iff_getElem?.2 ⟨j,by rw [List.getElem?_take,if_pos hj];exact List.getElem?_eq_getElem hjl⟩)
  simp [this]
 rw [this]
theorem indexI_none {l : List ByteArray} {p : ByteArray→Bool} (h : ∀ y∈l,p y = false) : indexI l p = -1:=by
 unfold indexI
 have : l.findIdx? p = none:=by
  rw [List.findIdx?_eq_none_iff]
  exact h
 rw [this]
theorem take_all_snoc {l : List ByteArray} {p : ByteArray→Bool} {i : Nat} {x : ByteArray} (hx : l[i]? = some x) (h : ∀ y∈l.take i,p y = false) (hp : p x = false) : ∀ y∈l.take (i + 1),p y = false:=by
 rw [List.take_add_one,hx]
 intro y hy
 rcases List.mem_append.1 hy with hy | hy
 ·exact h y hy
 ·simp at hy;subst hy;exact hp
def Sz (l : List ByteArray) (p : ByteArray→Bool) : List (List D):=((l.filter fun s=>!p s).map Zw) ++ List.replicate (l.length - (l.filter fun s=>!p s).length) [.str ByteArray.empty]
theorem set_mid {α : Type} (a m b : List α) (v : α) : ∃ m',m'.length = m.length∧(a ++ (m ++ v :: b)).set a.length v = (a ++ [v]) ++ (m' ++ b):=by
 cases m with
 | nil=>exact ⟨[],rfl,by simp⟩
 | cons x m=>exact ⟨m ++ [v],by simp,by simp⟩
theorem Qw.toC {P : Program} {k : Nat} {args args' : List AV} {d : D} (hS : Qw P k args' (fun _=>.d d) none) (o : Nat) {e : TypeId} {sz : Nat} {rows : List (List D)} (he : args.map (AV.frz o (.arr e sz rows)) = args') (hd : d.flat) :
  X3 P k args [(o,.arr e sz rows)] (.d d) [(o,.arr e sz rows)]:=by
 subst he
 refine ⟨hS.ent,fun w ok g vals hM hl hv=>?_⟩
 have hx : Xz [(o,Qz.arr e sz rows)] o = some (.arr e sz rows):=by simp [Xz]
 refine (hS.run 0 w (fun b=>ok b∨g.bl o = some b) vals hM.giw (fun b hb=>?_) (by simpa using hl) (fun i c v hc hvi=>?_)).mono ?_
 ·rcases hb with hb | hb
  ·exact (hM.okb b hb).1
  ·exact (hM.own o _ b hx hb).2.1
 ·rw [List.getElem?_map] at hc
  obtain ⟨c',hc',rfl⟩:=Option.map_eq_some_iff.1 hc
  exact ((hv i c' v hc' hvi).frz hM hx).toNo
 ·rintro ex w' ⟨v,ok',g',rfl,hb,hok,hokn,hr,-⟩
  refine ⟨v,ok,g,rfl,⟨fun i y hy=>?_,hM.inj,fun i y b hy hbi=>?_,fun b h=>?_,hM.okk,hb.size,fun b h _=>hb.block b h,fun _ _=>⟨rfl,rfl⟩,hb.os,hb.tape,hb.output,hM.gi,hM.gb⟩,?_⟩
  ·have hy' : o = i∧Qz.arr e sz rows = y:=by
    simp only [Xz] at hy
    split at hy
    ·rename_i h;exact ⟨by simpa using h,by simpa using hy⟩
    ·cases hy
   obtain ⟨rfl,rfl⟩:=hy'
   refine (hM.obj _ _ hy).mono (fun _=>false) trivial (fun b h=>hb.block b (hM.own _ _ b hy h).2.1) rfl rfl (fun p h=>hb.cell (hM.okb _ h).1) (fun _ h=>h) (fun o x' _ h=>⟨x',h,Qz.Dw _,rfl,rfl⟩)
  ·obtain ⟨h1,h2,h3⟩:=hM.own i y b hy hbi
   exact ⟨h1,by have:=hb.size;omega,h3⟩
  ·obtain ⟨h1,h2⟩:=hM.okb b h
   exact ⟨by have:=hb.size;omega,.inl h⟩
  ·cases hr with
   | d _ _ hr=>exact .d _ _ (hr.flat hd)
theorem cs_Has (o : Nat) (l : List ByteArray) (s : ByteArray) (hl : l.length≤8796093022208) : X3 Tryd.prog 57 [.arr o 0 l.length,.d (.str s)] [(o,.arr 9 1 (l.map Zw))] (.d (.bool (hasB l s))) [(o,.arr 9 1 (l.map Zw))] :=
 (sp_Has l s hl).toC o (by simp [AV.frz,Pz,List.take_of_length_le]) trivial
def woN (l gone : List ByteArray) : List ByteArray:=l.filter fun s=>!hasB gone s
theorem Fv (l gone : List ByteArray) : (woN l gone).length≤l.length:=List.length_filter_le _ _
def addN (l more : List ByteArray) : List ByteArray:=more.foldl (fun l s=>if hasB l s then l else l ++ [s]) l
theorem Qz3 (more : List ByteArray) : ∀ l,(addN l more).length≤l.length + more.length:=by
 induction more with
 | nil=>intro l;simp [addN]
 | cons s more ih =>
  intro l
  have:=ih (if hasB l s then l else l ++ [s])
  simp only [addN,List.foldl_cons,List.length_cons] at this ⊢
  refine Nat.le_trans this ?_
  split
  ·omega
  ·simp;omega
theorem wr_sum (a b : Nat) : wr (wr (a : Int) + wr (b : Int)) = wr ((a + b : Nat) : Int):=by rw [wr_add,wr_add'];congr 1
@[simp] theorem wr_one : wr 1 = 1:=rfl
theorem szs_append : ∀ (l r : List Tm),Tm.szs (l ++ r) = Tm.szs l + Tm.szs r
 | [],r=>by simp [Tm.szs]
 | x :: l,r=>by simp only [List.cons_append,Tm.szs,szs_append l r];omega
theorem cszs_append : ∀ (l r : List Cs),Cs.szs (l ++ r) = Cs.szs l + Cs.szs r
 | [],r=>by simp [Cs.szs]
 | x :: l,r=>by simp only [List.cons_append,Cs.szs,cszs_append l r];omega
theorem szs_snoc (l : List Tm) (x : Tm) : Tm.szs (l ++ (some x).toList) = Tm.szs l + x.sz:=by rw [szs_append];simp [Tm.szs]
theorem cszs_snoc (l : List Cs) (x : Cs) : Cs.szs (l ++ (some x).toList) = Cs.szs l + x.sz:=by rw [cszs_append];simp [Cs.szs]
theorem Tm.szs_take_le (l : List Tm) (i : Nat) : Tm.szs (l.take i)≤Tm.szs l:=by
 have:=szs_append (l.take i) (l.drop i)
 rw [List.take_append_drop] at this
 omega
theorem Cs.szs_take_le (l : List Cs) (i : Nat) : Cs.szs (l.take i)≤Cs.szs l:=by
 have:=cszs_append (l.take i) (l.drop i)
 rw [List.take_append_drop] at this
 omega
def siMem (k n : Int) (a b : ByteArray) (vs : List ByteArray) (xs : List Tm) (cs : List Cs) : List (Nat×Option Qz) :=
 [(1,some (.blk 32 [.d (.int k),.d (.int n),.d (.str a),.d (.str b),.d (Q7 vs),.d (.sl (xs.map Tm.row)),.d (.sl (cs.map Cs.row))]))]
set_option maxRecDepth 20000 in
set_option maxHeartbeats 8000000 in
theorem sp_refSize_at : ∀ (N : Nat) (t : Tm),t.sz < N→t.Ok→Qw Tryd.prog 30 [Xw t] (fun _=>.d (.int (wr t.sz))) none:=by
 intro N
 induction N with
 | zero=>intro s h;omega
 | succ N ih =>
 intro t hN hO
 obtain ⟨k,n,a,b,vs,xs,cs⟩:=t
 obtain ⟨o1,o2,o3,o4,o5⟩:=hO.vars
 refine Qw.of Tryd.func30 rfl rfl rfl (Nat.le_of_ble_eq_true rfl) ?_
 show AWp _ _ (Zk _ Tryd.f30 _ _ _) (Z7 34 _)
 repeat (first | refine AWp.seq ?_ | refine AWp.block ?_)
 apply AWp.reg [] []
 ·conv=>lhs;simp
 ·trivial
 repeat (first | refine AWp.seq ?_ | refine AWp.block ?_)
 apply AWp.reg [] []
 ·conv=>lhs;simp
 ·trivial
 repeat (first | refine AWp.seq ?_ | refine AWp.block ?_)
 apply AWp.reg [] []
 ·conv=>lhs;simp
 ·trivial
 repeat (first | refine AWp.seq ?_ | refine AWp.block ?_)
 refine AWp.loop (σ:=fun u : {i : Nat // i≤xs.length}=>⟨34,[(1,.ptr 1 0),(3,.d (.int (wr ((1 + Tm.szs (xs.take u.1) : Nat) : Int)))),(9,.d (.sl (xs.map Tm.row))),(10,.d (.int xs.length)),(11,.d (.int u.1))],siMem k n a b vs xs cs⟩)
  (μ:=fun u=>xs.length - u.1) ⟨0,Nat.zero_le _⟩ (Le.sub (by simp [Tm.szs]) (by simp [siMem])) (fun ⟨i,hi⟩=>?_)
 dsimp only
 repeat (first | refine AWp.seq ?_ | refine AWp.block ?_)
 apply AWp.reg [] []
 ·conv=>lhs;simp
 ·trivial
 repeat (first | refine AWp.seq ?_ | refine AWp.block ?_)
 refine AWp.cond rfl (fun h=>?_) (fun h=>?_)
 ·have hi1 : i < xs.length:=by have:=of_decide_eq_true h;omega
  have h1 : xs[i]? = some xs[i]:=List.getElem?_eq_getElem hi1
  have hmem : xs[i]∈xs:=List.getElem_mem hi1
  generalize xs[i] = x at h1 hmem
  have hp:=ih x (by have:=Tm.sz_arg (k:=k) (n:=n) (a:=a) (b:=b) (vs:=vs) (cs:=cs) hmem;omega) (hO.arg hmem)
  have ht : Tm.szs (xs.take (i + 1)) = Tm.szs (xs.take i) + x.sz:=by rw [List.take_add_one,h1];exact szs_snoc _ _
  have hle:=Tm.szs_take_le xs (i + 1)
  refine AWp.skip ?_
  generalize x.sz = z at hp ht
  generalize Tm.szs (xs.take i) = y at ht ⊢
  obtain ⟨xk,xn,xa,xb,xv,xx,xc⟩:=x
  refine AWp.rg [] [] ?_ (hr:=by conv=>lhs;simp [h1,Tm.row,Tm.Q3,Cs.Q3])
  repeat (first | refine AWp.seq ?_ | refine AWp.block ?_)
  apply AWp.reg [3] [.p (fun _=>.d (.int (wr z))) none]
  ·conv=>lhs;simp
  ·exact hp
  refine AWp.rg [] [] ?_
  refine ⟨⟨i + 1,hi1⟩,by simp;omega,?_⟩
  dsimp only
  rw [ht]
  have hw : ∀ u v w : Nat,w = u + v→wr (wr (u : Int) + wr (v : Int)) = wr (w : Int):=fun u v w e=>by rw [wr_sum,e]
  refine Le.sub ?_ (by simp [siMem])
  simp
  exact hw _ _ _ (by omega)
 have hi1 : i = xs.length:=by have:=of_decide_eq_false h;omega
 subst hi1
 refine AWp.exit ?_
 rw [List.take_length]
 clear h
 repeat (first | refine AWp.seq ?_ | refine AWp.block ?_)
 apply AWp.reg [] []
 ·conv=>lhs;simp [siMem]
 ·trivial
 repeat (first | refine AWp.seq ?_ | refine AWp.block ?_)
 refine AWp.loop (σ:=fun u : {i : Nat // i≤cs.length}=>⟨34,[(1,.ptr 1 0),(3,.d (.int (wr ((1 + Tm.szs xs + Cs.szs (cs.take u.1) : Nat) : Int)))),(21,.d (.sl (cs.map Cs.row))),(22,.d (.int cs.length)),(23,.d (.int u.1))],siMem k n a b vs xs cs⟩)
  (μ:=fun u=>cs.length - u.1) ⟨0,Nat.zero_le _⟩ (Le.sub (by simp [Cs.szs]) (by simp [siMem])) (fun ⟨i,hi⟩=>?_)
 dsimp only
 repeat (first | refine AWp.seq ?_ | refine AWp.block ?_)
 apply AWp.reg [] []
 ·conv=>lhs;simp
 ·trivial
 repeat (first | refine AWp.seq ?_ | refine AWp.block ?_)
 refine AWp.cond rfl (fun h=>?_) (fun h=>?_)
 ·have hi1 : i < cs.length:=by have:=of_decide_eq_true h;omega
  have h1 : cs[i]? = some cs[i]:=List.getElem?_eq_getElem hi1
  have hmem : cs[i]∈cs:=List.getElem_mem hi1
  generalize cs[i] = x at h1 hmem
  have ht : Cs.szs (cs.take (i + 1)) = Cs.szs (cs.take i) + x.sz:=by rw [List.take_add_one,h1];exact cszs_snoc _ _
  have hle:=Cs.szs_take_le cs (i + 1)
  obtain ⟨g,ws,x⟩:=x
  obtain ⟨oc1,oc2⟩:=(hO.case hmem).body
  have hp:=ih x (by have:=Tm.sz_case (k:=k) (n:=n) (a:=a) (b:=b) (vs:=vs) (xs:=xs) hmem;omega) oc1
  rw [show (Cs.mk g ws x).sz = x.sz from rfl] at ht
  refine AWp.skip ?_
  generalize x.sz = z at hp ht
  generalize Cs.szs (cs.take i) = y at ht ⊢
  obtain ⟨xk,xn,xa,xb,xv,xx,xc⟩:=x
  refine AWp.rg [] [] ?_ (hr:=by conv=>lhs;simp [h1,Cs.row,Tm.row,Tm.Q3,Cs.Q3])
  repeat (first | refine AWp.seq ?_ | refine AWp.block ?_)
  apply AWp.reg [4] [.p (fun _=>.d (.int (wr z))) none]
  ·conv=>lhs;simp
  ·exact hp
  refine AWp.rg [] [] ?_
  refine ⟨⟨i + 1,hi1⟩,by simp;omega,?_⟩
  dsimp only
  rw [ht]
  have hw : ∀ u v w : Nat,w = u + v→wr (wr (u : Int) + wr (v : Int)) = wr (w : Int):=fun u v w e=>by rw [wr_sum,e]
  refine Le.sub ?_ (by simp [siMem])
  simp
  exact hw _ _ _ (by omega)
 have hi1 : i = cs.length:=by have:=of_decide_eq_false h;omega
 subst hi1
 refine AWp.exit ?_
 rw [List.take_length]
 repeat (first | refine AWp.seq ?_ | refine AWp.block ?_)
 apply AWp.reg [] []
 ·conv=>lhs;simp
 ·trivial
 refine AWp.ret ?_
 try dsimp only [Qq,Q8]
 apply Zk.ret
 ·rfl
 ·conv=>lhs;simp [Q9,Tryd.results30]
 rfl
theorem sp_refSize (t : Tm) (h : t.Ok) : Qw Tryd.prog 30 [Xw t] (fun _=>.d (.int (wr t.sz))) none:=sp_refSize_at _ t (Nat.lt_succ_self _) h
end Go.Proofs.YtjpldhjgehoffaaDoor
namespace Go.Proofs.YtjpldhjgehoffaaDoor
open Go.RowKit
set_option linter.unusedVariables false
set_option linter.unusedSimpArgs false
def endX (P : Program) (fn : Func) (r : Nat→AV) (x : Option Qz) : Exit→AS→Prop:=fun e s=>∃ o,(∀ d,r d = (r o).ren (fun _=>d))∧(∀ i∈(r o).ids,i = o)∧Zk P fn r x o e s
theorem endX.ret {P : Program} {fn : Func} {n : Nat} (o : Nat) {s : AS} {cs : List AV} {y : Qz} (h : Q9 P s fn.results.toList = some cs) (hr : (Z6 cs).J3 = .arr o 0 n) (hx : Q4 s.mem o = some y) (ho : Nat.ble 500 o = false) : endX P fn (fun d=>.arr d 0 n) (some y) .ret s :=
 ⟨o,fun _=>rfl,by simp [AV.ids,Mq],.inl rfl,s,Le.refl s,cs,h,hr,rfl,fun z hz=>by cases hz;exact ⟨hx,ho⟩⟩
theorem Qw.ofArrX {P : Program} {k : Nat} {fn : Func} {c : Code} (hf : P.funcs[k]? = some fn) (hnm : (fn.name == "runtime.NumGoroutine") = false) (hb : fn.body = some c) {args : List AV} (r : Nat→AV) {e : TypeId} {sz : Nat} {rows : List (List D)} (hn : args.length≤fn.ntmps)
  (hrcl : ∀ d,(r d).has (fun i=>!(d == i)) = false) (h : AWp P c (endX P fn r (some (.arr e sz rows))) (Z7 fn.ntmps args)) : Qw P k args r (some (.arr e sz rows)):=by
 refine ⟨⟨fn,hf,hnm,by rw [hb];rfl⟩,hrcl,(fun h=>by cases h),fun y hy=>⟨e,sz,rows,by cases hy;rfl⟩,fun d w ok vals hgi hok hl hv=>?_⟩
 refine calls_of_wp hf hb ?_
 have hst : St ⟨w,ok,fun _=>False,noG⟩ (Z7 fn.ntmps args) { tmps:=vals ++ Array.replicate (fn.ntmps - vals.size) undef,defers:=[] } w:=by
  refine ⟨ok,noG,⟨(fun o x hx=>by cases hx),(fun i j xi xj b hi=>by cases hi),(fun i x b hi=>by cases hi),fun b hb=>⟨hok b hb,.inl hb⟩,fun b hb=>hb,Nat.le_refl _,fun b _ _=>rfl,fun i _=>⟨rfl,rfl⟩,rfl,rfl,rfl,hgi,fun _ _ h=>h⟩,by simp [Z7];omega,rfl,fun t=>?_⟩
  exact frStart (C:=⟨w,ok,fun _=>False,noG⟩) hl hn hv t
 refine wp_mono (h _ _ w hst) ?_
 rintro ex a' w' ⟨s,⟨o,hren,hids,he,s',hle,cs,hres,hr,hrn,hx⟩,hs⟩
 obtain ⟨ok',g,hM,h1,h2,h3⟩:=hle _ _ _ hs
 obtain ⟨v,hv1,hv2⟩:=results_ok hM h3 hres
 obtain ⟨hxo,hxs⟩:=hx _ rfl
 have hv2:=hv2.J3
 rw [hr,hrn] at hv2
 have hfin : a'.defers = []∧∃ v,(results fn a'.tmps).run P w' = .ok v w'∧∃ v' ok' g',Ending.returned v = .returned v'∧Below w.heap.size w w'∧(∀ b,ok b→ok' b)∧(∀ b,ok' b→ok b∨(w.heap.size≤b∧b < w'.heap.size))∧VR w' ok' g' (oneM d (some (.arr e sz rows))) (r d) v' ∧
   (∀ y,(some (.arr e sz rows) : Option Qz) = some y→OR w' ok' g' (oneM d (some (.arr e sz rows))) d y∧∀ b,g'.bl d = some b→¬ ok' b∧w.heap.size≤b∧b < w'.heap.size):=by
  refine ⟨h2,v,hv1,v,ok',⟨fun _=>g.bl o,fun _=>g.cp o⟩,rfl,⟨hM.os,hM.tape,hM.output,hM.size,fun b hb=>hM.heap b hb (fun h=>h)⟩,hM.okk,fun b hb=>?_,?_,fun y hy=>?_⟩
  ·obtain ⟨k1,k2⟩:=hM.okb b hb
   rcases k2 with k2 | k2
   ·exact .inl k2
   ·exact .inr ⟨k2,k1⟩
  ·rw [hren d]
   refine VR.reren _ hv2 fun i hi=>?_
   have:=hids i hi
   subst this
   exact ⟨_,hxo,by simp [oneM,Qz.ren],rfl,rfl⟩
  ·cases hy
   have hO:=hM.obj o _ hxo
   refine ⟨hO,fun b hb=>?_⟩
   obtain ⟨k1,k2,k3⟩:=hM.own o _ b hxo hb
   refine ⟨k1,?_,k2⟩
   rcases k3 with k3 | ⟨k3,_⟩
   ·exact k3
   ·exact k3.elim
 rcases he with rfl | rfl
 ·exact hfin
 ·exact hfin
mutual
def Tm.free : Tm→List ByteArray
 | .mk k _ a _ _ xs cs=>if k = 1 then [a] else if k = 6∧xs.length = 2 then Tm.freeL a [] xs else Cs.frees (Tm.frees (if 8≤k∧k≤11 then [a] else []) xs) cs
def Tm.frees : List ByteArray→List Tm→List ByteArray
 | o,[]=>o
 | o,x :: r=>Tm.frees (addN o x.free) r
def Tm.freeL (a : ByteArray) : List ByteArray→List Tm→List ByteArray
 | o,[]=>o
 | o,x :: r=>Tm.freeB a (addN o x.free) r
def Tm.freeB (a : ByteArray) : List ByteArray→List Tm→List ByteArray
 | o,[]=>o
 | o,x :: _=>addN o (woN x.free [a])
def Cs.frees : List ByteArray→List Cs→List ByteArray
 | o,[]=>o
 | o,c :: r=>Cs.frees (addN o c.Lj) r
def Cs.Lj : Cs→List ByteArray
 | .mk _ vs b=>woN b.free vs
end
theorem Tm.frees_eq (l : List Tm) : ∀ o,Tm.frees o l = l.foldl (fun o x=>addN o x.free) o:=by
 induction l with
 | nil=>intro o;simp [Tm.frees]
 | cons x r ih=>intro o;simp [Tm.frees,ih]
theorem Cs.frees_eq (l : List Cs) : ∀ o,Cs.frees o l = l.foldl (fun o x=>addN o x.Lj) o:=by
 induction l with
 | nil=>intro o;simp [Cs.frees]
 | cons x r ih=>intro o;simp [Cs.frees,ih]
mutual
theorem Tm.D6 : ∀ t : Tm,t.free.length≤t.sz
 | .mk k n a b vs xs cs=>by
  simp only [Tm.free,Tm.sz]
  split
  ·simp;omega
  split
  ·have:=Tm.freeL_len a xs []
   simp at this;omega
  ·have h1:=Tm.A7 xs (if 8≤k∧k≤11 then [a] else [])
   have h2:=Cs.A7 cs (Tm.frees (if 8≤k∧k≤11 then [a] else []) xs)
   have h3 : (if 8≤k∧k≤11 then [a] else []).length≤1:=by split <;> simp
   omega
theorem Tm.A7 : ∀ (l : List Tm) (o : List ByteArray),(Tm.frees o l).length≤o.length + Tm.szs l
 | [],o=>by simp [Tm.frees]
 | x :: r,o=>by
  have h1:=Tm.D6 x
  have h2:=Tm.A7 r (addN o x.free)
  have h3:=Qz3 x.free o
  simp only [Tm.frees,Tm.szs]
  omega
theorem Tm.freeL_len (a : ByteArray) : ∀ (l : List Tm) (o : List ByteArray),(Tm.freeL a o l).length≤o.length + Tm.szs l
 | [],o=>by simp [Tm.freeL]
 | x :: r,o=>by
  have h1:=Tm.D6 x
  have h2:=Tm.freeB_len a r (addN o x.free)
  have h3:=Qz3 x.free o
  simp only [Tm.freeL,Tm.szs]
  omega
theorem Tm.freeB_len (a : ByteArray) : ∀ (l : List Tm) (o : List ByteArray),(Tm.freeB a o l).length≤o.length + Tm.szs l
 | [],o=>by simp [Tm.freeB]
 | x :: r,o=>by
  have h1:=Tm.D6 x
  have h3:=Qz3 (woN x.free [a]) o
  have h4:=Fv x.free [a]
  simp only [Tm.freeB,Tm.szs]
  omega
theorem Cs.A7 : ∀ (l : List Cs) (o : List ByteArray),(Cs.frees o l).length≤o.length + Cs.szs l
 | [],o=>by simp [Cs.frees]
 | x :: r,o=>by
  have h1:=Cs.freeC_len x
  have h2:=Cs.A7 r (addN o x.Lj)
  have h3:=Qz3 x.Lj o
  simp only [Cs.frees,Cs.szs]
  omega
theorem Cs.freeC_len : ∀ (c : Cs),c.Lj.length≤c.sz
 | .mk t vs b=>by
  have h1:=Tm.D6 b
  have h4:=Fv b.free vs
  simp only [Cs.Lj,Cs.sz]
  omega
end
theorem Tm.szs_take {l : List Tm} {i : Nat} {x : Tm} (hx : l[i]? = some x) : Tm.szs (l.take i) + x.sz≤Tm.szs l:=by
 induction l generalizing i with
 | nil=>simp at hx
 | cons y r ih =>
  cases i with
  | zero=>simp at hx;subst hx;simp [Tm.szs]
  | succ i=>have:=ih (i:=i) (by simpa using hx);simp only [List.take_succ_cons,Tm.szs];omega
theorem Cs.szs_take {l : List Cs} {i : Nat} {x : Cs} (hx : l[i]? = some x) : Cs.szs (l.take i) + x.sz≤Cs.szs l:=by
 induction l generalizing i with
 | nil=>simp at hx
 | cons y r ih =>
  cases i with
  | zero=>simp at hx;subst hx;simp [Cs.szs]
  | succ i=>have:=ih (i:=i) (by simpa using hx);simp only [List.take_succ_cons,Cs.szs];omega
theorem Tm.frees_snoc {o : List ByteArray} {l : List Tm} {i : Nat} {x : Tm} (hx : l[i]? = some x) : Tm.frees o (l.take (i + 1)) = addN (Tm.frees o (l.take i)) x.free:=by
 rw [List.take_add_one,hx]
 simp [Tm.frees_eq]
theorem Cs.frees_snoc {o : List ByteArray} {l : List Cs} {i : Nat} {x : Cs} (hx : l[i]? = some x) : Cs.frees o (l.take (i + 1)) = addN (Cs.frees o (l.take i)) x.Lj:=by
 rw [List.take_add_one,hx]
 simp [Cs.frees_eq]
end Go.Proofs.YtjpldhjgehoffaaDoor
namespace Go.Proofs.YtjpldhjgehoffaaDoor
open Go.RowKit Go.Shelf
set_option linter.unusedVariables false
set_option linter.unusedSimpArgs false
attribute [local go_sem] Oper.semAt_some
def KpB (n₀ Bs : Nat) (A B : World) : Prop:=Below n₀ A B∧B.cell? ⟨Bs,0,none⟩ = A.cell? ⟨Bs,0,none⟩
theorem KpB.refl (n₀ Bs : Nat) (A : World) : KpB n₀ Bs A A:=⟨Below.refl _ _,rfl⟩
theorem KpB.trans {n₀ Bs : Nat} {A B C : World} (h : KpB n₀ Bs A B) (k : KpB n₀ Bs B C) : KpB n₀ Bs A C:=⟨h.1.trans k.1,k.2.trans h.2⟩
end Go.Proofs.YtjpldhjgehoffaaDoor
namespace Go.Proofs.YtjpldhjgehoffaaDoor
open Go.RowKit Go.Shelf
set_option linter.unusedVariables false
set_option linter.unusedSimpArgs false
attribute [local go_sem] Oper.semAt_some
def cnt (k : Int) : List ByteArray→Tm→Tm
 | [],t=>t
 | s :: r,t=>.mk k 0 s .empty [] [cnt k r t] []
def cntF (k : Int) (t : Tm) (pre : List (Int×ByteArray)) : Tm:=pre.foldl (fun t x=>.mk k 0 x.2 .empty [] [t] []) t
def BInv (k : Int) (t : Tm) (ok : Nat→Prop) (n0 : Nat) (z : Array Value) (pre : List (Int×ByteArray)) (W : World) : Prop :=
 n0 + 3≤W.heap.size∧∃ (S : Nat→Prop) (c0 c1 c2 c3 c4 c5 c6 : Value),(∀ b,S b→n0 + 3≤b∧∃ cs t fr,W.heap[b]? = some (.cells cs t fr))∧Blk W n0 32 #[c0,c1,c2,c3,c4,c5,c6]∧Blk W (n0 + 1) 32 z ∧
  ((∀ p∈pre,p.2.size≤maxLen)→RepRow W (fun b=>ok b∨S b) (cntF k t pre).row [c0,c1,c2,c3,c4,c5,c6])
theorem blk_kept {W W' : World} {row : Option Nat} {b : Nat} {o : Obj} (ho : o.isCells = true) (h : W.heap[b]? = some o) (hg : W.grownBy W' row) (hr : ∀ r,row = some r→∃ o : Obj,W.heap[r]? = some o∧o.isCells = false) : W'.heap[b]? = some o:=by
 refine (hg.block b (Array.getElem?_eq_some_iff.1 h).1 fun e=>?_).trans h
 obtain ⟨o',h1,h2⟩:=hr b e.symm
 rw [h] at h1
 cases h1
 rw [ho] at h2
 cases h2
theorem BInv.own (k : Int) (t : Tm) (ok : Nat→Prop) (n0 B : Nat) (z : Array Value) (hB : n0≤B) (hok : ∀ b,ok b→b < n0) : OwnFrom B (BInv k t ok n0 z):=by
 rintro pre W W' row ⟨hsz,S,c0,c1,c2,c3,c4,c5,c6,hS,hb3,hb4,hrow⟩ hg hr
 have hr' : ∀ r,row = some r→∃ o : Obj,W.heap[r]? = some o∧o.isCells = false:=fun r e=>(hr r e).2
 refine ⟨Nat.le_trans hsz hg.size,S,c0,c1,c2,c3,c4,c5,c6,fun b hb=>?_,blk_kept rfl hb3 hg hr',blk_kept rfl hb4 hg hr',fun hpre=>⟨(hrow hpre).1,fun j d v hd hv=>((hrow hpre).2 j d v hd hv).keep fun p hp=>World.V6 ?_⟩⟩
 ·obtain ⟨h1,cs,t,fr,h2⟩:=hS b hb
  exact ⟨h1,cs,t,fr,blk_kept rfl h2 hg hr'⟩
 ·rcases hp with hp | hp
  ·have:=hok _ hp
   have hlt : p.block < W.heap.size:=by have:=hb3.lt;omega
   refine hg.block _ hlt fun e=>?_
   have:=(hr _ e.symm).1
   omega
  ·obtain ⟨h1,cs,t,fr,h2⟩:=hS _ hp
   exact (blk_kept rfl h2 hg hr').trans h2.symm
section
variable {F : Fence} {nF : Nat} {P : Program}
end
end Go.Proofs.YtjpldhjgehoffaaDoor
namespace Go.Proofs.YtjpldhjgehoffaaDoor
open Go.RowKit
attribute [local simp] Cq mkRc ldOf stOf Qz4 Fq M4 Rq K7 V3 Yv K4 J7 Y9 L9 evA Kv G8 Value.oneCell' Zj Q4 Z7 Iz Vz Z0 AS.after Z8 K8 Jv AV.ids Mq Qz.ids Qj3 F9 Wv U9 G6 Y0 Y5 Kk V9 V7 Yz Ov T9 setAt Vj Cj Gq Pj R9 Pk binI AV.cells J9 Jz R8 U1 AV.kill Qz.kill AV.has AV.K9 Op.operands Call.operands Gj Hw Zv Oz Zz Xz Tk moQ M6 Uz Yw AV.ren Tj Qz.ren Qz.like kept X8 M5 AV.frz Pz Cw Ex H9 F3 AS.frz Mv Uw Qz.frz Rx Rj bleF Nat.ble_eq R4 Ww K3 D.Yx F5 Uv Vx Vq phO Px Gz Wx U0 K6 Low Sq
set_option linter.unusedVariables false
set_option linter.unusedSimpArgs false
theorem AWp.seqJ {P : Program} {Q : Exit→AS→Prop} {s : AS} {x y : Code} (s0 : AS) (h2 : AWp P y Q s0) (h1 : ∀ W : AS→Prop,(∀ s',Le s' s0→W s')→AWp P x (Qq W Q) s) : AWp P (.seq x y) Q s :=
 AWp.seq (h1 _ fun _ hl=>AWp.le hl h2)
abbrev tmCells (k n : Int) (a b : ByteArray) (vs : List ByteArray) (xs : List Tm) (cs : List Cs) : List AV :=
 [.d (.int k),.d (.int n),.d (.str a),.d (.str b),.d (Q7 vs),.d (.sl (xs.map Tm.row)),.d (.sl (cs.map Cs.row))]
def Qx (k n : Int) (a b : ByteArray) (vs : List ByteArray) (xs : List Tm) (cs : List Cs) : Option Qz:=some (.blk 32 (tmCells k n a b vs xs cs))
structure Tm.Fit (t : Tm) : Prop where
 ok : t.Ok
 sz : t.sz≤1048576
theorem Tm.Fit.arg {k n : Int} {a b : ByteArray} {vs : List ByteArray} {xs : List Tm} {cs : List Cs} (h : (Tm.mk k n a b vs xs cs).Fit) {x : Tm} (hx : x∈xs) : x.Fit :=
 ⟨h.ok.arg hx,by have:=Tm.sz_arg (k:=k) (n:=n) (a:=a) (b:=b) (vs:=vs) (cs:=cs) hx;have:=h.sz;omega⟩
theorem Tm.Fit.case {k n : Int} {a b : ByteArray} {vs : List ByteArray} {xs : List Tm} {cs : List Cs} (h : (Tm.mk k n a b vs xs cs).Fit) {t : Int} {ws : List ByteArray} {x : Tm} (hx : Cs.mk t ws x∈cs) : x.Fit∧ws.length≤8796093022207 :=
 ⟨⟨(h.ok.case hx).body.1,by have:=Tm.sz_case (k:=k) (n:=n) (a:=a) (b:=b) (vs:=vs) (xs:=xs) hx;have:=h.sz;omega⟩,(h.ok.case hx).body.2⟩
theorem sz_all {k n : Int} {a b : ByteArray} {vs : List ByteArray} {xs : List Tm} {cs : List Cs} (h : (Tm.mk k n a b vs xs cs).Fit) : 1 + Tm.szs xs + Cs.szs cs≤1048576:=by
 have:=h.sz
 simpa only [Tm.sz] using this
theorem addN_woN (skip : List ByteArray) (l : List ByteArray) {L : List ByteArray} {i : Nat} {x : ByteArray} (hx : l[i]? = some x) :
  addN L (woN (l.take (i + 1)) skip) = if !hasB skip x && !hasB (addN L (woN (l.take i) skip)) x then addN L (woN (l.take i) skip) ++ [x] else addN L (woN (l.take i) skip):=by
 rw [List.take_add_one,hx]
 simp only [woN,List.filter_append,addN,List.foldl_append,Option.toList_some]
 cases h : hasB skip x
 ·simp only [List.filter_cons,h,Bool.not_false,if_true,List.filter_nil,List.foldl_cons,List.foldl_nil,Bool.true_and]
  cases hasB (List.foldl (fun l s=>if hasB l s = true then l else l ++ [s]) L (List.filter (fun s=>!hasB skip s) (List.take i l))) x <;> rfl
 ·simp [List.filter_cons,h]
set_option maxRecDepth 20000 in
set_option maxHeartbeats 4000000 in
theorem cs_Free1 (L l skip : List ByteArray) (hl : L.length + l.length≤1048576) (hs : skip.length≤8796093022207) :
  X3 Tryd.prog 126 [X6 l,X6 skip,.ptr 1000 0] [(1000,.blk 28 [.arr 500 0 L.length]),(500,.arr 9 1 (L.map Zw))] (Z6 [])
   [(1000,.blk 28 [.arr 500 0 (addN L (woN l skip)).length]),(500,.arr 9 1 ((addN L (woN l skip)).map Zw))]:=by
 refine X3.of Tryd.func126 rfl rfl (Nat.le_of_ble_eq_true rfl) ?_
 show AWp _ _ (Qv _ Tryd.f126 _ _) (X8 28 _ _)
 repeat (first | refine AWp.seq ?_ | refine AWp.block ?_)
 apply AWp.reg [] []
 ·conv=>lhs;simp
 ·trivial
 repeat (first | refine AWp.seq ?_ | refine AWp.block ?_)
 refine AWp.loop (σ:=fun u : {i : Nat // i≤l.length}=>⟨28,[(1,X6 skip),(2,.ptr 1000 0),(7,X6 l),(8,.d (.int l.length)),(9,.d (.int u.1))],[(1000,some (.blk 28 [.arr 500 0 (addN L (woN (l.take u.1) skip)).length])),(500,some (.arr 9 1 ((addN L (woN (l.take u.1) skip)).map Zw)))]⟩)
  (μ:=fun u=>l.length - u.1) ⟨0,Nat.zero_le _⟩ (Le.sub (by simp [addN,woN]) (by simp [addN,woN])) (fun ⟨i,hi⟩=>?_)
 dsimp only
 have hN:=Qz3 (woN (l.take i) skip) L
 have hw:=Fv (l.take i) skip
 have hti : (l.take i).length = i:=by simp;omega
 have hS : ∀ x,l[i]? = some x→_:=fun x=>addN_woN skip l (L:=L) (i:=i) (x:=x)
 obtain ⟨M,hM⟩ : ∃ M,M = addN L (woN (l.take i) skip):=⟨_,rfl⟩
 rw [← hM] at hN hS ⊢
 repeat (first | refine AWp.seq ?_ | refine AWp.block ?_)
 apply AWp.reg [] []
 ·conv=>lhs;simp
 ·trivial
 repeat (first | refine AWp.seq ?_ | refine AWp.block ?_)
 refine AWp.cond rfl (fun h=>?_) (fun h=>?_)
 ·have hi1 : i < l.length:=by have:=of_decide_eq_true h;omega
  have h1 : l[i]? = some l[i]:=List.getElem?_eq_getElem hi1
  generalize l[i] = x at h1
  have hs1:=hS x h1
  have hp:=sp_Has skip x (by omega)
  have hc:=cs_Has 1001 M x (by omega)
  obtain ⟨A,hA⟩ : ∃ A,A = hasB skip x:=⟨_,rfl⟩
  obtain ⟨B,hB⟩ : ∃ B,B = hasB M x:=⟨_,rfl⟩
  rw [← hA,← hB] at hs1
  rw [← hA] at hp
  rw [← hB] at hc
  refine AWp.skip ?_
  refine AWp.rg [] [] ?_ (hr:=by conv=>lhs;simp [h1])
  cases A with
  | true =>
   repeat (first | refine AWp.seq ?_ | refine AWp.block ?_)
   apply AWp.reg [] [.p (fun _=>.d (.bool true)) none,.c [(1001,500)] [.arr 1001 0 M.length,.d (.str x)] [(1001,.arr 9 1 (M.map Zw))] (.d (.bool B)) [(1001,.arr 9 1 (M.map Zw))]]
   ·conv=>lhs;simp
   ·exact hp
   refine AWp.cn ?_
   refine AWp.skip ?_
   refine AWp.rg [] [] ?_
   refine ⟨⟨i + 1,hi1⟩,by simp;omega,?_⟩
   dsimp only
   rw [hs1]
   exact Le.sub (by simp) (by simp)
  | false =>
   cases B with
   | true =>
    repeat (first | refine AWp.seq ?_ | refine AWp.block ?_)
    apply AWp.reg [] [.p (fun _=>.d (.bool false)) none,.c [(1001,500)] [.arr 1001 0 M.length,.d (.str x)] [(1001,.arr 9 1 (M.map Zw))] (.d (.bool true)) [(1001,.arr 9 1 (M.map Zw))]]
    ·conv=>lhs;simp
    ·exact ⟨hp,hc⟩
    refine AWp.cn ?_
    refine AWp.skip ?_
    refine AWp.rg [] [] ?_
    refine ⟨⟨i + 1,hi1⟩,by simp;omega,?_⟩
    dsimp only
    rw [hs1]
    exact Le.sub (by simp) (by simp)
   | false =>
    repeat (first | refine AWp.seq ?_ | refine AWp.block ?_)
    apply AWp.reg [] [.p (fun _=>.d (.bool false)) none,.c [(1001,500)] [.arr 1001 0 M.length,.d (.str x)] [(1001,.arr 9 1 (M.map Zw))] (.d (.bool false)) [(1001,.arr 9 1 (M.map Zw))]]
    ·conv=>lhs;simp
    ·exact ⟨hp,hc⟩
    refine AWp.cy ?_
    refine AWp.rg [] [] ?_
    refine AWp.rg [] [] ?_
    refine ⟨⟨i + 1,hi1⟩,by simp;omega,?_⟩
    dsimp only
    rw [hs1]
    exact Le.sub (by simp) (by simp)
 have hi1 : i = l.length:=by have:=of_decide_eq_false h;omega
 subst hi1
 rw [List.take_length] at hM
 refine AWp.exit ?_
 rw [← hM]
 try dsimp only [Qq,Q8]
 apply Qv.normal
 ·rfl
 ·conv=>lhs;simp [Q9,Tryd.results126]
 ·rfl
 ·simp [Qj,Q4]
theorem woN_nil (l : List ByteArray) : woN l [] = l:=by simp [woN,hasB]
def M3 (xs : List Tm) (sk : Nat→List ByteArray) (o0 : List ByteArray) : Nat→List ByteArray
 | 0=>o0
 | i + 1=>match xs[i]? with
  | some x=>addN (M3 xs sk o0 i) (woN x.free (sk i))
  | none=>M3 xs sk o0 i
theorem rfree_snoc {xs : List Tm} (sk : Nat→List ByteArray) (o0 : List ByteArray) {i : Nat} {x : Tm} (hx : xs[i]? = some x) : M3 xs sk o0 (i + 1) = addN (M3 xs sk o0 i) (woN x.free (sk i)):=by
 simp only [M3,hx]
theorem rfree_len (xs : List Tm) (sk : Nat→List ByteArray) (o0 : List ByteArray) : ∀ i,(M3 xs sk o0 i).length≤o0.length + Tm.szs (xs.take i)
 | 0=>by simp [M3]
 | i + 1=>by
  have ih:=rfree_len xs sk o0 i
  simp only [M3]
  split
  ·rename_i x hx
   have h1:=Qz3 (woN x.free (sk i)) (M3 xs sk o0 i)
   have h2:=Fv x.free (sk i)
   have h3:=x.D6
   have h4 : Tm.szs (xs.take (i + 1)) = Tm.szs (xs.take i) + x.sz:=by
    rw [List.take_add_one,hx]
    have : ∀ l : List Tm,Tm.szs (l ++ [x]) = Tm.szs l + x.sz:=fun l=>by
     induction l with
     | nil=>simp [Tm.szs]
     | cons y r ih=>simp only [List.cons_append,Tm.szs,ih];omega
    exact this _
   omega
  ·rename_i hx
   have h4 : xs.take (i + 1) = xs.take i:=by rw [List.take_add_one,hx];simp
   rw [h4];exact ih
theorem rfree_plain (xs : List Tm) (o0 : List ByteArray) : ∀ i,M3 xs (fun _=>[]) o0 i = Tm.frees o0 (xs.take i)
 | 0=>by simp [M3,Tm.frees]
 | i + 1=>by
  have ih:=rfree_plain xs o0 i
  simp only [M3]
  split
  ·rename_i x hx
   rw [Tm.frees_snoc hx,ih,woN_nil]
  ·rename_i hx
   rw [List.take_add_one,hx,ih];simp
def Ak (k : Int) (a : ByteArray) (len i : Nat) : List ByteArray:=if k = 6∧len = 2∧i = 1 then [a] else []
theorem skipA_len (k : Int) (a : ByteArray) (len i : Nat) : (Ak k a len i).length≤1:=by unfold Ak;split <;> simp
theorem rfree_all (k : Int) (a : ByteArray) (xs : List Tm) (o0 : List ByteArray) (h : ¬ (k = 6∧xs.length = 2)) : M3 xs (Ak k a xs.length) o0 xs.length = Tm.frees o0 xs:=by
 have e : Ak k a xs.length = fun _=>[]:=funext fun i=>by
  unfold Ak
  rw [if_neg (fun hh=>h ⟨hh.1,hh.2.1⟩)]
 rw [e,rfree_plain,List.take_length]
theorem rfree_let (a : ByteArray) (x y : Tm) : M3 [x,y] (Ak 6 a 2) [] 2 = Tm.freeL a [] [x,y]:=by
 simp [M3,Ak,Tm.freeL,Tm.freeB,woN_nil]
def Yk (k n : Int) (a b : ByteArray) (vs : List ByteArray) (xs : List Tm) (cs : List Cs) (L : List ByteArray) : List (Nat×Option Qz) :=
 [(1,Qx k n a b vs xs cs),(3,some (.blk 28 [.arr 400 0 L.length])),(400,some (.arr 9 1 (L.map Zw)))]
set_option maxRecDepth 20000 in
set_option maxHeartbeats 8000000 in
theorem sp_refFree_at : ∀ (N : Nat) (t : Tm),t.sz < N→t.Fit→Qw Tryd.prog 98 [Xw t] (fun d=>.arr d 0 t.free.length) (some (.arr 9 1 (t.free.map Zw))):=by
 intro N
 induction N with
 | zero=>intro s h;omega
 | succ N ih =>
 intro t hN hF
 have hO:=hF.ok
 obtain ⟨k,n,a,b,vs,xs,cs⟩:=t
 obtain ⟨o1,o2,o3,o4,o5⟩:=hO.vars
 have hsz:=sz_all hF
 refine Qw.ofArrX Tryd.func98 rfl rfl _ (Nat.le_of_ble_eq_true rfl) (fun d=>by simp [AV.has,AV.K9]) ?_
 show AWp _ _ (endX _ Tryd.f98 _ _) (Z7 82 _)
 repeat (first | refine AWp.seq ?_ | refine AWp.block ?_)
 apply AWp.reg [] []
 ·conv=>lhs;simp
 ·trivial
 repeat (first | refine AWp.seq ?_ | refine AWp.block ?_)
 apply AWp.reg [] []
 ·conv=>lhs;simp
 ·trivial
 repeat (first | refine AWp.seq ?_ | refine AWp.block ?_)
 apply AWp.reg [] []
 ·conv=>lhs;simp
 ·trivial
 by_cases e1 : k = 1
 ·subst e1
  have hf : (Tm.mk 1 n a b vs xs cs).free = [a]:=by simp [Tm.free]
  rw [hf]
  repeat (first | refine AWp.seq ?_ | refine AWp.block ?_)
  apply AWp.reg [] []
  ·conv=>lhs;simp
  ·trivial
  repeat (first | refine AWp.seq ?_ | refine AWp.block ?_)
  apply AWp.reg [] []
  ·conv=>lhs;simp
  ·trivial
  repeat (first | refine AWp.seq ?_ | refine AWp.block ?_)
  refine AWp.cond rfl (fun h=>?_) (fun h=>?_)
  ·refine AWp.rg [] [] ?_
   refine AWp.ret ?_
   try dsimp only [Qq,Q8]
   apply endX.ret 17
   ·conv=>lhs;simp [Q9,Tryd.results98]
   ·rfl
   ·rfl
   ·rfl
  ·simp at h
 obtain ⟨o0,ho0⟩ : ∃ o0,o0 = if 8≤k∧k≤11 then [a] else []:=⟨_,rfl⟩
 have hl0 : o0.length≤1:=by rw [ho0];split <;> simp
 refine AWp.seqJ ⟨82,[(1,.ptr 1 0),(3,.ptr 3 0),(4,.clo 126 [.ptr 3 0])],Yk k n a b vs xs cs o0⟩ ?_ (fun W hW=>?_)
 rotate_left
 ·by_cases k8 : k = 8
  ·subst k8
   rw [if_pos (by omega)] at ho0
   subst ho0
   repeat (first | refine AWp.seq ?_ | refine AWp.block ?_)
   apply AWp.reg [] []
   ·conv=>lhs;simp
   ·trivial
   repeat (first | refine AWp.seq ?_ | refine AWp.block ?_)
   apply AWp.reg [] []
   ·conv=>lhs;simp
   ·trivial
   repeat (first | refine AWp.seq ?_ | refine AWp.block ?_)
   refine AWp.cond rfl (fun h=>?_) (fun h=>?_)
   ·simp at h
   repeat (first | refine AWp.seq ?_ | refine AWp.block ?_)
   apply AWp.reg [] []
   ·conv=>lhs;simp
   ·trivial
   repeat (first | refine AWp.seq ?_ | refine AWp.block ?_)
   refine AWp.cond rfl (fun h0=>?_) (fun h0=>?_)
   rotate_left
   ·simp at h0
   refine AWp.skip ?_
   repeat (first | refine AWp.seq ?_ | refine AWp.block ?_)
   refine AWp.cond rfl (fun h6=>?_) (fun h6=>?_)
   rotate_left
   ·simp at h6
   refine AWp.rg [] [] ?_
   exact hW _ (Le.trans (Le.swap _ 25 400 rfl rfl) (Le.sub (by simp [AS.swap,swN]) (by simp [AS.swap,swN,Yk,Qx])))
  by_cases k9 : k = 9
  ·subst k9
   rw [if_pos (by omega)] at ho0
   subst ho0
   repeat (first | refine AWp.seq ?_ | refine AWp.block ?_)
   apply AWp.reg [] []
   ·conv=>lhs;simp
   ·trivial
   repeat (first | refine AWp.seq ?_ | refine AWp.block ?_)
   apply AWp.reg [] []
   ·conv=>lhs;simp
   ·trivial
   repeat (first | refine AWp.seq ?_ | refine AWp.block ?_)
   refine AWp.cond rfl (fun h=>?_) (fun h=>?_)
   ·simp at h
   repeat (first | refine AWp.seq ?_ | refine AWp.block ?_)
   apply AWp.reg [] []
   ·conv=>lhs;simp
   ·trivial
   repeat (first | refine AWp.seq ?_ | refine AWp.block ?_)
   refine AWp.cond rfl (fun h0=>?_) (fun h0=>?_)
   ·simp at h0
   repeat (first | refine AWp.seq ?_ | refine AWp.block ?_)
   apply AWp.reg [] []
   ·conv=>lhs;simp
   ·trivial
   repeat (first | refine AWp.seq ?_ | refine AWp.block ?_)
   refine AWp.cond rfl (fun h1=>?_) (fun h1=>?_)
   rotate_left
   ·simp at h1
   refine AWp.skip ?_
   repeat (first | refine AWp.seq ?_ | refine AWp.block ?_)
   refine AWp.cond rfl (fun h6=>?_) (fun h6=>?_)
   rotate_left
   ·simp at h6
   refine AWp.rg [] [] ?_
   exact hW _ (Le.trans (Le.swap _ 25 400 rfl rfl) (Le.sub (by simp [AS.swap,swN]) (by simp [AS.swap,swN,Yk,Qx])))
  by_cases k10 : k = 10
  ·subst k10
   rw [if_pos (by omega)] at ho0
   subst ho0
   repeat (first | refine AWp.seq ?_ | refine AWp.block ?_)
   apply AWp.reg [] []
   ·conv=>lhs;simp
   ·trivial
   repeat (first | refine AWp.seq ?_ | refine AWp.block ?_)
   apply AWp.reg [] []
   ·conv=>lhs;simp
   ·trivial
   repeat (first | refine AWp.seq ?_ | refine AWp.block ?_)
   refine AWp.cond rfl (fun h=>?_) (fun h=>?_)
   ·simp at h
   repeat (first | refine AWp.seq ?_ | refine AWp.block ?_)
   apply AWp.reg [] []
   ·conv=>lhs;simp
   ·trivial
   repeat (first | refine AWp.seq ?_ | refine AWp.block ?_)
   refine AWp.cond rfl (fun h0=>?_) (fun h0=>?_)
   ·simp at h0
   repeat (first | refine AWp.seq ?_ | refine AWp.block ?_)
   apply AWp.reg [] []
   ·conv=>lhs;simp
   ·trivial
   repeat (first | refine AWp.seq ?_ | refine AWp.block ?_)
   refine AWp.cond rfl (fun h1=>?_) (fun h1=>?_)
   ·simp at h1
   repeat (first | refine AWp.seq ?_ | refine AWp.block ?_)
   apply AWp.reg [] []
   ·conv=>lhs;simp
   ·trivial
   repeat (first | refine AWp.seq ?_ | refine AWp.block ?_)
   refine AWp.cond rfl (fun h2=>?_) (fun h2=>?_)
   rotate_left
   ·simp at h2
   refine AWp.skip ?_
   repeat (first | refine AWp.seq ?_ | refine AWp.block ?_)
   refine AWp.cond rfl (fun h6=>?_) (fun h6=>?_)
   rotate_left
   ·simp at h6
   refine AWp.rg [] [] ?_
   exact hW _ (Le.trans (Le.swap _ 25 400 rfl rfl) (Le.sub (by simp [AS.swap,swN]) (by simp [AS.swap,swN,Yk,Qx])))
  by_cases k11 : k = 11
  ·subst k11
   rw [if_pos (by omega)] at ho0
   subst ho0
   repeat (first | refine AWp.seq ?_ | refine AWp.block ?_)
   apply AWp.reg [] []
   ·conv=>lhs;simp
   ·trivial
   repeat (first | refine AWp.seq ?_ | refine AWp.block ?_)
   apply AWp.reg [] []
   ·conv=>lhs;simp
   ·trivial
   repeat (first | refine AWp.seq ?_ | refine AWp.block ?_)
   refine AWp.cond rfl (fun h=>?_) (fun h=>?_)
   ·simp at h
   repeat (first | refine AWp.seq ?_ | refine AWp.block ?_)
   apply AWp.reg [] []
   ·conv=>lhs;simp
   ·trivial
   repeat (first | refine AWp.seq ?_ | refine AWp.block ?_)
   refine AWp.cond rfl (fun h0=>?_) (fun h0=>?_)
   ·simp at h0
   repeat (first | refine AWp.seq ?_ | refine AWp.block ?_)
   apply AWp.reg [] []
   ·conv=>lhs;simp
   ·trivial
   repeat (first | refine AWp.seq ?_ | refine AWp.block ?_)
   refine AWp.cond rfl (fun h1=>?_) (fun h1=>?_)
   ·simp at h1
   repeat (first | refine AWp.seq ?_ | refine AWp.block ?_)
   apply AWp.reg [] []
   ·conv=>lhs;simp
   ·trivial
   repeat (first | refine AWp.seq ?_ | refine AWp.block ?_)
   refine AWp.cond rfl (fun h2=>?_) (fun h2=>?_)
   ·simp at h2
   repeat (first | refine AWp.seq ?_ | refine AWp.block ?_)
   apply AWp.reg [] []
   ·conv=>lhs;simp
   ·trivial
   repeat (first | refine AWp.seq ?_ | refine AWp.block ?_)
   refine AWp.cond rfl (fun h6=>?_) (fun h6=>?_)
   rotate_left
   ·simp at h6
   refine AWp.rg [] [] ?_
   exact hW _ (Le.trans (Le.swap _ 25 400 rfl rfl) (Le.sub (by simp [AS.swap,swN]) (by simp [AS.swap,swN,Yk,Qx])))
  rw [if_neg (by omega)] at ho0
  subst ho0
  repeat (first | refine AWp.seq ?_ | refine AWp.block ?_)
  apply AWp.reg [] []
  ·conv=>lhs;simp
  ·trivial
  repeat (first | refine AWp.seq ?_ | refine AWp.block ?_)
  apply AWp.reg [] []
  ·conv=>lhs;simp [e1]
  ·trivial
  refine AWp.cn ?_
  repeat (first | refine AWp.seq ?_ | refine AWp.block ?_)
  apply AWp.reg [] []
  ·conv=>lhs;simp [k8]
  ·trivial
  refine AWp.cn ?_
  repeat (first | refine AWp.seq ?_ | refine AWp.block ?_)
  apply AWp.reg [] []
  ·conv=>lhs;simp [k9]
  ·trivial
  refine AWp.cn ?_
  repeat (first | refine AWp.seq ?_ | refine AWp.block ?_)
  apply AWp.reg [] []
  ·conv=>lhs;simp [k10]
  ·trivial
  refine AWp.cn ?_
  repeat (first | refine AWp.seq ?_ | refine AWp.block ?_)
  apply AWp.reg [] []
  ·conv=>lhs;simp [k11]
  ·trivial
  repeat (first | refine AWp.seq ?_ | refine AWp.block ?_)
  refine AWp.cond rfl (fun h6=>?_) (fun h6=>?_)
  ·cases h6
  refine AWp.skip ?_
  exact hW _ (Le.low [400] [] rfl (by simp) (by simp [Yk,Qx]))
 repeat (first | refine AWp.seq ?_ | refine AWp.block ?_)
 apply AWp.reg [] []
 ·conv=>lhs;simp [Yk,Qx]
 ·trivial
 repeat (first | refine AWp.seq ?_ | refine AWp.block ?_)
 refine AWp.loop (σ:=fun u : {i : Nat // i≤xs.length}=>⟨82,[(1,.ptr 1 0),(3,.ptr 3 0),(4,.clo 126 [.ptr 3 0]),(27,.d (.sl (xs.map Tm.row))),(28,.d (.int xs.length)),(29,.d (.int u.1))],Yk k n a b vs xs cs (M3 xs (Ak k a xs.length) o0 u.1)⟩)
  (μ:=fun u=>xs.length - u.1) ⟨0,Nat.zero_le _⟩ (Le.sub (by simp [M3]) (by simp [M3,Yk,Qx])) (fun ⟨i,hi⟩=>?_)
 dsimp only
 have hL0:=rfree_len xs (Ak k a xs.length) o0 i
 have hS : ∀ x,xs[i]? = some x→_:=fun x=>rfree_snoc (Ak k a xs.length) o0 (x:=x) (i:=i)
 obtain ⟨L,hL⟩ : ∃ L,L = M3 xs (Ak k a xs.length) o0 i:=⟨_,rfl⟩
 rw [← hL] at hL0 hS ⊢
 repeat (first | refine AWp.seq ?_ | refine AWp.block ?_)
 apply AWp.reg [] []
 ·conv=>lhs;simp
 ·trivial
 repeat (first | refine AWp.seq ?_ | refine AWp.block ?_)
 refine AWp.cond rfl (fun h=>?_) (fun h=>?_)
 ·have hi1 : i < xs.length:=by have:=of_decide_eq_true h;omega
  have h1 : xs[i]? = some xs[i]:=List.getElem?_eq_getElem hi1
  have hmem : xs[i]∈xs:=List.getElem_mem hi1
  generalize xs[i] = x at h1 hmem
  have hx:=ih x (by have:=Tm.sz_arg (k:=k) (n:=n) (a:=a) (b:=b) (vs:=vs) (cs:=cs) hmem;omega) (hF.arg hmem)
  have lx:=x.D6
  have lt:=Tm.szs_take h1
  have hsk:=skipA_len k a xs.length i
  have had:=cs_Free1 L x.free (Ak k a xs.length i) (by omega) (by omega)
  have hS1:=hS x h1
  have hskd : Ak k a xs.length i = if k = 6∧xs.length = 2∧i = 1 then [a] else []:=rfl
  generalize Ak k a xs.length i = sk at hskd had hS1
  obtain ⟨L',hS0⟩ : ∃ L',L' = M3 xs (Ak k a xs.length) o0 (i + 1):=⟨_,rfl⟩
  rw [← hS0] at hS1
  generalize x.free = fx at *
  rw [← hS1] at had
  obtain ⟨xk,xn,xa,xb,xv,xx,xc⟩:=x
  refine AWp.skip ?_
  refine AWp.rg [] [] ?_ (hr:=by conv=>lhs;simp [h1,Tm.row,Tm.Q3,Cs.Q3])
  repeat (first | refine AWp.seq ?_ | refine AWp.block ?_)
  apply AWp.reg [] []
  ·conv=>lhs;simp
  ·trivial
  refine AWp.seqJ ⟨82,[(1,.ptr 1 0),(3,.ptr 3 0),(4,.clo 126 [.ptr 3 0]),(6,.ptr 6 0),(7,X6 sk),(27,.d (.sl (xs.map Tm.row))),(28,.d (.int xs.length)),(29,.d (.int i))],(6,Qx xk xn xa xb xv xx xc) :: Yk k n a b vs xs cs L⟩ ?_ (fun W1 hW1=>?_)
  rotate_left
  ·by_cases k6 : k = 6
   ·subst k6
    by_cases k7 : xs.length = 2
    ·have k7' : (xs.length : Int) = 2:=by omega
     by_cases k8 : i = 1
     ·have k8' : (i : Int) = 1:=by omega
      rw [if_pos ⟨rfl,k7,k8⟩] at hskd
      subst hskd
      refine AWp.rg [] [] ?_ (hr:=by conv=>lhs;simp [k7',k8',Yk,Qx])
      repeat (first | refine AWp.seq ?_ | refine AWp.block ?_)
      refine AWp.cond rfl (fun h2=>?_) (fun h2=>?_)
      rotate_left
      ·simp at h2
      refine AWp.rg [2] [] ?_
      exact hW1 _ (Le.low [] [] rfl (by simp [Q7,k7',k8']) (by simp [Yk,Qx]))
     ·have k8' : ¬ (i : Int) = 1:=by omega
      rw [if_neg (fun hh=>k8 hh.2.2)] at hskd
      subst hskd
      refine AWp.rg [] [] ?_ (hr:=by conv=>lhs;simp [k7',k8',Yk,Qx])
      refine AWp.cn ?_
      refine AWp.skip ?_
      exact hW1 _ (Le.low [] [] rfl (by simp [Q7,k7']) (by simp [Yk,Qx]))
    ·have k7' : ¬ (xs.length : Int) = 2:=by omega
     rw [if_neg (fun hh=>k7 hh.2.1)] at hskd
     subst hskd
     refine AWp.rg [] [] ?_ (hr:=by conv=>lhs;simp [k7',Yk,Qx])
     refine AWp.cn ?_
     refine AWp.skip ?_
     exact hW1 _ (Le.low [] [] rfl (by simp [Q7]) (by simp [Yk,Qx]))
   ·rw [if_neg (fun hh=>k6 hh.1)] at hskd
    subst hskd
    refine AWp.rg [] [] ?_ (hr:=by conv=>lhs;simp [k6,Yk,Qx])
    refine AWp.cn ?_
    refine AWp.skip ?_
    exact hW1 _ (Le.low [] [] rfl (by simp [Q7]) (by simp [Yk,Qx]))
  repeat (first | refine AWp.seq ?_ | refine AWp.block ?_)
  apply AWp.reg [2] [.p (fun d=>.arr d 0 fx.length) (some (.arr 9 1 (fx.map Zw))),.c [(1000,3),(500,400)] [X6 fx,X6 sk,.ptr 1000 0] [(1000,.blk 28 [.arr 500 0 L.length]),(500,.arr 9 1 (L.map Zw))] (Z6 []) [(1000,.blk 28 [.arr 500 0 L'.length]),(500,.arr 9 1 (L'.map Zw))]]
  ·conv=>lhs;simp [Xw,Qx,Yk,Z6]
  ·exact ⟨hx,had⟩
  refine AWp.rg [] [] ?_
  refine ⟨⟨i + 1,hi1⟩,by simp;omega,?_⟩
  dsimp only
  rw [← hS0]
  exact Le.sub (by simp) (by simp [Qx,Yk])
 have hi1 : i = xs.length:=by have:=of_decide_eq_false h;omega
 subst hi1
 clear h hS
 have hlx : Tm.szs (xs.take xs.length) = Tm.szs xs:=by rw [List.take_length]
 refine AWp.exit ?_
 by_cases e6 : k = 6∧xs.length = 2
 ·have hf : (Tm.mk k n a b vs xs cs).free = L:=by
   obtain ⟨e6,e7⟩:=e6
   rw [hL,ho0,e6]
   match xs,e7 with
   | [x,y],_ =>
    rw [if_neg (by omega)]
    refine Eq.trans ?_ (rfree_let a x y).symm
    simp [Tm.free]
  rw [hf]
  obtain ⟨e6,e7⟩:=e6
  subst e6
  have k7' : (xs.length : Int) = 2:=by omega
  refine AWp.rg [] [] ?_ (hr:=by conv=>lhs;simp [k7',Yk,Qx])
  refine AWp.cy ?_
  refine AWp.rg [] [] ?_
  refine AWp.ret ?_
  try dsimp only [Qq,Q8]
  apply endX.ret 400
  ·conv=>lhs;simp [Q9,Tryd.results98]
  ·rfl
  ·rfl
  ·rfl
 have hf : (Tm.mk k n a b vs xs cs).free = Cs.frees L cs:=by
  simp only [Tm.free,if_neg e1,if_neg e6]
  rw [hL,rfree_all k a xs o0 e6,ho0]
 rw [hf]
 refine AWp.seqJ ⟨82,[(1,.ptr 1 0),(3,.ptr 3 0),(4,.clo 126 [.ptr 3 0])],Yk k n a b vs xs cs L⟩ ?_ (fun W1 hW1=>?_)
 rotate_left
 ·by_cases k6 : k = 6
  ·subst k6
   have k7' : ¬ (xs.length : Int) = 2:=fun hh=>e6 ⟨rfl,by omega⟩
   refine AWp.rg [] [] ?_ (hr:=by conv=>lhs;simp [k7',Yk,Qx])
   refine AWp.cn ?_
   refine AWp.skip ?_
   exact hW1 _ (Le.sub (by simp) (by simp [Yk,Qx]))
  ·refine AWp.rg [] [] ?_ (hr:=by conv=>lhs;simp [k6,Yk,Qx])
   refine AWp.cn ?_
   refine AWp.skip ?_
   exact hW1 _ (Le.sub (by simp) (by simp [Yk,Qx]))
 repeat (first | refine AWp.seq ?_ | refine AWp.block ?_)
 apply AWp.reg [] []
 ·conv=>lhs;simp [Yk,Qx]
 ·trivial
 repeat (first | refine AWp.seq ?_ | refine AWp.block ?_)
 refine AWp.loop (σ:=fun u : {i : Nat // i≤cs.length}=>⟨82,[(1,.ptr 1 0),(3,.ptr 3 0),(4,.clo 126 [.ptr 3 0]),(67,.d (.sl (cs.map Cs.row))),(68,.d (.int cs.length)),(69,.d (.int u.1))],Yk k n a b vs xs cs (Cs.frees L (cs.take u.1))⟩)
  (μ:=fun u=>cs.length - u.1) ⟨0,Nat.zero_le _⟩ (Le.sub (by simp [Cs.frees]) (by simp [Cs.frees,Yk,Qx])) (fun ⟨i,hi⟩=>?_)
 dsimp only
 have hM0:=Cs.A7 (cs.take i) L
 have hS : ∀ x,cs[i]? = some x→Cs.frees L (cs.take (i + 1)) = addN (Cs.frees L (cs.take i)) x.Lj:=fun x=>Cs.frees_snoc
 obtain ⟨M,hM⟩ : ∃ M,M = Cs.frees L (cs.take i):=⟨_,rfl⟩
 rw [← hM] at hM0 hS ⊢
 repeat (first | refine AWp.seq ?_ | refine AWp.block ?_)
 apply AWp.reg [] []
 ·conv=>lhs;simp
 ·trivial
 repeat (first | refine AWp.seq ?_ | refine AWp.block ?_)
 refine AWp.cond rfl (fun h=>?_) (fun h=>?_)
 ·have hi1 : i < cs.length:=by have:=of_decide_eq_true h;omega
  have h1 : cs[i]? = some cs[i]:=List.getElem?_eq_getElem hi1
  have hmem : cs[i]∈cs:=List.getElem_mem hi1
  generalize cs[i] = x at h1 hmem
  have lx:=x.freeC_len
  have lt:=Cs.szs_take h1
  have hS1:=hS x h1
  obtain ⟨g,ws,x⟩:=x
  obtain ⟨oc1,oc2⟩:=hF.case hmem
  have hx:=ih x (by have:=Tm.sz_case (k:=k) (n:=n) (a:=a) (b:=b) (vs:=vs) (xs:=xs) hmem;omega) oc1
  have lx2:=x.D6
  have hsz2 : (Cs.mk g ws x).sz = x.sz:=rfl
  simp only [Cs.Lj] at hS1
  have had:=cs_Free1 M x.free ws (by omega) (by omega)
  rw [← hS1] at had
  obtain ⟨M',hM'⟩ : ∃ M',M' = Cs.frees L (cs.take (i + 1)):=⟨_,rfl⟩
  rw [← hM'] at had
  generalize x.free = fx at *
  obtain ⟨xk,xn,xa,xb,xv,xx,xc⟩:=x
  refine AWp.skip ?_
  refine AWp.rg [] [] ?_ (hr:=by conv=>lhs;simp [h1,Cs.row,Tm.row,Tm.Q3,Cs.Q3])
  repeat (first | refine AWp.seq ?_ | refine AWp.block ?_)
  apply AWp.draw [3] [.p (fun d=>.arr d 0 fx.length) (some (.arr 9 1 (fx.map Zw))),.c [(1000,3),(500,400)] [X6 fx,X6 ws,.ptr 1000 0] [(1000,.blk 28 [.arr 500 0 M.length]),(500,.arr 9 1 (M.map Zw))] (Z6 []) [(1000,.blk 28 [.arr 500 0 M'.length]),(500,.arr 9 1 (M'.map Zw))]] mixed
  ·conv=>lhs;simp [Xw,Qx,Yk,Z6]
  ·kernel_rfl
  ·exact ⟨hx,had⟩
  refine AWp.rg [] [] ?_
  refine ⟨⟨i + 1,hi1⟩,by simp;omega,?_⟩
  dsimp only
  rw [← hM']
  exact Le.sub (by simp) (by simp [Qx,Yk])
 have hi1 : i = cs.length:=by have:=of_decide_eq_false h;omega
 subst hi1
 rw [List.take_length] at hM
 rw [← hM]
 refine AWp.exit ?_
 repeat (first | refine AWp.seq ?_ | refine AWp.block ?_)
 apply AWp.reg [] []
 ·conv=>lhs;simp [Yk]
 ·trivial
 refine AWp.ret ?_
 try dsimp only [Qq,Q8]
 apply endX.ret 400
 ·conv=>lhs;simp [Q9,Tryd.results98]
 ·rfl
 ·rfl
 ·rfl
theorem Qz5 (t : Tm) (h : t.Fit) : Qw Tryd.prog 98 [Xw t] (fun d=>.arr d 0 t.free.length) (some (.arr 9 1 (t.free.map Zw))):=sp_refFree_at _ t (Nat.lt_succ_self _) h
@[simp] theorem u8min : IntKind.u8.min = 0:=rfl
@[simp] theorem u8max : IntKind.u8.max = 255:=rfl
@[simp] theorem i32min : IntKind.i32.min = -2147483648:=rfl
@[simp] theorem i32max : IntKind.i32.max = 2147483647:=rfl
def chOk (i : Nat) (c : UInt8) : Bool:=(decide ((97 : Int)≤c.toNat) && decide ((c.toNat : Int)≤122)) || ((decide ((48 : Int)≤c.toNat) && decide ((c.toNat : Int)≤57)) && !(i == 0))
def Gx (s : ByteArray) : Bool:=((List.range s.size).all fun j=>match s[j]? with | some c=>chOk j c | none=>true) && (decide (1≤(s.size : Int)) && decide ((s.size : Int)≤8))
theorem nameB_bad {s : ByteArray} {i : Nat} {c : UInt8} (h : s[i]? = some c) (hi : i < s.size) (hc : chOk i c = false) : Gx s = false:=by
 unfold Gx
 rw [Bool.and_eq_false_iff]
 left
 rw [List.all_eq_false]
 exact ⟨i,List.mem_range.2 hi,by rw [h];simp [hc]⟩
theorem nameB_good {s : ByteArray} (h : ∀ j < s.size,∀ c,s[j]? = some c→chOk j c = true) : Gx s = (decide (1≤(s.size : Int)) && decide ((s.size : Int)≤8)):=by
 unfold Gx
 have : ((List.range s.size).all fun j=>match s[j]? with | some c=>chOk j c | none=>true) = true:=by
  rw [List.all_eq_true]
  intro j hj
  have:=h j (List.mem_range.1 hj)
  revert this
  cases s[j]? with
  | none=>intro _;rfl
  | some c=>intro h;exact h c rfl
 rw [this,Bool.true_and]
set_option maxRecDepth 20000 in
set_option maxHeartbeats 4000000 in
theorem sp_Name (s : ByteArray) (hs : s.size≤9223372036854775806) : Qw Tryd.prog 27 [.d (.str s)] (fun _=>.d (.bool (Gx s))) none:=by
 refine Qw.of Tryd.func27 rfl rfl rfl (Nat.le_of_ble_eq_true rfl) ?_
 show AWp _ _ (Zk _ Tryd.f27 _ _ _) (Z7 50 _)
 repeat (first | refine AWp.seq ?_ | refine AWp.block ?_)
 apply AWp.reg [] []
 ·conv=>lhs;simp
 ·trivial
 repeat (first | refine AWp.seq ?_ | refine AWp.block ?_)
 apply AWp.reg [] []
 ·conv=>lhs;simp
 ·trivial
 repeat (first | refine AWp.seq ?_ | refine AWp.block ?_)
 refine AWp.loop (σ:=fun u : {i : Nat // i≤s.size∧∀ j < i,∀ c,s[j]? = some c→chOk j c = true}=>⟨50,[(0,.d (.str s)),(7,.d (.int s.size)),(8,.d (.int u.1))],[]⟩)
  (μ:=fun u=>s.size - u.1) ⟨0,Nat.zero_le _,by simp⟩ (Le.sub (by simp) (by simp)) (fun ⟨i,hi,ht⟩=>?_)
 dsimp only
 repeat (first | refine AWp.seq ?_ | refine AWp.block ?_)
 apply AWp.reg [] []
 ·conv=>lhs;simp
 ·trivial
 repeat (first | refine AWp.seq ?_ | refine AWp.block ?_)
 refine AWp.cond rfl (fun h=>?_) (fun h=>?_)
 ·have hi1 : i < s.size:=by have:=of_decide_eq_true h;omega
  have h1 : s[i]? = some s[i]:=by rw [getElem?_pos]
  generalize s[i] = c at h1
  have hc : chOk i c = ((decide ((97 : Int)≤c.toNat) && decide ((c.toNat : Int)≤122)) || ((decide ((48 : Int)≤c.toNat) && decide ((c.toNat : Int)≤57)) && !(i == 0))):=rfl
  obtain ⟨A,hA⟩ : ∃ A,A = decide ((97 : Int)≤c.toNat):=⟨_,rfl⟩
  obtain ⟨B,hB⟩ : ∃ B,B = decide ((c.toNat : Int)≤122):=⟨_,rfl⟩
  obtain ⟨C,hC⟩ : ∃ C,C = decide ((48 : Int)≤c.toNat):=⟨_,rfl⟩
  obtain ⟨E,hE⟩ : ∃ E,E = decide ((c.toNat : Int)≤57):=⟨_,rfl⟩
  rw [← hA,← hB,← hC,← hE] at hc
  refine AWp.skip ?_
  repeat (first | refine AWp.seq ?_ | refine AWp.block ?_)
  apply AWp.reg [] []
  ·conv=>lhs;simp
  ·trivial
  refine AWp.seqJ ⟨50,[(0,.d (.str s)),(3,.d (.int i)),(4,.d (.bool (A && B))),(5,.d (.bool (C && E))),(7,.d (.int s.size)),(8,.d (.int i))],[]⟩ ?_ (fun W hW=>?_)
  rotate_left
  ·cases A <;> cases B <;> cases C <;> cases E
   all_goals (
    have qA:=hA.symm
    have qB:=hB.symm
    have qC:=hC.symm
    have qE:=hE.symm
    simp only [decide_eq_true_eq,decide_eq_false_iff_not] at qA qB qC qE
    refine AWp.dw [] [] mixed ?_ (hr:=by conv=>lhs;simp [h1,qA,qB,qC,qE])
    exact hW _ (Le.sub (by simp) (by simp)))
  obtain ⟨L,hL⟩ : ∃ L,L = (A && B):=⟨_,rfl⟩
  obtain ⟨G,hG⟩ : ∃ G,G = (C && E):=⟨_,rfl⟩
  rw [← hL,← hG] at hc ⊢
  have step : chOk i c = true→∀ j < i + 1,∀ c,s[j]? = some c→chOk j c = true:=fun hok j hj c' hc'=>by
   rcases Nat.lt_or_ge j i with hlt | hge
   ·exact ht j hlt c' hc'
   ·obtain rfl : j = i:=by omega
    rw [h1] at hc'
    cases hc'
    exact hok
  by_cases hz : i = 0
  ·subst hz
   cases L <;> cases G
   all_goals first
    | (
     have hbad:=nameB_bad h1 hi1 (by rw [hc];rfl)
     refine AWp.rg [] [] ?_
     repeat (first | refine AWp.seq ?_ | refine AWp.block ?_)
     refine AWp.cond rfl (fun h2=>?_) (fun h2=>?_)
     rotate_left
     ·cases h2
     refine AWp.rg [] [] ?_
     refine AWp.ret ?_
     try dsimp only [Qq,Q8]
     apply Zk.ret
     ·rfl
     ·conv=>lhs;simp [Q9,Tryd.results27]
     rw [hbad];rfl)
    | (
     have hgood:=step (by rw [hc];rfl)
     refine AWp.rg [] [] ?_
     repeat (first | refine AWp.seq ?_ | refine AWp.block ?_)
     refine AWp.cond rfl (fun h2=>?_) (fun h2=>?_)
     ·cases h2
     refine AWp.skip ?_
     refine AWp.rg [] [] ?_
     refine ⟨⟨0 + 1,hi1,hgood⟩,by simp;omega,Le.sub (by simp) (by simp)⟩)
  ·have hz' : ¬ (i : Int) = 0:=by omega
   have hzb : (i == 0) = false:=by simp [hz]
   rw [hzb] at hc
   cases L <;> cases G
   all_goals first
    | (
     have hbad:=nameB_bad h1 hi1 (by rw [hc];rfl)
     refine AWp.rg [] [] ?_ (hr:=by conv=>lhs;simp [hz])
     repeat (first | refine AWp.seq ?_ | refine AWp.block ?_)
     refine AWp.cond rfl (fun h2=>?_) (fun h2=>?_)
     rotate_left
     ·cases h2
     refine AWp.rg [] [] ?_
     refine AWp.ret ?_
     try dsimp only [Qq,Q8]
     apply Zk.ret
     ·rfl
     ·conv=>lhs;simp [Q9,Tryd.results27]
     rw [hbad];rfl)
    | (
     have hgood:=step (by rw [hc];rfl)
     refine AWp.rg [] [] ?_ (hr:=by conv=>lhs;simp [hz])
     repeat (first | refine AWp.seq ?_ | refine AWp.block ?_)
     refine AWp.cond rfl (fun h2=>?_) (fun h2=>?_)
     ·cases h2
     refine AWp.skip ?_
     refine AWp.rg [] [] ?_
     refine ⟨⟨i + 1,hi1,hgood⟩,by simp;omega,Le.sub (by simp) (by simp)⟩)
 have hi1 : i = s.size:=by have:=of_decide_eq_false h;omega
 subst hi1
 have hg:=nameB_good ht
 rw [hg]
 refine AWp.exit ?_
 by_cases g1 : (1 : Int)≤s.size
 ·by_cases g2 : (s.size : Int)≤8
  ·refine AWp.rg [] [] ?_ (hr:=by conv=>lhs;simp [g1,g2])
   refine AWp.ret ?_
   try dsimp only [Qq,Q8]
   apply Zk.ret
   ·rfl
   ·conv=>lhs;simp [Q9,Tryd.results27]
   rw [decide_eq_true g1,decide_eq_true g2];rfl
  ·refine AWp.rg [] [] ?_ (hr:=by conv=>lhs;simp [g1,g2])
   refine AWp.ret ?_
   try dsimp only [Qq,Q8]
   apply Zk.ret
   ·rfl
   ·conv=>lhs;simp [Q9,Tryd.results27]
   rw [decide_eq_true g1,decide_eq_false g2];rfl
 ·refine AWp.rg [] [] ?_ (hr:=by conv=>lhs;simp [g1])
  refine AWp.ret ?_
  try dsimp only [Qq,Q8]
  apply Zk.ret
  ·rfl
  ·conv=>lhs;simp [Q9,Tryd.results27]
  rw [decide_eq_false g1];rfl
end Go.Proofs.YtjpldhjgehoffaaDoor
