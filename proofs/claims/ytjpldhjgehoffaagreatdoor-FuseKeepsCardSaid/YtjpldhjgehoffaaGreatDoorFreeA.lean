import Derived.Test.YtjpldhjgehoffaaGreatDoorOpen
import Derived.Test.YtjpldhjgehoffaaGreatDoorTy
import Derived.Lib.ItoaLen
set_option maxHeartbeats 8000000
set_option maxRecDepth 20000
namespace Go.Proofs.YtjpldhjgehoffaaGreatDoor
open Go.RowKit
set_option linter.unusedVariables false
set_option linter.unusedSimpArgs false
mutual
inductive Tm where
 |mk (kind n:Int) (name token:ByteArray) (vars:List ByteArray) (args:List Tm) (cases:List Cs)
inductive Cs where
 |mk (tag:Int) (vars:List ByteArray) (body:Tm)
end
structure Fn where
 name:ByteArray
 params:List ByteArray
 body:Tm
mutual
def Tm.Ok:Tm→Prop
 | .mk _ _ a b vs xs cs=>(a.size≤140737488355328∧b.size≤140737488355328∧(∀s∈vs,s.size≤140737488355328))∧(vs.length≤8796093022207∧xs.length≤1172812402960∧cs.length≤925904528652)∧Tm.Oks xs∧Cs.Oks cs
def Tm.Oks:List Tm→Prop
 |[]=>True
 |t::r=>t.Ok∧Tm.Oks r
def Cs.Ok:Cs→Prop
 | .mk _ vs b=>(∀s∈vs,s.size≤140737488355328)∧vs.length≤8796093022207∧b.Ok
def Cs.Oks:List Cs→Prop
 |[]=>True
 |c::r=>c.Ok∧Cs.Oks r
end
theorem Tm.X8:∀{l:List Tm},Tm.Oks l↔∀t∈l,t.Ok
 |[]=>by simp[Tm.Oks]
 |t::r=>by simp[Tm.Oks,Tm.X8 (l:=r)]
theorem Cs.X8:∀{l:List Cs},Cs.Oks l↔∀t∈l,t.Ok
 |[]=>by simp[Cs.Oks]
 |t::r=>by simp[Cs.Oks,Cs.X8 (l:=r)]
structure Fn.Ok (f:Fn):Prop where
 name:f.name.size≤140737488355328
 params:f.params.length≤8796093022207
 sizes:∀s∈f.params,s.size≤140737488355328
 body:f.body.Ok
structure M9 (l:List Fn):Prop where
 len:l.length≤879609302220
 all:∀f∈l,f.Ok
theorem M9.fn {l:List Fn} (h:M9 l):∀f∈l,f.body.Ok∧f.params.length≤8796093022207:=fun f hf=>⟨(h.all f hf).body,(h.all f hf).params⟩
abbrev Z0 (s:ByteArray):List D:=[.str s]
abbrev Q8 (l:List ByteArray):D:=.sl (l.map Z0)
mutual
def Tm.row:Tm→List D
 | .mk k n a b vs xs cs=>[.int k,.int n,.str a,.str b,Q8 vs,.sl (Tm.rows xs),.sl (Cs.rows cs)]
def Tm.rows:List Tm→List (List D)
 |[]=>[]
 |t::r=>t.row::Tm.rows r
def Cs.row:Cs→List D
 | .mk t vs b=>.int t::Q8 vs::b.row
def Cs.rows:List Cs→List (List D)
 |[]=>[]
 |c::r=>c.row::Cs.rows r
end
theorem Tm.Q3 (l:List Tm):Tm.rows l=l.map Tm.row:=by
 induction l with
 |nil=>rfl
 |cons t r ih=>simp only[Tm.rows,List.map_cons,ih]
theorem Cs.Q3 (l:List Cs):Cs.rows l=l.map Cs.row:=by
 induction l with
 |nil=>rfl
 |cons t r ih=>simp only[Cs.rows,List.map_cons,ih]
def Fn.row (f:Fn):List D:=.str f.name::Q8 f.params::f.body.row
mutual
def Tm.sz:Tm→Nat
 | .mk _ _ _ _ _ xs cs=>1+Tm.szs xs+Cs.szs cs
def Tm.szs:List Tm→Nat
 |[]=>0
 |t::r=>t.sz+Tm.szs r
def Cs.sz:Cs→Nat
 | .mk _ _ b=>b.sz
def Cs.szs:List Cs→Nat
 |[]=>0
 |c::r=>c.sz+Cs.szs r
end
theorem Tm.X0 {t:Tm}:∀{l:List Tm},t∈l→t.sz≤Tm.szs l
 |[],h=>by cases h
 |x::l,h=>by
  simp only[Tm.szs];rcases List.mem_cons.1 h with rfl|h
  ·omega
  ·have:=Tm.X0 h;omega
theorem Cs.X0 {t:Cs}:∀{l:List Cs},t∈l→t.sz≤Cs.szs l
 |[],h=>by cases h
 |x::l,h=>by
  simp only[Cs.szs];rcases List.mem_cons.1 h with rfl|h
  ·omega
  ·have:=Cs.X0 h;omega
def Cs.tag:Cs→Int| .mk t _ _=>t
def Cs.vars:Cs→List ByteArray| .mk _ v _=>v
def Cs.body:Cs→Tm| .mk _ _ b=>b
def Tm.kind:Tm→Int| .mk k _ _ _ _ _ _=>k
def Tm.n:Tm→Int| .mk _ n _ _ _ _ _=>n
def Tm.name:Tm→ByteArray| .mk _ _ a _ _ _ _=>a
def Tm.token:Tm→ByteArray| .mk _ _ _ b _ _ _=>b
def Tm.vars:Tm→List ByteArray| .mk _ _ _ _ v _ _=>v
def Tm.args:Tm→List Tm| .mk _ _ _ _ _ a _=>a
def Tm.cases:Tm→List Cs| .mk _ _ _ _ _ _ c=>c
abbrev X9:Tm→AV
 | .mk k n a b vs xs cs=>.agg [.d (.int k),.d (.int n),.d (.str a),.d (.str b),.d (Q8 vs),.d (.sl (xs.map Tm.row)),.d (.sl (cs.map Cs.row))]
abbrev L6 (l:List Fn):AV:=.d (.sl (l.map Fn.row))
abbrev Zk (l:List ByteArray):AV:=.d (Q8 l)
section
variable {ds:List D}
theorem strs_ok (h:RT Tryz.prog 41 ds):∃l:List ByteArray,ds=[Q8 l]∧l.length≤8796093022207∧∀s∈l,s.size≤140737488355328:=by
 obtain⟨l,rfl,hl,hs⟩:=h.strs_inv Tryz.underlying41 Tryz.underlying9;rw[show Tryz.prog.bytesOf 9=16 by kernel_rfl]at hl;unfold reachBytes at hl hs;exact⟨l,rfl,by omega,fun s hm=>by have:=hs s hm;omega⟩
theorem tm_inv:∀(t:TypeId) (ds:List D),RT Tryz.prog t ds→(t=45→∃x:Tm,ds=x.row∧x.Ok)∧(t=42→∃x:List Tm,ds=[.sl (x.map Tm.row)]∧x.length≤1172812402960∧∀y∈x,y.Ok)∧(t=90→∃x:Cs,ds=x.row∧x.Ok)∧(t=43→∃x:List Cs,ds=[.sl (x.map Cs.row)]∧x.length≤925904528652∧∀y∈x,y.Ok):=by
 intro t ds h;induction h with
 |int n h lo hi=>
  refine⟨?_,?_,?_,?_⟩<;> (rintro rfl;first|(rw[Tryz.underlying45]at h;cases h)|(rw[Tryz.underlying42]at h;cases h)|(rw[Tryz.underlying90]at h;cases h)|(rw[Tryz.underlying43]at h;cases h))
 |bool b h=>
  refine⟨?_,?_,?_,?_⟩<;> (rintro rfl;first|(rw[Tryz.underlying45]at h;cases h)|(rw[Tryz.underlying42]at h;cases h)|(rw[Tryz.underlying90]at h;cases h)|(rw[Tryz.underlying43]at h;cases h))
 |str s h hs=>
  refine⟨?_,?_,?_,?_⟩<;> (rintro rfl;first|(rw[Tryz.underlying45]at h;cases h)|(rw[Tryz.underlying42]at h;cases h)|(rw[Tryz.underlying90]at h;cases h)|(rw[Tryz.underlying43]at h;cases h))
 |sl rows h hl hr ih=>
  refine⟨?_,?_,?_,?_⟩
  ·rintro rfl;rw[Tryz.underlying45]at h;cases h
  ·rintro rfl;rw[Tryz.underlying42]at h;cases h;obtain⟨l,rfl,hp⟩:=rows_inv (row:=Tm.row) (p:=Tm.Ok) fun r hr'=>(ih r hr').1 rfl
   refine⟨l,rfl,?_,hp⟩;rw[List.length_map,show Tryz.prog.bytesOf 45=120 by kernel_rfl]at hl;unfold reachBytes at hl;omega
  ·rintro rfl;rw[Tryz.underlying90]at h;cases h
  ·rintro rfl;rw[Tryz.underlying43]at h;cases h;obtain⟨l,rfl,hp⟩:=rows_inv (row:=Cs.row) (p:=Cs.Ok) fun r hr'=>(ih r hr').2.2.1 rfl
   refine⟨l,rfl,?_,hp⟩;rw[List.length_map,show Tryz.prog.bytesOf 90=152 by kernel_rfl]at hl;unfold reachBytes at hl;omega
 |struct parts h hl hf ih=>
  refine⟨?_,?_,?_,?_⟩
  ·rintro rfl;rw[Tryz.underlying45]at h;cases h;match parts,hl with
   |[p0,p1,p2,p3,p4,p5,p6],_=>
    obtain⟨k,rfl,_⟩:=(hf 0 _ p0 rfl rfl).J7 Tryz.underlying3;obtain⟨n,rfl,_⟩:=(hf 1 _ p1 rfl rfl).J7 Tryz.underlying3;obtain⟨a,rfl,ha⟩:=(hf 2 _ p2 rfl rfl).R9 Tryz.underlying9;obtain⟨b,rfl,hb⟩:=(hf 3 _ p3 rfl rfl).R9 Tryz.underlying9;obtain⟨vs,rfl,hv,hvs⟩:=strs_ok (hf 4 _ p4 rfl rfl);obtain⟨xs,rfl,hx,hxs⟩:=(ih 5 _ p5 rfl rfl).2.1 rfl;obtain⟨cs,rfl,hc,hcs⟩:=(ih 6 _ p6 rfl rfl).2.2.2 rfl;unfold reachBytes at ha hb;exact⟨.mk k n a b vs xs cs,by simp[Tm.row,Tm.Q3,Cs.Q3],⟨⟨by omega,by omega,hvs⟩,⟨hv,hx,hc⟩,Tm.X8.2 hxs,Cs.X8.2 hcs⟩⟩
  ·rintro rfl;rw[Tryz.underlying42]at h;cases h
  ·rintro rfl;rw[Tryz.underlying90]at h;cases h;match parts,hl with
   |[p0,p1,p2],_=>
    obtain⟨k,rfl,_⟩:=(hf 0 _ p0 rfl rfl).J7 Tryz.underlying3;obtain⟨vs,rfl,hv,hvs⟩:=strs_ok (hf 1 _ p1 rfl rfl);obtain⟨b,rfl,hb⟩:=(ih 2 _ p2 rfl rfl).1 rfl;exact⟨.mk k vs b,by simp[Cs.row],hvs,hv,hb⟩
  ·rintro rfl;rw[Tryz.underlying43]at h;cases h
theorem fn_inv (h:RT Tryz.prog 47 ds):∃f:Fn,ds=f.row∧f.Ok:=by
 obtain⟨p0,p1,p2,rfl,h0,h1,h2⟩:=h.struct3_inv Tryz.underlying47;obtain⟨a,rfl,ha⟩:=h0.R9 Tryz.underlying9;obtain⟨vs,rfl,hv,hvs⟩:=strs_ok h1;obtain⟨b,rfl,hb⟩:=(tm_inv _ _ h2).1 rfl;unfold reachBytes at ha;exact⟨⟨a,vs,b⟩,by simp[Fn.row],⟨(by omega:a.size≤140737488355328),hv,hvs,hb⟩⟩
theorem fns_inv {c:AV} (h:Mq Tryz.prog 22 c):∃l:List Fn,c= .d (.sl (l.map Fn.row))∧M9 l:=by
 obtain⟨l,rfl,hl,hp⟩:=h.list (fun r hr=>fn_inv hr) Tryz.underlying22;rw[show Tryz.prog.bytesOf 47=160 by kernel_rfl]at hl;unfold reachBytes at hl;exact⟨l,rfl,by omega,hp⟩
end
end Go.Proofs.YtjpldhjgehoffaaGreatDoor
namespace Go.Proofs.YtjpldhjgehoffaaGreatDoor
open Go.RowKit
set_option linter.unusedVariables false
set_option linter.unusedSimpArgs false
def Gj (n:Int):ByteArray:=⟨(Lib.itoa n).toArray⟩
theorem Rx {n:Int} (h:inI n):(Gj n).size≤21:=by
 have:=Lib.itoa_length_le n h.1 h.2;simpa[Gj,ByteArray.size]using this
theorem sp_Itoa (n:Int) (h:inI n):Z4 Tryz.prog 67 [.d (.int n)] (fun _=>.d (.str (Gj n))) none:=by
 refine⟨⟨_,Tryz.func67,rfl,rfl⟩,fun d=>rfl,fun _ d=>rfl,by simp,fun d w ok vals hgi hok hl hv=>?_⟩;match vals,hl with
 |⟨[v]⟩,_=>
 obtain⟨rfl,_⟩:=(hv 0 _ v rfl rfl).Zv.J7;refine(Tryz.strconv_Itoa n h.1 h.2 w hgi.pow).mono ?_;rintro e w' ⟨rfl,k,os,rfl⟩;have hs:=Rx h;refine⟨_,ok,noG,rfl,⟨rfl,rfl,rfl,by simp[Go.Sort.grow,World.drewN],fun b hb=>?_⟩,fun b h=>h,fun b h=>.inl h,.d _ _ (.str _ (by unfold maxLen;omega)),by simp⟩;simp only[Go.Sort.grow,World.drewN];rw[Array.getElem?_append_left hb]
mutual
def AV.inK (o k:Nat):AV→Prop
 | .arr o' lo n=>o'=o→lo+n≤k
 | .agg cs=>AV.inKL o k cs
 | .tuple cs=>AV.inKL o k cs
 | .clo _ cs=>AV.inKL o k cs
 |_=>True
def AV.inKL (o k:Nat):List AV→Prop
 |[]=>True
 |x::r=>AV.inK o k x∧AV.inKL o k r
end
theorem AV.inKL_get {o k:Nat} {l:List AV} (h:AV.inKL o k l) (i:Nat) (c:AV) (hi:l[i]? =some c):c.inK o k:=by
 induction l generalizing i with
 |nil=>simp at hi
 |cons x r ih=>
  rcases i with _|i
  ·simp at hi;subst hi;exact h.1
  ·simp at hi;exact ih h.2 i hi
def frInK (o k:Nat):List (Nat×AV)→Prop
 |[]=>True
 |x::r=>x.2.inK o k∧frInK o k r
def memInK (o k:Nat):List (Nat×Option Qz)→Prop
 |[]=>True
 |x::r=>(match x.2 with|some (.blk _ cs)=>AV.inKL o k cs|_=>True)∧memInK o k r
theorem frInK_get {o k:Nat}:∀{f:List (Nat×AV)} (h:frInK o k f) (t:Nat),(Zj f t).inK o k
 |[],_,t=>by simp[Zj,AV.inK]
 |x::r,h,t=>by
  simp only[Zj];split
  ·exact h.1
  ·exact frInK_get h.2 t
theorem memInK_get {o k:Nat}:∀{f:List (Nat×Option Qz)} (h:memInK o k f) (i:Nat) (t:TypeId) (cs:List AV),Q4 f i=some (.blk t cs)→AV.inKL o k cs
 |[],_,i,t,cs,hi=>by simp[Q4]at hi
 |x::r,h,i,t,cs,hi=>by
  simp only[Q4]at hi;split at hi
  ·have:=h.1;rw[hi]at this;exact this
  ·exact memInK_get h.2 i t cs hi
section
variable {w:World} {ok:Nat→Prop} {g:Gh} {m m':Me}
theorem VR.cut {o k:Nat} {e:TypeId} {sz:Nat} {rows:List (List D)} {c:AV} {v:Value} (h:VR w ok g m c v) (hx:m o=some (.arr e sz rows)) (hk:k≤rows.length)
  (hm:∀i,m' i=if i=o then some (.arr e sz (rows.take k))else m i):c.inK o k→VR w ok g m' c v:=by
 induction h with
 |any v=>exact fun _=>.any v
 |d d v h=>exact fun _=>.d d v h
 |lit v h=>exact fun _=>.lit v h
 |fl rows v h hr=>exact fun _=>.fl rows v h hr
 |ptr o1 off v hv h=>
  refine fun _=>.ptr o1 off v hv fun x hx'=>?_
  rw[hm]at hx';split at hx'
  ·rename_i h1;rw[h1]at h⊢;exact h _ hx
  ·exact h x hx'
 |arr o1 lo n v hv h=>
  refine fun hc=>.arr o1 lo n v hv fun e' sz' rows' hx'=>?_
  rw[hm]at hx';split at hx'
  ·rename_i h1;simp only[Option.some.injEq,Qz.arr.injEq]at hx';obtain⟨rfl,rfl,rfl⟩:=hx';have:=hc h1;rw[h1]at h⊢;refine⟨by rw[List.length_take];omega,(h _ _ _ hx).2⟩
  ·exact h _ _ _ hx'
 |U2 o1 i j v hv h=>
  refine fun _=>.U2 o1 i j v hv fun e' sz' rows' hx'=>?_
  rw[hm]at hx';split at hx'
  ·rename_i h1;simp only[Option.some.injEq,Qz.arr.injEq]at hx';obtain⟨rfl,rfl,rfl⟩:=hx';rw[h1]at h⊢;exact h _ _ _ hx
  ·exact h _ _ _ hx'
 |mp o1 v hv h=>
  refine fun _=>.mp o1 v hv fun x hx'=>?_
  rw[hm]at hx';split at hx'
  ·rename_i h1;rw[h1]at h⊢;exact h _ hx
  ·exact h x hx'
 |agg cs vs hl h h1 ih=>exact fun hc=>.agg cs vs hl (fun i c v hi hv=>ih i c v hi hv (AV.inKL_get hc i c hi)) h1
 |tuple cs vs hl h ih=>exact fun hc=>.tuple cs vs hl (fun i c v hi hv=>ih i c v hi hv (AV.inKL_get hc i c hi))
 |clo f cs vs hl h ih=>exact fun hc=>.clo f cs vs hl (fun i c v hi hv=>ih i c v hi hv (AV.inKL_get hc i c hi))
end
theorem Le.cut {s:AS} (o k:Nat) {e:TypeId} {sz:Nat} {rows rows':List (List D)} (hx:Q4 s.mem o=some (.arr e sz rows)) (hr:rows.take k=rows') (hk:k≤rows.length)
  (hf:frInK o k s.fr) (hmm:memInK o k s.mem):Le s ⟨s.n,s.fr,(o,some (.arr e sz rows'))::s.mem⟩:=by
 subst hr;rintro C a w ⟨ok,g,hM,h1,h2,h3⟩;have em:∀i,Q4 ((o,some (.arr e sz (rows.take k)))::s.mem) i=if i=o then some (.arr e sz (rows.take k))else Q4 s.mem i:=fun i=>by
  simp only[Q4];by_cases h:i=o
  ·rw[if_pos h,h];simp
  ·rw[if_neg h,if_neg (by simpa using fun h'=>h h'.symm)]
 have vr:∀{c v},VR w ok g (Q4 s.mem) c v→c.inK o k→VR w ok g (Q4 ((o,some (.arr e sz (rows.take k)))::s.mem)) c v:=fun h=>h.cut hx hk em
 have inv:∀{i x},Q4 ((o,some (.arr e sz (rows.take k)))::s.mem) i=some x→∃y,Q4 s.mem i=some y:=fun {i x} h=>by
  rw[em]at h;split at h
  ·rename_i h1;exact⟨_,h1▸hx⟩
  ·exact⟨x,h⟩
 refine⟨ok,g,⟨fun i x hi=>?_,fun i j xi xj b hi hj hbi hbj=>?_,fun i x b hi hb=>?_,hM.okb,hM.okk,hM.size,hM.heap,hM.keep,hM.os,hM.tape,hM.output,hM.gi,hM.gb⟩,h1,h2,fun t=>?_⟩
 ·rw[em]at hi;split at hi
  ·rename_i h1;subst h1;cases hi;obtain⟨k1,k2,k3⟩:=hM.obj _ _ hx;have hlt:∀(j:Nat) (r:List D),(rows.take k)[j]? =some r→rows[j]? =some r:=fun j r h=>by
    rw[List.getElem?_take]at h;split at h
    ·exact h
    ·cases h
   refine⟨k1,fun j r hj=>k2 j r (hlt j r hj),?_⟩;rcases k3 with⟨k3,rfl⟩|⟨b,cur,k3,k4,k5,k6,k7,k8⟩
   ·exact .inl ⟨k3,by simp⟩
   ·exact .inr ⟨b,cur,k3,k4,by rw[List.length_take];omega,k6,k7,fun i j r c v hi=>k8 i j r c v (hlt i r hi)⟩
  ·rename_i h1;have hO:=hM.obj _ _ hi;cases x with
   |blk t cs=>
    obtain⟨b,vs,k1,k2,k3,k4,k5⟩:=hO;exact⟨b,vs,k1,k2,k3,fun j c v hc hv=>vr (k4 j c v hc hv) (AV.inKL_get (memInK_get hmm i t cs hi) j c hc),k5⟩
   |arr e sz rows=>exact hO
   |map ks ag n ents=>exact hO
   |raw r=>exact hO
 ·obtain⟨_,hi⟩:=inv hi;obtain⟨_,hj⟩:=inv hj;exact hM.inj _ _ _ _ b hi hj hbi hbj
 ·obtain⟨_,hi⟩:=inv hi;exact hM.own _ _ b hi hb
 ·exact vr (h3 t) (frInK_get hf t)
theorem Qk.le {P:Program} {fn:Func} {r:AV} {m':Mo} {x:Exit} {s s':AS} (hl:Le s s') (h:Qk P fn r m' x s'):Qk P fn r m' x s:=by
 obtain⟨h1,s2,h2,h3⟩:=h;exact⟨h1,s2,hl.trans h2,h3⟩
end Go.Proofs.YtjpldhjgehoffaaGreatDoor
namespace Go.Proofs.YtjpldhjgehoffaaGreatDoor
open Go.RowKit
set_option linter.unusedVariables false
set_option linter.unusedSimpArgs false
structure Iq (l:List (D×List D)):Prop where
 form:∀p∈l,∃(s:ByteArray) (r:List D),p=(.str s,r)
 nodup:l.Pairwise fun p q=>D.keq p.1 q.1=false
theorem Qk3 (a b:ByteArray):D.keq (.str a) (.str b)=decide (a=b):=rfl
theorem Iq.nil:Iq []:=⟨(fun p hp=>by cases hp),List.Pairwise.nil⟩
theorem Iq.put {l:List (D×List D)} (h:Iq l) (s:ByteArray) (r:List D):Iq (D.Fz (.str s) r l):=by
 refine⟨fun p hp=>?_,D.aput_nodup _ _ h.nodup⟩;rcases List.mem_cons.1 hp with rfl|hp
 ·exact⟨s,r,rfl⟩
 ·exact h.form p (List.mem_filter.1 hp).1
theorem Iq.del {l:List (D×List D)} (h:Iq l) (s:ByteArray):Iq (D.Sj (.str s) l):=⟨fun p hp=>h.form p (List.mem_filter.1 hp).1,D.adel_nodup _ h.nodup⟩
theorem Iq.mem {l:List (D×List D)} (h:Iq l) {s:ByteArray} {r:List D}:(D.str s,r)∈l↔D.Xz (.str s) l=some r:=by
 constructor
 ·intro hm;obtain⟨j,hj⟩:=List.mem_iff_getElem?.1 hm;exact D.aget_some (ks:=true) rfl h.nodup hj
 ·exact fun hg=>D.aget_mem hg
theorem aput_same {s:ByteArray} {r:List D} {l:List (D×List D)}:D.Xz (.str s) (D.Fz (.str s) r l)=some r:=D.aput_get _ (ks:=true) rfl _ _
theorem aput_other {s t:ByteArray} (h:¬t=s) {r:List D} {l:List (D×List D)}:D.Xz (.str s) (D.Fz (.str t) r l)=D.Xz (.str s) l:=D.aput_get_ne (by rw[Qk3];exact decide_eq_false h) _ _
theorem Iq.nd {l:List (D×List D)} (h:Iq l):l.Nodup:=by
 refine h.nodup.imp_of_mem fun {a b} ha hb hk e=>?_
 subst e;obtain⟨s,r,rfl⟩:=h.form a ha;rw[Qk3]at hk;simp at hk
theorem Iq.perm {l l':List (D×List D)} (h:Iq l) (h':Iq l') (hg:∀s,D.Xz (.str s) l=D.Xz (.str s) l'):l.Perm l':=by
 refine(List.perm_ext_iff_of_nodup h.nd h'.nd).2 fun p=>⟨fun hp=>?_,fun hp=>?_⟩
 ·obtain⟨s,r,rfl⟩:=h.form p hp;exact h'.mem.2 (by rw[←hg s];exact h.mem.1 hp)
 ·obtain⟨s,r,rfl⟩:=h'.form p hp;exact h.mem.2 (by rw[hg s];exact h'.mem.1 hp)
def unseen (bents:List (Nat×D×List D)) (seen:List Nat):Nat:=bents.countP fun p=>!(seen.contains p.1)
theorem countP_lt {α:Type} {p q:α→Bool} {a:α}:∀{l:List α},(∀x,q x=true→p x=true)→a∈l→p a=true→q a=false→l.countP q<l.countP p
 |x::l,hi,hm,hp,hq=>by
  rw[List.countP_cons,List.countP_cons];have hle:l.countP q≤l.countP p:=List.countP_mono_left fun x _=>hi x
  rcases List.mem_cons.1 hm with rfl|hm
  ·rw[hp,hq];simp;omega
  ·have:=countP_lt hi hm hp hq;cases hx:q x with
   |true=>rw[hi x hx];simp;omega
   |false=>simp;omega
theorem unseen_lt {bents:List (Nat×D×List D)} {seen:List Nat} {p:Nat×D×List D} (hp:p∈bents) (hs:p.1 ∉ seen):unseen bents (seen++[p.1])<unseen bents seen:=by
 refine countP_lt (a:=p) (fun x hx=>?_) hp (by simpa using hs) (by simp);simp only[List.contains_append,Bool.not_or,Bool.and_eq_true]at hx;exact hx.1
structure Mid (bents:List (Nat×D×List D)) (O0:List (D×List D)) (seen:List Nat) (O:List (D×List D)):Prop where
 ents:Iq O
 get:∀s r,D.Xz (.str s) O=some r↔(∃k,(k,D.str s,r)∈bents∧k∈seen)∨((¬∃k r',(k,D.str s,r')∈bents∧k∈seen)∧D.Xz (.str s) O0=some r)
theorem births_one {bents:List (Nat×D×List D)} {l:List (D×List D)} (hp:(bents.map (·.2)).Perm l) (hl:Iq l) {k k':Nat} {s:ByteArray} {r r':List D} (h:(k,D.str s,r)∈bents) (h':(k',D.str s,r')∈bents):r=r':=by
 have e:∀{k r},(k,D.str s,r)∈bents→D.Xz (.str s) l=some r:=fun {k r} hm=>hl.mem.1 (hp.mem_iff.1 (List.mem_map.2 ⟨_,hm,rfl⟩))
 have:=e h;rw[e h']at this;exact(Option.some.inj this).symm
theorem Mid.step {bents:List (Nat×D×List D)} {l O0:List (D×List D)} {seen:List Nat} {O:List (D×List D)} (h:Mid bents O0 seen O) (hp:(bents.map (·.2)).Perm l) (hl:Iq l) (hn:(bents.map (·.1)).Nodup) {k:Nat} {t:ByteArray} {row:List D} (hm:(k,D.str t,row)∈bents):Mid bents O0 (seen++[k]) (D.Fz (.str t) row O):=by
 refine⟨h.ents.put t row,fun s r=>?_⟩;by_cases e:t=s
 ·subst e;rw[aput_same];constructor
  ·rintro⟨rfl⟩;exact .inl ⟨k,hm,by simp⟩
  ·rintro(⟨k',h1,_⟩|⟨h1,_⟩)
   ·rw[births_one hp hl hm h1]
   ·exact absurd ⟨k,row,hm,by simp⟩ h1
 ·rw[aput_other e,h.get s r];have hk:∀{k' r'},(k',D.str s,r')∈bents→k'∈seen++[k]→(bents.map (·.1)).Nodup→k'∈seen:=fun {k' r'} h1 h2 hn=>by
   rcases List.mem_append.1 h2 with h2|h2
   ·exact h2
   ·exfalso;rw[List.mem_singleton.1 h2]at h1;obtain⟨i,hi⟩:=List.mem_iff_getElem?.1 h1;obtain⟨j,hj⟩:=List.mem_iff_getElem?.1 hm;have e1:(bents.map (·.1))[i]? =some k:=by rw[List.getElem?_map,hi];rfl
    have e2:(bents.map (·.1))[j]? =some k:=by rw[List.getElem?_map,hj];rfl
    have hij:i=j:=(List.getElem?_inj (List.getElem?_eq_some_iff.1 e1).1 hn).1 (e1.trans e2.symm);subst hij;rw[hi]at hj;simp only[Option.some.injEq,Prod.mk.injEq,D.str.injEq]at hj;exact e hj.2.1.symm
  constructor
  ·rintro(⟨k',h1,h2⟩|⟨h1,h2⟩)
   ·exact .inl ⟨k',h1,by simp[h2]⟩
   ·exact .inr ⟨fun⟨k',r',h3,h4⟩=>h1 ⟨k',r',h3,hk h3 h4 hn⟩,h2⟩
  ·rintro(⟨k',h1,h2⟩|⟨h1,h2⟩)
   ·exact .inl ⟨k',h1,hk h1 h2 hn⟩
   ·exact .inr ⟨fun⟨k',r',h3,h4⟩=>h1 ⟨k',r',h3,by simp[h4]⟩,h2⟩
theorem Mid.over {bents:List (Nat×D×List D)} {l O0:List (D×List D)} {seen:List Nat} {O:List (D×List D)} (h:Mid bents O0 seen O) (hp:(bents.map (·.2)).Perm l) (hl:Iq l) (ha:∀p∈bents,p.1∈seen) (s:ByteArray):D.Xz (.str s) O=(D.Xz (.str s) l).or (D.Xz (.str s) O0):=by
 have hb:∀r,(∃k,(k,D.str s,r)∈bents∧k∈seen)↔D.Xz (.str s) l=some r:=fun r=>by
  rw[←hl.mem,←hp.mem_iff,List.mem_map];constructor
  ·rintro⟨k,h1,_⟩;exact⟨_,h1,rfl⟩
  ·rintro⟨⟨k,q⟩,h1,h2⟩;dsimp only at h2;subst h2;exact⟨k,h1,ha _ h1⟩
 apply Option.ext;intro r;rw[h.get s r,hb r];cases hg:D.Xz (.str s) l with
 |some r'=>
  simp only[Option.some_or];constructor
  ·rintro(h1|⟨h1,_⟩)
   ·exact h1
   ·exfalso;obtain⟨k,h2,h3⟩:=(hb r').2 hg;exact h1 ⟨k,r',h2,h3⟩
  ·exact fun h1=>.inl h1
 |none=>
  simp only[Option.none_or];constructor
  ·rintro(h1|⟨_,h1⟩)
   ·cases h1
   ·exact h1
  ·refine fun h1=>.inr ⟨fun⟨k,r',h2,h3⟩=>?_,h1⟩
   have:=(hb r').1 ⟨k,h2,h3⟩;rw[hg]at this;cases this
end Go.Proofs.YtjpldhjgehoffaaGreatDoor
namespace Go.Proofs.YtjpldhjgehoffaaGreatDoor
open Go.RowKit
attribute [local simp] Iz mkRc ldOf stOf stOk Nw Mv Rw Kj V9 Yj Yw J3 Y8 Bz evA Vj Dz Value.oneCell' Zj Q4 Z7 Qx1 U6 Z5 AS.after Zq Kq J8 AV.ids Mj Qz.ids frNo Nv G6 Wj H6 Y1 Y3 Vx U1 U0 Yz toD1 Sw setAt U9 Ij Dj L8 Gz L9 binI AV.cells J4 Jq Gq Wq AV.kill Qz.kill AV.has AV.K6 Op.operands Call.operands Dq Dw Zw Qv2 Zx Xq E8 moQ Mk R4 Yk AV.ren E5 Qz.ren Qz.like kept Zz Mw AV.frz Pz Ik Ak F8 Uk AS.frz Tw Rq Qz.frz Hq Hz bleF Nat.ble_eq G9 G7 Yq D.Y5 N7 R8 Vv Vw phO Ew Dk Gx Uj Kv Low Ex
set_option linter.unusedVariables false
set_option linter.unusedSimpArgs false
noncomputable def eqB {α:Type} (a b:α):Bool:=@decide (a=b) (Classical.propDecidable _)
theorem S9 {α:Type} (a:α):eqB a a=true:=by simp[eqB]
theorem eqB_ne {α:Type} {a b:α} (h:a≠b):eqB a b=false:=by simp[eqB,h]
theorem eqB_iff {α:Type} {a b:α}:eqB a b=true↔a=b:=by simp[eqB]
theorem rows_len {α:Type} {row:α→List D} {n:Nat} (h:∀x,(row x).length=n) (l:List α):∀(i:Nat) (r:List D),(l.map row)[i]? =some r→r.length=n:=by
 intro i r hr;obtain⟨x,_,rfl⟩:=List.mem_map.1 (List.mem_of_getElem? hr);exact h x
theorem take_eq {α:Type} {a b:List α} {i:Nat} {x y:α} (hx:a[i]? =some x) (hy:b[i]? =some y) (h:a.take i=b.take i):a.take (i+1)=b.take (i+1)↔x=y:=by
 rw[List.take_add_one,List.take_add_one,hx,hy,h];simp
theorem take_ne {α:Type} {a b:List α} {i:Nat} {x y:α} (hx:a[i]? =some x) (hy:b[i]? =some y) (h:x≠y):a≠b:=by
 rintro rfl;rw[hx]at hy;exact h (Option.some.inj hy)
theorem sp_SameNames (a b:List ByteArray) (ha:a.length≤9223372036854775806):Z4 Tryz.prog 40 [Zk a,Zk b] (fun _=>.d (.bool (eqB a b))) none:=by
 refine Z4.of Tryz.func40 rfl rfl rfl (Nat.le_of_ble_eq_true rfl) ?_;show AWp _ _ (Z8 _ Tryz.f40 _ _ _) (Z7 26 _);repeat (first|refine AWp.seq ?_|refine AWp.block ?_)
 apply AWp.reg [] []
 ·conv=>lhs;simp
 ·trivial
 by_cases hl:a.length=b.length
 ·repeat (first|refine AWp.seq ?_|refine AWp.block ?_)
  apply AWp.reg [] []
  ·conv=>lhs;simp[hl]
  ·trivial
  refine AWp.cn ?_;refine AWp.skip ?_;repeat (first|refine AWp.seq ?_|refine AWp.block ?_)
  apply AWp.reg [] []
  ·conv=>lhs;simp
  ·trivial
  repeat (first|refine AWp.seq ?_|refine AWp.block ?_)
  refine AWp.loop (σ:=fun u:{i:Nat // i≤a.length∧a.take i=b.take i}=>⟨26,[(0,Zk a),(1,Zk b),(12,.d (.int a.length)),(13,.d (.int u.1))],[]⟩)
   (μ:=fun u=>a.length-u.1) ⟨0,Nat.zero_le _,rfl⟩ (Le.sub (by simp[hl]) (by simp)) (fun⟨i,hi,ht⟩=>?_)
  dsimp only;repeat (first|refine AWp.seq ?_|refine AWp.block ?_)
  apply AWp.reg [] []
  ·conv=>lhs;simp
  ·trivial
  repeat (first|refine AWp.seq ?_|refine AWp.block ?_)
  refine AWp.cond rfl (fun h=>?_) (fun h=>?_)
  ·have hi1:i<a.length:=by have:=of_decide_eq_true h;omega
   have hx:a[i]? =some a[i]:=List.getElem?_eq_getElem hi1;have hy:b[i]? =some (b[i]'(by omega)):=List.getElem?_eq_getElem (by omega);generalize a[i]=x at hx;generalize b[i]'(by omega)=y at hy;have hte:=take_eq hx hy ht;refine AWp.skip ?_;repeat (first|refine AWp.seq ?_|refine AWp.block ?_)
   apply AWp.reg [] []
   ·conv=>lhs;simp
   ·trivial
   by_cases hxy:x=y
   ·subst hxy;refine AWp.dw [] [] mixed ?_ (hr:=by conv=>lhs;simp[hx,hy]);refine AWp.cn ?_;refine AWp.skip ?_;refine AWp.rg [] [] ?_;refine⟨⟨i+1,hi1,hte.2 rfl⟩,by simp;omega,Le.sub (by simp) (by simp)⟩
   ·refine AWp.dw [] [] mixed ?_ (hr:=by conv=>lhs;simp[hx,hy,hxy]);repeat (first|refine AWp.seq ?_|refine AWp.block ?_)
    refine AWp.cond rfl (fun h2=>?_) (fun h2=>?_)
    ·repeat (first|refine AWp.seq ?_|refine AWp.block ?_)
     apply AWp.reg [] []
     ·conv=>lhs;simp
     ·trivial
     refine AWp.ret ?_;try dsimp only[Qq,Q6]
     apply Z8.ret
     ·rfl
     ·conv=>lhs;simp[Q9,Tryz.results40]
     rw[eqB_ne (take_ne hx hy hxy)];rfl
    ·cases h2
  ·have hi1:i=a.length:=by have:=of_decide_eq_false h;omega
   subst hi1;rw[List.take_length,hl,List.take_length]at ht;refine AWp.exit ?_;repeat (first|refine AWp.seq ?_|refine AWp.block ?_)
   apply AWp.reg [] []
   ·conv=>lhs;simp
   ·trivial
   refine AWp.ret ?_;try dsimp only[Qq,Q6]
   apply Z8.ret
   ·rfl
   ·conv=>lhs;simp[Q9,Tryz.results40]
   rw[ht,S9];rfl
 ·have hl':¬((a.length:Int)=b.length):=by omega
  repeat (first|refine AWp.seq ?_|refine AWp.block ?_)
  apply AWp.reg [] []
  ·conv=>lhs;simp[hl,hl']
  ·trivial
  repeat (first|refine AWp.seq ?_|refine AWp.block ?_)
  refine AWp.cond rfl (fun h=>?_) (fun h=>?_)
  ·repeat (first|refine AWp.seq ?_|refine AWp.block ?_)
   apply AWp.reg [] []
   ·conv=>lhs;simp
   ·trivial
   refine AWp.ret ?_;try dsimp only[Qq,Q6]
   apply Z8.ret
   ·rfl
   ·conv=>lhs;simp[Q9,Tryz.results40]
   rw[eqB_ne (fun e=>hl (by rw[e]))];rfl
  ·cases h
theorem Tm.Ok.vars {k n:Int} {a b:ByteArray} {vs:List ByteArray} {xs:List Tm} {cs:List Cs} (h:(Tm.mk k n a b vs xs cs).Ok):vs.length≤8796093022207∧xs.length≤1172812402960∧cs.length≤925904528652∧a.size≤140737488355328∧b.size≤140737488355328:=by
 unfold Tm.Ok at h;exact⟨h.2.1.1,h.2.1.2.1,h.2.1.2.2,h.1.1,h.1.2.1⟩
theorem Tm.Ok.arg {k n:Int} {a b:ByteArray} {vs:List ByteArray} {xs:List Tm} {cs:List Cs} (h:(Tm.mk k n a b vs xs cs).Ok) {x:Tm} (hx:x∈xs):x.Ok:=by
 unfold Tm.Ok at h;exact Tm.X8.1 h.2.2.1 x hx
theorem Tm.Ok.case {k n:Int} {a b:ByteArray} {vs:List ByteArray} {xs:List Tm} {cs:List Cs} (h:(Tm.mk k n a b vs xs cs).Ok) {x:Cs} (hx:x∈cs):x.Ok:=by
 unfold Tm.Ok at h;exact Cs.X8.1 h.2.2.2 x hx
theorem Cs.Ok.body {t:Int} {vs:List ByteArray} {b:Tm} (h:(Cs.mk t vs b).Ok):b.Ok∧vs.length≤8796093022207:=by
 unfold Cs.Ok at h;exact⟨h.2.2,h.2.1⟩
theorem Cs.Ok.sizes {t:Int} {vs:List ByteArray} {b:Tm} (h:(Cs.mk t vs b).Ok):∀s∈vs,s.size≤140737488355328:=by
 unfold Cs.Ok at h;exact h.1
theorem Tm.Qj3 {k n:Int} {a b:ByteArray} {vs:List ByteArray} {xs:List Tm} {cs:List Cs} {x:Tm} (hx:x∈xs):x.sz<(Tm.mk k n a b vs xs cs).sz:=by
 have:=Tm.X0 hx;simp only[Tm.sz];omega
theorem Tm.O4 {k n:Int} {a b:ByteArray} {vs:List ByteArray} {xs:List Tm} {cs:List Cs} {t:Int} {ws:List ByteArray} {y:Tm} (hx:Cs.mk t ws y∈cs):y.sz<(Tm.mk k n a b vs xs cs).sz:=by
 have:=Cs.X0 hx;simp only[Cs.sz]at this;simp only[Tm.sz];omega
theorem Tm.row_len (t:Tm):t.row.length=7:=by cases t;rfl
theorem Cs.row_len (t:Cs):t.row.length=9:=by cases t;simp[Cs.row,Tm.row_len]
def Fw (k n:Int) (a b:ByteArray) (vs:List ByteArray) (xs:List Tm) (cs:List Cs) (xs':List Tm) (cs':List Cs):List (Nat×Option Qz):=
 [(2,some (.blk 45 [.d (.int k),.d (.int n),.d (.str a),.d (.str b),.d (Q8 vs),.d (.sl (xs.map Tm.row)),.d (.sl (cs.map Cs.row))])),
  (3,some (.blk 45 [.d (.int k),.d (.int n),.d (.str a),.d (.str b),.d (Q8 vs),.d (.sl (xs'.map Tm.row)),.d (.sl (cs'.map Cs.row))]))]
theorem sp_refSame_at:∀(N:Nat) (s t:Tm),s.sz<N→s.Ok→Z4 Tryz.prog 17 [X9 s,X9 t] (fun _=>.d (.bool (eqB s t))) none:=by
 intro N;induction N with
 |zero=>intro s t h;omega
 |succ N ih=>
 intro s t hN hO;obtain⟨k,n,a,b,vs,xs,cs⟩:=s;obtain⟨k',n',a',b',vs',xs',cs'⟩:=t;obtain⟨o1,o2,o3,o4,o5⟩:=hO.vars;have hneq:(k≠k'∨n≠n'∨a≠a'∨b≠b'∨vs≠vs'∨xs≠xs'∨cs≠cs')→eqB (Tm.mk k n a b vs xs cs) (Tm.mk k' n' a' b' vs' xs' cs')=false:=fun h=>eqB_ne (by
  intro e;cases e;simp at h)
 have hvs:=sp_SameNames vs vs' (by omega);refine Z4.of Tryz.func17 rfl rfl rfl (Nat.le_of_ble_eq_true rfl) ?_;show AWp _ _ (Z8 _ Tryz.f17 _ _ _) (Z7 115 _);repeat (first|refine AWp.seq ?_|refine AWp.block ?_)
 apply AWp.reg [] []
 ·conv=>lhs;simp
 ·trivial
 by_cases e1:k=k';rotate_left
 ·repeat (first|refine AWp.seq ?_|refine AWp.block ?_)
  apply AWp.reg [] []
  ·conv=>lhs;simp[e1]
  ·trivial
  repeat (first|refine AWp.seq ?_|refine AWp.block ?_)
  refine AWp.cond rfl (fun h=>?_) (fun h=>?_)
  ·repeat (first|refine AWp.seq ?_|refine AWp.block ?_)
   apply AWp.reg [] []
   ·conv=>lhs;simp
   ·trivial
   refine AWp.ret ?_;try dsimp only[Qq,Q6]
   apply Z8.ret
   ·rfl
   ·conv=>lhs;simp[Q9,Tryz.results17]
   rw[hneq (.inl e1)];rfl
  ·simp at h
 subst e1;by_cases e2:n=n';rotate_left
 ·repeat (first|refine AWp.seq ?_|refine AWp.block ?_)
  apply AWp.reg [] []
  ·conv=>lhs;simp[e2]
  ·trivial
  repeat (first|refine AWp.seq ?_|refine AWp.block ?_)
  refine AWp.cond rfl (fun h=>?_) (fun h=>?_)
  ·repeat (first|refine AWp.seq ?_|refine AWp.block ?_)
   apply AWp.reg [] []
   ·conv=>lhs;simp
   ·trivial
   refine AWp.ret ?_;try dsimp only[Qq,Q6]
   apply Z8.ret
   ·rfl
   ·conv=>lhs;simp[Q9,Tryz.results17]
   rw[hneq (.inr (.inl e2))];rfl
  ·simp at h
 subst e2;by_cases e3:a=a';rotate_left
 ·repeat (first|refine AWp.seq ?_|refine AWp.block ?_)
  apply AWp.reg [] []
  ·conv=>lhs;simp[e3]
  ·trivial
  repeat (first|refine AWp.seq ?_|refine AWp.block ?_)
  refine AWp.cond rfl (fun h=>?_) (fun h=>?_)
  ·repeat (first|refine AWp.seq ?_|refine AWp.block ?_)
   apply AWp.reg [] []
   ·conv=>lhs;simp
   ·trivial
   refine AWp.ret ?_;try dsimp only[Qq,Q6]
   apply Z8.ret
   ·rfl
   ·conv=>lhs;simp[Q9,Tryz.results17]
   rw[hneq (.inr (.inr (.inl e3)))];rfl
  ·simp at h
 subst e3;by_cases e4:b=b';rotate_left
 ·repeat (first|refine AWp.seq ?_|refine AWp.block ?_)
  apply AWp.reg [] []
  ·conv=>lhs;simp[e4]
  ·trivial
  repeat (first|refine AWp.seq ?_|refine AWp.block ?_)
  refine AWp.cond rfl (fun h=>?_) (fun h=>?_)
  ·repeat (first|refine AWp.seq ?_|refine AWp.block ?_)
   apply AWp.reg [] []
   ·conv=>lhs;simp
   ·trivial
   refine AWp.ret ?_;try dsimp only[Qq,Q6]
   apply Z8.ret
   ·rfl
   ·conv=>lhs;simp[Q9,Tryz.results17]
   rw[hneq (.inr (.inr (.inr (.inl e4))))];rfl
  ·simp at h
 subst e4;by_cases e5:vs=vs';rotate_left
 ·repeat (first|refine AWp.seq ?_|refine AWp.block ?_)
  apply AWp.reg [] [.p (fun _=>.d (.bool false)) none]
  ·conv=>lhs;simp[e5]
  ·rw[eqB_ne e5]at hvs;exact hvs
  repeat (first|refine AWp.seq ?_|refine AWp.block ?_)
  refine AWp.cond rfl (fun h=>?_) (fun h=>?_)
  ·repeat (first|refine AWp.seq ?_|refine AWp.block ?_)
   apply AWp.reg [] []
   ·conv=>lhs;simp
   ·trivial
   refine AWp.ret ?_;try dsimp only[Qq,Q6]
   apply Z8.ret
   ·rfl
   ·conv=>lhs;simp[Q9,Tryz.results17]
   rw[hneq (.inr (.inr (.inr (.inr (.inl e5)))))];rfl
  ·simp at h
 subst e5;rw[S9]at hvs;by_cases e6:xs.length=xs'.length;rotate_left
 ·have e6':¬((xs.length:Int)=xs'.length):=by omega
  repeat (first|refine AWp.seq ?_|refine AWp.block ?_)
  apply AWp.reg [] [.p (fun _=>.d (.bool true)) none]
  ·conv=>lhs;simp[e6,e6']
  ·exact hvs
  repeat (first|refine AWp.seq ?_|refine AWp.block ?_)
  refine AWp.cond rfl (fun h=>?_) (fun h=>?_)
  ·repeat (first|refine AWp.seq ?_|refine AWp.block ?_)
   apply AWp.reg [] []
   ·conv=>lhs;simp
   ·trivial
   refine AWp.ret ?_;try dsimp only[Qq,Q6]
   apply Z8.ret
   ·rfl
   ·conv=>lhs;simp[Q9,Tryz.results17]
   rw[hneq (.inr (.inr (.inr (.inr (.inr (.inl (fun e=>e6 (by rw[e]))))))))];rfl
  ·simp at h
 by_cases e7:cs.length=cs'.length;rotate_left
 ·have e7':¬((cs.length:Int)=cs'.length):=by omega
  repeat (first|refine AWp.seq ?_|refine AWp.block ?_)
  apply AWp.reg [] [.p (fun _=>.d (.bool true)) none]
  ·conv=>lhs;simp[e6,e7,e7']
  ·exact hvs
  repeat (first|refine AWp.seq ?_|refine AWp.block ?_)
  refine AWp.cond rfl (fun h=>?_) (fun h=>?_)
  ·repeat (first|refine AWp.seq ?_|refine AWp.block ?_)
   apply AWp.reg [] []
   ·conv=>lhs;simp
   ·trivial
   refine AWp.ret ?_;try dsimp only[Qq,Q6]
   apply Z8.ret
   ·rfl
   ·conv=>lhs;simp[Q9,Tryz.results17]
   rw[hneq (.inr (.inr (.inr (.inr (.inr (.inr (fun e=>e7 (by rw[e]))))))))];rfl
  ·simp at h
 repeat (first|refine AWp.seq ?_|refine AWp.block ?_)
 apply AWp.reg [] [.p (fun _=>.d (.bool true)) none]
 ·conv=>lhs;simp[e6,e7]
 ·exact hvs
 repeat (first|refine AWp.seq ?_|refine AWp.block ?_)
 refine AWp.cond rfl (fun h=>?_) (fun h=>?_)
 ·simp at h
 refine AWp.skip ?_;refine AWp.le (s':=⟨115,[(2,.ptr 2 0),(3,.ptr 3 0)],Fw k n a b vs xs cs xs' cs'⟩) (Le.sub (by simp) (by simp[Fw])) ?_;by_cases hx:xs=xs';rotate_left
 ·have hf:=hneq (.inr (.inr (.inr (.inr (.inr (.inl hx))))));repeat (first|refine AWp.seq ?_|refine AWp.block ?_)
  apply AWp.reg [] []
  ·conv=>lhs;simp[Fw]
  ·trivial
  repeat (first|refine AWp.seq ?_|refine AWp.block ?_)
  refine AWp.loop (σ:=fun u:{i:Nat // i≤xs.length∧xs.take i=xs'.take i}=>⟨115,[(2,.ptr 2 0),(3,.ptr 3 0),(63,.d (.int xs.length)),(64,.d (.int u.1))],Fw k n a b vs xs cs xs' cs'⟩)
   (μ:=fun u=>xs.length-u.1) ⟨0,Nat.zero_le _,rfl⟩ (Le.sub (by simp) (by simp[Fw])) (fun⟨i,hi,ht⟩=>?_)
  dsimp only;repeat (first|refine AWp.seq ?_|refine AWp.block ?_)
  apply AWp.reg [] []
  ·conv=>lhs;simp
  ·trivial
  repeat (first|refine AWp.seq ?_|refine AWp.block ?_)
  refine AWp.cond rfl (fun h=>?_) (fun h=>?_)
  ·have hi1:i<xs.length:=by have:=of_decide_eq_true h;omega
   have h1:xs[i]? =some xs[i]:=List.getElem?_eq_getElem hi1;have h2:xs'[i]? =some (xs'[i]'(by omega)):=List.getElem?_eq_getElem (by omega);have hmem:xs[i]∈xs:=List.getElem_mem hi1;generalize xs[i]=x at h1 hmem;generalize xs'[i]'(by omega)=y at h2;have hte:=take_eq h1 h2 ht;have hp:=ih x y (by have:=Tm.Qj3 (k:=k) (n:=n) (a:=a) (b:=b) (vs:=vs) (cs:=cs) hmem;omega) (hO.arg hmem);obtain⟨B,hB⟩:∃B,B=eqB x y:=⟨_,rfl⟩
   rw[←hB]at hp;refine AWp.skip ?_;repeat (first|refine AWp.seq ?_|refine AWp.block ?_)
   apply AWp.reg [] []
   ·conv=>lhs;simp
   ·trivial
   cases B with
   |true=>
    have hxy:x=y:=eqB_iff.1 hB.symm;obtain⟨_,_,_,_,_,_,_⟩:=x;obtain⟨_,_,_,_,_,_,_⟩:=y;repeat (first|refine AWp.seq ?_|refine AWp.block ?_)
    apply AWp.draw [] [.p (fun _=>.d (.bool true)) none] mixed
    ·conv=>lhs;simp[Fw,h1,h2,Tm.row,Tm.Q3,Cs.Q3]
    ·kernel_rfl
    ·exact hp
    refine AWp.cn ?_;refine AWp.skip ?_;refine AWp.rg [] [] ?_;refine⟨⟨i+1,hi1,hte.2 hxy⟩,by simp;omega,Le.sub (by simp) (by simp[Fw])⟩
   |false=>
    obtain⟨_,_,_,_,_,_,_⟩:=x;obtain⟨_,_,_,_,_,_,_⟩:=y;repeat (first|refine AWp.seq ?_|refine AWp.block ?_)
    apply AWp.draw [] [.p (fun _=>.d (.bool false)) none] mixed
    ·conv=>lhs;simp[Fw,h1,h2,Tm.row,Tm.Q3,Cs.Q3]
    ·kernel_rfl
    ·exact hp
    repeat (first|refine AWp.seq ?_|refine AWp.block ?_)
    refine AWp.cond rfl (fun h3=>?_) (fun h3=>?_)
    ·repeat (first|refine AWp.seq ?_|refine AWp.block ?_)
     apply AWp.reg [] []
     ·conv=>lhs;simp
     ·trivial
     refine AWp.ret ?_;try dsimp only[Qq,Q6]
     apply Z8.ret
     ·rfl
     ·conv=>lhs;simp[Q9,Tryz.results17]
     rw[hf];rfl
    ·cases h3
  ·have hi1:i=xs.length:=by have:=of_decide_eq_false h;omega
   subst hi1;rw[List.take_length,e6,List.take_length]at ht;exact absurd ht hx
 subst hx;repeat (first|refine AWp.seq ?_|refine AWp.block ?_)
 apply AWp.reg [] []
 ·conv=>lhs;simp[Fw]
 ·trivial
 repeat (first|refine AWp.seq ?_|refine AWp.block ?_)
 refine AWp.loop (σ:=fun u:{i:Nat // i≤xs.length}=>⟨115,[(2,.ptr 2 0),(3,.ptr 3 0),(63,.d (.int xs.length)),(64,.d (.int u.1))],Fw k n a b vs xs cs xs cs'⟩)
  (μ:=fun u=>xs.length-u.1) ⟨0,Nat.zero_le _⟩ (Le.sub (by simp) (by simp[Fw])) (fun⟨i,hi⟩=>?_)
 dsimp only;repeat (first|refine AWp.seq ?_|refine AWp.block ?_)
 apply AWp.reg [] []
 ·conv=>lhs;simp
 ·trivial
 repeat (first|refine AWp.seq ?_|refine AWp.block ?_)
 refine AWp.cond rfl (fun h=>?_) (fun h=>?_)
 ·have hi1:i<xs.length:=by have:=of_decide_eq_true h;omega
  have h1:xs[i]? =some xs[i]:=List.getElem?_eq_getElem hi1;have hmem:xs[i]∈xs:=List.getElem_mem hi1;generalize xs[i]=x at h1 hmem;have hp:=ih x x (by have:=Tm.Qj3 (k:=k) (n:=n) (a:=a) (b:=b) (vs:=vs) (cs:=cs) hmem;omega) (hO.arg hmem);rw[S9]at hp;refine AWp.skip ?_;repeat (first|refine AWp.seq ?_|refine AWp.block ?_)
  apply AWp.reg [] []
  ·conv=>lhs;simp
  ·trivial
  obtain⟨_,_,_,_,_,_,_⟩:=x;repeat (first|refine AWp.seq ?_|refine AWp.block ?_)
  apply AWp.draw [] [.p (fun _=>.d (.bool true)) none] mixed
  ·conv=>lhs;simp[Fw,h1,Tm.row,Tm.Q3,Cs.Q3]
  ·kernel_rfl
  ·exact hp
  refine AWp.cn ?_;refine AWp.skip ?_;refine AWp.rg [] [] ?_;refine⟨⟨i+1,hi1⟩,by simp;omega,Le.sub (by simp) (by simp[Fw])⟩
 refine AWp.exit ?_;refine AWp.le (s':=⟨115,[(2,.ptr 2 0),(3,.ptr 3 0)],Fw k n a b vs xs cs xs cs'⟩) (Le.sub (by simp) (by simp[Fw])) ?_;clear hi h;repeat (first|refine AWp.seq ?_|refine AWp.block ?_)
 apply AWp.reg [] []
 ·conv=>lhs;simp[Fw]
 ·trivial
 repeat (first|refine AWp.seq ?_|refine AWp.block ?_)
 refine AWp.loop (σ:=fun u:{i:Nat // i≤cs.length∧cs.take i=cs'.take i}=>⟨115,[(2,.ptr 2 0),(3,.ptr 3 0),(81,.d (.sl (cs.map Cs.row))),(82,.d (.int cs.length)),(83,.d (.int u.1))],Fw k n a b vs xs cs xs cs'⟩)
  (μ:=fun u=>cs.length-u.1) ⟨0,Nat.zero_le _,rfl⟩ (Le.sub (by simp) (by simp[Fw])) (fun⟨i,hi,ht⟩=>?_)
 dsimp only;repeat (first|refine AWp.seq ?_|refine AWp.block ?_)
 apply AWp.reg [] []
 ·conv=>lhs;simp
 ·trivial
 repeat (first|refine AWp.seq ?_|refine AWp.block ?_)
 refine AWp.cond rfl (fun h=>?_) (fun h=>?_)
 ·have hi1:i<cs.length:=by have:=of_decide_eq_true h;omega
  have h1:cs[i]? =some cs[i]:=List.getElem?_eq_getElem hi1;have h2:cs'[i]? =some (cs'[i]'(by omega)):=List.getElem?_eq_getElem (by omega);have hmem:cs[i]∈cs:=List.getElem_mem hi1;generalize cs[i]=x at h1 hmem;generalize cs'[i]'(by omega)=y at h2;have hte:=take_eq h1 h2 ht;obtain⟨g,ws,x⟩:=x;obtain⟨g',ws',y⟩:=y;obtain⟨oc1,oc2⟩:=(hO.case hmem).body;have hp:=ih x y (by have:=Tm.O4 (k:=k) (n:=n) (a:=a) (b:=b) (vs:=vs) (xs:=xs) hmem;omega) oc1;have hws:=sp_SameNames ws ws' (by omega);have hbad:(g≠g'∨ws≠ws'∨x≠y)→eqB (Tm.mk k n a b vs xs cs) (Tm.mk k n a b vs xs cs')=false:=fun h=>hneq (.inr (.inr (.inr (.inr (.inr (.inr (take_ne h1 h2 (by
   intro e;cases e;simp at h))))))))
  obtain⟨B,hB⟩:∃B,B=eqB x y:=⟨_,rfl⟩
  have hBf:B=false→x≠y:=fun e q=>by rw[hB,q,S9]at e;cases e
  rw[←hB]at hp;obtain⟨_,_,_,_,_,_,_⟩:=x;obtain⟨_,_,_,_,_,_,_⟩:=y;refine AWp.skip ?_;refine AWp.rg [] [] ?_ (hr:=by conv=>lhs;simp[h1,Cs.row,Tm.row,Tm.Q3,Cs.Q3]);refine AWp.rg [] [] ?_ (hr:=by conv=>lhs;simp[Fw,h2,Cs.row,Tm.row,Tm.Q3,Cs.Q3]);by_cases e8:g=g';rotate_left
  ·repeat (first|refine AWp.seq ?_|refine AWp.block ?_)
   apply AWp.reg [] []
   ·conv=>lhs;simp[e8]
   ·trivial
   repeat (first|refine AWp.seq ?_|refine AWp.block ?_)
   refine AWp.cond rfl (fun h3=>?_) (fun h3=>?_)
   ·repeat (first|refine AWp.seq ?_|refine AWp.block ?_)
    apply AWp.reg [] []
    ·conv=>lhs;simp
    ·trivial
    refine AWp.ret ?_;try dsimp only[Qq,Q6]
    apply Z8.ret
    ·rfl
    ·conv=>lhs;simp[Q9,Tryz.results17]
    rw[hbad (.inl e8)];rfl
   ·simp at h3
  subst e8;by_cases e9:ws=ws';rotate_left
  ·rw[eqB_ne e9]at hws;repeat (first|refine AWp.seq ?_|refine AWp.block ?_)
   apply AWp.reg [] [.p (fun _=>.d (.bool false)) none]
   ·conv=>lhs;simp
   ·exact hws
   repeat (first|refine AWp.seq ?_|refine AWp.block ?_)
   refine AWp.cond rfl (fun h3=>?_) (fun h3=>?_)
   ·repeat (first|refine AWp.seq ?_|refine AWp.block ?_)
    apply AWp.reg [] []
    ·conv=>lhs;simp
    ·trivial
    refine AWp.ret ?_;try dsimp only[Qq,Q6]
    apply Z8.ret
    ·rfl
    ·conv=>lhs;simp[Q9,Tryz.results17]
    rw[hbad (.inr (.inl e9))];rfl
   ·simp at h3
  subst e9;rw[S9]at hws;cases B with
  |true=>
   have hxy:=eqB_iff.1 hB.symm;repeat (first|refine AWp.seq ?_|refine AWp.block ?_)
   apply AWp.reg [] [.p (fun _=>.d (.bool true)) none,.p (fun _=>.d (.bool true)) none]
   ·conv=>lhs;simp
   ·exact⟨hws,hp⟩
   repeat (first|refine AWp.seq ?_|refine AWp.block ?_)
   refine AWp.cond rfl (fun h3=>?_) (fun h3=>?_)
   ·simp at h3
   refine AWp.skip ?_;refine AWp.rg [] [] ?_;refine⟨⟨i+1,hi1,hte.2 (by rw[hxy])⟩,by simp;omega,Le.sub (by simp) (by simp[Fw])⟩
  |false=>
   have hxy:=hBf rfl;repeat (first|refine AWp.seq ?_|refine AWp.block ?_)
   apply AWp.reg [] [.p (fun _=>.d (.bool true)) none,.p (fun _=>.d (.bool false)) none]
   ·conv=>lhs;simp
   ·exact⟨hws,hp⟩
   repeat (first|refine AWp.seq ?_|refine AWp.block ?_)
   refine AWp.cond rfl (fun h3=>?_) (fun h3=>?_)
   ·repeat (first|refine AWp.seq ?_|refine AWp.block ?_)
    apply AWp.reg [] []
    ·conv=>lhs;simp
    ·trivial
    refine AWp.ret ?_;try dsimp only[Qq,Q6]
    apply Z8.ret
    ·rfl
    ·conv=>lhs;simp[Q9,Tryz.results17]
    rw[hbad (.inr (.inr hxy))];rfl
   ·simp at h3
 ·have hi1:i=cs.length:=by have:=of_decide_eq_false h;omega
  subst hi1;rw[List.take_length,e7,List.take_length]at ht;subst ht;refine AWp.exit ?_;repeat (first|refine AWp.seq ?_|refine AWp.block ?_)
  apply AWp.reg [] []
  ·conv=>lhs;simp
  ·trivial
  refine AWp.ret ?_;try dsimp only[Qq,Q6]
  apply Z8.ret
  ·rfl
  ·conv=>lhs;simp[Q9,Tryz.results17]
  rw[S9];rfl
theorem sp_refSame (s t:Tm) (h:s.Ok):Z4 Tryz.prog 17 [X9 s,X9 t] (fun _=>.d (.bool (eqB s t))) none:=sp_refSame_at _ s t (Nat.lt_succ_self _) h
theorem Z8.retA {P:Program} {fn:Func} {r:Nat→AV} {o:Nat} {s:AS} {cs:List AV} {y:Qz} (hrn:(r o).Xk=r o) (h:Q9 P s fn.results.toList=some cs) (hr:(Z6 cs).Xk=(r o).Xk) (hx:Q4 s.mem o=some y) (ho:Nat.ble 500 o=false):Z8 P fn r (some y) o .ret s:=
 ⟨.inl rfl,s,Le.refl s,cs,h,hr,hrn,fun z hz=>by cases hz;exact⟨hx,ho⟩⟩
theorem Qz2 (l:List ByteArray) (hl:l.length≤8796093022208):Z4 Tryz.prog 43 [Zk l] (fun d=>.arr d 0 l.length) (some (.arr 9 1 (l.map Z0))):=by
 refine Z4.ofArr Tryz.func43 rfl rfl _ 5 (Nat.le_of_ble_eq_true rfl) (fun _=>rfl) (by simp[AV.ids,Mj]) (fun d=>by simp[AV.has,AV.K6]) ?_;show AWp _ _ (Z8 _ Tryz.f43 _ _ _) (Z7 8 _);repeat (first|refine AWp.seq ?_|refine AWp.block ?_)
 apply AWp.reg [] []
 ·conv=>lhs;simp
 ·trivial
 cases l with
 |nil=>
  repeat (first|refine AWp.seq ?_|refine AWp.block ?_)
  apply AWp.reg [] []
  ·conv=>lhs;simp[Zk,Q8]
  ·trivial
  repeat (first|refine AWp.seq ?_|refine AWp.block ?_)
  refine AWp.condU rfl ?_ ?_
  ·repeat (first|refine AWp.seq ?_|refine AWp.block ?_)
   apply AWp.reg [] []
   ·conv=>lhs;simp
   ·trivial
   refine AWp.le (Le.low [5] [] (fr:=[(2,.arr 5 0 0)]) (mem:=[(5,some (.arr 9 1 []))]) rfl (by simp) (by simp)) ?_;refine AWp.ret ?_;try dsimp only[Qq,Q6]
   apply Z8.retA
   ·rfl
   ·conv=>lhs;simp[Q9,Tryz.results43]
   ·rfl
   ·rfl
   ·rfl
  ·refine AWp.skip ?_;refine AWp.rg [] [] ?_;refine AWp.ret ?_;try dsimp only[Qq,Q6]
   apply Z8.retA
   ·rfl
   ·conv=>lhs;simp[Q9,Tryz.results43]
   ·rfl
   ·rfl
   ·rfl
 |cons s l=>
  simp only[List.length_cons]at hl;repeat (first|refine AWp.seq ?_|refine AWp.block ?_)
  apply AWp.reg [] []
  ·conv=>lhs;simp[Zk,Q8]
  ·trivial
  refine AWp.cn ?_;refine AWp.skip ?_;repeat (first|refine AWp.seq ?_|refine AWp.block ?_)
  apply AWp.reg [] []
  ·conv=>lhs;simp[Zk,Q8]
  ·exact⟨rows_len (row:=Z0) (fun _=>rfl) (s::l),by simp[maxLen];omega,by omega⟩
  refine AWp.ret ?_;try dsimp only[Qq,Q6]
  apply Z8.retA
  ·rfl
  ·conv=>lhs;simp[Q9,Tryz.results43]
  ·rfl
  ·rfl
  ·rfl
def owMem (k n:Int) (a b:ByteArray) (vs:List ByteArray) (xs:List Tm) (cs:List Cs):List (Nat×Option Qz):=
 [(1,some (.blk 45 [.d (.int k),.d (.int n),.d (.str a),.d (.str b),.d (Q8 vs),.d (.sl (xs.map Tm.row)),.d (.sl (cs.map Cs.row))])),
  (2,some (.blk 45 [.d (.int 0),.d (.int 0),.d (.str ByteArray.empty),.d (.str ByteArray.empty),.lit (.slice none 0 0),.lit (.slice none 0 0),.lit (.slice none 0 0)]))]
theorem sp_Own_at:∀(N:Nat) (t:Tm),t.sz<N→t.Ok→Z4 Tryz.prog 66 [X9 t] (fun _=>X9 t) none:=by
 intro N;induction N with
 |zero=>intro s h;omega
 |succ N ih=>
 intro t hN hO;obtain⟨k,n,a,b,vs,xs,cs⟩:=t;obtain⟨o1,o2,o3,o4,o5⟩:=hO.vars;have hcl:=Qz2 vs (by omega);refine Z4.of Tryz.func66 rfl rfl rfl (Nat.le_of_ble_eq_true rfl) ?_;show AWp _ _ (Z8 _ Tryz.f66 _ _ _) (Z7 51 _);repeat (first|refine AWp.seq ?_|refine AWp.block ?_)
 apply AWp.reg [] []
 ·conv=>lhs;simp
 ·trivial
 repeat (first|refine AWp.seq ?_|refine AWp.block ?_)
 apply AWp.reg [2] [.p (fun d=>.arr d 0 vs.length) (some (.arr 9 1 (vs.map Z0)))]
 ·conv=>lhs;simp[Zk]
 ·exact hcl
 repeat (first|refine AWp.seq ?_|refine AWp.block ?_)
 apply AWp.reg [] []
 ·conv=>lhs;simp
 ·trivial
 repeat (first|refine AWp.seq ?_|refine AWp.block ?_)
 apply AWp.reg [] []
 ·conv=>lhs;simp
 ·trivial
 repeat (first|refine AWp.seq ?_|refine AWp.block ?_)
 refine AWp.le (Le.low [400] [] (fr:=[(1,.ptr 1 0),(2,.ptr 2 0),(3,.arr 400 0 0),(14,.d (.sl (xs.map Tm.row))),(15,.d (.int xs.length)),(16,.d (.int 0))]) (mem:=(400,some (.arr 45 7 []))::owMem k n a b vs xs cs) rfl (by simp) (by simp[owMem])) ?_;refine AWp.loop (σ:=fun u:{i:Nat // i≤xs.length}=>⟨51,[(1,.ptr 1 0),(2,.ptr 2 0),(3,.arr 400 0 u.1),(14,.d (.sl (xs.map Tm.row))),(15,.d (.int xs.length)),(16,.d (.int u.1))],(400,some (.arr 45 7 ((xs.map Tm.row).take u.1)))::owMem k n a b vs xs cs⟩)
  (μ:=fun u=>xs.length-u.1) ⟨0,Nat.zero_le _⟩ (Le.refl _) (fun⟨i,hi⟩=>?_)
 dsimp only;repeat (first|refine AWp.seq ?_|refine AWp.block ?_)
 apply AWp.reg [] []
 ·conv=>lhs;simp
 ·trivial
 repeat (first|refine AWp.seq ?_|refine AWp.block ?_)
 refine AWp.cond rfl (fun h=>?_) (fun h=>?_)
 ·have hi1:i<xs.length:=by have:=of_decide_eq_true h;omega
  have h1:xs[i]? =some xs[i]:=List.getElem?_eq_getElem hi1;have hmem:xs[i]∈xs:=List.getElem_mem hi1;generalize xs[i]=x at h1 hmem;have hp:=ih x (by have:=Tm.Qj3 (k:=k) (n:=n) (a:=a) (b:=b) (vs:=vs) (cs:=cs) hmem;omega) (hO.arg hmem);have ht:(xs.map Tm.row).take (i+1)=(xs.map Tm.row).take i++[x.row]:=by rw[List.take_add_one,List.getElem?_map,h1];rfl
  have hl:((xs.map Tm.row).take i).length=i:=by simp;omega
  refine AWp.skip ?_;obtain⟨xk,xn,xa,xb,xv,xx,xc⟩:=x;refine AWp.rg [] [] ?_ (hr:=by conv=>lhs;simp[h1,Tm.row,Tm.Q3,Cs.Q3]);repeat (first|refine AWp.seq ?_|refine AWp.block ?_)
  apply AWp.reg [] [.p (fun _=>X9 (.mk xk xn xa xb xv xx xc)) none]
  ·conv=>lhs;simp[X9]
  ·exact⟨hp,by omega,by simp[maxLen];omega,by omega⟩
  refine AWp.rg [] [] ?_;refine⟨⟨i+1,hi1⟩,by simp;omega,?_⟩;dsimp only;rw[ht];exact Le.sub (by simp[Nat.min_eq_left hi]) (by simp[owMem,Tm.row,Tm.Q3,Cs.Q3])
 have hi1:i=xs.length:=by have:=of_decide_eq_false h;omega
 subst hi1;refine AWp.exit ?_;rw[show(xs.map Tm.row).take xs.length=xs.map Tm.row from List.take_of_length_le (by simp)];repeat (first|refine AWp.seq ?_|refine AWp.block ?_)
 apply AWp.reg [] []
 ·conv=>lhs;simp
 ·trivial
 repeat (first|refine AWp.seq ?_|refine AWp.block ?_)
 apply AWp.reg [] []
 ·conv=>lhs;simp[owMem]
 ·trivial
 repeat (first|refine AWp.seq ?_|refine AWp.block ?_)
 refine AWp.le (Le.low [401] [] (fr:=[(1,.ptr 1 0),(2,.ptr 2 0),(3,.arr 400 0 xs.length),(6,.arr 401 0 0),(27,.d (.sl (cs.map Cs.row))),(28,.d (.int cs.length)),(29,.d (.int 0))]) (mem:=(401,some (.arr 90 9 []))::(400,some (.arr 45 7 (xs.map Tm.row)))::owMem k n a b vs xs cs) rfl (by simp) (by simp[owMem])) ?_;refine AWp.loop (σ:=fun u:{i:Nat // i≤cs.length}=>⟨51,[(1,.ptr 1 0),(2,.ptr 2 0),(3,.arr 400 0 xs.length),(6,.arr 401 0 u.1),(27,.d (.sl (cs.map Cs.row))),(28,.d (.int cs.length)),(29,.d (.int u.1))],(401,some (.arr 90 9 ((cs.map Cs.row).take u.1)))::(400,some (.arr 45 7 (xs.map Tm.row)))::owMem k n a b vs xs cs⟩)
  (μ:=fun u=>cs.length-u.1) ⟨0,Nat.zero_le _⟩ (Le.refl _) (fun⟨i,hi⟩=>?_)
 dsimp only;clear h;repeat (first|refine AWp.seq ?_|refine AWp.block ?_)
 apply AWp.reg [] []
 ·conv=>lhs;simp
 ·trivial
 repeat (first|refine AWp.seq ?_|refine AWp.block ?_)
 refine AWp.cond rfl (fun h=>?_) (fun h=>?_)
 ·have hi1:i<cs.length:=by have:=of_decide_eq_true h;omega
  have h1:cs[i]? =some cs[i]:=List.getElem?_eq_getElem hi1;have hmem:cs[i]∈cs:=List.getElem_mem hi1;generalize cs[i]=x at h1 hmem;have ht:(cs.map Cs.row).take (i+1)=(cs.map Cs.row).take i++[x.row]:=by rw[List.take_add_one,List.getElem?_map,h1];rfl
  have hl:((cs.map Cs.row).take i).length=i:=by simp;omega
  obtain⟨g,ws,x⟩:=x;obtain⟨oc1,oc2⟩:=(hO.case hmem).body;have hp:=ih x (by have:=Tm.O4 (k:=k) (n:=n) (a:=a) (b:=b) (vs:=vs) (xs:=xs) hmem;omega) oc1;have hcw:=Qz2 ws (by omega);obtain⟨xk,xn,xa,xb,xv,xx,xc⟩:=x;refine AWp.skip ?_;refine AWp.rg [] [] ?_ (hr:=by conv=>lhs;simp[h1,Cs.row,Tm.row,Tm.Q3,Cs.Q3]);repeat (first|refine AWp.seq ?_|refine AWp.block ?_)
  apply AWp.draw [5] [.p (fun d=>.arr d 0 ws.length) (some (.arr 9 1 (ws.map Z0))),.p (fun _=>X9 (.mk xk xn xa xb xv xx xc)) none] mixed
  ·conv=>lhs;simp[Zk]
  ·kernel_rfl
  ·exact⟨hcw,hp,by omega,by simp[maxLen];omega,by omega⟩
  refine AWp.rg [] [] ?_;refine⟨⟨i+1,hi1⟩,by simp;omega,?_⟩;dsimp only;rw[ht];exact Le.sub (by simp[Nat.min_eq_left hi]) (by simp[owMem,Cs.row,Tm.row,Tm.Q3,Cs.Q3])
 have hi1:i=cs.length:=by have:=of_decide_eq_false h;omega
 subst hi1;refine AWp.exit ?_;rw[show(cs.map Cs.row).take cs.length=cs.map Cs.row from List.take_of_length_le (by simp)];repeat (first|refine AWp.seq ?_|refine AWp.block ?_)
 apply AWp.reg [] []
 ·conv=>lhs;simp[owMem]
 ·trivial
 repeat (first|refine AWp.seq ?_|refine AWp.block ?_)
 apply AWp.reg [] []
 ·conv=>lhs;simp
 ·trivial
 refine AWp.ret ?_;try dsimp only[Qq,Q6]
 apply Z8.retF [400,401]
 ·rfl
 ·conv=>lhs;simp
 ·conv=>lhs;simp[Q9,Tryz.results66]
 rfl
theorem sp_Own (t:Tm) (h:t.Ok):Z4 Tryz.prog 66 [X9 t] (fun _=>X9 t) none:=sp_Own_at _ t (Nat.lt_succ_self _) h
def hasB (l:List ByteArray) (s:ByteArray):Bool:=l.any fun x=>decide (x=s)
theorem X3 {l:List ByteArray} {s:ByteArray}:hasB l s=true↔s∈l:=by
 unfold hasB;rw[List.any_eq_true];constructor
 ·rintro⟨x,h1,h2⟩;rw[←of_decide_eq_true h2];exact h1
 ·exact fun h=>⟨s,h,decide_eq_true rfl⟩
theorem H7 {l:List ByteArray} {s:ByteArray}:hasB l s=false↔s ∉ l:=by
 rw[←Bool.not_eq_true,X3]
theorem not_mem_snoc {l:List ByteArray} {i:Nat} {x s:ByteArray} (hx:l[i]? =some x) (h:s ∉ l.take i) (hne:x≠s):s ∉ l.take (i+1):=by
 rw[List.take_add_one,hx];simp only[Option.toList_some,List.mem_append,List.mem_singleton,not_or];exact⟨h,fun e=>hne e.symm⟩
theorem sp_Has (l:List ByteArray) (s:ByteArray) (hl:l.length≤8796093022208):Z4 Tryz.prog 52 [Zk l,.d (.str s)] (fun _=>.d (.bool (hasB l s))) none:=by
 refine Z4.of Tryz.func52 rfl rfl rfl (Nat.le_of_ble_eq_true rfl) ?_;show AWp _ _ (Z8 _ Tryz.f52 _ _ _) (Z7 17 _);repeat (first|refine AWp.seq ?_|refine AWp.block ?_)
 apply AWp.reg [] []
 ·conv=>lhs;simp
 ·trivial
 repeat (first|refine AWp.seq ?_|refine AWp.block ?_)
 apply AWp.reg [] []
 ·conv=>lhs;simp
 ·trivial
 repeat (first|refine AWp.seq ?_|refine AWp.block ?_)
 refine AWp.loop (σ:=fun u:{i:Nat // i≤l.length∧s ∉ l.take i}=>⟨17,[(1,.d (.str s)),(7,Zk l),(8,.d (.int l.length)),(9,.d (.int u.1))],[]⟩)
  (μ:=fun u=>l.length-u.1) ⟨0,Nat.zero_le _,by simp⟩ (Le.sub (by simp) (by simp)) (fun⟨i,hi,ht⟩=>?_)
 dsimp only;repeat (first|refine AWp.seq ?_|refine AWp.block ?_)
 apply AWp.reg [] []
 ·conv=>lhs;simp
 ·trivial
 repeat (first|refine AWp.seq ?_|refine AWp.block ?_)
 refine AWp.cond rfl (fun h=>?_) (fun h=>?_)
 ·have hi1:i<l.length:=by have:=of_decide_eq_true h;omega
  have h1:l[i]? =some l[i]:=List.getElem?_eq_getElem hi1;have hmem:l[i]∈l:=List.getElem_mem hi1;generalize l[i]=x at h1 hmem;refine AWp.skip ?_;refine AWp.rg [] [] ?_ (hr:=by conv=>lhs;simp[h1]);by_cases hx:x=s
  ·subst hx;repeat (first|refine AWp.seq ?_|refine AWp.block ?_)
   apply AWp.reg [] []
   ·conv=>lhs;simp
   ·trivial
   repeat (first|refine AWp.seq ?_|refine AWp.block ?_)
   refine AWp.cond rfl (fun h2=>?_) (fun h2=>?_)
   ·repeat (first|refine AWp.seq ?_|refine AWp.block ?_)
    apply AWp.reg [] []
    ·conv=>lhs;simp
    ·trivial
    refine AWp.ret ?_;try dsimp only[Qq,Q6]
    apply Z8.ret
    ·rfl
    ·conv=>lhs;simp[Q9,Tryz.results52]
    rw[X3.2 hmem];rfl
   ·simp at h2
  ·repeat (first|refine AWp.seq ?_|refine AWp.block ?_)
   apply AWp.reg [] []
   ·conv=>lhs;simp[hx]
   ·trivial
   repeat (first|refine AWp.seq ?_|refine AWp.block ?_)
   refine AWp.cond rfl (fun h2=>?_) (fun h2=>?_)
   ·simp at h2
   refine AWp.skip ?_;refine AWp.rg [] [] ?_;refine⟨⟨i+1,hi1,not_mem_snoc h1 ht hx⟩,by simp;omega,Le.sub (by simp) (by simp)⟩
 have hi1:i=l.length:=by have:=of_decide_eq_false h;omega
 subst hi1;rw[List.take_length]at ht;refine AWp.exit ?_;repeat (first|refine AWp.seq ?_|refine AWp.block ?_)
 apply AWp.reg [] []
 ·conv=>lhs;simp
 ·trivial
 refine AWp.ret ?_;try dsimp only[Qq,Q6]
 apply Z8.ret
 ·rfl
 ·conv=>lhs;simp[Q9,Tryz.results52]
 rw[H7.2 ht];rfl
def Ov (l:List ByteArray) (p:ByteArray→Bool):Int:=match l.findIdx? p with|some i=>i|none=>-1
theorem Tv {l:List ByteArray} {p:ByteArray→Bool} {i:Nat} {x:ByteArray} (hx:l[i]? =some x) (h:∀y∈l.take i,p y=false) (hp:p x=true):Ov l p=i:=by
 unfold Ov;have:l.findIdx? p=some i:=by
  rw[List.findIdx?_eq_some_iff_getElem];have hi:=(List.getElem?_eq_some_iff.1 hx)
  refine⟨hi.1,by rw[hi.2];exact hp,fun j hj=>?_⟩;have hjl:j<l.length:=by have:=hi.1;omega
  have:=h (l[j]'hjl) (List.mem_iff_getElem?.2 ⟨j,by rw[List.getElem?_take,if_pos hj];exact List.getElem?_eq_getElem hjl⟩);simp[this]
 rw[this]
theorem Nq {l:List ByteArray} {p:ByteArray→Bool} (h:∀y∈l,p y=false):Ov l p= -1:=by
 unfold Ov;have:l.findIdx? p=none:=by
  rw[List.findIdx?_eq_none_iff];exact h
 rw[this]
theorem Pv {l:List ByteArray} {p:ByteArray→Bool} {i:Nat} {x:ByteArray} (hx:l[i]? =some x) (h:∀y∈l.take i,p y=false) (hp:p x=false):∀y∈l.take (i+1),p y=false:=by
 rw[List.take_add_one,hx];intro y hy;rcases List.mem_append.1 hy with hy|hy
 ·exact h y hy
 ·simp at hy;subst hy;exact hp
theorem sp_Index (l:List ByteArray) (s:ByteArray) (hl:l.length≤8796093022208):Z4 Tryz.prog 134 [Zk l,.d (.str s)] (fun _=>.d (.int (Ov l fun x=>decide (s=x)))) none:=by
 refine Z4.of Tryz.func134 rfl rfl rfl (Nat.le_of_ble_eq_true rfl) ?_;show AWp _ _ (Z8 _ Tryz.f134 _ _ _) (Z7 19 _);repeat (first|refine AWp.seq ?_|refine AWp.block ?_)
 apply AWp.reg [] []
 ·conv=>lhs;simp
 ·trivial
 repeat (first|refine AWp.seq ?_|refine AWp.block ?_)
 apply AWp.reg [] []
 ·conv=>lhs;simp
 ·trivial
 repeat (first|refine AWp.seq ?_|refine AWp.block ?_)
 refine AWp.loop (σ:=fun u:{i:Nat // i≤l.length∧∀y∈l.take i,decide (s=y)=false}=>⟨19,[(0,Zk l),(1,.d (.str s)),(7,.d (.int l.length)),(8,.d (.int u.1))],[]⟩)
  (μ:=fun u=>l.length-u.1) ⟨0,Nat.zero_le _,by simp⟩ (Le.sub (by simp) (by simp)) (fun⟨i,hi,ht⟩=>?_)
 dsimp only;repeat (first|refine AWp.seq ?_|refine AWp.block ?_)
 apply AWp.reg [] []
 ·conv=>lhs;simp
 ·trivial
 repeat (first|refine AWp.seq ?_|refine AWp.block ?_)
 refine AWp.cond rfl (fun h=>?_) (fun h=>?_)
 ·have hi1:i<l.length:=by have:=of_decide_eq_true h;omega
  have h1:l[i]? =some l[i]:=List.getElem?_eq_getElem hi1;generalize l[i]=x at h1;refine AWp.skip ?_;repeat (first|refine AWp.seq ?_|refine AWp.block ?_)
  apply AWp.reg [] []
  ·conv=>lhs;simp
  ·trivial
  by_cases hx:s=x
  ·subst hx;refine AWp.rg [] [] ?_ (hr:=by conv=>lhs;simp[h1]);repeat (first|refine AWp.seq ?_|refine AWp.block ?_)
   refine AWp.cond rfl (fun h2=>?_) (fun h2=>?_)
   ·repeat (first|refine AWp.seq ?_|refine AWp.block ?_)
    apply AWp.reg [] []
    ·conv=>lhs;simp
    ·trivial
    refine AWp.ret ?_;try dsimp only[Qq,Q6]
    apply Z8.ret
    ·rfl
    ·conv=>lhs;simp[Q9,Tryz.results134]
    rw[Tv h1 ht (by simp)];rfl
   ·simp at h2
  ·refine AWp.rg [] [] ?_ (hr:=by conv=>lhs;simp[h1,hx]);repeat (first|refine AWp.seq ?_|refine AWp.block ?_)
   refine AWp.cond rfl (fun h2=>?_) (fun h2=>?_)
   ·simp at h2
   refine AWp.skip ?_;refine AWp.rg [] [] ?_;refine⟨⟨i+1,hi1,Pv h1 ht (by simp[hx])⟩,by simp;omega,Le.sub (by simp) (by simp)⟩
 have hi1:i=l.length:=by have:=of_decide_eq_false h;omega
 subst hi1;rw[List.take_length]at ht;refine AWp.exit ?_;repeat (first|refine AWp.seq ?_|refine AWp.block ?_)
 apply AWp.reg [] []
 ·conv=>lhs;simp
 ·trivial
 refine AWp.ret ?_;try dsimp only[Qq,Q6]
 apply Z8.ret
 ·rfl
 ·conv=>lhs;simp[Q9,Tryz.results134]
 rw[Nq ht];rfl
theorem sp_Contains (l:List ByteArray) (s:ByteArray) (hl:l.length≤8796093022208):Z4 Tryz.prog 110 [Zk l,.d (.str s)] (fun _=>.d (.bool (hasB l s))) none:=by
 have hx:=sp_Index l s hl;have e:decide (0≤Ov l fun x=>decide (s=x))=hasB l s:=by
  cases h:hasB l s with
  |true=>
   have hm:=X3.1 h;unfold Ov;cases hf:l.findIdx? fun x=>decide (s=x)with
   |none=>
    rw[List.findIdx?_eq_none_iff]at hf;have:=hf s hm;simp at this
   |some i=>simp
  |false=>
   have hm:=H7.1 h;rw[Nq fun y hy=>by simp;rintro rfl;exact hm hy];rfl
 generalize Ov l (fun x=>decide (s=x))=I at hx e;refine Z4.of Tryz.func110 rfl rfl rfl (Nat.le_of_ble_eq_true rfl) ?_;show AWp _ _ (Z8 _ Tryz.f110 _ _ _) (Z7 9 _);repeat (first|refine AWp.seq ?_|refine AWp.block ?_)
 apply AWp.reg [] []
 ·conv=>lhs;simp
 ·trivial
 repeat (first|refine AWp.seq ?_|refine AWp.block ?_)
 apply AWp.reg [] [.p (fun _=>.d (.int I)) none]
 ·conv=>lhs;simp
 ·exact hx
 refine AWp.ret ?_;try dsimp only[Qq,Q6]
 apply Z8.ret
 ·rfl
 ·conv=>lhs;simp[Q9,Tryz.results110]
 rw[e];rfl
theorem cs_IndexFunc (l:List ByteArray) (hl:l.length≤8796093022208) (p:ByteArray→Bool) (K:Nat) (t:TypeId) (x:D)
  (hk:∀s∈l,Qv Tryz.prog K [.d (.str s),.ptr 1000 0] [(1000,.blk t [.d x])] (.d (.bool (p s))) [(1000,.blk t [.d x])]):
  Qv Tryz.prog 135 [.arr 1001 0 l.length,.clo K [.ptr 1000 0]] [(1000,.blk t [.d x]),(1001,.arr 9 1 (l.map Z0))] (.d (.int (Ov l p))) [(1000,.blk t [.d x]),(1001,.arr 9 1 (l.map Z0))]:=by
 refine Qv.of Tryz.func135 rfl rfl (Nat.le_of_ble_eq_true rfl) ?_;show AWp _ _ (Qk _ Tryz.f135 _ _) (Zz 19 _ _);repeat (first|refine AWp.seq ?_|refine AWp.block ?_)
 apply AWp.reg [] []
 ·conv=>lhs;simp
 ·trivial
 repeat (first|refine AWp.seq ?_|refine AWp.block ?_)
 apply AWp.reg [] []
 ·conv=>lhs;simp
 ·trivial
 repeat (first|refine AWp.seq ?_|refine AWp.block ?_)
 refine AWp.loop (σ:=fun u:{i:Nat // i≤l.length∧∀y∈l.take i,p y=false}=>⟨19,[(0,.arr 1001 0 l.length),(1,.clo K [.ptr 1000 0]),(7,.d (.int l.length)),(8,.d (.int u.1))],[(1000,some (.blk t [.d x])),(1001,some (.arr 9 1 (l.map Z0)))]⟩)
  (μ:=fun u=>l.length-u.1) ⟨0,Nat.zero_le _,by simp⟩ (Le.sub (by simp) (by simp)) (fun⟨i,hi,ht⟩=>?_)
 dsimp only;repeat (first|refine AWp.seq ?_|refine AWp.block ?_)
 apply AWp.reg [] []
 ·conv=>lhs;simp
 ·trivial
 repeat (first|refine AWp.seq ?_|refine AWp.block ?_)
 refine AWp.cond rfl (fun h=>?_) (fun h=>?_)
 ·have hi1:i<l.length:=by have:=of_decide_eq_true h;omega
  have h1:l[i]? =some l[i]:=List.getElem?_eq_getElem hi1;have hmem:l[i]∈l:=List.getElem_mem hi1;generalize l[i]=y at h1 hmem;have hc:=hk y hmem;obtain⟨B,hB⟩:∃B,B=p y:=⟨_,rfl⟩
  rw[←hB]at hc;refine AWp.skip ?_;repeat (first|refine AWp.seq ?_|refine AWp.block ?_)
  apply AWp.reg [] []
  ·conv=>lhs;simp
  ·trivial
  cases B with
  |true=>
   repeat (first|refine AWp.seq ?_|refine AWp.block ?_)
   apply AWp.reg [] [.c [] [.d (.str y),.ptr 1000 0] [(1000,.blk t [.d x])] (.d (.bool true)) [(1000,.blk t [.d x])]]
   ·conv=>lhs;simp[h1]
   ·exact⟨by omega,hc⟩
   repeat (first|refine AWp.seq ?_|refine AWp.block ?_)
   refine AWp.cond rfl (fun h2=>?_) (fun h2=>?_)
   ·repeat (first|refine AWp.seq ?_|refine AWp.block ?_)
    apply AWp.reg [] []
    ·conv=>lhs;simp
    ·trivial
    refine AWp.ret ?_;try dsimp only[Qq,Q6]
    apply Qk.ret
    ·rfl
    ·conv=>lhs;simp[Q9,Tryz.results135]
    ·rw[Tv h1 ht hB.symm];rfl
    ·simp[Qx,Q4]
   ·simp at h2
  |false=>
   repeat (first|refine AWp.seq ?_|refine AWp.block ?_)
   apply AWp.reg [] [.c [] [.d (.str y),.ptr 1000 0] [(1000,.blk t [.d x])] (.d (.bool false)) [(1000,.blk t [.d x])]]
   ·conv=>lhs;simp[h1]
   ·exact⟨by omega,hc⟩
   repeat (first|refine AWp.seq ?_|refine AWp.block ?_)
   refine AWp.cond rfl (fun h2=>?_) (fun h2=>?_)
   ·simp at h2
   refine AWp.skip ?_;refine AWp.rg [] [] ?_;refine⟨⟨i+1,hi1,Pv h1 ht hB.symm⟩,by simp;omega,Le.sub (by simp) (by simp)⟩
 have hi1:i=l.length:=by have:=of_decide_eq_false h;omega
 subst hi1;rw[List.take_length]at ht;refine AWp.exit ?_;repeat (first|refine AWp.seq ?_|refine AWp.block ?_)
 apply AWp.reg [] []
 ·conv=>lhs;simp
 ·trivial
 refine AWp.ret ?_;try dsimp only[Qq,Q6]
 apply Qk.ret
 ·rfl
 ·conv=>lhs;simp[Q9,Tryz.results135]
 ·rw[Nq ht];rfl
 ·simp[Qx,Q4]
def Wz (l:List ByteArray) (p:ByteArray→Bool):List (List D):=((l.filter fun s=>!p s).map Z0)++List.replicate (l.length-(l.filter fun s=>!p s).length) [.str ByteArray.empty]
theorem set_mid {α:Type} (a m b:List α) (v:α):∃m',m'.length=m.length∧(a++(m++v::b)).set a.length v=(a++[v])++(m'++b):=by
 cases m with
 |nil=>exact⟨[],rfl,by simp⟩
 |cons x m=>exact⟨m++[v],by simp,by simp⟩
theorem cs_DeleteFunc (l:List ByteArray) (hl:l.length≤8796093022208) (p:ByteArray→Bool) (K:Nat) (t:TypeId) (x:D)
  (hk:∀s∈l,Qv Tryz.prog K [.d (.str s),.ptr 1000 0] [(1000,.blk t [.d x])] (.d (.bool (p s))) [(1000,.blk t [.d x])]):
  Qv Tryz.prog 111 [.arr 1001 0 l.length,.clo K [.ptr 1000 0]] [(1000,.blk t [.d x]),(1001,.arr 9 1 (l.map Z0))] (.arr 1001 0 (l.filter fun s=>!p s).length) [(1000,.blk t [.d x]),(1001,.arr 9 1 (Wz l p))]:=by
 have hix:=cs_IndexFunc l hl p K t x hk;refine Qv.of Tryz.func111 rfl rfl (Nat.le_of_ble_eq_true rfl) ?_;show AWp _ _ (Qk _ Tryz.f111 _ _) (Zz 42 _ _);repeat (first|refine AWp.seq ?_|refine AWp.block ?_)
 apply AWp.reg [] []
 ·conv=>lhs;simp
 ·trivial
 by_cases hno:∀y∈l,p y=false
 ·rw[Nq hno]at hix;have hf:(l.filter fun s=>!p s)=l:=List.filter_eq_self.2 fun y hy=>by simp[hno y hy]
  repeat (first|refine AWp.seq ?_|refine AWp.block ?_)
  apply AWp.reg [] [.c [] [.arr 1001 0 l.length,.clo K [.ptr 1000 0]] [(1000,.blk t [.d x]),(1001,.arr 9 1 (l.map Z0))] (.d (.int (-1))) [(1000,.blk t [.d x]),(1001,.arr 9 1 (l.map Z0))]]
  ·conv=>lhs;simp
  ·exact hix
  repeat (first|refine AWp.seq ?_|refine AWp.block ?_)
  apply AWp.reg [] []
  ·conv=>lhs;simp
  ·trivial
  repeat (first|refine AWp.seq ?_|refine AWp.block ?_)
  refine AWp.cond rfl (fun h=>?_) (fun h=>?_)
  ·repeat (first|refine AWp.seq ?_|refine AWp.block ?_)
   apply AWp.reg [] []
   ·conv=>lhs;simp
   ·trivial
   refine AWp.ret ?_;try dsimp only[Qq,Q6]
   apply Qk.ret
   ·rfl
   ·conv=>lhs;simp[Q9,Tryz.results111]
   ·rw[hf];rfl
   ·simp[Qx,Q4,Wz,hf]
  ·simp at h
 obtain⟨i0,y0,hy0,hp0,hbefore⟩:∃i0 y0,l[i0]? =some y0∧p y0=true∧∀y∈l.take i0,p y=false:=by
  have:∃i,l.findIdx? p=some i:=by
   cases hf:l.findIdx? p with
   |none=>exact absurd (List.findIdx?_eq_none_iff.1 hf) hno
   |some i=>exact⟨i,rfl⟩
  obtain⟨i,hi⟩:=this;rw[List.findIdx?_eq_some_iff_getElem]at hi;obtain⟨h1,h2,h3⟩:=hi;refine⟨i,l[i],List.getElem?_eq_getElem h1,h2,fun y hy=>?_⟩;obtain⟨j,hj⟩:=List.mem_iff_getElem?.1 hy;rw[List.getElem?_take]at hj;split at hj
  ·rename_i hji;have:=h3 j hji;rw[List.getElem?_eq_getElem (by omega)]at hj;cases hj;simpa using this
  ·cases hj
 rw[Tv hy0 hbefore hp0]at hix;have hi0:i0<l.length:=(List.getElem?_eq_some_iff.1 hy0).1;have hne:¬((i0:Int)= -1):=by omega
 repeat (first|refine AWp.seq ?_|refine AWp.block ?_)
 apply AWp.reg [] [.c [] [.arr 1001 0 l.length,.clo K [.ptr 1000 0]] [(1000,.blk t [.d x]),(1001,.arr 9 1 (l.map Z0))] (.d (.int i0)) [(1000,.blk t [.d x]),(1001,.arr 9 1 (l.map Z0))]]
 ·conv=>lhs;simp
 ·exact hix
 repeat (first|refine AWp.seq ?_|refine AWp.block ?_)
 apply AWp.reg [] []
 ·conv=>lhs;simp[hne]
 ·trivial
 repeat (first|refine AWp.seq ?_|refine AWp.block ?_)
 refine AWp.cond rfl (fun h=>?_) (fun h=>?_)
 ·simp at h
 refine AWp.skip ?_;repeat (first|refine AWp.seq ?_|refine AWp.block ?_)
 apply AWp.reg [] []
 ·conv=>lhs;simp
 ·simp[inI];omega
 repeat (first|refine AWp.seq ?_|refine AWp.block ?_)
 have hk0:((l.take (i0+1)).filter fun s=>!p s)=l.take i0:=by
  rw[List.take_add_one,hy0,List.filter_append];simp[hp0];exact fun y hy=>by simpa using hbefore y hy
 refine AWp.loop (σ:=fun u:{q:Nat×List ByteArray // q.1≤l.length∧((l.take q.1).filter fun s=>!p s).length+q.2.length=q.1}=>⟨42,[(0,.arr 1001 0 l.length),(1,.clo K [.ptr 1000 0]),(5,.d (.int ((l.take u.1.1).filter fun s=>!p s).length)),(6,.d (.int u.1.1))],
   [(1000,some (.blk t [.d x])),(1001,some (.arr 9 1 ((((l.take u.1.1).filter fun s=>!p s)++(u.1.2++l.drop u.1.1)).map Z0)))]⟩)
  (μ:=fun u=>l.length-u.1.1) ⟨(i0+1,[y0]),hi0,by rw[hk0];simp;omega⟩ ?_ (fun⟨⟨j,mid⟩,hj,hlen⟩=>?_)
 ·dsimp only;rw[hk0];have e:l.take i0++([y0]++l.drop (i0+1))=l:=by
   have h2:=List.drop_eq_getElem_cons hi0;rw[List.getElem?_eq_getElem hi0]at hy0;cases hy0;rw[List.singleton_append,←h2,List.take_append_drop]
  rw[e];have e2:(l.take i0).length=i0:=by simp;omega
  rw[e2];exact Le.sub (by simp) (by simp)
 dsimp only at hj hlen⊢;have hKl:((l.take j).filter fun s=>!p s).length≤j:=by omega
 obtain⟨kp,hkp⟩:∃kp,kp=(l.take j).filter fun s=>!p s:=⟨_,rfl⟩
 rw[←hkp]at hlen hKl⊢;obtain⟨R,hR⟩:∃R,R=kp++(mid++l.drop j):=⟨_,rfl⟩
 have hRl:R.length=l.length:=by rw[hR];simp;omega
 rw[←hR];repeat (first|refine AWp.seq ?_|refine AWp.block ?_)
 apply AWp.reg [] []
 ·conv=>lhs;simp
 ·trivial
 repeat (first|refine AWp.seq ?_|refine AWp.block ?_)
 refine AWp.cond rfl (fun h=>?_) (fun h=>?_)
 ·have hj1:j<l.length:=by have:=of_decide_eq_true h;omega
  have hv:l[j]? =some l[j]:=List.getElem?_eq_getElem hj1;have hmem:l[j]∈l:=List.getElem_mem hj1;have hd:l.drop j=l[j]::l.drop (j+1):=List.drop_eq_getElem_cons hj1;generalize l[j]=v at hv hmem hd;have hc:=hk v hmem;obtain⟨B,hB⟩:∃B,B=p v:=⟨_,rfl⟩
  have ht:(l.take (j+1)).filter (fun s=>!p s)=kp++(if B then[]else[v]):=by
   rw[List.take_add_one,hv,List.filter_append,←hkp,hB];cases hp:p v<;> simp[hp]
  rw[←hB]at hc;have hRj:R[j]? =some v:=by
   rw[hR,hd,List.getElem?_append_right (by omega),List.getElem?_append_right (by omega)];rw[show j-kp.length-mid.length=0 from by omega];rfl
  refine AWp.skip ?_;refine AWp.rg [] [] ?_ (hr:=by conv=>lhs;simp[hRj,hRl]);cases B with
  |true=>
   repeat (first|refine AWp.seq ?_|refine AWp.block ?_)
   apply AWp.reg [] [.c [] [.d (.str v),.ptr 1000 0] [(1000,.blk t [.d x])] (.d (.bool true)) [(1000,.blk t [.d x])]]
   ·conv=>lhs;simp
   ·exact hc
   repeat (first|refine AWp.seq ?_|refine AWp.block ?_)
   refine AWp.cond rfl (fun h2=>?_) (fun h2=>?_)
   ·simp at h2
   refine AWp.skip ?_;refine AWp.rg [] [] ?_;refine⟨⟨(j+1,mid++[v]),hj1,by dsimp only;rw[ht];simp;omega⟩,by simp;omega,?_⟩;dsimp only;rw[ht];simp only[if_true,List.append_nil];have e:kp++(mid++[v]++l.drop (j+1))=R:=by rw[hR,hd];simp
   rw[e];exact Le.sub (by simp) (by simp)
  |false=>
   repeat (first|refine AWp.seq ?_|refine AWp.block ?_)
   apply AWp.reg [] [.c [] [.d (.str v),.ptr 1000 0] [(1000,.blk t [.d x])] (.d (.bool false)) [(1000,.blk t [.d x])]]
   ·conv=>lhs;simp
   ·exact hc
   obtain⟨m',hm',hset⟩:=set_mid kp mid (l.drop (j+1)) v;rw[←hd,←hR]at hset;have hRk:R[kp.length]? =some R[kp.length]:=List.getElem?_eq_getElem (by omega);generalize R[kp.length]=r at hRk;repeat (first|refine AWp.seq ?_|refine AWp.block ?_)
   refine AWp.cond rfl (fun h2=>?_) (fun h2=>?_)
   ·refine AWp.rg [] [] ?_ (hr:=by conv=>lhs;simp[hRk,hRl]);refine AWp.rg [] [] ?_;refine AWp.rg [] [] ?_;refine⟨⟨(j+1,m'),hj1,by dsimp only;rw[ht];simp;omega⟩,by simp;omega,?_⟩;dsimp only;rw[ht];have e:kp++(if false=true then[]else[v])++(m'++l.drop (j+1))=R.set kp.length v:=by rw[hset];simp
    rw[e];exact Le.sub (by simp) (by simp[List.map_set])
   ·simp at h2
 have hj1:j=l.length:=by have:=of_decide_eq_false h;omega
 subst hj1;rw[List.take_length]at hkp;rw[List.drop_length,List.append_nil]at hR;refine AWp.exit ?_;have hmem:List.take kp.length (List.map Z0 R)++(List.replicate (l.length-kp.length) [D.str ByteArray.empty]++List.drop (kp.length+(l.length-kp.length)) (List.map Z0 R))=Wz l p:=by
  rw[Wz,←hkp,hR,List.map_append,List.take_append_of_le_length (by simp),List.take_of_length_le (by simp),List.drop_eq_nil_of_le (by simp;omega),List.append_nil]
 refine AWp.rg [] [] ?_ (hr:=by conv=>lhs;simp[hRl]);refine AWp.rg [] [] ?_ (hr:=by conv=>lhs;simp[hRl]);rw[hmem];refine AWp.ret ?_;try dsimp only[Qq,Q6]
 apply Qk.ret
 ·rfl
 ·conv=>lhs;simp[Q9,Tryz.results111]
 ·rw[hkp];rfl
 ·simp[Qx,Q4]
theorem Z4.toC {P:Program} {k:Nat} {args args':List AV} {d:D} (hS:Z4 P k args' (fun _=>.d d) none) (o:Nat) {e:TypeId} {sz:Nat} {rows:List (List D)} (he:args.map (AV.frz o (.arr e sz rows))=args') (hd:d.flat):
  Qv P k args [(o,.arr e sz rows)] (.d d) [(o,.arr e sz rows)]:=by
 subst he;refine⟨hS.ent,fun w ok g vals hM hl hv=>?_⟩;have hx:Xq [(o,Qz.arr e sz rows)] o=some (.arr e sz rows):=by simp[Xq]
 refine(hS.run 0 w (fun b=>ok b∨g.bl o=some b) vals hM.giw (fun b hb=>?_) (by simpa using hl) (fun i c v hc hvi=>?_)).mono ?_
 ·rcases hb with hb|hb
  ·exact(hM.okb b hb).1
  ·exact(hM.own o _ b hx hb).2.1
 ·rw[List.getElem?_map]at hc;obtain⟨c',hc',rfl⟩:=Option.map_eq_some_iff.1 hc;exact((hv i c' v hc' hvi).frz hM hx).toNo
 ·rintro ex w' ⟨v,ok',g',rfl,hb,hok,hokn,hr,-⟩;refine⟨v,ok,g,rfl,⟨fun i y hy=>?_,hM.inj,fun i y b hy hbi=>?_,fun b h=>?_,hM.okk,hb.size,fun b h _=>hb.block b h,fun _ _=>⟨rfl,rfl⟩,hb.os,hb.tape,hb.output,hM.gi,hM.gb⟩,?_⟩
  ·have hy':o=i∧Qz.arr e sz rows=y:=by
    simp only[Xq]at hy;split at hy
    ·rename_i h;exact⟨by simpa using h,by simpa using hy⟩
    ·cases hy
   obtain⟨rfl,rfl⟩:=hy';refine(hM.obj _ _ hy).mono (fun _=>false) trivial (fun b h=>hb.block b (hM.own _ _ b hy h).2.1) rfl rfl (fun p h=>hb.cell (hM.okb _ h).1) (fun _ h=>h) (fun o x' _ h=>⟨x',h,Qz.D9 _,rfl,rfl⟩)
  ·obtain⟨h1,h2,h3⟩:=hM.own i y b hy hbi;exact⟨h1,by have:=hb.size;omega,h3⟩
  ·obtain⟨h1,h2⟩:=hM.okb b h;exact⟨by have:=hb.size;omega,.inl h⟩
  ·cases hr with
   |d _ _ hr=>exact .d _ _ (hr.flat hd)
theorem cs_Contains (o:Nat) (l:List ByteArray) (s:ByteArray) (hl:l.length≤8796093022208):Qv Tryz.prog 110 [.arr o 0 l.length,.d (.str s)] [(o,.arr 9 1 (l.map Z0))] (.d (.bool (hasB l s))) [(o,.arr 9 1 (l.map Z0))]:=
 (sp_Contains l s hl).toC o (by simp[AV.frz,Pz,List.take_of_length_le]) trivial
theorem cs_Has (o:Nat) (l:List ByteArray) (s:ByteArray) (hl:l.length≤8796093022208):Qv Tryz.prog 52 [.arr o 0 l.length,.d (.str s)] [(o,.arr 9 1 (l.map Z0))] (.d (.bool (hasB l s))) [(o,.arr 9 1 (l.map Z0))]:=
 (sp_Has l s hl).toC o (by simp[AV.frz,Pz,List.take_of_length_le]) trivial
def woN (l gone:List ByteArray):List ByteArray:=l.filter fun s=>!hasB gone s
theorem F5 (l gone:List ByteArray):(woN l gone).length≤l.length:=List.length_filter_le _ _
def addN (l more:List ByteArray):List ByteArray:=more.foldl (fun l s=>if hasB l s then l else l++[s]) l
theorem Qx7 (more:List ByteArray):∀l,(addN l more).length≤l.length+more.length:=by
 induction more with
 |nil=>intro l;simp[addN]
 |cons s more ih=>
  intro l;have:=ih (if hasB l s then l else l++[s]);simp only[addN,List.foldl_cons,List.length_cons]at this⊢;refine Nat.le_trans this ?_;split
  ·omega
  ·simp;omega
theorem wr_sum (a b:Nat):wr (wr (a:Int)+wr (b:Int))=wr ((a+b:Nat):Int):=by rw[wr_add,wr_add'];congr 1
@[simp] theorem wr_one:wr 1=1:=rfl
theorem szs_append:∀(l r:List Tm),Tm.szs (l++r)=Tm.szs l+Tm.szs r
 |[],r=>by simp[Tm.szs]
 |x::l,r=>by simp only[List.cons_append,Tm.szs,szs_append l r];omega
theorem cszs_append:∀(l r:List Cs),Cs.szs (l++r)=Cs.szs l+Cs.szs r
 |[],r=>by simp[Cs.szs]
 |x::l,r=>by simp only[List.cons_append,Cs.szs,cszs_append l r];omega
theorem szs_snoc (l:List Tm) (x:Tm):Tm.szs (l++(some x).toList)=Tm.szs l+x.sz:=by rw[szs_append];simp[Tm.szs]
theorem cszs_snoc (l:List Cs) (x:Cs):Cs.szs (l++(some x).toList)=Cs.szs l+x.sz:=by rw[cszs_append];simp[Cs.szs]
theorem Tm.szs_take_le (l:List Tm) (i:Nat):Tm.szs (l.take i)≤Tm.szs l:=by
 have:=szs_append (l.take i) (l.drop i);rw[List.take_append_drop]at this;omega
theorem Cs.szs_take_le (l:List Cs) (i:Nat):Cs.szs (l.take i)≤Cs.szs l:=by
 have:=cszs_append (l.take i) (l.drop i);rw[List.take_append_drop]at this;omega
def siMem (k n:Int) (a b:ByteArray) (vs:List ByteArray) (xs:List Tm) (cs:List Cs):List (Nat×Option Qz):=
 [(1,some (.blk 45 [.d (.int k),.d (.int n),.d (.str a),.d (.str b),.d (Q8 vs),.d (.sl (xs.map Tm.row)),.d (.sl (cs.map Cs.row))]))]
theorem sp_refSize_at:∀(N:Nat) (t:Tm),t.sz<N→t.Ok→Z4 Tryz.prog 26 [X9 t] (fun _=>.d (.int (wr t.sz))) none:=by
 intro N;induction N with
 |zero=>intro s h;omega
 |succ N ih=>
 intro t hN hO;obtain⟨k,n,a,b,vs,xs,cs⟩:=t;obtain⟨o1,o2,o3,o4,o5⟩:=hO.vars;refine Z4.of Tryz.func26 rfl rfl rfl (Nat.le_of_ble_eq_true rfl) ?_;show AWp _ _ (Z8 _ Tryz.f26 _ _ _) (Z7 34 _);repeat (first|refine AWp.seq ?_|refine AWp.block ?_)
 apply AWp.reg [] []
 ·conv=>lhs;simp
 ·trivial
 repeat (first|refine AWp.seq ?_|refine AWp.block ?_)
 apply AWp.reg [] []
 ·conv=>lhs;simp
 ·trivial
 repeat (first|refine AWp.seq ?_|refine AWp.block ?_)
 apply AWp.reg [] []
 ·conv=>lhs;simp
 ·trivial
 repeat (first|refine AWp.seq ?_|refine AWp.block ?_)
 refine AWp.loop (σ:=fun u:{i:Nat // i≤xs.length}=>⟨34,[(1,.ptr 1 0),(3,.d (.int (wr ((1+Tm.szs (xs.take u.1):Nat):Int)))),(9,.d (.sl (xs.map Tm.row))),(10,.d (.int xs.length)),(11,.d (.int u.1))],siMem k n a b vs xs cs⟩)
  (μ:=fun u=>xs.length-u.1) ⟨0,Nat.zero_le _⟩ (Le.sub (by simp[Tm.szs]) (by simp[siMem])) (fun⟨i,hi⟩=>?_)
 dsimp only;repeat (first|refine AWp.seq ?_|refine AWp.block ?_)
 apply AWp.reg [] []
 ·conv=>lhs;simp
 ·trivial
 repeat (first|refine AWp.seq ?_|refine AWp.block ?_)
 refine AWp.cond rfl (fun h=>?_) (fun h=>?_)
 ·have hi1:i<xs.length:=by have:=of_decide_eq_true h;omega
  have h1:xs[i]? =some xs[i]:=List.getElem?_eq_getElem hi1;have hmem:xs[i]∈xs:=List.getElem_mem hi1;generalize xs[i]=x at h1 hmem;have hp:=ih x (by have:=Tm.Qj3 (k:=k) (n:=n) (a:=a) (b:=b) (vs:=vs) (cs:=cs) hmem;omega) (hO.arg hmem);have ht:Tm.szs (xs.take (i+1))=Tm.szs (xs.take i)+x.sz:=by rw[List.take_add_one,h1];exact szs_snoc _ _
  have hle:=Tm.szs_take_le xs (i+1);refine AWp.skip ?_;generalize x.sz=z at hp ht;generalize Tm.szs (xs.take i)=y at ht⊢;obtain⟨xk,xn,xa,xb,xv,xx,xc⟩:=x;refine AWp.rg [] [] ?_ (hr:=by conv=>lhs;simp[h1,Tm.row,Tm.Q3,Cs.Q3]);repeat (first|refine AWp.seq ?_|refine AWp.block ?_)
  apply AWp.reg [3] [.p (fun _=>.d (.int (wr z))) none]
  ·conv=>lhs;simp
  ·exact hp
  refine AWp.rg [] [] ?_;refine⟨⟨i+1,hi1⟩,by simp;omega,?_⟩;dsimp only;rw[ht];have hw:∀u v w:Nat,w=u+v→wr (wr (u:Int)+wr (v:Int))=wr (w:Int):=fun u v w e=>by rw[wr_sum,e]
  refine Le.sub ?_ (by simp[siMem]);simp;exact hw _ _ _ (by omega)
 have hi1:i=xs.length:=by have:=of_decide_eq_false h;omega
 subst hi1;refine AWp.exit ?_;rw[List.take_length];clear h;repeat (first|refine AWp.seq ?_|refine AWp.block ?_)
 apply AWp.reg [] []
 ·conv=>lhs;simp[siMem]
 ·trivial
 repeat (first|refine AWp.seq ?_|refine AWp.block ?_)
 refine AWp.loop (σ:=fun u:{i:Nat // i≤cs.length}=>⟨34,[(1,.ptr 1 0),(3,.d (.int (wr ((1+Tm.szs xs+Cs.szs (cs.take u.1):Nat):Int)))),(21,.d (.sl (cs.map Cs.row))),(22,.d (.int cs.length)),(23,.d (.int u.1))],siMem k n a b vs xs cs⟩)
  (μ:=fun u=>cs.length-u.1) ⟨0,Nat.zero_le _⟩ (Le.sub (by simp[Cs.szs]) (by simp[siMem])) (fun⟨i,hi⟩=>?_)
 dsimp only;repeat (first|refine AWp.seq ?_|refine AWp.block ?_)
 apply AWp.reg [] []
 ·conv=>lhs;simp
 ·trivial
 repeat (first|refine AWp.seq ?_|refine AWp.block ?_)
 refine AWp.cond rfl (fun h=>?_) (fun h=>?_)
 ·have hi1:i<cs.length:=by have:=of_decide_eq_true h;omega
  have h1:cs[i]? =some cs[i]:=List.getElem?_eq_getElem hi1;have hmem:cs[i]∈cs:=List.getElem_mem hi1;generalize cs[i]=x at h1 hmem;have ht:Cs.szs (cs.take (i+1))=Cs.szs (cs.take i)+x.sz:=by rw[List.take_add_one,h1];exact cszs_snoc _ _
  have hle:=Cs.szs_take_le cs (i+1);obtain⟨g,ws,x⟩:=x;obtain⟨oc1,oc2⟩:=(hO.case hmem).body;have hp:=ih x (by have:=Tm.O4 (k:=k) (n:=n) (a:=a) (b:=b) (vs:=vs) (xs:=xs) hmem;omega) oc1;rw[show(Cs.mk g ws x).sz=x.sz from rfl]at ht;refine AWp.skip ?_;generalize x.sz=z at hp ht;generalize Cs.szs (cs.take i)=y at ht⊢;obtain⟨xk,xn,xa,xb,xv,xx,xc⟩:=x;refine AWp.rg [] [] ?_ (hr:=by conv=>lhs;simp[h1,Cs.row,Tm.row,Tm.Q3,Cs.Q3]);repeat (first|refine AWp.seq ?_|refine AWp.block ?_)
  apply AWp.reg [4] [.p (fun _=>.d (.int (wr z))) none]
  ·conv=>lhs;simp
  ·exact hp
  refine AWp.rg [] [] ?_;refine⟨⟨i+1,hi1⟩,by simp;omega,?_⟩;dsimp only;rw[ht];have hw:∀u v w:Nat,w=u+v→wr (wr (u:Int)+wr (v:Int))=wr (w:Int):=fun u v w e=>by rw[wr_sum,e]
  refine Le.sub ?_ (by simp[siMem]);simp;exact hw _ _ _ (by omega)
 have hi1:i=cs.length:=by have:=of_decide_eq_false h;omega
 subst hi1;refine AWp.exit ?_;rw[List.take_length];repeat (first|refine AWp.seq ?_|refine AWp.block ?_)
 apply AWp.reg [] []
 ·conv=>lhs;simp
 ·trivial
 refine AWp.ret ?_;try dsimp only[Qq,Q6]
 apply Z8.ret
 ·rfl
 ·conv=>lhs;simp[Q9,Tryz.results26]
 rfl
theorem sp_refSize (t:Tm) (h:t.Ok):Z4 Tryz.prog 26 [X9 t] (fun _=>.d (.int (wr t.sz))) none:=sp_refSize_at _ t (Nat.lt_succ_self _) h
end Go.Proofs.YtjpldhjgehoffaaGreatDoor
namespace Go.Proofs.YtjpldhjgehoffaaGreatDoor
open Go.RowKit
set_option linter.unusedVariables false
set_option linter.unusedSimpArgs false
def endX (P:Program) (fn:Func) (r:Nat→AV) (x:Option Qz):Exit→AS→Prop:=fun e s=>∃o,(∀d,r d=(r o).ren (fun _=>d))∧(∀i∈(r o).ids,i=o)∧Z8 P fn r x o e s
theorem endX.ret {P:Program} {fn:Func} {n:Nat} (o:Nat) {s:AS} {cs:List AV} {y:Qz} (h:Q9 P s fn.results.toList=some cs) (hr:(Z6 cs).Xk= .arr o 0 n) (hx:Q4 s.mem o=some y) (ho:Nat.ble 500 o=false):endX P fn (fun d=>.arr d 0 n) (some y) .ret s:=
 ⟨o,fun _=>rfl,by simp[AV.ids,Mj],.inl rfl,s,Le.refl s,cs,h,hr,rfl,fun z hz=>by cases hz;exact⟨hx,ho⟩⟩
theorem Z4.ofArrX {P:Program} {k:Nat} {fn:Func} {c:Code} (hf:P.funcs[k]? =some fn) (hnm:(fn.name== "runtime.NumGoroutine")=false) (hb:fn.body=some c) {args:List AV} (r:Nat→AV) {e:TypeId} {sz:Nat} {rows:List (List D)} (hn:args.length≤fn.ntmps)
  (hrcl:∀d,(r d).has (fun i=>!(d==i))=false) (h:AWp P c (endX P fn r (some (.arr e sz rows))) (Z7 fn.ntmps args)):Z4 P k args r (some (.arr e sz rows)):=by
 refine⟨⟨fn,hf,hnm,by rw[hb];rfl⟩,hrcl,(fun h=>by cases h),fun y hy=>⟨e,sz,rows,by cases hy;rfl⟩,fun d w ok vals hgi hok hl hv=>?_⟩;refine calls_of_wp hf hb ?_;have hst:St ⟨w,ok,fun _=>False,noG⟩ (Z7 fn.ntmps args) { tmps:=vals++Array.replicate (fn.ntmps-vals.size) undef,defers:=[] } w:=by
  refine⟨ok,noG,⟨(fun o x hx=>by cases hx),(fun i j xi xj b hi=>by cases hi),(fun i x b hi=>by cases hi),fun b hb=>⟨hok b hb,.inl hb⟩,fun b hb=>hb,Nat.le_refl _,fun b _ _=>rfl,fun i _=>⟨rfl,rfl⟩,rfl,rfl,rfl,hgi,fun _ _ h=>h⟩,by simp[Z7];omega,rfl,fun t=>?_⟩;exact frStart (C:=⟨w,ok,fun _=>False,noG⟩) hl hn hv t
 refine wp_mono (h _ _ w hst) ?_;rintro ex a' w' ⟨s,⟨o,hren,hids,he,s',hle,cs,hres,hr,hrn,hx⟩,hs⟩;obtain⟨ok',g,hM,h1,h2,h3⟩:=hle _ _ _ hs;obtain⟨v,hv1,hv2⟩:=Qj5 hM h3 hres;obtain⟨hxo,hxs⟩:=hx _ rfl;have hv2:=hv2.Xk;rw[hr,hrn]at hv2;have hfin:a'.defers=[]∧∃v,(results fn a'.tmps).run P w'= .ok v w'∧∃v' ok' g',Ending.returned v= .returned v'∧Below w.heap.size w w'∧(∀b,ok b→ok' b)∧(∀b,ok' b→ok b∨(w.heap.size≤b∧b<w'.heap.size))∧VR w' ok' g' (oneM d (some (.arr e sz rows))) (r d) v'∧
   (∀y,(some (.arr e sz rows):Option Qz)=some y→OR w' ok' g' (oneM d (some (.arr e sz rows))) d y∧∀b,g'.bl d=some b→¬ok' b∧w.heap.size≤b∧b<w'.heap.size):=by
  refine⟨h2,v,hv1,v,ok',⟨fun _=>g.bl o,fun _=>g.cp o⟩,rfl,⟨hM.os,hM.tape,hM.output,hM.size,fun b hb=>hM.heap b hb (fun h=>h)⟩,hM.okk,fun b hb=>?_,?_,fun y hy=>?_⟩
  ·obtain⟨k1,k2⟩:=hM.okb b hb;rcases k2 with k2|k2
   ·exact .inl k2
   ·exact .inr ⟨k2,k1⟩
  ·rw[hren d];refine VR.reren _ hv2 fun i hi=>?_
   have:=hids i hi;subst this;exact⟨_,hxo,by simp[oneM,Qz.ren],rfl,rfl⟩
  ·cases hy;have hO:=hM.obj o _ hxo;refine⟨hO,fun b hb=>?_⟩;obtain⟨k1,k2,k3⟩:=hM.own o _ b hxo hb;refine⟨k1,?_,k2⟩;rcases k3 with k3|⟨k3,_⟩
   ·exact k3
   ·exact k3.elim
 rcases he with rfl|rfl
 ·exact hfin
 ·exact hfin
mutual
def Tm.free:Tm→List ByteArray
 | .mk k _ a _ _ xs cs=>if k=1 then[a]else if k=6∧xs.length=2 then Tm.freeL a [] xs else Cs.frees (Tm.frees (if 8≤k∧k≤11 then[a]else[]) xs) cs
def Tm.frees:List ByteArray→List Tm→List ByteArray
 |o,[]=>o
 |o,x::r=>Tm.frees (addN o x.free) r
def Tm.freeL (a:ByteArray):List ByteArray→List Tm→List ByteArray
 |o,[]=>o
 |o,x::r=>Tm.freeB a (addN o x.free) r
def Tm.freeB (a:ByteArray):List ByteArray→List Tm→List ByteArray
 |o,[]=>o
 |o,x::_=>addN o (woN x.free [a])
def Cs.frees:List ByteArray→List Cs→List ByteArray
 |o,[]=>o
 |o,c::r=>Cs.frees (addN o c.Ev) r
def Cs.Ev:Cs→List ByteArray
 | .mk _ vs b=>woN b.free vs
end
theorem Tm.frees_eq (l:List Tm):∀o,Tm.frees o l=l.foldl (fun o x=>addN o x.free) o:=by
 induction l with
 |nil=>intro o;simp[Tm.frees]
 |cons x r ih=>intro o;simp[Tm.frees,ih]
theorem Cs.frees_eq (l:List Cs):∀o,Cs.frees o l=l.foldl (fun o x=>addN o x.Ev) o:=by
 induction l with
 |nil=>intro o;simp[Cs.frees]
 |cons x r ih=>intro o;simp[Cs.frees,ih]
mutual
theorem Tm.H8:∀t:Tm,t.free.length≤t.sz
 | .mk k n a b vs xs cs=>by
  simp only[Tm.free,Tm.sz];split
  ·simp;omega
  split
  ·have:=Tm.freeL_len a xs [];simp at this;omega
  ·have h1:=Tm.Bq xs (if 8≤k∧k≤11 then[a]else[]);have h2:=Cs.Bq cs (Tm.frees (if 8≤k∧k≤11 then[a]else[]) xs);have h3:(if 8≤k∧k≤11 then[a]else[]).length≤1:=by split<;> simp
   omega
theorem Tm.Bq:∀(l:List Tm) (o:List ByteArray),(Tm.frees o l).length≤o.length+Tm.szs l
 |[],o=>by simp[Tm.frees]
 |x::r,o=>by
  have h1:=Tm.H8 x;have h2:=Tm.Bq r (addN o x.free);have h3:=Qx7 x.free o;simp only[Tm.frees,Tm.szs];omega
theorem Tm.freeL_len (a:ByteArray):∀(l:List Tm) (o:List ByteArray),(Tm.freeL a o l).length≤o.length+Tm.szs l
 |[],o=>by simp[Tm.freeL]
 |x::r,o=>by
  have h1:=Tm.H8 x;have h2:=Tm.freeB_len a r (addN o x.free);have h3:=Qx7 x.free o;simp only[Tm.freeL,Tm.szs];omega
theorem Tm.freeB_len (a:ByteArray):∀(l:List Tm) (o:List ByteArray),(Tm.freeB a o l).length≤o.length+Tm.szs l
 |[],o=>by simp[Tm.freeB]
 |x::r,o=>by
  have h1:=Tm.H8 x;have h3:=Qx7 (woN x.free [a]) o;have h4:=F5 x.free [a];simp only[Tm.freeB,Tm.szs];omega
theorem Cs.Bq:∀(l:List Cs) (o:List ByteArray),(Cs.frees o l).length≤o.length+Cs.szs l
 |[],o=>by simp[Cs.frees]
 |x::r,o=>by
  have h1:=Cs.freeC_len x;have h2:=Cs.Bq r (addN o x.Ev);have h3:=Qx7 x.Ev o;simp only[Cs.frees,Cs.szs];omega
theorem Cs.freeC_len:∀(c:Cs),c.Ev.length≤c.sz
 | .mk t vs b=>by
  have h1:=Tm.H8 b;have h4:=F5 b.free vs;simp only[Cs.Ev,Cs.sz];omega
end
theorem Tm.szs_take {l:List Tm} {i:Nat} {x:Tm} (hx:l[i]? =some x):Tm.szs (l.take i)+x.sz≤Tm.szs l:=by
 induction l generalizing i with
 |nil=>simp at hx
 |cons y r ih=>
  cases i with
  |zero=>simp at hx;subst hx;simp[Tm.szs]
  |succ i=>have:=ih (i:=i) (by simpa using hx);simp only[List.take_succ_cons,Tm.szs];omega
theorem Cs.szs_take {l:List Cs} {i:Nat} {x:Cs} (hx:l[i]? =some x):Cs.szs (l.take i)+x.sz≤Cs.szs l:=by
 induction l generalizing i with
 |nil=>simp at hx
 |cons y r ih=>
  cases i with
  |zero=>simp at hx;subst hx;simp[Cs.szs]
  |succ i=>have:=ih (i:=i) (by simpa using hx);simp only[List.take_succ_cons,Cs.szs];omega
theorem Tm.frees_snoc {o:List ByteArray} {l:List Tm} {i:Nat} {x:Tm} (hx:l[i]? =some x):Tm.frees o (l.take (i+1))=addN (Tm.frees o (l.take i)) x.free:=by
 rw[List.take_add_one,hx];simp[Tm.frees_eq]
theorem Cs.frees_snoc {o:List ByteArray} {l:List Cs} {i:Nat} {x:Cs} (hx:l[i]? =some x):Cs.frees o (l.take (i+1))=addN (Cs.frees o (l.take i)) x.Ev:=by
 rw[List.take_add_one,hx];simp[Cs.frees_eq]
end Go.Proofs.YtjpldhjgehoffaaGreatDoor
