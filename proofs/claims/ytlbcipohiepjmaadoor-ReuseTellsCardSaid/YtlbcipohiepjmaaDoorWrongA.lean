import Derived.Test.YtlbcipohiepjmaaDoorTreeB
import Derived.Test.YtlbcipohiepjmaaDoorTy
import Derived.Lib.ItoaLen
import Derived.RangeFuncNested
import Derived.RangeFuncWrites
import Derived.RangeFuncBound
import Derived.RangeFuncCalls
import Derived.RangeFuncLeaves
import Derived.RangeFuncBox
import Derived.Shelf.Abstract
import Derived.OwnWalkIn
import Derived.TacticsInMore
import Derived.LoopNIn
import Derived.LoopIn
set_option maxHeartbeats 16000000
set_option maxRecDepth 20000
set_option linter.unusedVariables false
set_option linter.unusedSimpArgs false
namespace Go.Proofs.YtlbcipohiepjmaaDoor
open Go.RowKit
mutual
inductive Tm where
 |mk (kind n:Int) (name token:ByteArray) (vars:List ByteArray) (args:List Tm) (cases:List Cs)
inductive Cs where
 |mk (tag:Int) (vars:List ByteArray) (body:Tm)
end
structure Fn where
 name:ByteArray
 params:List ByteArray
 body:Tm
mutual
def Tm.Ok:Tm→Prop
 | .mk _ _ a b vs xs cs=>(a.size≤140737488355328∧b.size≤140737488355328∧(∀s∈vs,s.size≤140737488355328))∧(vs.length≤8796093022207∧xs.length≤1172812402960∧cs.length≤925904528652)∧Tm.Oks xs∧Cs.Oks cs
def Tm.Oks:List Tm→Prop
 |[]=>True
 |t::r=>t.Ok∧Tm.Oks r
def Cs.Ok:Cs→Prop
 | .mk _ vs b=>(∀s∈vs,s.size≤140737488355328)∧vs.length≤8796093022207∧b.Ok
def Cs.Oks:List Cs→Prop
 |[]=>True
 |c::r=>c.Ok∧Cs.Oks r
end
theorem Tm.Zk:∀{l:List Tm},Tm.Oks l↔∀t∈l,t.Ok
 |[]=>by simp[Tm.Oks]
 |t::r=>by simp[Tm.Oks,Tm.Zk (l:=r)]
theorem Cs.Zk:∀{l:List Cs},Cs.Oks l↔∀t∈l,t.Ok
 |[]=>by simp[Cs.Oks]
 |t::r=>by simp[Cs.Oks,Cs.Zk (l:=r)]
structure Fn.Ok (f:Fn):Prop where
 name:f.name.size≤140737488355328
 params:f.params.length≤8796093022207
 sizes:∀s∈f.params,s.size≤140737488355328
 body:f.body.Ok
structure P5 (l:List Fn):Prop where
 len:l.length≤879609302220
 all:∀f∈l,f.Ok
abbrev Y0 (s:ByteArray):List D:=[.str s]
abbrev Q7 (l:List ByteArray):D:=.sl (l.map Y0)
mutual
def Tm.row:Tm→List D
 | .mk k n a b vs xs cs=>[.int k,.int n,.str a,.str b,Q7 vs,.sl (Tm.rows xs),.sl (Cs.rows cs)]
def Tm.rows:List Tm→List (List D)
 |[]=>[]
 |t::r=>t.row::Tm.rows r
def Cs.row:Cs→List D
 | .mk t vs b=>.int t::Q7 vs::b.row
def Cs.rows:List Cs→List (List D)
 |[]=>[]
 |c::r=>c.row::Cs.rows r
end
theorem Tm.Q3 (l:List Tm):Tm.rows l=l.map Tm.row:=by
 induction l with
 |nil=>rfl
 |cons t r ih=>simp only[Tm.rows,List.map_cons,ih]
theorem Cs.Q3 (l:List Cs):Cs.rows l=l.map Cs.row:=by
 induction l with
 |nil=>rfl
 |cons t r ih=>simp only[Cs.rows,List.map_cons,ih]
def Fn.row (f:Fn):List D:=.str f.name::Q7 f.params::f.body.row
mutual
def Tm.sz:Tm→Nat
 | .mk _ _ _ _ _ xs cs=>1+Tm.szs xs+Cs.szs cs
def Tm.szs:List Tm→Nat
 |[]=>0
 |t::r=>t.sz+Tm.szs r
def Cs.sz:Cs→Nat
 | .mk _ _ b=>b.sz
def Cs.szs:List Cs→Nat
 |[]=>0
 |c::r=>c.sz+Cs.szs r
end
theorem Tm.Zj {t:Tm}:∀{l:List Tm},t∈l→t.sz≤Tm.szs l
 |[],h=>by cases h
 |x::l,h=>by
  simp only[Tm.szs];rcases List.mem_cons.1 h with rfl|h
  ·omega
  ·have:=Tm.Zj h;omega
theorem Cs.Zj {t:Cs}:∀{l:List Cs},t∈l→t.sz≤Cs.szs l
 |[],h=>by cases h
 |x::l,h=>by
  simp only[Cs.szs];rcases List.mem_cons.1 h with rfl|h
  ·omega
  ·have:=Cs.Zj h;omega
def Cs.tag:Cs→Int| .mk t _ _=>t
def Cs.vars:Cs→List ByteArray| .mk _ v _=>v
def Cs.body:Cs→Tm| .mk _ _ b=>b
def Tm.kind:Tm→Int| .mk k _ _ _ _ _ _=>k
def Tm.n:Tm→Int| .mk _ n _ _ _ _ _=>n
def Tm.name:Tm→ByteArray| .mk _ _ a _ _ _ _=>a
def Tm.token:Tm→ByteArray| .mk _ _ _ b _ _ _=>b
def Tm.vars:Tm→List ByteArray| .mk _ _ _ _ v _ _=>v
def Tm.args:Tm→List Tm| .mk _ _ _ _ _ a _=>a
def Tm.cases:Tm→List Cs| .mk _ _ _ _ _ _ c=>c
abbrev Xj:Tm→AV
 | .mk k n a b vs xs cs=>.agg [.d (.int k),.d (.int n),.d (.str a),.d (.str b),.d (Q7 vs),.d (.sl (xs.map Tm.row)),.d (.sl (cs.map Cs.row))]
abbrev W9 (l:List Fn):AV:=.d (.sl (l.map Fn.row))
abbrev Z7 (l:List ByteArray):AV:=.d (Q7 l)
section
variable {ds:List D}
theorem strs_ok (h:RT Tryd.prog 28 ds):∃l:List ByteArray,ds=[Q7 l]∧l.length≤8796093022207∧∀s∈l,s.size≤140737488355328:=by
 obtain⟨l,rfl,hl,hs⟩:=h.strs_inv Tryd.underlying28 Tryd.underlying9;rw[show Tryd.prog.bytesOf 9=16 by kernel_rfl]at hl;unfold reachBytes at hl hs;exact⟨l,rfl,by omega,fun s hm=>by have:=hs s hm;omega⟩
theorem tm_inv:∀(t:TypeId) (ds:List D),RT Tryd.prog t ds→(t=32→∃x:Tm,ds=x.row∧x.Ok)∧(t=29→∃x:List Tm,ds=[.sl (x.map Tm.row)]∧x.length≤1172812402960∧∀y∈x,y.Ok)∧(t=42→∃x:Cs,ds=x.row∧x.Ok)∧(t=30→∃x:List Cs,ds=[.sl (x.map Cs.row)]∧x.length≤925904528652∧∀y∈x,y.Ok):=by
 intro t ds h;induction h with
 |int n h lo hi=>
  refine⟨?_,?_,?_,?_⟩<;> (rintro rfl;first|(rw[Tryd.underlying32]at h;cases h)|(rw[Tryd.underlying29]at h;cases h)|(rw[Tryd.underlying42]at h;cases h)|(rw[Tryd.underlying30]at h;cases h))
 |bool b h=>
  refine⟨?_,?_,?_,?_⟩<;> (rintro rfl;first|(rw[Tryd.underlying32]at h;cases h)|(rw[Tryd.underlying29]at h;cases h)|(rw[Tryd.underlying42]at h;cases h)|(rw[Tryd.underlying30]at h;cases h))
 |str s h hs=>
  refine⟨?_,?_,?_,?_⟩<;> (rintro rfl;first|(rw[Tryd.underlying32]at h;cases h)|(rw[Tryd.underlying29]at h;cases h)|(rw[Tryd.underlying42]at h;cases h)|(rw[Tryd.underlying30]at h;cases h))
 |sl rows h hl hr ih=>
  refine⟨?_,?_,?_,?_⟩
  ·rintro rfl;rw[Tryd.underlying32]at h;cases h
  ·rintro rfl;rw[Tryd.underlying29]at h;cases h;obtain⟨l,rfl,hp⟩:=rows_inv (row:=Tm.row) (p:=Tm.Ok) fun r hr'=>(ih r hr').1 rfl
   refine⟨l,rfl,?_,hp⟩;rw[List.length_map,show Tryd.prog.bytesOf 32=120 by kernel_rfl]at hl;unfold reachBytes at hl;omega
  ·rintro rfl;rw[Tryd.underlying42]at h;cases h
  ·rintro rfl;rw[Tryd.underlying30]at h;cases h;obtain⟨l,rfl,hp⟩:=rows_inv (row:=Cs.row) (p:=Cs.Ok) fun r hr'=>(ih r hr').2.2.1 rfl
   refine⟨l,rfl,?_,hp⟩;rw[List.length_map,show Tryd.prog.bytesOf 42=152 by kernel_rfl]at hl;unfold reachBytes at hl;omega
 |struct parts h hl hf ih=>
  refine⟨?_,?_,?_,?_⟩
  ·rintro rfl;rw[Tryd.underlying32]at h;cases h;match parts,hl with
   |[p0,p1,p2,p3,p4,p5,p6],_=>
    obtain⟨k,rfl,_⟩:=(hf 0 _ p0 rfl rfl).Xv Tryd.underlying3;obtain⟨n,rfl,_⟩:=(hf 1 _ p1 rfl rfl).Xv Tryd.underlying3;obtain⟨a,rfl,ha⟩:=(hf 2 _ p2 rfl rfl).D5 Tryd.underlying9;obtain⟨b,rfl,hb⟩:=(hf 3 _ p3 rfl rfl).D5 Tryd.underlying9;obtain⟨vs,rfl,hv,hvs⟩:=strs_ok (hf 4 _ p4 rfl rfl);obtain⟨xs,rfl,hx,hxs⟩:=(ih 5 _ p5 rfl rfl).2.1 rfl;obtain⟨cs,rfl,hc,hcs⟩:=(ih 6 _ p6 rfl rfl).2.2.2 rfl;unfold reachBytes at ha hb;exact⟨.mk k n a b vs xs cs,by simp[Tm.row,Tm.Q3,Cs.Q3],⟨⟨by omega,by omega,hvs⟩,⟨hv,hx,hc⟩,Tm.Zk.2 hxs,Cs.Zk.2 hcs⟩⟩
  ·rintro rfl;rw[Tryd.underlying29]at h;cases h
  ·rintro rfl;rw[Tryd.underlying42]at h;cases h;match parts,hl with
   |[p0,p1,p2],_=>
    obtain⟨k,rfl,_⟩:=(hf 0 _ p0 rfl rfl).Xv Tryd.underlying3;obtain⟨vs,rfl,hv,hvs⟩:=strs_ok (hf 1 _ p1 rfl rfl);obtain⟨b,rfl,hb⟩:=(ih 2 _ p2 rfl rfl).1 rfl;exact⟨.mk k vs b,by simp[Cs.row],hvs,hv,hb⟩
  ·rintro rfl;rw[Tryd.underlying30]at h;cases h
theorem fn_inv (h:RT Tryd.prog 34 ds):∃f:Fn,ds=f.row∧f.Ok:=by
 obtain⟨p0,p1,p2,rfl,h0,h1,h2⟩:=h.struct3_inv Tryd.underlying34;obtain⟨a,rfl,ha⟩:=h0.D5 Tryd.underlying9;obtain⟨vs,rfl,hv,hvs⟩:=strs_ok h1;obtain⟨b,rfl,hb⟩:=(tm_inv _ _ h2).1 rfl;unfold reachBytes at ha;exact⟨⟨a,vs,b⟩,by simp[Fn.row],⟨(by omega:a.size≤140737488355328),hv,hvs,hb⟩⟩
theorem fns_inv {c:AV} (h:ArgRT Tryd.prog 22 c):∃l:List Fn,c= .d (.sl (l.map Fn.row))∧P5 l:=by
 obtain⟨l,rfl,hl,hp⟩:=h.list (fun r hr=>fn_inv hr) Tryd.underlying22;rw[show Tryd.prog.bytesOf 34=160 by kernel_rfl]at hl;unfold reachBytes at hl;exact⟨l,rfl,by omega,hp⟩
end
end Go.Proofs.YtlbcipohiepjmaaDoor
namespace Go.Proofs.YtlbcipohiepjmaaDoor
open Go.RowKit
def Hz (n:Int):ByteArray:=⟨(Lib.itoa n).toArray⟩
theorem Uz {n:Int} (h:inI n):(Hz n).size≤21:=by
 have:=Lib.itoa_length_le n h.1 h.2;simpa[Hz,ByteArray.size]using this
theorem sp_Itoa (n:Int) (h:inI n):Qv Tryd.prog 35 [.d (.int n)] (fun _=>.d (.str (Hz n))) none:=by
 refine⟨⟨_,Tryd.func35,rfl,rfl⟩,fun d=>rfl,fun _ d=>rfl,by simp,fun d w ok vals hgi hok hl hv=>?_⟩;match vals,hl with
 |⟨[v]⟩,_=>
 obtain⟨rfl,_⟩:=(hv 0 _ v rfl rfl).Z6.Xv;refine(Tryd.strconv_Itoa n h.1 h.2 w hgi.pow).mono ?_;rintro e w' ⟨rfl,k,os,rfl⟩;have hs:=Uz h;refine⟨_,ok,noG,rfl,⟨rfl,rfl,rfl,by simp[Go.Sort.grow,World.drewN],fun b hb=>?_⟩,fun b h=>h,fun b h=>.inl h,.d _ _ (.str _ (by unfold maxLen;omega)),by simp⟩;simp only[Go.Sort.grow,World.drewN];rw[Array.getElem?_append_left hb]
end Go.Proofs.YtlbcipohiepjmaaDoor
namespace Go.Proofs.YtlbcipohiepjmaaDoor
open Go.RowKit
attribute [local simp] runD mkRc ldOf stOf stOk Mj Tv Rz Kv Kw Yq Y8 Xz Y4 Bj evA Vj F4 Value.oneCell' Z9 Q5 Qw frOf Uv Qj AS.after Z4 V4 Y3 AV.ids M7 Q6.ids frNo Mx Gj Uw Hq Jv Y5 Vx U3 U2 K4 toD1 Ez setAt U9 O0 F5 Av H6 Aw binI AV.cells J4 Jj H5 Wj AV.kill Q6.kill AV.has AV.Yj Op.operands Call.operands Nk Mv Z8 cChk Z0 X3 Ev moQ M9 R7 Yz AV.ren Ej Q6.ren Q6.like kept K5 Sq AV.frz Px Ox frSub M5 D9 AS.frz C8 G7 Q6.frz Fx bleF Nat.ble_eq Gw G6 Y1 D.Y2 Tj G5 V8 Vk phO Az F6 D7 K6 V5 Low Ew
noncomputable def eqB {α:Type} (a b:α):Bool:=@decide (a=b) (Classical.propDecidable _)
theorem Rq {α:Type} (a:α):eqB a a=true:=by simp[eqB]
theorem eqB_ne {α:Type} {a b:α} (h:a≠b):eqB a b=false:=by simp[eqB,h]
theorem eqB_iff {α:Type} {a b:α}:eqB a b=true↔a=b:=by simp[eqB]
theorem rows_len {α:Type} {row:α→List D} {n:Nat} (h:∀x,(row x).length=n) (l:List α):∀(i:Nat) (r:List D),(l.map row)[i]? =some r→r.length=n:=by
 intro i r hr;obtain⟨x,_,rfl⟩:=List.mem_map.1 (List.mem_of_getElem? hr);exact h x
theorem take_eq {α:Type} {a b:List α} {i:Nat} {x y:α} (hx:a[i]? =some x) (hy:b[i]? =some y) (h:a.take i=b.take i):a.take (i+1)=b.take (i+1)↔x=y:=by
 rw[List.take_add_one,List.take_add_one,hx,hy,h];simp
theorem take_ne {α:Type} {a b:List α} {i:Nat} {x y:α} (hx:a[i]? =some x) (hy:b[i]? =some y) (h:x≠y):a≠b:=by
 rintro rfl;rw[hx]at hy;exact h (Option.some.inj hy)
theorem Iq (a b:List ByteArray) (ha:a.length≤9223372036854775806):Qv Tryd.prog 22 [Z7 a,Z7 b] (fun _=>.d (.bool (eqB a b))) none:=by
 refine Qv.of Tryd.func22 rfl rfl rfl (Nat.le_of_ble_eq_true rfl) ?_;show AWp _ _ (Z5 _ Tryd.f22 _ _ _) (Qw 26 _);repeat (first|refine AWp.seq ?_|refine AWp.block ?_)
 apply AWp.reg [] []
 ·conv=>lhs;simp
 ·trivial
 by_cases hl:a.length=b.length
 ·repeat (first|refine AWp.seq ?_|refine AWp.block ?_)
  apply AWp.reg [] []
  ·conv=>lhs;simp[hl]
  ·trivial
  refine AWp.cn ?_;refine AWp.skip ?_;repeat (first|refine AWp.seq ?_|refine AWp.block ?_)
  apply AWp.reg [] []
  ·conv=>lhs;simp
  ·trivial
  repeat (first|refine AWp.seq ?_|refine AWp.block ?_)
  refine AWp.loop (σ:=fun u:{i:Nat // i≤a.length∧a.take i=b.take i}=>⟨26,[(0,Z7 a),(1,Z7 b),(12,.d (.int a.length)),(13,.d (.int u.1))],[]⟩)
   (μ:=fun u=>a.length-u.1) ⟨0,Nat.zero_le _,rfl⟩ (Le.sub (by simp[hl]) (by simp)) (fun⟨i,hi,ht⟩=>?_)
  dsimp only;repeat (first|refine AWp.seq ?_|refine AWp.block ?_)
  apply AWp.reg [] []
  ·conv=>lhs;simp
  ·trivial
  repeat (first|refine AWp.seq ?_|refine AWp.block ?_)
  refine AWp.cond rfl (fun h=>?_) (fun h=>?_)
  ·have hi1:i<a.length:=by have:=of_decide_eq_true h;omega
   have hx:a[i]? =some a[i]:=List.getElem?_eq_getElem hi1;have hy:b[i]? =some (b[i]'(by omega)):=List.getElem?_eq_getElem (by omega);generalize a[i]=x at hx;generalize b[i]'(by omega)=y at hy;have hte:=take_eq hx hy ht;refine AWp.skip ?_;repeat (first|refine AWp.seq ?_|refine AWp.block ?_)
   apply AWp.reg [] []
   ·conv=>lhs;simp
   ·trivial
   by_cases hxy:x=y
   ·subst hxy;refine AWp.dw [] [] mixed ?_ (hr:=by conv=>lhs;simp[hx,hy]);refine AWp.cn ?_;refine AWp.skip ?_;refine AWp.rg [] [] ?_;refine⟨⟨i+1,hi1,hte.2 rfl⟩,by simp;omega,Le.sub (by simp) (by simp)⟩
   ·refine AWp.dw [] [] mixed ?_ (hr:=by conv=>lhs;simp[hx,hy,hxy]);repeat (first|refine AWp.seq ?_|refine AWp.block ?_)
    refine AWp.cond rfl (fun h2=>?_) (fun h2=>?_)
    ·repeat (first|refine AWp.seq ?_|refine AWp.block ?_)
     apply AWp.reg [] []
     ·conv=>lhs;simp
     ·trivial
     refine AWp.ret ?_;try dsimp only[Qq,Q8]
     apply Z5.ret
     ·rfl
     ·conv=>lhs;simp[Qz,Tryd.results22]
     rw[eqB_ne (take_ne hx hy hxy)];rfl
    ·cases h2
  ·have hi1:i=a.length:=by have:=of_decide_eq_false h;omega
   subst hi1;rw[List.take_length,hl,List.take_length]at ht;refine AWp.exit ?_;repeat (first|refine AWp.seq ?_|refine AWp.block ?_)
   apply AWp.reg [] []
   ·conv=>lhs;simp
   ·trivial
   refine AWp.ret ?_;try dsimp only[Qq,Q8]
   apply Z5.ret
   ·rfl
   ·conv=>lhs;simp[Qz,Tryd.results22]
   rw[ht,Rq];rfl
 ·have hl':¬((a.length:Int)=b.length):=by omega
  repeat (first|refine AWp.seq ?_|refine AWp.block ?_)
  apply AWp.reg [] []
  ·conv=>lhs;simp[hl,hl']
  ·trivial
  repeat (first|refine AWp.seq ?_|refine AWp.block ?_)
  refine AWp.cond rfl (fun h=>?_) (fun h=>?_)
  ·repeat (first|refine AWp.seq ?_|refine AWp.block ?_)
   apply AWp.reg [] []
   ·conv=>lhs;simp
   ·trivial
   refine AWp.ret ?_;try dsimp only[Qq,Q8]
   apply Z5.ret
   ·rfl
   ·conv=>lhs;simp[Qz,Tryd.results22]
   rw[eqB_ne (fun e=>hl (by rw[e]))];rfl
  ·cases h
theorem Tm.Ok.vars {k n:Int} {a b:ByteArray} {vs:List ByteArray} {xs:List Tm} {cs:List Cs} (h:(Tm.mk k n a b vs xs cs).Ok):vs.length≤8796093022207∧xs.length≤1172812402960∧cs.length≤925904528652∧a.size≤140737488355328∧b.size≤140737488355328:=by
 unfold Tm.Ok at h;exact⟨h.2.1.1,h.2.1.2.1,h.2.1.2.2,h.1.1,h.1.2.1⟩
theorem Tm.Ok.arg {k n:Int} {a b:ByteArray} {vs:List ByteArray} {xs:List Tm} {cs:List Cs} (h:(Tm.mk k n a b vs xs cs).Ok) {x:Tm} (hx:x∈xs):x.Ok:=by
 unfold Tm.Ok at h;exact Tm.Zk.1 h.2.2.1 x hx
theorem Tm.Ok.case {k n:Int} {a b:ByteArray} {vs:List ByteArray} {xs:List Tm} {cs:List Cs} (h:(Tm.mk k n a b vs xs cs).Ok) {x:Cs} (hx:x∈cs):x.Ok:=by
 unfold Tm.Ok at h;exact Cs.Zk.1 h.2.2.2 x hx
theorem Cs.Ok.body {t:Int} {vs:List ByteArray} {b:Tm} (h:(Cs.mk t vs b).Ok):b.Ok∧vs.length≤8796093022207:=by
 unfold Cs.Ok at h;exact⟨h.2.2,h.2.1⟩
theorem Cs.Ok.sizes {t:Int} {vs:List ByteArray} {b:Tm} (h:(Cs.mk t vs b).Ok):∀s∈vs,s.size≤140737488355328:=by
 unfold Cs.Ok at h;exact h.1
theorem Tm.sz_arg {k n:Int} {a b:ByteArray} {vs:List ByteArray} {xs:List Tm} {cs:List Cs} {x:Tm} (hx:x∈xs):x.sz<(Tm.mk k n a b vs xs cs).sz:=by
 have:=Tm.Zj hx;simp only[Tm.sz];omega
theorem Tm.I8 {k n:Int} {a b:ByteArray} {vs:List ByteArray} {xs:List Tm} {cs:List Cs} {t:Int} {ws:List ByteArray} {y:Tm} (hx:Cs.mk t ws y∈cs):y.sz<(Tm.mk k n a b vs xs cs).sz:=by
 have:=Cs.Zj hx;simp only[Cs.sz]at this;simp only[Tm.sz];omega
theorem Tm.row_len (t:Tm):t.row.length=7:=by cases t;rfl
theorem Cs.row_len (t:Cs):t.row.length=9:=by cases t;simp[Cs.row,Tm.row_len]
def H8 (k n:Int) (a b:ByteArray) (vs:List ByteArray) (xs:List Tm) (cs:List Cs) (xs':List Tm) (cs':List Cs):List (Nat×Option Q6):=
 [(2,some (.blk 32 [.d (.int k),.d (.int n),.d (.str a),.d (.str b),.d (Q7 vs),.d (.sl (xs.map Tm.row)),.d (.sl (cs.map Cs.row))])),
  (3,some (.blk 32 [.d (.int k),.d (.int n),.d (.str a),.d (.str b),.d (Q7 vs),.d (.sl (xs'.map Tm.row)),.d (.sl (cs'.map Cs.row))]))]
theorem sp_refSame_at:∀(N:Nat) (s t:Tm),s.sz<N→s.Ok→Qv Tryd.prog 23 [Xj s,Xj t] (fun _=>.d (.bool (eqB s t))) none:=by
 intro N;induction N with
 |zero=>intro s t h;omega
 |succ N ih=>
 intro s t hN hO;obtain⟨k,n,a,b,vs,xs,cs⟩:=s;obtain⟨k',n',a',b',vs',xs',cs'⟩:=t;obtain⟨o1,o2,o3,o4,o5⟩:=hO.vars;have hneq:(k≠k'∨n≠n'∨a≠a'∨b≠b'∨vs≠vs'∨xs≠xs'∨cs≠cs')→eqB (Tm.mk k n a b vs xs cs) (Tm.mk k' n' a' b' vs' xs' cs')=false:=fun h=>eqB_ne (by
  intro e;cases e;simp at h)
 have hvs:=Iq vs vs' (by omega);refine Qv.of Tryd.func23 rfl rfl rfl (Nat.le_of_ble_eq_true rfl) ?_;show AWp _ _ (Z5 _ Tryd.f23 _ _ _) (Qw 115 _);repeat (first|refine AWp.seq ?_|refine AWp.block ?_)
 apply AWp.reg [] []
 ·conv=>lhs;simp
 ·trivial
 by_cases e1:k=k';rotate_left
 ·repeat (first|refine AWp.seq ?_|refine AWp.block ?_)
  apply AWp.reg [] []
  ·conv=>lhs;simp[e1]
  ·trivial
  repeat (first|refine AWp.seq ?_|refine AWp.block ?_)
  refine AWp.cond rfl (fun h=>?_) (fun h=>?_)
  ·repeat (first|refine AWp.seq ?_|refine AWp.block ?_)
   apply AWp.reg [] []
   ·conv=>lhs;simp
   ·trivial
   refine AWp.ret ?_;try dsimp only[Qq,Q8]
   apply Z5.ret
   ·rfl
   ·conv=>lhs;simp[Qz,Tryd.results23]
   rw[hneq (.inl e1)];rfl
  ·simp at h
 subst e1;by_cases e2:n=n';rotate_left
 ·repeat (first|refine AWp.seq ?_|refine AWp.block ?_)
  apply AWp.reg [] []
  ·conv=>lhs;simp[e2]
  ·trivial
  repeat (first|refine AWp.seq ?_|refine AWp.block ?_)
  refine AWp.cond rfl (fun h=>?_) (fun h=>?_)
  ·repeat (first|refine AWp.seq ?_|refine AWp.block ?_)
   apply AWp.reg [] []
   ·conv=>lhs;simp
   ·trivial
   refine AWp.ret ?_;try dsimp only[Qq,Q8]
   apply Z5.ret
   ·rfl
   ·conv=>lhs;simp[Qz,Tryd.results23]
   rw[hneq (.inr (.inl e2))];rfl
  ·simp at h
 subst e2;by_cases e3:a=a';rotate_left
 ·repeat (first|refine AWp.seq ?_|refine AWp.block ?_)
  apply AWp.reg [] []
  ·conv=>lhs;simp[e3]
  ·trivial
  repeat (first|refine AWp.seq ?_|refine AWp.block ?_)
  refine AWp.cond rfl (fun h=>?_) (fun h=>?_)
  ·repeat (first|refine AWp.seq ?_|refine AWp.block ?_)
   apply AWp.reg [] []
   ·conv=>lhs;simp
   ·trivial
   refine AWp.ret ?_;try dsimp only[Qq,Q8]
   apply Z5.ret
   ·rfl
   ·conv=>lhs;simp[Qz,Tryd.results23]
   rw[hneq (.inr (.inr (.inl e3)))];rfl
  ·simp at h
 subst e3;by_cases e4:b=b';rotate_left
 ·repeat (first|refine AWp.seq ?_|refine AWp.block ?_)
  apply AWp.reg [] []
  ·conv=>lhs;simp[e4]
  ·trivial
  repeat (first|refine AWp.seq ?_|refine AWp.block ?_)
  refine AWp.cond rfl (fun h=>?_) (fun h=>?_)
  ·repeat (first|refine AWp.seq ?_|refine AWp.block ?_)
   apply AWp.reg [] []
   ·conv=>lhs;simp
   ·trivial
   refine AWp.ret ?_;try dsimp only[Qq,Q8]
   apply Z5.ret
   ·rfl
   ·conv=>lhs;simp[Qz,Tryd.results23]
   rw[hneq (.inr (.inr (.inr (.inl e4))))];rfl
  ·simp at h
 subst e4;by_cases e5:vs=vs';rotate_left
 ·repeat (first|refine AWp.seq ?_|refine AWp.block ?_)
  apply AWp.reg [] [.p (fun _=>.d (.bool false)) none]
  ·conv=>lhs;simp[e5]
  ·rw[eqB_ne e5]at hvs;exact hvs
  repeat (first|refine AWp.seq ?_|refine AWp.block ?_)
  refine AWp.cond rfl (fun h=>?_) (fun h=>?_)
  ·repeat (first|refine AWp.seq ?_|refine AWp.block ?_)
   apply AWp.reg [] []
   ·conv=>lhs;simp
   ·trivial
   refine AWp.ret ?_;try dsimp only[Qq,Q8]
   apply Z5.ret
   ·rfl
   ·conv=>lhs;simp[Qz,Tryd.results23]
   rw[hneq (.inr (.inr (.inr (.inr (.inl e5)))))];rfl
  ·simp at h
 subst e5;rw[Rq]at hvs;by_cases e6:xs.length=xs'.length;rotate_left
 ·have e6':¬((xs.length:Int)=xs'.length):=by omega
  repeat (first|refine AWp.seq ?_|refine AWp.block ?_)
  apply AWp.reg [] [.p (fun _=>.d (.bool true)) none]
  ·conv=>lhs;simp[e6,e6']
  ·exact hvs
  repeat (first|refine AWp.seq ?_|refine AWp.block ?_)
  refine AWp.cond rfl (fun h=>?_) (fun h=>?_)
  ·repeat (first|refine AWp.seq ?_|refine AWp.block ?_)
   apply AWp.reg [] []
   ·conv=>lhs;simp
   ·trivial
   refine AWp.ret ?_;try dsimp only[Qq,Q8]
   apply Z5.ret
   ·rfl
   ·conv=>lhs;simp[Qz,Tryd.results23]
   rw[hneq (.inr (.inr (.inr (.inr (.inr (.inl (fun e=>e6 (by rw[e]))))))))];rfl
  ·simp at h
 by_cases e7:cs.length=cs'.length;rotate_left
 ·have e7':¬((cs.length:Int)=cs'.length):=by omega
  repeat (first|refine AWp.seq ?_|refine AWp.block ?_)
  apply AWp.reg [] [.p (fun _=>.d (.bool true)) none]
  ·conv=>lhs;simp[e6,e7,e7']
  ·exact hvs
  repeat (first|refine AWp.seq ?_|refine AWp.block ?_)
  refine AWp.cond rfl (fun h=>?_) (fun h=>?_)
  ·repeat (first|refine AWp.seq ?_|refine AWp.block ?_)
   apply AWp.reg [] []
   ·conv=>lhs;simp
   ·trivial
   refine AWp.ret ?_;try dsimp only[Qq,Q8]
   apply Z5.ret
   ·rfl
   ·conv=>lhs;simp[Qz,Tryd.results23]
   rw[hneq (.inr (.inr (.inr (.inr (.inr (.inr (fun e=>e7 (by rw[e]))))))))];rfl
  ·simp at h
 repeat (first|refine AWp.seq ?_|refine AWp.block ?_)
 apply AWp.reg [] [.p (fun _=>.d (.bool true)) none]
 ·conv=>lhs;simp[e6,e7]
 ·exact hvs
 repeat (first|refine AWp.seq ?_|refine AWp.block ?_)
 refine AWp.cond rfl (fun h=>?_) (fun h=>?_)
 ·simp at h
 refine AWp.skip ?_;refine AWp.le (s':=⟨115,[(2,.ptr 2 0),(3,.ptr 3 0)],H8 k n a b vs xs cs xs' cs'⟩) (Le.sub (by simp) (by simp[H8])) ?_;by_cases hx:xs=xs';rotate_left
 ·have hf:=hneq (.inr (.inr (.inr (.inr (.inr (.inl hx))))));repeat (first|refine AWp.seq ?_|refine AWp.block ?_)
  apply AWp.reg [] []
  ·conv=>lhs;simp[H8]
  ·trivial
  repeat (first|refine AWp.seq ?_|refine AWp.block ?_)
  refine AWp.loop (σ:=fun u:{i:Nat // i≤xs.length∧xs.take i=xs'.take i}=>⟨115,[(2,.ptr 2 0),(3,.ptr 3 0),(63,.d (.int xs.length)),(64,.d (.int u.1))],H8 k n a b vs xs cs xs' cs'⟩)
   (μ:=fun u=>xs.length-u.1) ⟨0,Nat.zero_le _,rfl⟩ (Le.sub (by simp) (by simp[H8])) (fun⟨i,hi,ht⟩=>?_)
  dsimp only;repeat (first|refine AWp.seq ?_|refine AWp.block ?_)
  apply AWp.reg [] []
  ·conv=>lhs;simp
  ·trivial
  repeat (first|refine AWp.seq ?_|refine AWp.block ?_)
  refine AWp.cond rfl (fun h=>?_) (fun h=>?_)
  ·have hi1:i<xs.length:=by have:=of_decide_eq_true h;omega
   have h1:xs[i]? =some xs[i]:=List.getElem?_eq_getElem hi1;have h2:xs'[i]? =some (xs'[i]'(by omega)):=List.getElem?_eq_getElem (by omega);have hmem:xs[i]∈xs:=List.getElem_mem hi1;generalize xs[i]=x at h1 hmem;generalize xs'[i]'(by omega)=y at h2;have hte:=take_eq h1 h2 ht;have hp:=ih x y (by have:=Tm.sz_arg (k:=k) (n:=n) (a:=a) (b:=b) (vs:=vs) (cs:=cs) hmem;omega) (hO.arg hmem);obtain⟨B,hB⟩:∃B,B=eqB x y:=⟨_,rfl⟩
   rw[←hB]at hp;refine AWp.skip ?_;repeat (first|refine AWp.seq ?_|refine AWp.block ?_)
   apply AWp.reg [] []
   ·conv=>lhs;simp
   ·trivial
   cases B with
   |true=>
    have hxy:x=y:=eqB_iff.1 hB.symm;obtain⟨_,_,_,_,_,_,_⟩:=x;obtain⟨_,_,_,_,_,_,_⟩:=y;repeat (first|refine AWp.seq ?_|refine AWp.block ?_)
    apply AWp.draw [] [.p (fun _=>.d (.bool true)) none] mixed
    ·conv=>lhs;simp[H8,h1,h2,Tm.row,Tm.Q3,Cs.Q3]
    ·kernel_rfl
    ·exact hp
    refine AWp.cn ?_;refine AWp.skip ?_;refine AWp.rg [] [] ?_;refine⟨⟨i+1,hi1,hte.2 hxy⟩,by simp;omega,Le.sub (by simp) (by simp[H8])⟩
   |false=>
    obtain⟨_,_,_,_,_,_,_⟩:=x;obtain⟨_,_,_,_,_,_,_⟩:=y;repeat (first|refine AWp.seq ?_|refine AWp.block ?_)
    apply AWp.draw [] [.p (fun _=>.d (.bool false)) none] mixed
    ·conv=>lhs;simp[H8,h1,h2,Tm.row,Tm.Q3,Cs.Q3]
    ·kernel_rfl
    ·exact hp
    repeat (first|refine AWp.seq ?_|refine AWp.block ?_)
    refine AWp.cond rfl (fun h3=>?_) (fun h3=>?_)
    ·repeat (first|refine AWp.seq ?_|refine AWp.block ?_)
     apply AWp.reg [] []
     ·conv=>lhs;simp
     ·trivial
     refine AWp.ret ?_;try dsimp only[Qq,Q8]
     apply Z5.ret
     ·rfl
     ·conv=>lhs;simp[Qz,Tryd.results23]
     rw[hf];rfl
    ·cases h3
  ·have hi1:i=xs.length:=by have:=of_decide_eq_false h;omega
   subst hi1;rw[List.take_length,e6,List.take_length]at ht;exact absurd ht hx
 subst hx;repeat (first|refine AWp.seq ?_|refine AWp.block ?_)
 apply AWp.reg [] []
 ·conv=>lhs;simp[H8]
 ·trivial
 repeat (first|refine AWp.seq ?_|refine AWp.block ?_)
 refine AWp.loop (σ:=fun u:{i:Nat // i≤xs.length}=>⟨115,[(2,.ptr 2 0),(3,.ptr 3 0),(63,.d (.int xs.length)),(64,.d (.int u.1))],H8 k n a b vs xs cs xs cs'⟩)
  (μ:=fun u=>xs.length-u.1) ⟨0,Nat.zero_le _⟩ (Le.sub (by simp) (by simp[H8])) (fun⟨i,hi⟩=>?_)
 dsimp only;repeat (first|refine AWp.seq ?_|refine AWp.block ?_)
 apply AWp.reg [] []
 ·conv=>lhs;simp
 ·trivial
 repeat (first|refine AWp.seq ?_|refine AWp.block ?_)
 refine AWp.cond rfl (fun h=>?_) (fun h=>?_)
 ·have hi1:i<xs.length:=by have:=of_decide_eq_true h;omega
  have h1:xs[i]? =some xs[i]:=List.getElem?_eq_getElem hi1;have hmem:xs[i]∈xs:=List.getElem_mem hi1;generalize xs[i]=x at h1 hmem;have hp:=ih x x (by have:=Tm.sz_arg (k:=k) (n:=n) (a:=a) (b:=b) (vs:=vs) (cs:=cs) hmem;omega) (hO.arg hmem);rw[Rq]at hp;refine AWp.skip ?_;repeat (first|refine AWp.seq ?_|refine AWp.block ?_)
  apply AWp.reg [] []
  ·conv=>lhs;simp
  ·trivial
  obtain⟨_,_,_,_,_,_,_⟩:=x;repeat (first|refine AWp.seq ?_|refine AWp.block ?_)
  apply AWp.draw [] [.p (fun _=>.d (.bool true)) none] mixed
  ·conv=>lhs;simp[H8,h1,Tm.row,Tm.Q3,Cs.Q3]
  ·kernel_rfl
  ·exact hp
  refine AWp.cn ?_;refine AWp.skip ?_;refine AWp.rg [] [] ?_;refine⟨⟨i+1,hi1⟩,by simp;omega,Le.sub (by simp) (by simp[H8])⟩
 refine AWp.exit ?_;refine AWp.le (s':=⟨115,[(2,.ptr 2 0),(3,.ptr 3 0)],H8 k n a b vs xs cs xs cs'⟩) (Le.sub (by simp) (by simp[H8])) ?_;clear hi h;repeat (first|refine AWp.seq ?_|refine AWp.block ?_)
 apply AWp.reg [] []
 ·conv=>lhs;simp[H8]
 ·trivial
 repeat (first|refine AWp.seq ?_|refine AWp.block ?_)
 refine AWp.loop (σ:=fun u:{i:Nat // i≤cs.length∧cs.take i=cs'.take i}=>⟨115,[(2,.ptr 2 0),(3,.ptr 3 0),(81,.d (.sl (cs.map Cs.row))),(82,.d (.int cs.length)),(83,.d (.int u.1))],H8 k n a b vs xs cs xs cs'⟩)
  (μ:=fun u=>cs.length-u.1) ⟨0,Nat.zero_le _,rfl⟩ (Le.sub (by simp) (by simp[H8])) (fun⟨i,hi,ht⟩=>?_)
 dsimp only;repeat (first|refine AWp.seq ?_|refine AWp.block ?_)
 apply AWp.reg [] []
 ·conv=>lhs;simp
 ·trivial
 repeat (first|refine AWp.seq ?_|refine AWp.block ?_)
 refine AWp.cond rfl (fun h=>?_) (fun h=>?_)
 ·have hi1:i<cs.length:=by have:=of_decide_eq_true h;omega
  have h1:cs[i]? =some cs[i]:=List.getElem?_eq_getElem hi1;have h2:cs'[i]? =some (cs'[i]'(by omega)):=List.getElem?_eq_getElem (by omega);have hmem:cs[i]∈cs:=List.getElem_mem hi1;generalize cs[i]=x at h1 hmem;generalize cs'[i]'(by omega)=y at h2;have hte:=take_eq h1 h2 ht;obtain⟨g,ws,x⟩:=x;obtain⟨g',ws',y⟩:=y;obtain⟨oc1,oc2⟩:=(hO.case hmem).body;have hp:=ih x y (by have:=Tm.I8 (k:=k) (n:=n) (a:=a) (b:=b) (vs:=vs) (xs:=xs) hmem;omega) oc1;have hws:=Iq ws ws' (by omega);have hbad:(g≠g'∨ws≠ws'∨x≠y)→eqB (Tm.mk k n a b vs xs cs) (Tm.mk k n a b vs xs cs')=false:=fun h=>hneq (.inr (.inr (.inr (.inr (.inr (.inr (take_ne h1 h2 (by
   intro e;cases e;simp at h))))))))
  obtain⟨B,hB⟩:∃B,B=eqB x y:=⟨_,rfl⟩
  have hBf:B=false→x≠y:=fun e q=>by rw[hB,q,Rq]at e;cases e
  rw[←hB]at hp;obtain⟨_,_,_,_,_,_,_⟩:=x;obtain⟨_,_,_,_,_,_,_⟩:=y;refine AWp.skip ?_;refine AWp.rg [] [] ?_ (hr:=by conv=>lhs;simp[h1,Cs.row,Tm.row,Tm.Q3,Cs.Q3]);refine AWp.rg [] [] ?_ (hr:=by conv=>lhs;simp[H8,h2,Cs.row,Tm.row,Tm.Q3,Cs.Q3]);by_cases e8:g=g';rotate_left
  ·repeat (first|refine AWp.seq ?_|refine AWp.block ?_)
   apply AWp.reg [] []
   ·conv=>lhs;simp[e8]
   ·trivial
   repeat (first|refine AWp.seq ?_|refine AWp.block ?_)
   refine AWp.cond rfl (fun h3=>?_) (fun h3=>?_)
   ·repeat (first|refine AWp.seq ?_|refine AWp.block ?_)
    apply AWp.reg [] []
    ·conv=>lhs;simp
    ·trivial
    refine AWp.ret ?_;try dsimp only[Qq,Q8]
    apply Z5.ret
    ·rfl
    ·conv=>lhs;simp[Qz,Tryd.results23]
    rw[hbad (.inl e8)];rfl
   ·simp at h3
  subst e8;by_cases e9:ws=ws';rotate_left
  ·rw[eqB_ne e9]at hws;repeat (first|refine AWp.seq ?_|refine AWp.block ?_)
   apply AWp.reg [] [.p (fun _=>.d (.bool false)) none]
   ·conv=>lhs;simp
   ·exact hws
   repeat (first|refine AWp.seq ?_|refine AWp.block ?_)
   refine AWp.cond rfl (fun h3=>?_) (fun h3=>?_)
   ·repeat (first|refine AWp.seq ?_|refine AWp.block ?_)
    apply AWp.reg [] []
    ·conv=>lhs;simp
    ·trivial
    refine AWp.ret ?_;try dsimp only[Qq,Q8]
    apply Z5.ret
    ·rfl
    ·conv=>lhs;simp[Qz,Tryd.results23]
    rw[hbad (.inr (.inl e9))];rfl
   ·simp at h3
  subst e9;rw[Rq]at hws;cases B with
  |true=>
   have hxy:=eqB_iff.1 hB.symm;repeat (first|refine AWp.seq ?_|refine AWp.block ?_)
   apply AWp.reg [] [.p (fun _=>.d (.bool true)) none,.p (fun _=>.d (.bool true)) none]
   ·conv=>lhs;simp
   ·exact⟨hws,hp⟩
   repeat (first|refine AWp.seq ?_|refine AWp.block ?_)
   refine AWp.cond rfl (fun h3=>?_) (fun h3=>?_)
   ·simp at h3
   refine AWp.skip ?_;refine AWp.rg [] [] ?_;refine⟨⟨i+1,hi1,hte.2 (by rw[hxy])⟩,by simp;omega,Le.sub (by simp) (by simp[H8])⟩
  |false=>
   have hxy:=hBf rfl;repeat (first|refine AWp.seq ?_|refine AWp.block ?_)
   apply AWp.reg [] [.p (fun _=>.d (.bool true)) none,.p (fun _=>.d (.bool false)) none]
   ·conv=>lhs;simp
   ·exact⟨hws,hp⟩
   repeat (first|refine AWp.seq ?_|refine AWp.block ?_)
   refine AWp.cond rfl (fun h3=>?_) (fun h3=>?_)
   ·repeat (first|refine AWp.seq ?_|refine AWp.block ?_)
    apply AWp.reg [] []
    ·conv=>lhs;simp
    ·trivial
    refine AWp.ret ?_;try dsimp only[Qq,Q8]
    apply Z5.ret
    ·rfl
    ·conv=>lhs;simp[Qz,Tryd.results23]
    rw[hbad (.inr (.inr hxy))];rfl
   ·simp at h3
 ·have hi1:i=cs.length:=by have:=of_decide_eq_false h;omega
  subst hi1;rw[List.take_length,e7,List.take_length]at ht;subst ht;refine AWp.exit ?_;repeat (first|refine AWp.seq ?_|refine AWp.block ?_)
  apply AWp.reg [] []
  ·conv=>lhs;simp
  ·trivial
  refine AWp.ret ?_;try dsimp only[Qq,Q8]
  apply Z5.ret
  ·rfl
  ·conv=>lhs;simp[Qz,Tryd.results23]
  rw[Rq];rfl
theorem sp_refSame (s t:Tm) (h:s.Ok):Qv Tryd.prog 23 [Xj s,Xj t] (fun _=>.d (.bool (eqB s t))) none:=sp_refSame_at _ s t (Nat.lt_succ_self _) h
theorem Z5.retA {P:Program} {fn:Func} {r:Nat→AV} {o:Nat} {s:AS} {cs:List AV} {y:Q6} (hrn:(r o).X7=r o) (h:Qz P s fn.results.toList=some cs) (hr:(Zz cs).X7=(r o).X7) (hx:Q5 s.mem o=some y) (ho:Nat.ble 500 o=false):Z5 P fn r (some y) o .ret s:=
 ⟨.inl rfl,s,Le.refl s,cs,h,hr,hrn,fun z hz=>by cases hz;exact⟨hx,ho⟩⟩
theorem sp_Clone (l:List ByteArray) (hl:l.length≤8796093022208):Qv Tryd.prog 24 [Z7 l] (fun d=>.arr d 0 l.length) (some (.arr 9 1 (l.map Y0))):=by
 refine Qv.ofArr Tryd.func24 rfl rfl _ 5 (Nat.le_of_ble_eq_true rfl) (fun _=>rfl) (by simp[AV.ids,M7]) (fun d=>by simp[AV.has,AV.Yj]) ?_;show AWp _ _ (Z5 _ Tryd.f24 _ _ _) (Qw 8 _);repeat (first|refine AWp.seq ?_|refine AWp.block ?_)
 apply AWp.reg [] []
 ·conv=>lhs;simp
 ·trivial
 cases l with
 |nil=>
  repeat (first|refine AWp.seq ?_|refine AWp.block ?_)
  apply AWp.reg [] []
  ·conv=>lhs;simp[Z7,Q7]
  ·trivial
  repeat (first|refine AWp.seq ?_|refine AWp.block ?_)
  refine AWp.condU rfl ?_ ?_
  ·repeat (first|refine AWp.seq ?_|refine AWp.block ?_)
   apply AWp.reg [] []
   ·conv=>lhs;simp
   ·trivial
   refine AWp.le (Le.low [5] [] (fr:=[(2,.arr 5 0 0)]) (mem:=[(5,some (.arr 9 1 []))]) rfl (by simp) (by simp)) ?_;refine AWp.ret ?_;try dsimp only[Qq,Q8]
   apply Z5.retA
   ·rfl
   ·conv=>lhs;simp[Qz,Tryd.results24]
   ·rfl
   ·rfl
   ·rfl
  ·refine AWp.skip ?_;refine AWp.rg [] [] ?_;refine AWp.ret ?_;try dsimp only[Qq,Q8]
   apply Z5.retA
   ·rfl
   ·conv=>lhs;simp[Qz,Tryd.results24]
   ·rfl
   ·rfl
   ·rfl
 |cons s l=>
  simp only[List.length_cons]at hl;repeat (first|refine AWp.seq ?_|refine AWp.block ?_)
  apply AWp.reg [] []
  ·conv=>lhs;simp[Z7,Q7]
  ·trivial
  refine AWp.cn ?_;refine AWp.skip ?_;repeat (first|refine AWp.seq ?_|refine AWp.block ?_)
  apply AWp.reg [] []
  ·conv=>lhs;simp[Z7,Q7]
  ·exact⟨rows_len (row:=Y0) (fun _=>rfl) (s::l),by simp[maxLen];omega,by omega⟩
  refine AWp.ret ?_;try dsimp only[Qq,Q8]
  apply Z5.retA
  ·rfl
  ·conv=>lhs;simp[Qz,Tryd.results24]
  ·rfl
  ·rfl
  ·rfl
def Kj (s:ByteArray):List OD:=[.d (.str s)]
theorem strO_map (l:List ByteArray):((l.map Y0).map fun r=>r.map OD.d)=l.map Kj:=by rw[List.map_map];rfl
mutual
def Tm.od:Tm→List OD
 | .mk k n a b vs xs cs=>[.d (.int k),.d (.int n),.d (.str a),.d (.str b),.own 9 1 (vs.map Kj),.own 32 7 (Tm.ods xs),.own 42 9 (Cs.ods cs)]
def Tm.ods:List Tm→List (List OD)
 |[]=>[]
 |t::r=>t.od::Tm.ods r
def Cs.od:Cs→List OD
 | .mk t vs b=>.d (.int t):: .own 9 1 (vs.map Kj)::b.od
def Cs.ods:List Cs→List (List OD)
 |[]=>[]
 |c::r=>c.od::Cs.ods r
end
theorem Tm.Q4 (l:List Tm):Tm.ods l=l.map Tm.od:=by
 induction l with
 |nil=>rfl
 |cons t r ih=>simp only[Tm.ods,List.map_cons,ih]
theorem Cs.Q4 (l:List Cs):Cs.ods l=l.map Cs.od:=by
 induction l with
 |nil=>rfl
 |cons t r ih=>simp only[Cs.ods,List.map_cons,ih]
def Ex (t:Tm) (v o p:Nat):AV:=match t with| .mk k n a b vs xs cs=>.agg [.d (.int k),.d (.int n),.d (.str a),.d (.str b),.arr v 0 vs.length,.arr o 0 xs.length,.arr p 0 cs.length]
def S9 (t:Tm) (v o p:Nat):Mo:=match t with| .mk k n a b vs xs cs=>[(v,.raw (.own 9 1 (vs.map Kj) [])),(o,.raw (.own 32 7 (xs.map Tm.od) [])),(p,.raw (.own 42 9 (cs.map Cs.od) []))]
def OwnN (N:Nat):Prop:=∀t:Tm,t.sz≤N→t.Ok→Y9 Tryd.prog 26 [Xj t] [(500,.arr 0 1 []),(501,.arr 0 1 []),(502,.arr 0 1 [])] (Ex t 500 501 502) (S9 t 500 501 502)
theorem own_step (N:Nat) (ih:OwnN N):OwnN (N+1):=by
 intro t hsz hO;obtain⟨tk,tn,ta,tb,tvs,txs,tcs⟩:=t;simp only[Tm.sz]at hsz;simp only[Ex,S9];obtain⟨o1,o2,o3,o4,o5⟩:=hO.vars;have hxO:∀x∈txs,x.Ok:=Tm.Zk.1 hO.2.2.1;have hcO:=Cs.Zk.1 hO.2.2.2;have hcl:=(sp_Clone tvs (by omega)).toOwn;rw[strO_map]at hcl;refine Y9.of Tryd.func26 rfl rfl (Nat.le_of_ble_eq_true rfl) ?_;show AWp _ _ (Zw _ Tryd.f26 _ _) (K5 51 _ _);refine AWp.rg [] [] ?_ (hr:=by conv=>lhs;simp[Tm.row,Tm.Q3,Cs.row,Cs.Q3]);refine AWp.rg [] [.n [(500,420)] [Z7 tvs] [] (.arr 500 0 tvs.length) [(500,.raw (.own 9 1 (tvs.map Kj) []))] [500]] ?_ (hr:=by conv=>lhs;simp[Z7,Tm.row,Tm.Q3,Cs.row,Cs.Q3]);refine AWp.rg [] [] ?_ (hr:=by conv=>lhs;simp[Tm.row,Tm.Q3,Cs.row,Cs.Q3]);refine AWp.rg [] [] ?_ (hr:=by conv=>lhs;simp[Tm.row,Tm.Q3,Cs.row,Cs.Q3]);repeat (first|refine AWp.seq ?_|refine AWp.block ?_)
 refine AWp.le (Le.low [400] [] (fr:=[(1,.ptr 1 0),(2,.ptr 2 0),(3,.arr 400 0 ([]:List Tm).length),(14,.d (.sl (txs.map Tm.row))),(15,.d (.int (txs.length:Int))),(16,.d (.int (0:Int)))]) (mem:=[(420,some (.raw (.own 9 1 (tvs.map Kj) []))),(1,some (.blk 32 [.d (.int tk),.d (.int tn),.d (.str ta),.d (.str tb),.arr 420 0 tvs.length,.d (.sl (txs.map Tm.row)),.d (.sl (tcs.map Cs.row))])),(2,some (.blk 32 [.d (.int 0),.d (.int 0),.d (.str ByteArray.empty),.d (.str ByteArray.empty),.lit (.slice none 0 0),.lit (.slice none 0 0),.lit (.slice none 0 0)])),(400,some (.raw (.own 32 7 (([]:List Tm).map Tm.od) [])))]) rfl (by simp) (by simp)) ?_;refine AWp.loop (σ:=fun u:{u:Nat×List Tm // u.1≤txs.length∧u.2=txs.take u.1}=>⟨51,[(1,.ptr 1 0),(2,.ptr 2 0),(3,.arr 400 0 u.1.2.length),(14,.d (.sl (txs.map Tm.row))),(15,.d (.int (txs.length:Int))),(16,.d (.int (u.1.1:Int)))],[(420,some (.raw (.own 9 1 (tvs.map Kj) []))),(1,some (.blk 32 [.d (.int tk),.d (.int tn),.d (.str ta),.d (.str tb),.arr 420 0 tvs.length,.d (.sl (txs.map Tm.row)),.d (.sl (tcs.map Cs.row))])),(2,some (.blk 32 [.d (.int 0),.d (.int 0),.d (.str ByteArray.empty),.d (.str ByteArray.empty),.lit (.slice none 0 0),.lit (.slice none 0 0),.lit (.slice none 0 0)])),(400,some (.raw (.own 32 7 (u.1.2.map Tm.od) [])))]⟩)
  (μ:=fun u=>txs.length-u.1.1) ⟨(0,[]),⟨Nat.zero_le _,by simp⟩⟩ (Le.sub (by simp) (by simp)) (fun⟨(i,ys),⟨hi4,hw⟩⟩=>?_)
 dsimp only at hi4 hw⊢;refine AWp.rg [] [] ?_ (hr:=by conv=>lhs;simp[Tm.row,Tm.Q3,Cs.row,Cs.Q3]);repeat (first|refine AWp.seq ?_|refine AWp.block ?_)
 refine AWp.cond rfl (fun hc=>?_) (fun hc=>?_)
 ·have hi1:i<txs.length:=by have:=of_decide_eq_true hc;omega
  clear hc;have h1y:txs[i]? =some txs[i]:=List.getElem?_eq_getElem hi1;have hmy:txs[i]∈txs:=List.getElem_mem hi1;have hdy:txs.drop i=txs[i]::txs.drop (i+1):=List.drop_eq_getElem_cons hi1;generalize txs[i]=y at h1y hmy hdy;have hyl:ys.length=i:=by rw[hw,List.length_take];omega
  have hx:=ih y (by have:=Tm.Zj hmy;omega) (hxO y hmy);obtain⟨yk,yn,ya,yb,yvs,yxs,ycs⟩:=y;refine AWp.skip ?_;refine AWp.rg [] [] ?_ (hr:=by conv=>lhs;simp[Tm.row,Tm.Q3,Cs.row,Cs.Q3,h1y]);refine AWp.rg [] [.n [(500,410),(501,411),(502,412)] [.agg [.d (.int yk),.d (.int yn),.d (.str ya),.d (.str yb),.d (Q7 yvs),.d (.sl (yxs.map Tm.row)),.d (.sl (ycs.map Cs.row))]] [] (.agg [.d (.int yk),.d (.int yn),.d (.str ya),.d (.str yb),.arr 500 0 yvs.length,.arr 501 0 yxs.length,.arr 502 0 ycs.length]) [(500,.raw (.own 9 1 (yvs.map Kj) [])),(501,.raw (.own 32 7 (yxs.map Tm.od) [])),(502,.raw (.own 42 9 (ycs.map Cs.od) []))] [500,501,502]] ?_ (hr:=by conv=>lhs;simp[Tm.row,Tm.Q3,Cs.row,Cs.Q3,h1y]);refine AWp.rg [] [] ?_ (hr:=by conv=>lhs;simp[Tm.row,Tm.Q3,Cs.row,Cs.Q3,h1y]);refine⟨⟨(i+1,ys++[.mk yk yn ya yb yvs yxs ycs]),hi1,by rw[hw,List.take_add_one,h1y];rfl⟩,by simp;omega,?_⟩;dsimp only;refine(Le.X8 400 410 ys.length 4 (ty:=32) (sz:=7) (by conv=>lhs;simp) (by conv=>lhs;simp) (by conv=>lhs;simp) (by simp;rfl) (by simp) rfl rfl).trans ?_;refine(Le.X8 400 411 ys.length 5 (ty:=32) (sz:=7) (by conv=>lhs;simp) (by conv=>lhs;simp) (by conv=>lhs;simp) (by simp;rfl) (by simp) rfl rfl).trans ?_;refine(Le.X8 400 412 ys.length 6 (ty:=32) (sz:=7) (by conv=>lhs;simp) (by conv=>lhs;simp) (by conv=>lhs;simp) (by simp;rfl) (by simp) rfl rfl).trans ?_;exact Le.sub (by simp[hyl]) (by simp[Tm.od,Tm.Q4,Cs.Q4,hyl])
 have hi1:i=txs.length:=by have:=of_decide_eq_false hc;omega
 subst hi1;clear hc;rw[List.take_length]at hw;subst ys;refine AWp.exit ?_;refine AWp.rg [] [] ?_ (hr:=by conv=>lhs;simp[Tm.row,Tm.Q3,Cs.row,Cs.Q3]);refine AWp.rg [] [] ?_ (hr:=by conv=>lhs;simp[Tm.row,Tm.Q3,Cs.row,Cs.Q3]);repeat (first|refine AWp.seq ?_|refine AWp.block ?_)
 refine AWp.le (Le.low [401] [] (fr:=[(1,.ptr 1 0),(2,.ptr 2 0),(3,.arr 400 0 txs.length),(6,.arr 401 0 ([]:List Cs).length),(27,.d (.sl (tcs.map Cs.row))),(28,.d (.int (tcs.length:Int))),(29,.d (.int (0:Int)))]) (mem:=[(420,some (.raw (.own 9 1 (tvs.map Kj) []))),(1,some (.blk 32 [.d (.int tk),.d (.int tn),.d (.str ta),.d (.str tb),.arr 420 0 tvs.length,.d (.sl (txs.map Tm.row)),.d (.sl (tcs.map Cs.row))])),(2,some (.blk 32 [.d (.int 0),.d (.int 0),.d (.str ByteArray.empty),.d (.str ByteArray.empty),.lit (.slice none 0 0),.lit (.slice none 0 0),.lit (.slice none 0 0)])),(400,some (.raw (.own 32 7 (txs.map Tm.od) []))),(401,some (.raw (.own 42 9 (([]:List Cs).map Cs.od) [])))]) rfl (by simp) (by simp)) ?_;refine AWp.loop (σ:=fun u:{u:Nat×List Cs // u.1≤tcs.length∧u.2=tcs.take u.1}=>⟨51,[(1,.ptr 1 0),(2,.ptr 2 0),(3,.arr 400 0 txs.length),(6,.arr 401 0 u.1.2.length),(27,.d (.sl (tcs.map Cs.row))),(28,.d (.int (tcs.length:Int))),(29,.d (.int (u.1.1:Int)))],[(420,some (.raw (.own 9 1 (tvs.map Kj) []))),(1,some (.blk 32 [.d (.int tk),.d (.int tn),.d (.str ta),.d (.str tb),.arr 420 0 tvs.length,.d (.sl (txs.map Tm.row)),.d (.sl (tcs.map Cs.row))])),(2,some (.blk 32 [.d (.int 0),.d (.int 0),.d (.str ByteArray.empty),.d (.str ByteArray.empty),.lit (.slice none 0 0),.lit (.slice none 0 0),.lit (.slice none 0 0)])),(400,some (.raw (.own 32 7 (txs.map Tm.od) []))),(401,some (.raw (.own 42 9 (u.1.2.map Cs.od) [])))]⟩)
  (μ:=fun u=>tcs.length-u.1.1) ⟨(0,[]),⟨Nat.zero_le _,by simp⟩⟩ (Le.sub (by simp) (by simp)) (fun⟨(i,ds),⟨hi10,hw2⟩⟩=>?_)
 dsimp only at hi10 hw2⊢;refine AWp.rg [] [] ?_ (hr:=by conv=>lhs;simp[Tm.row,Tm.Q3,Cs.row,Cs.Q3]);repeat (first|refine AWp.seq ?_|refine AWp.block ?_)
 refine AWp.cond rfl (fun hc=>?_) (fun hc=>?_)
 ·have hi1:i<tcs.length:=by have:=of_decide_eq_true hc;omega
  clear hc;have h1d:tcs[i]? =some tcs[i]:=List.getElem?_eq_getElem hi1;have hmd:tcs[i]∈tcs:=List.getElem_mem hi1;have hdd:tcs.drop i=tcs[i]::tcs.drop (i+1):=List.drop_eq_getElem_cons hi1;generalize tcs[i]=d at h1d hmd hdd;obtain⟨dt,dws,⟨dk,dn,da,db,dvs,dxs,dcs⟩⟩:=d;have hyl:ds.length=i:=by rw[hw2,List.length_take];omega
  obtain⟨hc1,hc2,hc3⟩:=hcO _ hmd;have hx:=ih (.mk dk dn da db dvs dxs dcs) (by have:=Cs.Zj hmd;simp only[Cs.sz]at this;omega) hc3;have hcw:=(sp_Clone dws (by omega)).toOwn;rw[strO_map]at hcw;refine AWp.skip ?_;refine AWp.rg [] [] ?_ (hr:=by conv=>lhs;simp[Tm.row,Tm.Q3,Cs.row,Cs.Q3,h1d]);refine AWp.dw [] [.n [(500,413)] [Z7 dws] [] (.arr 500 0 dws.length) [(500,.raw (.own 9 1 (dws.map Kj) []))] [500],.n [(500,410),(501,411),(502,412)] [.agg [.d (.int dk),.d (.int dn),.d (.str da),.d (.str db),.d (Q7 dvs),.d (.sl (dxs.map Tm.row)),.d (.sl (dcs.map Cs.row))]] [] (.agg [.d (.int dk),.d (.int dn),.d (.str da),.d (.str db),.arr 500 0 dvs.length,.arr 501 0 dxs.length,.arr 502 0 dcs.length]) [(500,.raw (.own 9 1 (dvs.map Kj) [])),(501,.raw (.own 32 7 (dxs.map Tm.od) [])),(502,.raw (.own 42 9 (dcs.map Cs.od) []))] [500,501,502]] mixed ?_ (hr:=by conv=>lhs;simp[Tm.row,Tm.Q3,Cs.row,Cs.Q3,h1d,Z7]);refine AWp.rg [] [] ?_ (hr:=by conv=>lhs;simp[Tm.row,Tm.Q3,Cs.row,Cs.Q3,h1d]);refine⟨⟨(i+1,ds++[.mk dt dws (.mk dk dn da db dvs dxs dcs)]),hi1,by rw[hw2,List.take_add_one,h1d];rfl⟩,by simp;omega,?_⟩;dsimp only;refine(Le.X8 401 413 ds.length 1 (ty:=42) (sz:=9) (by conv=>lhs;simp) (by conv=>lhs;simp) (by conv=>lhs;simp) (by simp;rfl) (by simp) rfl rfl).trans ?_;refine(Le.X8 401 410 ds.length 6 (ty:=42) (sz:=9) (by conv=>lhs;simp) (by conv=>lhs;simp) (by conv=>lhs;simp) (by simp;rfl) (by simp) rfl rfl).trans ?_;refine(Le.X8 401 411 ds.length 7 (ty:=42) (sz:=9) (by conv=>lhs;simp) (by conv=>lhs;simp) (by conv=>lhs;simp) (by simp;rfl) (by simp) rfl rfl).trans ?_;refine(Le.X8 401 412 ds.length 8 (ty:=42) (sz:=9) (by conv=>lhs;simp) (by conv=>lhs;simp) (by conv=>lhs;simp) (by simp;rfl) (by simp) rfl rfl).trans ?_;exact Le.sub (by simp[hyl]) (by simp[Cs.od,Tm.od,Tm.Q4,Cs.Q4,hyl])
 have hi1:i=tcs.length:=by have:=of_decide_eq_false hc;omega
 subst hi1;clear hc;rw[List.take_length]at hw2;subst ds;refine AWp.exit ?_;refine AWp.rg [] [] ?_ (hr:=by conv=>lhs;simp[Tm.row,Tm.Q3,Cs.row,Cs.Q3]);refine AWp.rg [] [] ?_ (hr:=by conv=>lhs;simp[Tm.row,Tm.Q3,Cs.row,Cs.Q3]);refine AWp.ret ?_;try dsimp only[Qq,Q8]
 apply Zw.le (Le.give _ 420 500 rfl rfl rfl);apply Zw.le (Le.give _ 400 501 rfl rfl rfl);apply Zw.le (Le.give _ 401 502 rfl rfl rfl);try dsimp only[Qq,Q8]
 apply Zw.ret
 ·rfl
 ·conv=>lhs;simp[Qz,Tryd.results26,AS.swap,swN]
 ·rfl
 ·simp[Zx,Q5,AS.swap,swN]
theorem own_all:∀N,OwnN N
 |0=>fun t h=>by cases t;simp only[Tm.sz]at h;omega
 |N+1=>own_step N (own_all N)
theorem cs_OwnT (t:Tm) (hO:t.Ok):Y9 Tryd.prog 26 [Xj t] [(500,.arr 0 1 []),(501,.arr 0 1 []),(502,.arr 0 1 [])] (Ex t 500 501 502) (S9 t 500 501 502):=own_all t.sz t (Nat.le_refl _) hO
def hasB (l:List ByteArray) (s:ByteArray):Bool:=l.any fun x=>decide (x=s)
theorem X4 {l:List ByteArray} {s:ByteArray}:hasB l s=true↔s∈l:=by
 unfold hasB;rw[List.any_eq_true];constructor
 ·rintro⟨x,h1,h2⟩;rw[←of_decide_eq_true h2];exact h1
 ·exact fun h=>⟨s,h,decide_eq_true rfl⟩
theorem Nv {l:List ByteArray} {s:ByteArray}:hasB l s=false↔s ∉ l:=by
 rw[←Bool.not_eq_true,X4]
theorem not_mem_snoc {l:List ByteArray} {i:Nat} {x s:ByteArray} (hx:l[i]? =some x) (h:s ∉ l.take i) (hne:x≠s):s ∉ l.take (i+1):=by
 rw[List.take_add_one,hx];simp only[Option.toList_some,List.mem_append,List.mem_singleton,not_or];exact⟨h,fun e=>hne e.symm⟩
theorem sp_Has (l:List ByteArray) (s:ByteArray) (hl:l.length≤8796093022208):Qv Tryd.prog 30 [Z7 l,.d (.str s)] (fun _=>.d (.bool (hasB l s))) none:=by
 refine Qv.of Tryd.func30 rfl rfl rfl (Nat.le_of_ble_eq_true rfl) ?_;show AWp _ _ (Z5 _ Tryd.f30 _ _ _) (Qw 17 _);repeat (first|refine AWp.seq ?_|refine AWp.block ?_)
 apply AWp.reg [] []
 ·conv=>lhs;simp
 ·trivial
 repeat (first|refine AWp.seq ?_|refine AWp.block ?_)
 apply AWp.reg [] []
 ·conv=>lhs;simp
 ·trivial
 repeat (first|refine AWp.seq ?_|refine AWp.block ?_)
 refine AWp.loop (σ:=fun u:{i:Nat // i≤l.length∧s ∉ l.take i}=>⟨17,[(1,.d (.str s)),(7,Z7 l),(8,.d (.int l.length)),(9,.d (.int u.1))],[]⟩)
  (μ:=fun u=>l.length-u.1) ⟨0,Nat.zero_le _,by simp⟩ (Le.sub (by simp) (by simp)) (fun⟨i,hi,ht⟩=>?_)
 dsimp only;repeat (first|refine AWp.seq ?_|refine AWp.block ?_)
 apply AWp.reg [] []
 ·conv=>lhs;simp
 ·trivial
 repeat (first|refine AWp.seq ?_|refine AWp.block ?_)
 refine AWp.cond rfl (fun h=>?_) (fun h=>?_)
 ·have hi1:i<l.length:=by have:=of_decide_eq_true h;omega
  have h1:l[i]? =some l[i]:=List.getElem?_eq_getElem hi1;have hmem:l[i]∈l:=List.getElem_mem hi1;generalize l[i]=x at h1 hmem;refine AWp.skip ?_;refine AWp.rg [] [] ?_ (hr:=by conv=>lhs;simp[h1]);by_cases hx:x=s
  ·subst hx;repeat (first|refine AWp.seq ?_|refine AWp.block ?_)
   apply AWp.reg [] []
   ·conv=>lhs;simp
   ·trivial
   repeat (first|refine AWp.seq ?_|refine AWp.block ?_)
   refine AWp.cond rfl (fun h2=>?_) (fun h2=>?_)
   ·repeat (first|refine AWp.seq ?_|refine AWp.block ?_)
    apply AWp.reg [] []
    ·conv=>lhs;simp
    ·trivial
    refine AWp.ret ?_;try dsimp only[Qq,Q8]
    apply Z5.ret
    ·rfl
    ·conv=>lhs;simp[Qz,Tryd.results30]
    rw[X4.2 hmem];rfl
   ·simp at h2
  ·repeat (first|refine AWp.seq ?_|refine AWp.block ?_)
   apply AWp.reg [] []
   ·conv=>lhs;simp[hx]
   ·trivial
   repeat (first|refine AWp.seq ?_|refine AWp.block ?_)
   refine AWp.cond rfl (fun h2=>?_) (fun h2=>?_)
   ·simp at h2
   refine AWp.skip ?_;refine AWp.rg [] [] ?_;refine⟨⟨i+1,hi1,not_mem_snoc h1 ht hx⟩,by simp;omega,Le.sub (by simp) (by simp)⟩
 have hi1:i=l.length:=by have:=of_decide_eq_false h;omega
 subst hi1;rw[List.take_length]at ht;refine AWp.exit ?_;repeat (first|refine AWp.seq ?_|refine AWp.block ?_)
 apply AWp.reg [] []
 ·conv=>lhs;simp
 ·trivial
 refine AWp.ret ?_;try dsimp only[Qq,Q8]
 apply Z5.ret
 ·rfl
 ·conv=>lhs;simp[Qz,Tryd.results30]
 rw[Nv.2 ht];rfl
theorem take_all_snoc {l:List ByteArray} {p:ByteArray→Bool} {i:Nat} {x:ByteArray} (hx:l[i]? =some x) (h:∀y∈l.take i,p y=false) (hp:p x=false):∀y∈l.take (i+1),p y=false:=by
 rw[List.take_add_one,hx];intro y hy;rcases List.mem_append.1 hy with hy|hy
 ·exact h y hy
 ·simp at hy;subst hy;exact hp
theorem Qv.toC {P:Program} {k:Nat} {args args':List AV} {d:D} (hS:Qv P k args' (fun _=>.d d) none) (o:Nat) {e:TypeId} {sz:Nat} {rows:List (List D)} (he:args.map (AV.frz o (.arr e sz rows))=args') (hd:d.flat):
  Y9 P k args [(o,.arr e sz rows)] (.d d) [(o,.arr e sz rows)]:=by
 subst he;refine⟨hS.ent,fun w ok g vals hM hl hv=>?_⟩;have hx:X3 [(o,Q6.arr e sz rows)] o=some (.arr e sz rows):=by simp[X3]
 refine(hS.run 0 w (fun b=>ok b∨(Q6.arr e sz rows).at_ g o b) vals hM.giw (fun b hb=>?_) (by simpa using hl) (fun i c v hc hvi=>?_)).mono ?_
 ·rcases hb with hb|hb
  ·exact(hM.okb b hb).1
  ·exact(hM.own o _ b hx hb).2.1
 ·rw[List.getElem?_map]at hc;obtain⟨c',hc',rfl⟩:=Option.map_eq_some_iff.1 hc;exact((hv i c' v hc' hvi).frz hM hx).toNo
 ·rintro ex w' ⟨v,ok',g',rfl,hb,hok,hokn,hr,-⟩;refine⟨v,ok,g,rfl,⟨fun i y hy=>?_,hM.inj,fun i y b hy hbi=>?_,fun b h=>?_,hM.okk,hb.size,fun b h _=>hb.block b h,fun _ _=>⟨rfl,rfl⟩,hb.os,hb.tape,hb.output,hM.gi,hM.gb⟩,?_⟩
  ·have hy':o=i∧Q6.arr e sz rows=y:=by
    simp only[X3]at hy;split at hy
    ·rename_i h;exact⟨by simpa using h,by simpa using hy⟩
    ·cases hy
   obtain⟨rfl,rfl⟩:=hy';refine(hM.obj _ _ hy).mono (fun _=>false) trivial (fun b h=>hb.block b (hM.own _ _ b hy h).2.1) rfl rfl (fun p h=>hb.cell (hM.okb _ h).1) (fun _ h=>h) (fun o x' _ h=>⟨x',h,Q6.Wq _,rfl,rfl⟩)
  ·obtain⟨h1,h2,h3⟩:=hM.own i y b hy hbi;exact⟨h1,by have:=hb.size;omega,h3⟩
  ·obtain⟨h1,h2⟩:=hM.okb b h;exact⟨by have:=hb.size;omega,.inl h⟩
  ·cases hr with
   |d _ _ hr=>exact .d _ _ (hr.flat hd)
theorem cs_Has (o:Nat) (l:List ByteArray) (s:ByteArray) (hl:l.length≤8796093022208):Y9 Tryd.prog 30 [.arr o 0 l.length,.d (.str s)] [(o,.arr 9 1 (l.map Y0))] (.d (.bool (hasB l s))) [(o,.arr 9 1 (l.map Y0))]:=
 (sp_Has l s hl).toC o (by simp[AV.frz,Px,List.take_of_length_le]) trivial
def woN (l gone:List ByteArray):List ByteArray:=l.filter fun s=>!hasB gone s
theorem L8 (l gone:List ByteArray):(woN l gone).length≤l.length:=List.length_filter_le _ _
def addN (l more:List ByteArray):List ByteArray:=more.foldl (fun l s=>if hasB l s then l else l++[s]) l
theorem I4 (more:List ByteArray):∀l,(addN l more).length≤l.length+more.length:=by
 induction more with
 |nil=>intro l;simp[addN]
 |cons s more ih=>
  intro l;have:=ih (if hasB l s then l else l++[s]);simp only[addN,List.foldl_cons,List.length_cons]at this⊢;refine Nat.le_trans this ?_;split
  ·omega
  ·simp;omega
theorem wr_sum (a b:Nat):wr (wr (a:Int)+wr (b:Int))=wr ((a+b:Nat):Int):=by rw[wr_add,wr_add'];congr 1
@[simp] theorem wr_one:wr 1=1:=rfl
theorem szs_append:∀(l r:List Tm),Tm.szs (l++r)=Tm.szs l+Tm.szs r
 |[],r=>by simp[Tm.szs]
 |x::l,r=>by simp only[List.cons_append,Tm.szs,szs_append l r];omega
theorem cszs_append:∀(l r:List Cs),Cs.szs (l++r)=Cs.szs l+Cs.szs r
 |[],r=>by simp[Cs.szs]
 |x::l,r=>by simp only[List.cons_append,Cs.szs,cszs_append l r];omega
theorem szs_snoc (l:List Tm) (x:Tm):Tm.szs (l++(some x).toList)=Tm.szs l+x.sz:=by rw[szs_append];simp[Tm.szs]
theorem cszs_snoc (l:List Cs) (x:Cs):Cs.szs (l++(some x).toList)=Cs.szs l+x.sz:=by rw[cszs_append];simp[Cs.szs]
theorem Tm.szs_take_le (l:List Tm) (i:Nat):Tm.szs (l.take i)≤Tm.szs l:=by
 have:=szs_append (l.take i) (l.drop i);rw[List.take_append_drop]at this;omega
theorem Cs.szs_take_le (l:List Cs) (i:Nat):Cs.szs (l.take i)≤Cs.szs l:=by
 have:=cszs_append (l.take i) (l.drop i);rw[List.take_append_drop]at this;omega
def siMem (k n:Int) (a b:ByteArray) (vs:List ByteArray) (xs:List Tm) (cs:List Cs):List (Nat×Option Q6):=
 [(1,some (.blk 32 [.d (.int k),.d (.int n),.d (.str a),.d (.str b),.d (Q7 vs),.d (.sl (xs.map Tm.row)),.d (.sl (cs.map Cs.row))]))]
theorem sp_refSize_at:∀(N:Nat) (t:Tm),t.sz<N→t.Ok→Qv Tryd.prog 16 [Xj t] (fun _=>.d (.int (wr t.sz))) none:=by
 intro N;induction N with
 |zero=>intro s h;omega
 |succ N ih=>
 intro t hN hO;obtain⟨k,n,a,b,vs,xs,cs⟩:=t;obtain⟨o1,o2,o3,o4,o5⟩:=hO.vars;refine Qv.of Tryd.func16 rfl rfl rfl (Nat.le_of_ble_eq_true rfl) ?_;show AWp _ _ (Z5 _ Tryd.f16 _ _ _) (Qw 34 _);repeat (first|refine AWp.seq ?_|refine AWp.block ?_)
 apply AWp.reg [] []
 ·conv=>lhs;simp
 ·trivial
 repeat (first|refine AWp.seq ?_|refine AWp.block ?_)
 apply AWp.reg [] []
 ·conv=>lhs;simp
 ·trivial
 repeat (first|refine AWp.seq ?_|refine AWp.block ?_)
 apply AWp.reg [] []
 ·conv=>lhs;simp
 ·trivial
 repeat (first|refine AWp.seq ?_|refine AWp.block ?_)
 refine AWp.loop (σ:=fun u:{i:Nat // i≤xs.length}=>⟨34,[(1,.ptr 1 0),(3,.d (.int (wr ((1+Tm.szs (xs.take u.1):Nat):Int)))),(9,.d (.sl (xs.map Tm.row))),(10,.d (.int xs.length)),(11,.d (.int u.1))],siMem k n a b vs xs cs⟩)
  (μ:=fun u=>xs.length-u.1) ⟨0,Nat.zero_le _⟩ (Le.sub (by simp[Tm.szs]) (by simp[siMem])) (fun⟨i,hi⟩=>?_)
 dsimp only;repeat (first|refine AWp.seq ?_|refine AWp.block ?_)
 apply AWp.reg [] []
 ·conv=>lhs;simp
 ·trivial
 repeat (first|refine AWp.seq ?_|refine AWp.block ?_)
 refine AWp.cond rfl (fun h=>?_) (fun h=>?_)
 ·have hi1:i<xs.length:=by have:=of_decide_eq_true h;omega
  have h1:xs[i]? =some xs[i]:=List.getElem?_eq_getElem hi1;have hmem:xs[i]∈xs:=List.getElem_mem hi1;generalize xs[i]=x at h1 hmem;have hp:=ih x (by have:=Tm.sz_arg (k:=k) (n:=n) (a:=a) (b:=b) (vs:=vs) (cs:=cs) hmem;omega) (hO.arg hmem);have ht:Tm.szs (xs.take (i+1))=Tm.szs (xs.take i)+x.sz:=by rw[List.take_add_one,h1];exact szs_snoc _ _
  have hle:=Tm.szs_take_le xs (i+1);refine AWp.skip ?_;generalize x.sz=z at hp ht;generalize Tm.szs (xs.take i)=y at ht⊢;obtain⟨xk,xn,xa,xb,xv,xx,xc⟩:=x;refine AWp.rg [] [] ?_ (hr:=by conv=>lhs;simp[h1,Tm.row,Tm.Q3,Cs.Q3]);repeat (first|refine AWp.seq ?_|refine AWp.block ?_)
  apply AWp.reg [3] [.p (fun _=>.d (.int (wr z))) none]
  ·conv=>lhs;simp
  ·exact hp
  refine AWp.rg [] [] ?_;refine⟨⟨i+1,hi1⟩,by simp;omega,?_⟩;dsimp only;rw[ht];have hw:∀u v w:Nat,w=u+v→wr (wr (u:Int)+wr (v:Int))=wr (w:Int):=fun u v w e=>by rw[wr_sum,e]
  refine Le.sub ?_ (by simp[siMem]);simp;exact hw _ _ _ (by omega)
 have hi1:i=xs.length:=by have:=of_decide_eq_false h;omega
 subst hi1;refine AWp.exit ?_;rw[List.take_length];clear h;repeat (first|refine AWp.seq ?_|refine AWp.block ?_)
 apply AWp.reg [] []
 ·conv=>lhs;simp[siMem]
 ·trivial
 repeat (first|refine AWp.seq ?_|refine AWp.block ?_)
 refine AWp.loop (σ:=fun u:{i:Nat // i≤cs.length}=>⟨34,[(1,.ptr 1 0),(3,.d (.int (wr ((1+Tm.szs xs+Cs.szs (cs.take u.1):Nat):Int)))),(21,.d (.sl (cs.map Cs.row))),(22,.d (.int cs.length)),(23,.d (.int u.1))],siMem k n a b vs xs cs⟩)
  (μ:=fun u=>cs.length-u.1) ⟨0,Nat.zero_le _⟩ (Le.sub (by simp[Cs.szs]) (by simp[siMem])) (fun⟨i,hi⟩=>?_)
 dsimp only;repeat (first|refine AWp.seq ?_|refine AWp.block ?_)
 apply AWp.reg [] []
 ·conv=>lhs;simp
 ·trivial
 repeat (first|refine AWp.seq ?_|refine AWp.block ?_)
 refine AWp.cond rfl (fun h=>?_) (fun h=>?_)
 ·have hi1:i<cs.length:=by have:=of_decide_eq_true h;omega
  have h1:cs[i]? =some cs[i]:=List.getElem?_eq_getElem hi1;have hmem:cs[i]∈cs:=List.getElem_mem hi1;generalize cs[i]=x at h1 hmem;have ht:Cs.szs (cs.take (i+1))=Cs.szs (cs.take i)+x.sz:=by rw[List.take_add_one,h1];exact cszs_snoc _ _
  have hle:=Cs.szs_take_le cs (i+1);obtain⟨g,ws,x⟩:=x;obtain⟨oc1,oc2⟩:=(hO.case hmem).body;have hp:=ih x (by have:=Tm.I8 (k:=k) (n:=n) (a:=a) (b:=b) (vs:=vs) (xs:=xs) hmem;omega) oc1;rw[show(Cs.mk g ws x).sz=x.sz from rfl]at ht;refine AWp.skip ?_;generalize x.sz=z at hp ht;generalize Cs.szs (cs.take i)=y at ht⊢;obtain⟨xk,xn,xa,xb,xv,xx,xc⟩:=x;refine AWp.rg [] [] ?_ (hr:=by conv=>lhs;simp[h1,Cs.row,Tm.row,Tm.Q3,Cs.Q3]);repeat (first|refine AWp.seq ?_|refine AWp.block ?_)
  apply AWp.reg [4] [.p (fun _=>.d (.int (wr z))) none]
  ·conv=>lhs;simp
  ·exact hp
  refine AWp.rg [] [] ?_;refine⟨⟨i+1,hi1⟩,by simp;omega,?_⟩;dsimp only;rw[ht];have hw:∀u v w:Nat,w=u+v→wr (wr (u:Int)+wr (v:Int))=wr (w:Int):=fun u v w e=>by rw[wr_sum,e]
  refine Le.sub ?_ (by simp[siMem]);simp;exact hw _ _ _ (by omega)
 have hi1:i=cs.length:=by have:=of_decide_eq_false h;omega
 subst hi1;refine AWp.exit ?_;rw[List.take_length];repeat (first|refine AWp.seq ?_|refine AWp.block ?_)
 apply AWp.reg [] []
 ·conv=>lhs;simp
 ·trivial
 refine AWp.ret ?_;try dsimp only[Qq,Q8]
 apply Z5.ret
 ·rfl
 ·conv=>lhs;simp[Qz,Tryd.results16]
 rfl
theorem sp_refSize (t:Tm) (h:t.Ok):Qv Tryd.prog 16 [Xj t] (fun _=>.d (.int (wr t.sz))) none:=sp_refSize_at _ t (Nat.lt_succ_self _) h
theorem sp_SameFns (a b:List Fn) (ha:a.length≤879609302220) (hf:∀f∈a,f.body.Ok∧f.params.length≤8796093022207):Qv Tryd.prog 7 [W9 a,W9 b] (fun _=>.d (.bool (eqB a b))) none:=by
 refine Qv.of Tryd.func7 rfl rfl rfl (Nat.le_of_ble_eq_true rfl) ?_;show AWp _ _ (Z5 _ Tryd.f7 _ _ _) (Qw 56 _);repeat (first|refine AWp.seq ?_|refine AWp.block ?_)
 apply AWp.reg [] []
 ·conv=>lhs;simp
 ·trivial
 by_cases hl:a.length=b.length;rotate_left
 ·have hl':¬((a.length:Int)=b.length):=by omega
  repeat (first|refine AWp.seq ?_|refine AWp.block ?_)
  apply AWp.reg [] []
  ·conv=>lhs;simp[hl,hl']
  ·trivial
  repeat (first|refine AWp.seq ?_|refine AWp.block ?_)
  refine AWp.cond rfl (fun h=>?_) (fun h=>?_)
  ·repeat (first|refine AWp.seq ?_|refine AWp.block ?_)
   apply AWp.reg [] []
   ·conv=>lhs;simp
   ·trivial
   refine AWp.ret ?_;try dsimp only[Qq,Q8]
   apply Z5.ret
   ·rfl
   ·conv=>lhs;simp[Qz,Tryd.results7]
   rw[eqB_ne (fun e=>hl (by rw[e]))];rfl
  ·cases h
 repeat (first|refine AWp.seq ?_|refine AWp.block ?_)
 apply AWp.reg [] []
 ·conv=>lhs;simp[hl]
 ·trivial
 refine AWp.cn ?_;refine AWp.skip ?_;repeat (first|refine AWp.seq ?_|refine AWp.block ?_)
 apply AWp.reg [] []
 ·conv=>lhs;simp
 ·trivial
 repeat (first|refine AWp.seq ?_|refine AWp.block ?_)
 refine AWp.loop (σ:=fun u:{i:Nat // i≤a.length∧a.take i=b.take i}=>⟨56,[(0,W9 a),(1,W9 b),(12,.d (.int a.length)),(13,.d (.int u.1))],[]⟩)
  (μ:=fun u=>a.length-u.1) ⟨0,Nat.zero_le _,rfl⟩ (Le.sub (by simp[hl]) (by simp)) (fun⟨i,hi,ht⟩=>?_)
 dsimp only;repeat (first|refine AWp.seq ?_|refine AWp.block ?_)
 apply AWp.reg [] []
 ·conv=>lhs;simp
 ·trivial
 repeat (first|refine AWp.seq ?_|refine AWp.block ?_)
 refine AWp.cond rfl (fun h=>?_) (fun h=>?_)
 ·have hi1:i<a.length:=by have:=of_decide_eq_true h;omega
  have h1:a[i]? =some a[i]:=List.getElem?_eq_getElem hi1;have h2:b[i]? =some (b[i]'(by omega)):=List.getElem?_eq_getElem (by omega);have hmem:a[i]∈a:=List.getElem_mem hi1;generalize a[i]=x at h1 hmem;generalize b[i]'(by omega)=y at h2;have hte:=take_eq h1 h2 ht;obtain⟨q1,q2⟩:=hf x hmem;obtain⟨g,ws,x⟩:=x;obtain⟨g',ws',y⟩:=y;dsimp only at q1 q2;have hp:=sp_refSame x y q1;have hws:=Iq ws ws' (by omega);have hbad:(g≠g'∨ws≠ws'∨x≠y)→eqB a b=false:=fun h=>eqB_ne (take_ne h1 h2 (by
   intro e;cases e;simp at h))
  obtain⟨B,hB⟩:∃B,B=eqB x y:=⟨_,rfl⟩
  rw[←hB]at hp;have hBf:B=false→x≠y:=fun e q=>by rw[hB,q,Rq]at e;cases e
  have hBt:B=true→x=y:=fun e=>eqB_iff.1 (by rw[←hB];exact e)
  obtain⟨_,_,_,_,_,_,_⟩:=x;obtain⟨_,_,_,_,_,_,_⟩:=y;refine AWp.skip ?_;repeat (first|refine AWp.seq ?_|refine AWp.block ?_)
  apply AWp.reg [] []
  ·conv=>lhs;simp
  ·trivial
  by_cases e8:g=g';rotate_left
  ·refine AWp.dw [] [] mixed ?_ (hr:=by conv=>lhs;simp[h1,h2,e8,Fn.row,Tm.row,Tm.Q3,Cs.Q3]);repeat (first|refine AWp.seq ?_|refine AWp.block ?_)
   refine AWp.cond rfl (fun h3=>?_) (fun h3=>?_)
   ·repeat (first|refine AWp.seq ?_|refine AWp.block ?_)
    apply AWp.reg [] []
    ·conv=>lhs;simp
    ·trivial
    refine AWp.ret ?_;try dsimp only[Qq,Q8]
    apply Z5.ret
    ·rfl
    ·conv=>lhs;simp[Qz,Tryd.results7]
    rw[hbad (.inl e8)];rfl
   ·simp at h3
  subst e8;by_cases e9:ws=ws';rotate_left
  ·rw[eqB_ne e9]at hws;repeat (first|refine AWp.seq ?_|refine AWp.block ?_)
   apply AWp.draw [] [.p (fun _=>.d (.bool false)) none] mixed
   ·conv=>lhs;simp[h1,h2,Fn.row,Tm.row,Tm.Q3,Cs.Q3]
   ·kernel_rfl
   ·exact hws
   repeat (first|refine AWp.seq ?_|refine AWp.block ?_)
   refine AWp.cond rfl (fun h3=>?_) (fun h3=>?_)
   ·repeat (first|refine AWp.seq ?_|refine AWp.block ?_)
    apply AWp.reg [] []
    ·conv=>lhs;simp
    ·trivial
    refine AWp.ret ?_;try dsimp only[Qq,Q8]
    apply Z5.ret
    ·rfl
    ·conv=>lhs;simp[Qz,Tryd.results7]
    rw[hbad (.inr (.inl e9))];rfl
   ·simp at h3
  subst e9;rw[Rq]at hws;cases B with
  |true=>
   have hxy:=hBt rfl;repeat (first|refine AWp.seq ?_|refine AWp.block ?_)
   apply AWp.draw [] [.p (fun _=>.d (.bool true)) none,.p (fun _=>.d (.bool true)) none] mixed
   ·conv=>lhs;simp[h1,h2,Fn.row,Tm.row,Tm.Q3,Cs.Q3]
   ·kernel_rfl
   ·exact⟨hws,hp⟩
   repeat (first|refine AWp.seq ?_|refine AWp.block ?_)
   refine AWp.cond rfl (fun h3=>?_) (fun h3=>?_)
   ·simp at h3
   refine AWp.skip ?_;refine AWp.rg [] [] ?_;refine⟨⟨i+1,hi1,hte.2 (by rw[hxy])⟩,by simp;omega,Le.sub (by simp) (by simp)⟩
  |false=>
   have hxy:=hBf rfl;repeat (first|refine AWp.seq ?_|refine AWp.block ?_)
   apply AWp.draw [] [.p (fun _=>.d (.bool true)) none,.p (fun _=>.d (.bool false)) none] mixed
   ·conv=>lhs;simp[h1,h2,Fn.row,Tm.row,Tm.Q3,Cs.Q3]
   ·kernel_rfl
   ·exact⟨hws,hp⟩
   repeat (first|refine AWp.seq ?_|refine AWp.block ?_)
   refine AWp.cond rfl (fun h3=>?_) (fun h3=>?_)
   ·repeat (first|refine AWp.seq ?_|refine AWp.block ?_)
    apply AWp.reg [] []
    ·conv=>lhs;simp
    ·trivial
    refine AWp.ret ?_;try dsimp only[Qq,Q8]
    apply Z5.ret
    ·rfl
    ·conv=>lhs;simp[Qz,Tryd.results7]
    rw[hbad (.inr (.inr hxy))];rfl
   ·simp at h3
 ·have hi1:i=a.length:=by have:=of_decide_eq_false h;omega
  subst hi1;rw[List.take_length,hl,List.take_length]at ht;subst ht;refine AWp.exit ?_;repeat (first|refine AWp.seq ?_|refine AWp.block ?_)
  apply AWp.reg [] []
  ·conv=>lhs;simp
  ·trivial
  refine AWp.ret ?_;try dsimp only[Qq,Q8]
  apply Z5.ret
  ·rfl
  ·conv=>lhs;simp[Qz,Tryd.results7]
  rw[Rq];rfl
end Go.Proofs.YtlbcipohiepjmaaDoor
namespace Go.Proofs.YtlbcipohiepjmaaDoor
open Go.RowKit
mutual
theorem Tm.od_toD:∀t:Tm,odRow t.od=some t.row
 | .mk k n a b vs xs cs=>by
  have h1:=Tm.P9 xs;have h2:=Cs.P9 cs;have h3:Vv (vs.map Kj)=some (vs.map Y0):=by
   induction vs with
   |nil=>rfl
   |cons s r ih=>simp only[List.map_cons,Vv,ih];rfl
  simp only[Tm.od,odRow,OD.toD,h1,h2,h3,Tm.row,Q7]
theorem Tm.P9:∀l:List Tm,Vv (Tm.ods l)=some (Tm.rows l)
 |[]=>rfl
 |t::r=>by simp only[Tm.ods,Vv,Tm.od_toD t,Tm.P9 r,Tm.rows]
theorem Cs.od_toD:∀c:Cs,odRow c.od=some c.row
 | .mk t vs b=>by
  have h1:=Tm.od_toD b;have h3:Vv (vs.map Kj)=some (vs.map Y0):=by
   induction vs with
   |nil=>rfl
   |cons s r ih=>simp only[List.map_cons,Vv,ih];rfl
  simp only[Cs.od,odRow,OD.toD,h1,h3,Cs.row,Q7]
theorem Cs.P9:∀l:List Cs,Vv (Cs.ods l)=some (Cs.rows l)
 |[]=>rfl
 |t::r=>by simp only[Cs.ods,Vv,Cs.od_toD t,Cs.P9 r,Cs.rows]
end
theorem strs_toD (l:List ByteArray):Vv (l.map Kj)=some (l.map Y0):=by
 induction l with
 |nil=>rfl
 |cons s r ih=>simp only[List.map_cons,Vv,ih];rfl
theorem strs_flat:∀l:List ByteArray,E5 (l.map Kj)
 |[]=>trivial
 |s::r=>⟨⟨trivial,trivial⟩,strs_flat r⟩
mutual
theorem Tm.od_flat:∀t:Tm,flatRow t.od
 | .mk k n a b vs xs cs=>⟨trivial,trivial,trivial,trivial,strs_flat vs,Tm.Tk xs,Cs.Tk cs,trivial⟩
theorem Tm.Tk:∀l:List Tm,E5 (Tm.ods l)
 |[]=>trivial
 |t::r=>⟨Tm.od_flat t,Tm.Tk r⟩
theorem Cs.od_flat:∀c:Cs,flatRow c.od
 | .mk t vs b=>⟨trivial,strs_flat vs,Tm.od_flat b⟩
theorem Cs.Tk:∀l:List Cs,E5 (Cs.ods l)
 |[]=>trivial
 |t::r=>⟨Cs.od_flat t,Cs.Tk r⟩
end
theorem moGet3 {a b c:Nat} {x y z:Q6} (i:Nat):X3 [(a,x),(b,y),(c,z)] i=if a==i then some x else if b==i then some y else if c==i then some z else none:=rfl
theorem own_rep {C:Cx} {w:World} {ok:Nat→Prop} {g:Gh} {m:Me} (hM:MS C w ok g m) {o:Nat} {ty:TypeId} {sz:Nat} {rows:List (List OD)} {ds:List (List D)} (hx:m o=some (.raw (.own ty sz rows []))) (hd:Vv rows=some ds) {v:Value} (hv:VR w ok g m (.arr o 0 rows.length) v) {R:Nat→Prop} (h1:∀b,ok b→R b) (h2:∀b,(Q6.raw (.own ty sz rows [])).at_ g o b→R b):Rep w R (.sl ds) v:=by
 have h:=G9.close_ hM hx hv;exact h.rep h1 h2 (by simp only[OD.toD,hd])
theorem cs_OwnB (t:Tm) (hO:t.Ok):Y9 Tryd.prog 26 [Ex t 1000 1001 1002] (S9 t 1000 1001 1002++[(500,.arr 0 1 []),(501,.arr 0 1 []),(502,.arr 0 1 [])]) (Ex t 500 501 502) (S9 t 1000 1001 1002++S9 t 500 501 502):=by
 have hS:=cs_OwnT t hO;obtain⟨tk,tn,ta,tb,tvs,txs,tcs⟩:=t;obtain⟨X0,hX0⟩:∃X,X=Q6.raw (.own 9 1 (tvs.map Kj) []):=⟨_,rfl⟩
 obtain⟨X1,hX1⟩:∃X,X=Q6.raw (.own 32 7 (txs.map Tm.od) []):=⟨_,rfl⟩
 obtain⟨X2,hX2⟩:∃X,X=Q6.raw (.own 42 9 (tcs.map Cs.od) []):=⟨_,rfl⟩
 simp only[Ex,S9,←hX0,←hX1,←hX2,List.cons_append,List.nil_append]at hS⊢;refine⟨hS.ent,fun w ok g vals hM hl hv=>?_⟩;obtain⟨mA,hmA⟩:∃m,m=X3 [(1000,X0),(1001,X1),(1002,X2),(500,.arr 0 1 []),(501,.arr 0 1 []),(502,.arr 0 1 [])]:=⟨_,rfl⟩
 obtain⟨mP,hmP⟩:∃m,m=X3 [(500,Q6.arr 0 1 []),(501,.arr 0 1 []),(502,.arr 0 1 [])]:=⟨_,rfl⟩
 obtain⟨mN,hmN⟩:∃m,m=X3 [(500,X0),(501,X1),(502,X2)]:=⟨_,rfl⟩
 obtain⟨mB,hmB⟩:∃m,m=X3 [(1000,X0),(1001,X1),(1002,X2),(500,X0),(501,X1),(502,X2)]:=⟨_,rfl⟩
 rw[←hmA]at hM hv;rw[←hmB];have a0:mA 1000=some X0:=by rw[hmA];rfl
 have a1:mA 1001=some X1:=by rw[hmA];rfl
 have a2:mA 1002=some X2:=by rw[hmA];rfl
 have pA:∀i x,mP i=some x→mA i=some x∧500≤i∧i<1000∧x= .arr 0 1 []:=fun i x h=>by
  rw[hmP,moGet3]at h;rw[hmA];simp only[beq_iff_eq]at h;split at h
  ·rename_i e;subst e;cases h;exact⟨rfl,by omega,by omega,rfl⟩
  ·split at h
   ·rename_i e;subst e;cases h;exact⟨rfl,by omega,by omega,rfl⟩
   ·split at h
    ·rename_i e;subst e;cases h;exact⟨rfl,by omega,by omega,rfl⟩
    ·cases h
 let P:Nat→Prop:=fun b=>X0.at_ g 1000 b∨X1.at_ g 1001 b∨X2.at_ g 1002 b
 let ok1:Nat→Prop:=fun b=>ok b∨P b
 have hP:∀b,P b→b<w.heap.size∧¬ok b∧∀i x,mP i=some x→¬x.at_ g i b:=fun b hb=>by
  rcases hb with hb|hb|hb
  ·obtain⟨q1,q2,_⟩:=hM.own _ _ b a0 hb;exact⟨q2,q1,fun i x hi hat=>by obtain⟨h1,_,h3,_⟩:=pA i x hi;have:=hM.inj _ _ _ _ b h1 a0 hat hb;omega⟩
  ·obtain⟨q1,q2,_⟩:=hM.own _ _ b a1 hb;exact⟨q2,q1,fun i x hi hat=>by obtain⟨h1,_,h3,_⟩:=pA i x hi;have:=hM.inj _ _ _ _ b h1 a1 hat hb;omega⟩
  ·obtain⟨q1,q2,_⟩:=hM.own _ _ b a2 hb;exact⟨q2,q1,fun i x hi hat=>by obtain⟨h1,_,h3,_⟩:=pA i x hi;have:=hM.inj _ _ _ _ b h1 a2 hat hb;omega⟩
 have hM1:MS ⟨w,ok1,fun b=>∃i x,mP i=some x∧x.at_ g i b,g⟩ w ok1 g mP:=by
  refine⟨fun i x hx=>?_,fun i j xi xj b hi hj=>hM.inj i j xi xj b (pA i xi hi).1 (pA j xj hj).1,fun i x b hx hb=>?_,fun b hb=>⟨?_,.inl hb⟩,fun b hb=>hb,Nat.le_refl _,fun b _ _=>rfl,fun i _=>⟨rfl,rfl⟩,rfl,rfl,rfl,hM.gi,fun b hb ⟨i,x,hx,hat⟩=>hM.gb b hb ⟨i,x,(pA i x hx).1,hat⟩⟩
  ·obtain⟨h1,_,_,rfl⟩:=pA i x hx;obtain⟨q0,q1,q2⟩:=hM.obj i _ h1;refine⟨q0,q1,?_⟩;rcases q2 with q2|⟨b,cur,r1,r2,r3,r4,r5,r6⟩
   ·exact .inl q2
   ·exact .inr ⟨b,cur,r1,r2,r3,r4,r5,fun i j r c v hr=>by simp at hr⟩
  ·obtain⟨h1,h2,_⟩:=pA i x hx;obtain⟨q1,q2,q3⟩:=hM.own i x b h1 hb;refine⟨fun h=>?_,q2,.inr ⟨⟨i,x,hx,hb⟩,h2⟩⟩;rcases h with h|h
   ·exact q1 h
   ·exact(hP b h).2.2 i x hx hb
  ·rcases hb with hb|hb
   ·exact(hM.okb b hb).1
   ·exact(hP b hb).1
 have hl1:vals.size=1:=by simpa using hl.symm
 have hv0:VR w ok g mA (.agg [.d (.int tk),.d (.int tn),.d (.str ta),.d (.str tb),.arr 1000 0 tvs.length,.arr 1001 0 txs.length,.arr 1002 0 tcs.length]) vals[0]:=hv 0 _ _ rfl (by simp[hl1]);obtain⟨vs,hvs,hn,hc,h1⟩:=hv0.Qa;have hv1:VR w ok1 g mP (Xj (.mk tk tn ta tb tvs txs tcs)) vals[0]:=by
  rw[hvs];simp only[Xj,Tm.row,Tm.Q3,Cs.Q3,List.map_cons,List.map_nil];refine .agg _ vs (by simpa using hn) (fun i c v hci hvi=>?_) h1;have weak:∀{d:D},VR w ok g mA (.d d) v→VR w ok1 g mP (.d d) v:=fun h=>.d _ _ (h.Z6.weak fun b hb=>.inl hb)
  rcases i with _|_|_|_|_|_|_|i
  ·simp at hci;subst hci;exact weak (hc 0 _ v rfl hvi)
  ·simp at hci;subst hci;exact weak (hc 1 _ v rfl hvi)
  ·simp at hci;subst hci;exact weak (hc 2 _ v rfl hvi)
  ·simp at hci;subst hci;exact weak (hc 3 _ v rfl hvi)
  ·simp at hci;subst hci;have:=hc 4 _ v rfl hvi;refine .d _ _ (own_rep hM (by rw[a0,hX0]) (strs_toD tvs) (by rw[List.length_map];exact this) (fun b hb=>.inl hb) fun b hb=>.inr (.inl (by rw[hX0];exact hb)))
  ·simp at hci;subst hci;have:=hc 5 _ v rfl hvi;refine .d _ _ (own_rep hM (by rw[a1,hX1]) (by rw[←Tm.Q4,←Tm.Q3];exact Tm.P9 txs) (by rw[List.length_map];exact this) (fun b hb=>.inl hb) fun b hb=>.inr (.inr (.inl (by rw[hX1];exact hb))))
  ·simp at hci;subst hci;have:=hc 6 _ v rfl hvi;refine .d _ _ (own_rep hM (by rw[a2,hX2]) (by rw[←Cs.Q4,←Cs.Q3];exact Cs.P9 tcs) (by rw[List.length_map];exact this) (fun b hb=>.inl hb) fun b hb=>.inr (.inr (.inr (by rw[hX2];exact hb))))
  ·simp at hci
 refine(hS.run w ok1 g vals (by rw[←hmP];exact hM1) (by simp[hl1]) fun i c v hci hvi=>?_).mono ?_
 ·rcases i with _|i
  ·simp at hci;subst hci;have:v=vals[0]:=by rw[Array.getElem?_eq_getElem (by omega)]at hvi;exact(Option.some.inj hvi).symm
   rw[this,←hmP];exact hv1
  ·simp at hci
 rintro ex w' ⟨v,ok',g',rfl,hM',hr⟩;rw[←hmP,←hmN]at hM';rw[←hmN]at hr
 let g2:Gh:=⟨fun i=>if 1000≤i then g.bl i else g'.bl i,fun i=>if 1000≤i then g.cp i else g'.cp i,fun i=>if 1000≤i then g.pv i else g'.pv i⟩
 have kb:∀b,b<w.heap.size→(∀i x,mP i=some x→¬x.at_ g i b)→w'.heap[b]? =w.heap[b]?:=fun b h1 h2=>hM'.heap b h1 fun⟨i,x,hx,hat⟩=>h2 i x hx hat
 have nB:∀i x,mB i=some x→(1000≤i∧mA i=some x∧(∀b,x.at_ g i b→P b)∧∃ty sz rows,x= .raw (.own ty sz rows []))∨(i<1000∧mN i=some x∧∃ty sz rows,x= .raw (.own ty sz rows [])∧E5 rows):=fun i x h=>by
  rw[hmB]at h;simp only[X3,beq_iff_eq]at h;rw[hmA,hmN];split at h
  ·rename_i e;subst e;cases h;exact .inl ⟨by omega,rfl,fun b hb=>.inl hb,_,_,_,hX0⟩
  split at h
  ·rename_i e;subst e;cases h;exact .inl ⟨by omega,rfl,fun b hb=>.inr (.inl hb),_,_,_,hX1⟩
  split at h
  ·rename_i e;subst e;cases h;exact .inl ⟨by omega,rfl,fun b hb=>.inr (.inr hb),_,_,_,hX2⟩
  split at h
  ·rename_i e;subst e;cases h;exact .inr ⟨by omega,rfl,_,_,_,hX0,strs_flat tvs⟩
  split at h
  ·rename_i e;subst e;cases h;exact .inr ⟨by omega,rfl,_,_,_,hX1,by rw[←Tm.Q4];exact Tm.Tk txs⟩
  split at h
  ·rename_i e;subst e;cases h;exact .inr ⟨by omega,rfl,_,_,_,hX2,by rw[←Cs.Q4];exact Cs.Tk tcs⟩
  ·cases h
 have at1:∀i (x:Q6) b,1000≤i→(x.at_ g2 i b↔x.at_ g i b):=fun i x b h=>Q6.Dz (by simp[g2,h]) (by simp[g2,h])
 have at2:∀i (x:Q6) b,i<1000→(x.at_ g2 i b↔x.at_ g' i b):=fun i x b h=>Q6.Dz (by simp[g2,Nat.not_le.2 h]) (by simp[g2,Nat.not_le.2 h])
 have new:∀i x b,mN i=some x→x.at_ g' i b→w.heap.size≤b∨∃j y,mP j=some y∧y.at_ g j b:=fun i x b hx hb=>by
  rcases(hM'.own i x b hx hb).2.2 with h|⟨h,_⟩
  ·exact .inl h
  ·exact .inr h
 have apart:∀b,P b→∀i x,mN i=some x→¬x.at_ g' i b:=fun b hb i x hx hat=>by
  rcases new i x b hx hat with h|⟨j,y,hj,hjb⟩
  ·have:=(hP b hb).1;omega
  ·exact(hP b hb).2.2 j y hj hjb
 have hMB:MS ⟨w,ok,fun b=>∃i x,mA i=some x∧x.at_ g i b,g⟩ w' ok g2 mB:=by
  refine⟨fun i x hx=>?_,fun i j xi xj b hi hj hbi hbj=>?_,fun i x b hx hb=>?_,fun b hb=>⟨?_,.inl hb⟩,fun b hb=>hb,hM'.size,fun b hb hT=>?_,fun i hi=>?_,hM'.os,hM'.tape,hM'.output,hM.gi,hM.gb⟩
  ·rcases nB i x hx with⟨h1,h2,h3,ty,sz,rows,rfl⟩|⟨h1,h2,ty,sz,rows,rfl,hf⟩
   ·obtain⟨q0,q1,q2,_⟩:=hM.obj i _ h2;refine⟨q0,q1,?_,fun a c o n h=>by cases h⟩;have e1:g2.bl i=g.bl i:=by simp[g2,h1]
    have e2:g2.cp i=g.cp i:=by simp[g2,h1]
    have e3:g2.pv i=g.pv i:=by simp[g2,h1]
    rw[e1,e2,e3];have kb2:∀b,(Q6.raw (.own ty sz rows [])).at_ g i b→w'.heap[b]? =w.heap[b]?:=fun b hb=>kb b (hP b (h3 b hb)).1 (hP b (h3 b hb)).2.2
    rcases q2 with q2|⟨b,cur,S,r1,r2,r3,r4,r5,r6,r7,r8,r9⟩
    ·exact .inl q2
    ·exact .inr ⟨b,cur,S,r1,r2,(kb2 b (.inl r1)).trans r3,r4,r5,r6,r7,r8,fun a c r d u hr hd hu=>(r9 a c r d u hr hd hu).keep (fun p hp=>World.Yw (kb _ (hM.okb _ hp).1 fun j y hj hjb=>(hM.own j y _ (pA j y hj).1 hjb).1 hp)) (fun _ h=>h) (fun x hx=>kb2 x (.inr (r7 a c x hx))) fun _ h=>h⟩
   ·obtain⟨q0,q1,q2,_⟩:=hM'.obj i _ h2;refine⟨q0,q1,?_,fun a c o n h=>by cases h⟩;have e1:g2.bl i=g'.bl i:=by simp[g2,Nat.not_le.2 h1]
    have e2:g2.cp i=g'.cp i:=by simp[g2,Nat.not_le.2 h1]
    have e3:g2.pv i=g'.pv i:=by simp[g2,Nat.not_le.2 h1]
    rw[e1,e2,e3];rcases q2 with q2|⟨b,cur,S,r1,r2,r3,r4,r5,r6,r7,r8,r9⟩
    ·exact .inl q2
    ·exact .inr ⟨b,cur,S,r1,r2,r3,r4,r5,r6,r7,r8,fun a c r d u hr hd hu=>(r9 a c r d u hr hd hu).flat (flatRow_get (Oj hf a r hr) c d hd)⟩
  ·rcases nB i xi hi with⟨h1,h2,h3,_⟩|⟨h1,h2,_⟩<;> rcases nB j xj hj with⟨k1,k2,k3,_⟩|⟨k1,k2,_⟩
   ·exact hM.inj i j xi xj b h2 k2 ((at1 _ _ _ h1).1 hbi) ((at1 _ _ _ k1).1 hbj)
   ·exact absurd ((at2 _ _ _ k1).1 hbj) (apart b (h3 b ((at1 _ _ _ h1).1 hbi)) j xj k2)
   ·exact absurd ((at2 _ _ _ h1).1 hbi) (apart b (k3 b ((at1 _ _ _ k1).1 hbj)) i xi h2)
   ·exact hM'.inj i j xi xj b h2 k2 ((at2 _ _ _ h1).1 hbi) ((at2 _ _ _ k1).1 hbj)
  ·rcases nB i x hx with⟨h1,h2,h3,_⟩|⟨h1,h2,_⟩
   ·have hb:=(at1 _ _ _ h1).1 hb;obtain⟨q1,q2,q3⟩:=hM.own i x b h2 hb;exact⟨q1,by have:=hM'.size;exact Nat.lt_of_lt_of_le q2 this,.inr ⟨⟨i,x,h2,hb⟩,by omega⟩⟩
   ·have hb:=(at2 _ _ _ h1).1 hb;obtain⟨q1,q2,q3⟩:=hM'.own i x b h2 hb;refine⟨fun h=>q1 (hM'.okk b (.inl h)),q2,?_⟩;rcases q3 with q3|⟨⟨j,y,hj,hjb⟩,q4⟩
    ·exact .inl q3
    ·exact .inr ⟨⟨j,y,(pA j y hj).1,hjb⟩,q4⟩
  ·exact Nat.lt_of_lt_of_le (hM.okb b hb).1 hM'.size
  ·exact kb b hb fun i x hi hat=>hT ⟨i,x,(pA i x hi).1,hat⟩
  ·have:1000≤i:=Nat.le_of_ble_eq_true hi;simp[g2,this]
 refine⟨v,ok,g2,rfl,by rw[←hmA];exact hMB,?_⟩;obtain⟨us,hus,hun,huc,hu1⟩:=hr.Qa;rw[hus];refine .agg _ us hun (fun i c u hci hui=>?_) hu1;have arr:∀o n,o<1000→VR w' ok' g' mN (.arr o 0 n) u→VR w' ok g2 mB (.arr o 0 n) u:=fun o n ho h=>by
  cases h with
  |arr _ _ _ _ hv1 h=>
   refine .arr _ _ _ _ hv1 fun x sz L hx hs=>?_
   rcases nB o x hx with⟨h1,_⟩|⟨h1,h2,_⟩
   ·omega
   ·have e1:g2.bl o=g'.bl o:=by simp[g2,Nat.not_le.2 h1]
    have e2:g2.cp o=g'.cp o:=by simp[g2,Nat.not_le.2 h1]
    rw[e1,e2];exact h x sz L h2 hs
 have fl:∀{d:D},d.flat→VR w' ok' g' mN (.d d) u→VR w' ok g2 mB (.d d) u:=fun hd h=>.d _ _ (h.Z6.flat hd)
 rcases i with _|_|_|_|_|_|_|i
 ·simp at hci;subst hci;exact fl trivial (huc 0 _ u rfl hui)
 ·simp at hci;subst hci;exact fl trivial (huc 1 _ u rfl hui)
 ·simp at hci;subst hci;exact fl trivial (huc 2 _ u rfl hui)
 ·simp at hci;subst hci;exact fl trivial (huc 3 _ u rfl hui)
 ·simp at hci;subst hci;exact arr _ _ (by omega) (huc 4 _ u rfl hui)
 ·simp at hci;subst hci;exact arr _ _ (by omega) (huc 5 _ u rfl hui)
 ·simp at hci;subst hci;exact arr _ _ (by omega) (huc 6 _ u rfl hui)
 ·simp at hci
def endX (P:Program) (fn:Func) (r:Nat→AV) (x:Option Q6):Exit→AS→Prop:=fun e s=>∃o,(∀d,r d=(r o).ren (fun _=>d))∧(∀i∈(r o).ids,i=o)∧Z5 P fn r x o e s
theorem endX.ret {P:Program} {fn:Func} {n:Nat} (o:Nat) {s:AS} {cs:List AV} {y:Q6} (h:Qz P s fn.results.toList=some cs) (hr:(Zz cs).X7= .arr o 0 n) (hx:Q5 s.mem o=some y) (ho:Nat.ble 500 o=false):endX P fn (fun d=>.arr d 0 n) (some y) .ret s:=
 ⟨o,fun _=>rfl,by simp[AV.ids,M7],.inl rfl,s,Le.refl s,cs,h,hr,rfl,fun z hz=>by cases hz;exact⟨hx,ho⟩⟩
theorem Qv.ofArrX {P:Program} {k:Nat} {fn:Func} {c:Code} (hf:P.funcs[k]? =some fn) (hnm:(fn.name== "runtime.NumGoroutine")=false) (hb:fn.body=some c) {args:List AV} (r:Nat→AV) {e:TypeId} {sz:Nat} {rows:List (List D)} (hn:args.length≤fn.ntmps)
  (hrcl:∀d,(r d).has (fun i=>!(d==i))=false) (h:AWp P c (endX P fn r (some (.arr e sz rows))) (Qw fn.ntmps args)):Qv P k args r (some (.arr e sz rows)):=by
 refine⟨⟨fn,hf,hnm,by rw[hb];rfl⟩,hrcl,(fun h=>by cases h),fun y hy=>⟨e,sz,rows,by cases hy;rfl⟩,fun d w ok vals hgi hok hl hv=>?_⟩;refine calls_of_wp hf hb ?_;have hst:St ⟨w,ok,fun _=>False,noG⟩ (Qw fn.ntmps args) { tmps:=vals++Array.replicate (fn.ntmps-vals.size) undef,defers:=[] } w:=by
  refine⟨ok,noG,⟨(fun o x hx=>by cases hx),(fun i j xi xj b hi=>by cases hi),(fun i x b hi=>by cases hi),fun b hb=>⟨hok b hb,.inl hb⟩,fun b hb=>hb,Nat.le_refl _,fun b _ _=>rfl,fun i _=>⟨rfl,rfl⟩,rfl,rfl,rfl,hgi,fun _ _ h=>h⟩,by simp[Qw];omega,rfl,fun t=>?_⟩;exact frStart (C:=⟨w,ok,fun _=>False,noG⟩) hl hn hv t
 refine wp_mono (h _ _ w hst) ?_;rintro ex a' w' ⟨s,⟨o,hren,hids,he,s',hle,cs,hres,hr,hrn,hx⟩,hs⟩;obtain⟨ok',g,hM,h1,h2,h3⟩:=hle _ _ _ hs;obtain⟨v,hv1,hv2⟩:=Iz hM h3 hres;obtain⟨hxo,hxs⟩:=hx _ rfl;have hv2:=hv2.X7;rw[hr,hrn]at hv2;have hfin:a'.defers=[]∧∃v,(results fn a'.tmps).run P w'= .ok v w'∧∃v' ok' g',Ending.returned v= .returned v'∧Below w.heap.size w w'∧(∀b,ok b→ok' b)∧(∀b,ok' b→ok b∨(w.heap.size≤b∧b<w'.heap.size))∧VR w' ok' g' (oneM d (some (.arr e sz rows))) (r d) v'∧
   (∀y,(some (.arr e sz rows):Option Q6)=some y→OR w' ok' g' (oneM d (some (.arr e sz rows))) d y∧∀b,g'.bl d=some b→¬ok' b∧w.heap.size≤b∧b<w'.heap.size):=by
  refine⟨h2,v,hv1,v,ok',⟨fun _=>g.bl o,fun _=>g.cp o,fun _=>g.pv o⟩,rfl,⟨hM.os,hM.tape,hM.output,hM.size,fun b hb=>hM.heap b hb (fun h=>h)⟩,hM.okk,fun b hb=>?_,?_,fun y hy=>?_⟩
  ·obtain⟨k1,k2⟩:=hM.okb b hb;rcases k2 with k2|k2
   ·exact .inl k2
   ·exact .inr ⟨k2,k1⟩
  ·rw[hren d];refine VR.reren _ hv2 fun i hi=>?_
   have:=hids i hi;subst this;exact⟨_,hxo,by simp[oneM,Q6.ren],rfl,rfl⟩
  ·cases hy;have hO:=hM.obj o _ hxo;refine⟨hO,fun b hb=>?_⟩;obtain⟨k1,k2,k3⟩:=hM.own o _ b hxo (.inl hb);refine⟨k1,?_,k2⟩;rcases k3 with k3|⟨k3,_⟩
   ·exact k3
   ·exact k3.elim
 rcases he with rfl|rfl
 ·exact hfin
 ·exact hfin
mutual
def Tm.free:Tm→List ByteArray
 | .mk k _ a _ _ xs cs=>if k=1 then[a]else if k=6∧xs.length=2 then Tm.freeL a [] xs else Cs.frees (Tm.frees (if 8≤k∧k≤11 then[a]else[]) xs) cs
def Tm.frees:List ByteArray→List Tm→List ByteArray
 |o,[]=>o
 |o,x::r=>Tm.frees (addN o x.free) r
def Tm.freeL (a:ByteArray):List ByteArray→List Tm→List ByteArray
 |o,[]=>o
 |o,x::r=>Tm.freeB a (addN o x.free) r
def Tm.freeB (a:ByteArray):List ByteArray→List Tm→List ByteArray
 |o,[]=>o
 |o,x::_=>addN o (woN x.free [a])
def Cs.frees:List ByteArray→List Cs→List ByteArray
 |o,[]=>o
 |o,c::r=>Cs.frees (addN o c.Mw) r
def Cs.Mw:Cs→List ByteArray
 | .mk _ vs b=>woN b.free vs
end
theorem Tm.frees_eq (l:List Tm):∀o,Tm.frees o l=l.foldl (fun o x=>addN o x.free) o:=by
 induction l with
 |nil=>intro o;simp[Tm.frees]
 |cons x r ih=>intro o;simp[Tm.frees,ih]
theorem Cs.frees_eq (l:List Cs):∀o,Cs.frees o l=l.foldl (fun o x=>addN o x.Mw) o:=by
 induction l with
 |nil=>intro o;simp[Cs.frees]
 |cons x r ih=>intro o;simp[Cs.frees,ih]
mutual
theorem Tm.R9:∀t:Tm,t.free.length≤t.sz
 | .mk k n a b vs xs cs=>by
  simp only[Tm.free,Tm.sz];split
  ·simp;omega
  split
  ·have:=Tm.freeL_len a xs [];simp at this;omega
  ·have h1:=Tm.Pv xs (if 8≤k∧k≤11 then[a]else[]);have h2:=Cs.Pv cs (Tm.frees (if 8≤k∧k≤11 then[a]else[]) xs);have h3:(if 8≤k∧k≤11 then[a]else[]).length≤1:=by split<;> simp
   omega
theorem Tm.Pv:∀(l:List Tm) (o:List ByteArray),(Tm.frees o l).length≤o.length+Tm.szs l
 |[],o=>by simp[Tm.frees]
 |x::r,o=>by
  have h1:=Tm.R9 x;have h2:=Tm.Pv r (addN o x.free);have h3:=I4 x.free o;simp only[Tm.frees,Tm.szs];omega
theorem Tm.freeL_len (a:ByteArray):∀(l:List Tm) (o:List ByteArray),(Tm.freeL a o l).length≤o.length+Tm.szs l
 |[],o=>by simp[Tm.freeL]
 |x::r,o=>by
  have h1:=Tm.R9 x;have h2:=Tm.freeB_len a r (addN o x.free);have h3:=I4 x.free o;simp only[Tm.freeL,Tm.szs];omega
theorem Tm.freeB_len (a:ByteArray):∀(l:List Tm) (o:List ByteArray),(Tm.freeB a o l).length≤o.length+Tm.szs l
 |[],o=>by simp[Tm.freeB]
 |x::r,o=>by
  have h1:=Tm.R9 x;have h3:=I4 (woN x.free [a]) o;have h4:=L8 x.free [a];simp only[Tm.freeB,Tm.szs];omega
theorem Cs.Pv:∀(l:List Cs) (o:List ByteArray),(Cs.frees o l).length≤o.length+Cs.szs l
 |[],o=>by simp[Cs.frees]
 |x::r,o=>by
  have h1:=Cs.freeC_len x;have h2:=Cs.Pv r (addN o x.Mw);have h3:=I4 x.Mw o;simp only[Cs.frees,Cs.szs];omega
theorem Cs.freeC_len:∀(c:Cs),c.Mw.length≤c.sz
 | .mk t vs b=>by
  have h1:=Tm.R9 b;have h4:=L8 b.free vs;simp only[Cs.Mw,Cs.sz];omega
end
theorem Tm.szs_take {l:List Tm} {i:Nat} {x:Tm} (hx:l[i]? =some x):Tm.szs (l.take i)+x.sz≤Tm.szs l:=by
 induction l generalizing i with
 |nil=>simp at hx
 |cons y r ih=>
  cases i with
  |zero=>simp at hx;subst hx;simp[Tm.szs]
  |succ i=>have:=ih (i:=i) (by simpa using hx);simp only[List.take_succ_cons,Tm.szs];omega
theorem Cs.szs_take {l:List Cs} {i:Nat} {x:Cs} (hx:l[i]? =some x):Cs.szs (l.take i)+x.sz≤Cs.szs l:=by
 induction l generalizing i with
 |nil=>simp at hx
 |cons y r ih=>
  cases i with
  |zero=>simp at hx;subst hx;simp[Cs.szs]
  |succ i=>have:=ih (i:=i) (by simpa using hx);simp only[List.take_succ_cons,Cs.szs];omega
theorem Tm.frees_snoc {o:List ByteArray} {l:List Tm} {i:Nat} {x:Tm} (hx:l[i]? =some x):Tm.frees o (l.take (i+1))=addN (Tm.frees o (l.take i)) x.free:=by
 rw[List.take_add_one,hx];simp[Tm.frees_eq]
theorem Cs.frees_snoc {o:List ByteArray} {l:List Cs} {i:Nat} {x:Cs} (hx:l[i]? =some x):Cs.frees o (l.take (i+1))=addN (Cs.frees o (l.take i)) x.Mw:=by
 rw[List.take_add_one,hx];simp[Cs.frees_eq]
end Go.Proofs.YtlbcipohiepjmaaDoor
namespace Go.Proofs.YtlbcipohiepjmaaDoor
open Go.RowKit Go.Shelf
attribute [local go_sem] Oper.semAt_some
def KpB (n₀ Bs:Nat) (A B:World):Prop:=Below n₀ A B∧B.cell? ⟨Bs,0,none⟩=A.cell? ⟨Bs,0,none⟩
end Go.Proofs.YtlbcipohiepjmaaDoor
namespace Go.Proofs.YtlbcipohiepjmaaDoor
open Go.RowKit Go.Shelf
attribute [local go_sem] Oper.semAt_some
def cnt (k:Int):List ByteArray→Tm→Tm
 |[],t=>t
 |s::r,t=>.mk k 0 s .empty [] [cnt k r t] []
def cntF (k:Int) (t:Tm) (pre:List (Int×ByteArray)):Tm:=pre.foldl (fun t x=>.mk k 0 x.2 .empty [] [t] []) t
def BInv (k:Int) (t:Tm) (ok:Nat→Prop) (n0:Nat) (z:Array Value) (pre:List (Int×ByteArray)) (W:World):Prop:=
 n0+3≤W.heap.size∧∃(S:Nat→Prop) (c0 c1 c2 c3 c4 c5 c6:Value),(∀b,S b→n0+3≤b∧∃cs t fr,W.heap[b]? =some (.cells cs t fr))∧Blk W n0 32 #[c0,c1,c2,c3,c4,c5,c6]∧Blk W (n0+1) 32 z∧
  ((∀p∈pre,p.2.size≤maxLen)→RepRow W (fun b=>ok b∨S b) (cntF k t pre).row [c0,c1,c2,c3,c4,c5,c6])
section
variable {F:Fence} {nF:Nat} {P:Program}
end
end Go.Proofs.YtlbcipohiepjmaaDoor
namespace Go.Proofs.YtlbcipohiepjmaaDoor
open Go.RowKit
attribute [local simp] runD mkRc ldOf stOf stOk Mj Tv Rz Kv Kw Yq Y8 Xz Y4 Bj evA Vj F4 Value.oneCell' Z9 Q5 Qw frOf Uv Qj AS.after Z4 V4 Y3 AV.ids M7 Q6.ids frNo Mx Gj Uw Hq Jv Y5 Vx U3 U2 K4 toD1 Ez setAt U9 O0 F5 Av H6 Aw binI AV.cells J4 Jj H5 Wj AV.kill Q6.kill AV.has AV.Yj Op.operands Call.operands Nk Mv Z8 cChk Z0 X3 Ev moQ M9 R7 Yz AV.ren Ej Q6.ren Q6.like kept K5 Sq AV.frz Px Ox frSub M5 D9 AS.frz C8 G7 Q6.frz Fx bleF Nat.ble_eq Gw G6 Y1 D.Y2 Tj G5 V8 Vk phO Az F6 D7 K6 V5 Low Ew
theorem AWp.seqJ {P:Program} {Q:Exit→AS→Prop} {s:AS} {x y:Code} (s0:AS) (h2:AWp P y Q s0) (h1:∀W:AS→Prop,(∀s',Le s' s0→W s')→AWp P x (Qq W Q) s):AWp P (.seq x y) Q s:=
 AWp.seq (h1 _ fun _ hl=>AWp.le hl h2)
abbrev tmCells (k n:Int) (a b:ByteArray) (vs:List ByteArray) (xs:List Tm) (cs:List Cs):List AV:=
 [.d (.int k),.d (.int n),.d (.str a),.d (.str b),.d (Q7 vs),.d (.sl (xs.map Tm.row)),.d (.sl (cs.map Cs.row))]
def Q9 (k n:Int) (a b:ByteArray) (vs:List ByteArray) (xs:List Tm) (cs:List Cs):Option Q6:=some (.blk 32 (tmCells k n a b vs xs cs))
structure Tm.Fit (t:Tm):Prop where
 ok:t.Ok
 sz:t.sz≤1048576
theorem Tm.Fit.arg {k n:Int} {a b:ByteArray} {vs:List ByteArray} {xs:List Tm} {cs:List Cs} (h:(Tm.mk k n a b vs xs cs).Fit) {x:Tm} (hx:x∈xs):x.Fit:=
 ⟨h.ok.arg hx,by have:=Tm.sz_arg (k:=k) (n:=n) (a:=a) (b:=b) (vs:=vs) (cs:=cs) hx;have:=h.sz;omega⟩
theorem Tm.Fit.case {k n:Int} {a b:ByteArray} {vs:List ByteArray} {xs:List Tm} {cs:List Cs} (h:(Tm.mk k n a b vs xs cs).Fit) {t:Int} {ws:List ByteArray} {x:Tm} (hx:Cs.mk t ws x∈cs):x.Fit∧ws.length≤8796093022207:=
 ⟨⟨(h.ok.case hx).body.1,by have:=Tm.I8 (k:=k) (n:=n) (a:=a) (b:=b) (vs:=vs) (xs:=xs) hx;have:=h.sz;omega⟩,(h.ok.case hx).body.2⟩
theorem sz_all {k n:Int} {a b:ByteArray} {vs:List ByteArray} {xs:List Tm} {cs:List Cs} (h:(Tm.mk k n a b vs xs cs).Fit):1+Tm.szs xs+Cs.szs cs≤1048576:=by
 have:=h.sz;simpa only[Tm.sz]using this
theorem addN_woN (skip:List ByteArray) (l:List ByteArray) {L:List ByteArray} {i:Nat} {x:ByteArray} (hx:l[i]? =some x):
  addN L (woN (l.take (i+1)) skip)=if !hasB skip x && !hasB (addN L (woN (l.take i) skip)) x then addN L (woN (l.take i) skip)++[x]else addN L (woN (l.take i) skip):=by
 rw[List.take_add_one,hx];simp only[woN,List.filter_append,addN,List.foldl_append,Option.toList_some];cases h:hasB skip x
 ·simp only[List.filter_cons,h,Bool.not_false,if_true,List.filter_nil,List.foldl_cons,List.foldl_nil,Bool.true_and];cases hasB (List.foldl (fun l s=>if hasB l s=true then l else l++[s]) L (List.filter (fun s=>!hasB skip s) (List.take i l))) x<;> rfl
 ·simp[List.filter_cons,h]
theorem cs_Free1 (L l skip:List ByteArray) (hl:L.length+l.length≤1048576) (hs:skip.length≤8796093022207):
  Y9 Tryd.prog 62 [Z7 l,Z7 skip,.ptr 1000 0] [(1000,.blk 28 [.arr 500 0 L.length]),(500,.arr 9 1 (L.map Y0))] (Zz [])
   [(1000,.blk 28 [.arr 500 0 (addN L (woN l skip)).length]),(500,.arr 9 1 ((addN L (woN l skip)).map Y0))]:=by
 refine Y9.of Tryd.func62 rfl rfl (Nat.le_of_ble_eq_true rfl) ?_;show AWp _ _ (Zw _ Tryd.f62 _ _) (K5 28 _ _);repeat (first|refine AWp.seq ?_|refine AWp.block ?_)
 apply AWp.reg [] []
 ·conv=>lhs;simp
 ·trivial
 repeat (first|refine AWp.seq ?_|refine AWp.block ?_)
 refine AWp.loop (σ:=fun u:{i:Nat // i≤l.length}=>⟨28,[(1,Z7 skip),(2,.ptr 1000 0),(7,Z7 l),(8,.d (.int l.length)),(9,.d (.int u.1))],[(1000,some (.blk 28 [.arr 500 0 (addN L (woN (l.take u.1) skip)).length])),(500,some (.arr 9 1 ((addN L (woN (l.take u.1) skip)).map Y0)))]⟩)
  (μ:=fun u=>l.length-u.1) ⟨0,Nat.zero_le _⟩ (Le.sub (by simp[addN,woN]) (by simp[addN,woN])) (fun⟨i,hi⟩=>?_)
 dsimp only;have hN:=I4 (woN (l.take i) skip) L;have hw:=L8 (l.take i) skip;have hti:(l.take i).length=i:=by simp;omega
 have hS:∀x,l[i]? =some x→_:=fun x=>addN_woN skip l (L:=L) (i:=i) (x:=x)
 obtain⟨M,hM⟩:∃M,M=addN L (woN (l.take i) skip):=⟨_,rfl⟩
 rw[←hM]at hN hS⊢;repeat (first|refine AWp.seq ?_|refine AWp.block ?_)
 apply AWp.reg [] []
 ·conv=>lhs;simp
 ·trivial
 repeat (first|refine AWp.seq ?_|refine AWp.block ?_)
 refine AWp.cond rfl (fun h=>?_) (fun h=>?_)
 ·have hi1:i<l.length:=by have:=of_decide_eq_true h;omega
  have h1:l[i]? =some l[i]:=List.getElem?_eq_getElem hi1;generalize l[i]=x at h1;have hs1:=hS x h1;have hp:=sp_Has skip x (by omega);have hc:=cs_Has 1001 M x (by omega);obtain⟨A,hA⟩:∃A,A=hasB skip x:=⟨_,rfl⟩
  obtain⟨B,hB⟩:∃B,B=hasB M x:=⟨_,rfl⟩
  rw[←hA,←hB]at hs1;rw[←hA]at hp;rw[←hB]at hc;refine AWp.skip ?_;refine AWp.rg [] [] ?_ (hr:=by conv=>lhs;simp[h1]);cases A with
  |true=>
   repeat (first|refine AWp.seq ?_|refine AWp.block ?_)
   apply AWp.reg [] [.p (fun _=>.d (.bool true)) none,.c [(1001,500)] [.arr 1001 0 M.length,.d (.str x)] [(1001,.arr 9 1 (M.map Y0))] (.d (.bool B)) [(1001,.arr 9 1 (M.map Y0))]]
   ·conv=>lhs;simp
   ·exact hp
   refine AWp.cn ?_;refine AWp.skip ?_;refine AWp.rg [] [] ?_;refine⟨⟨i+1,hi1⟩,by simp;omega,?_⟩;dsimp only;rw[hs1];exact Le.sub (by simp) (by simp)
  |false=>
   cases B with
   |true=>
    repeat (first|refine AWp.seq ?_|refine AWp.block ?_)
    apply AWp.reg [] [.p (fun _=>.d (.bool false)) none,.c [(1001,500)] [.arr 1001 0 M.length,.d (.str x)] [(1001,.arr 9 1 (M.map Y0))] (.d (.bool true)) [(1001,.arr 9 1 (M.map Y0))]]
    ·conv=>lhs;simp
    ·exact⟨hp,hc⟩
    refine AWp.cn ?_;refine AWp.skip ?_;refine AWp.rg [] [] ?_;refine⟨⟨i+1,hi1⟩,by simp;omega,?_⟩;dsimp only;rw[hs1];exact Le.sub (by simp) (by simp)
   |false=>
    repeat (first|refine AWp.seq ?_|refine AWp.block ?_)
    apply AWp.reg [] [.p (fun _=>.d (.bool false)) none,.c [(1001,500)] [.arr 1001 0 M.length,.d (.str x)] [(1001,.arr 9 1 (M.map Y0))] (.d (.bool false)) [(1001,.arr 9 1 (M.map Y0))]]
    ·conv=>lhs;simp
    ·exact⟨hp,hc⟩
    refine AWp.cy ?_;refine AWp.rg [] [] ?_;refine AWp.rg [] [] ?_;refine⟨⟨i+1,hi1⟩,by simp;omega,?_⟩;dsimp only;rw[hs1];exact Le.sub (by simp) (by simp)
 have hi1:i=l.length:=by have:=of_decide_eq_false h;omega
 subst hi1;rw[List.take_length]at hM;refine AWp.exit ?_;rw[←hM];try dsimp only[Qq,Q8]
 apply Zw.normal
 ·rfl
 ·conv=>lhs;simp[Qz,Tryd.results62]
 ·rfl
 ·simp[Zx,Q5]
theorem woN_nil (l:List ByteArray):woN l []=l:=by simp[woN,hasB]
def H9 (xs:List Tm) (sk:Nat→List ByteArray) (o0:List ByteArray):Nat→List ByteArray
 |0=>o0
 |i+1=>match xs[i]? with
  |some x=>addN (H9 xs sk o0 i) (woN x.free (sk i))
  |none=>H9 xs sk o0 i
theorem rfree_snoc {xs:List Tm} (sk:Nat→List ByteArray) (o0:List ByteArray) {i:Nat} {x:Tm} (hx:xs[i]? =some x):H9 xs sk o0 (i+1)=addN (H9 xs sk o0 i) (woN x.free (sk i)):=by
 simp only[H9,hx]
theorem rfree_len (xs:List Tm) (sk:Nat→List ByteArray) (o0:List ByteArray):∀i,(H9 xs sk o0 i).length≤o0.length+Tm.szs (xs.take i)
 |0=>by simp[H9]
 |i+1=>by
  have ih:=rfree_len xs sk o0 i;simp only[H9];split
  ·rename_i x hx;have h1:=I4 (woN x.free (sk i)) (H9 xs sk o0 i);have h2:=L8 x.free (sk i);have h3:=x.R9;have h4:Tm.szs (xs.take (i+1))=Tm.szs (xs.take i)+x.sz:=by
    rw[List.take_add_one,hx];have:∀l:List Tm,Tm.szs (l++[x])=Tm.szs l+x.sz:=fun l=>by
     induction l with
     |nil=>simp[Tm.szs]
     |cons y r ih=>simp only[List.cons_append,Tm.szs,ih];omega
    exact this _
   omega
  ·rename_i hx;have h4:xs.take (i+1)=xs.take i:=by rw[List.take_add_one,hx];simp
   rw[h4];exact ih
theorem rfree_plain (xs:List Tm) (o0:List ByteArray):∀i,H9 xs (fun _=>[]) o0 i=Tm.frees o0 (xs.take i)
 |0=>by simp[H9,Tm.frees]
 |i+1=>by
  have ih:=rfree_plain xs o0 i;simp only[H9];split
  ·rename_i x hx;rw[Tm.frees_snoc hx,ih,woN_nil]
  ·rename_i hx;rw[List.take_add_one,hx,ih];simp
def Tx (k:Int) (a:ByteArray) (len i:Nat):List ByteArray:=if k=6∧len=2∧i=1 then[a]else[]
theorem skipA_len (k:Int) (a:ByteArray) (len i:Nat):(Tx k a len i).length≤1:=by unfold Tx;split<;> simp
theorem rfree_all (k:Int) (a:ByteArray) (xs:List Tm) (o0:List ByteArray) (h:¬(k=6∧xs.length=2)):H9 xs (Tx k a xs.length) o0 xs.length=Tm.frees o0 xs:=by
 have e:Tx k a xs.length=fun _=>[]:=funext fun i=>by
  unfold Tx;rw[if_neg (fun hh=>h ⟨hh.1,hh.2.1⟩)]
 rw[e,rfree_plain,List.take_length]
theorem rfree_let (a:ByteArray) (x y:Tm):H9 [x,y] (Tx 6 a 2) [] 2=Tm.freeL a [] [x,y]:=by
 simp[H9,Tx,Tm.freeL,Tm.freeB,woN_nil]
def J8 (k n:Int) (a b:ByteArray) (vs:List ByteArray) (xs:List Tm) (cs:List Cs) (L:List ByteArray):List (Nat×Option Q6):=
 [(1,Q9 k n a b vs xs cs),(3,some (.blk 28 [.arr 400 0 L.length])),(400,some (.arr 9 1 (L.map Y0)))]
theorem sp_refFree_at:∀(N:Nat) (t:Tm),t.sz<N→t.Fit→Qv Tryd.prog 49 [Xj t] (fun d=>.arr d 0 t.free.length) (some (.arr 9 1 (t.free.map Y0))):=by
 intro N;induction N with
 |zero=>intro s h;omega
 |succ N ih=>
 intro t hN hF;have hO:=hF.ok;obtain⟨k,n,a,b,vs,xs,cs⟩:=t;obtain⟨o1,o2,o3,o4,o5⟩:=hO.vars;have hsz:=sz_all hF;refine Qv.ofArrX Tryd.func49 rfl rfl _ (Nat.le_of_ble_eq_true rfl) (fun d=>by simp[AV.has,AV.Yj]) ?_;show AWp _ _ (endX _ Tryd.f49 _ _) (Qw 82 _);repeat (first|refine AWp.seq ?_|refine AWp.block ?_)
 apply AWp.reg [] []
 ·conv=>lhs;simp
 ·trivial
 repeat (first|refine AWp.seq ?_|refine AWp.block ?_)
 apply AWp.reg [] []
 ·conv=>lhs;simp
 ·trivial
 repeat (first|refine AWp.seq ?_|refine AWp.block ?_)
 apply AWp.reg [] []
 ·conv=>lhs;simp
 ·trivial
 by_cases e1:k=1
 ·subst e1;have hf:(Tm.mk 1 n a b vs xs cs).free=[a]:=by simp[Tm.free]
  rw[hf];repeat (first|refine AWp.seq ?_|refine AWp.block ?_)
  apply AWp.reg [] []
  ·conv=>lhs;simp
  ·trivial
  repeat (first|refine AWp.seq ?_|refine AWp.block ?_)
  apply AWp.reg [] []
  ·conv=>lhs;simp
  ·trivial
  repeat (first|refine AWp.seq ?_|refine AWp.block ?_)
  refine AWp.cond rfl (fun h=>?_) (fun h=>?_)
  ·refine AWp.rg [] [] ?_;refine AWp.ret ?_;try dsimp only[Qq,Q8]
   apply endX.ret 17
   ·conv=>lhs;simp[Qz,Tryd.results49]
   ·rfl
   ·rfl
   ·rfl
  ·simp at h
 obtain⟨o0,ho0⟩:∃o0,o0=if 8≤k∧k≤11 then[a]else[]:=⟨_,rfl⟩
 have hl0:o0.length≤1:=by rw[ho0];split<;> simp
 refine AWp.seqJ ⟨82,[(1,.ptr 1 0),(3,.ptr 3 0),(4,.clo 62 [.ptr 3 0])],J8 k n a b vs xs cs o0⟩ ?_ (fun W hW=>?_);rotate_left
 ·by_cases k8:k=8
  ·subst k8;rw[if_pos (by omega)]at ho0;subst ho0;repeat (first|refine AWp.seq ?_|refine AWp.block ?_)
   apply AWp.reg [] []
   ·conv=>lhs;simp
   ·trivial
   repeat (first|refine AWp.seq ?_|refine AWp.block ?_)
   apply AWp.reg [] []
   ·conv=>lhs;simp
   ·trivial
   repeat (first|refine AWp.seq ?_|refine AWp.block ?_)
   refine AWp.cond rfl (fun h=>?_) (fun h=>?_)
   ·simp at h
   repeat (first|refine AWp.seq ?_|refine AWp.block ?_)
   apply AWp.reg [] []
   ·conv=>lhs;simp
   ·trivial
   repeat (first|refine AWp.seq ?_|refine AWp.block ?_)
   refine AWp.cond rfl (fun h0=>?_) (fun h0=>?_);rotate_left
   ·simp at h0
   refine AWp.skip ?_;repeat (first|refine AWp.seq ?_|refine AWp.block ?_)
   refine AWp.cond rfl (fun h6=>?_) (fun h6=>?_);rotate_left
   ·simp at h6
   refine AWp.rg [] [] ?_;exact hW _ (Le.trans (Le.swap _ 25 400 rfl rfl) (Le.sub (by simp[AS.swap,swN]) (by simp[AS.swap,swN,J8,Q9])))
  by_cases k9:k=9
  ·subst k9;rw[if_pos (by omega)]at ho0;subst ho0;repeat (first|refine AWp.seq ?_|refine AWp.block ?_)
   apply AWp.reg [] []
   ·conv=>lhs;simp
   ·trivial
   repeat (first|refine AWp.seq ?_|refine AWp.block ?_)
   apply AWp.reg [] []
   ·conv=>lhs;simp
   ·trivial
   repeat (first|refine AWp.seq ?_|refine AWp.block ?_)
   refine AWp.cond rfl (fun h=>?_) (fun h=>?_)
   ·simp at h
   repeat (first|refine AWp.seq ?_|refine AWp.block ?_)
   apply AWp.reg [] []
   ·conv=>lhs;simp
   ·trivial
   repeat (first|refine AWp.seq ?_|refine AWp.block ?_)
   refine AWp.cond rfl (fun h0=>?_) (fun h0=>?_)
   ·simp at h0
   repeat (first|refine AWp.seq ?_|refine AWp.block ?_)
   apply AWp.reg [] []
   ·conv=>lhs;simp
   ·trivial
   repeat (first|refine AWp.seq ?_|refine AWp.block ?_)
   refine AWp.cond rfl (fun h1=>?_) (fun h1=>?_);rotate_left
   ·simp at h1
   refine AWp.skip ?_;repeat (first|refine AWp.seq ?_|refine AWp.block ?_)
   refine AWp.cond rfl (fun h6=>?_) (fun h6=>?_);rotate_left
   ·simp at h6
   refine AWp.rg [] [] ?_;exact hW _ (Le.trans (Le.swap _ 25 400 rfl rfl) (Le.sub (by simp[AS.swap,swN]) (by simp[AS.swap,swN,J8,Q9])))
  by_cases k10:k=10
  ·subst k10;rw[if_pos (by omega)]at ho0;subst ho0;repeat (first|refine AWp.seq ?_|refine AWp.block ?_)
   apply AWp.reg [] []
   ·conv=>lhs;simp
   ·trivial
   repeat (first|refine AWp.seq ?_|refine AWp.block ?_)
   apply AWp.reg [] []
   ·conv=>lhs;simp
   ·trivial
   repeat (first|refine AWp.seq ?_|refine AWp.block ?_)
   refine AWp.cond rfl (fun h=>?_) (fun h=>?_)
   ·simp at h
   repeat (first|refine AWp.seq ?_|refine AWp.block ?_)
   apply AWp.reg [] []
   ·conv=>lhs;simp
   ·trivial
   repeat (first|refine AWp.seq ?_|refine AWp.block ?_)
   refine AWp.cond rfl (fun h0=>?_) (fun h0=>?_)
   ·simp at h0
   repeat (first|refine AWp.seq ?_|refine AWp.block ?_)
   apply AWp.reg [] []
   ·conv=>lhs;simp
   ·trivial
   repeat (first|refine AWp.seq ?_|refine AWp.block ?_)
   refine AWp.cond rfl (fun h1=>?_) (fun h1=>?_)
   ·simp at h1
   repeat (first|refine AWp.seq ?_|refine AWp.block ?_)
   apply AWp.reg [] []
   ·conv=>lhs;simp
   ·trivial
   repeat (first|refine AWp.seq ?_|refine AWp.block ?_)
   refine AWp.cond rfl (fun h2=>?_) (fun h2=>?_);rotate_left
   ·simp at h2
   refine AWp.skip ?_;repeat (first|refine AWp.seq ?_|refine AWp.block ?_)
   refine AWp.cond rfl (fun h6=>?_) (fun h6=>?_);rotate_left
   ·simp at h6
   refine AWp.rg [] [] ?_;exact hW _ (Le.trans (Le.swap _ 25 400 rfl rfl) (Le.sub (by simp[AS.swap,swN]) (by simp[AS.swap,swN,J8,Q9])))
  by_cases k11:k=11
  ·subst k11;rw[if_pos (by omega)]at ho0;subst ho0;repeat (first|refine AWp.seq ?_|refine AWp.block ?_)
   apply AWp.reg [] []
   ·conv=>lhs;simp
   ·trivial
   repeat (first|refine AWp.seq ?_|refine AWp.block ?_)
   apply AWp.reg [] []
   ·conv=>lhs;simp
   ·trivial
   repeat (first|refine AWp.seq ?_|refine AWp.block ?_)
   refine AWp.cond rfl (fun h=>?_) (fun h=>?_)
   ·simp at h
   repeat (first|refine AWp.seq ?_|refine AWp.block ?_)
   apply AWp.reg [] []
   ·conv=>lhs;simp
   ·trivial
   repeat (first|refine AWp.seq ?_|refine AWp.block ?_)
   refine AWp.cond rfl (fun h0=>?_) (fun h0=>?_)
   ·simp at h0
   repeat (first|refine AWp.seq ?_|refine AWp.block ?_)
   apply AWp.reg [] []
   ·conv=>lhs;simp
   ·trivial
   repeat (first|refine AWp.seq ?_|refine AWp.block ?_)
   refine AWp.cond rfl (fun h1=>?_) (fun h1=>?_)
   ·simp at h1
   repeat (first|refine AWp.seq ?_|refine AWp.block ?_)
   apply AWp.reg [] []
   ·conv=>lhs;simp
   ·trivial
   repeat (first|refine AWp.seq ?_|refine AWp.block ?_)
   refine AWp.cond rfl (fun h2=>?_) (fun h2=>?_)
   ·simp at h2
   repeat (first|refine AWp.seq ?_|refine AWp.block ?_)
   apply AWp.reg [] []
   ·conv=>lhs;simp
   ·trivial
   repeat (first|refine AWp.seq ?_|refine AWp.block ?_)
   refine AWp.cond rfl (fun h6=>?_) (fun h6=>?_);rotate_left
   ·simp at h6
   refine AWp.rg [] [] ?_;exact hW _ (Le.trans (Le.swap _ 25 400 rfl rfl) (Le.sub (by simp[AS.swap,swN]) (by simp[AS.swap,swN,J8,Q9])))
  rw[if_neg (by omega)]at ho0;subst ho0;repeat (first|refine AWp.seq ?_|refine AWp.block ?_)
  apply AWp.reg [] []
  ·conv=>lhs;simp
  ·trivial
  repeat (first|refine AWp.seq ?_|refine AWp.block ?_)
  apply AWp.reg [] []
  ·conv=>lhs;simp[e1]
  ·trivial
  refine AWp.cn ?_;repeat (first|refine AWp.seq ?_|refine AWp.block ?_)
  apply AWp.reg [] []
  ·conv=>lhs;simp[k8]
  ·trivial
  refine AWp.cn ?_;repeat (first|refine AWp.seq ?_|refine AWp.block ?_)
  apply AWp.reg [] []
  ·conv=>lhs;simp[k9]
  ·trivial
  refine AWp.cn ?_;repeat (first|refine AWp.seq ?_|refine AWp.block ?_)
  apply AWp.reg [] []
  ·conv=>lhs;simp[k10]
  ·trivial
  refine AWp.cn ?_;repeat (first|refine AWp.seq ?_|refine AWp.block ?_)
  apply AWp.reg [] []
  ·conv=>lhs;simp[k11]
  ·trivial
  repeat (first|refine AWp.seq ?_|refine AWp.block ?_)
  refine AWp.cond rfl (fun h6=>?_) (fun h6=>?_)
  ·cases h6
  refine AWp.skip ?_;exact hW _ (Le.low [400] [] rfl (by simp) (by simp[J8,Q9]))
 repeat (first|refine AWp.seq ?_|refine AWp.block ?_)
 apply AWp.reg [] []
 ·conv=>lhs;simp[J8,Q9]
 ·trivial
 repeat (first|refine AWp.seq ?_|refine AWp.block ?_)
 refine AWp.loop (σ:=fun u:{i:Nat // i≤xs.length}=>⟨82,[(1,.ptr 1 0),(3,.ptr 3 0),(4,.clo 62 [.ptr 3 0]),(27,.d (.sl (xs.map Tm.row))),(28,.d (.int xs.length)),(29,.d (.int u.1))],J8 k n a b vs xs cs (H9 xs (Tx k a xs.length) o0 u.1)⟩)
  (μ:=fun u=>xs.length-u.1) ⟨0,Nat.zero_le _⟩ (Le.sub (by simp[H9]) (by simp[H9,J8,Q9])) (fun⟨i,hi⟩=>?_)
 dsimp only;have hL0:=rfree_len xs (Tx k a xs.length) o0 i;have hS:∀x,xs[i]? =some x→_:=fun x=>rfree_snoc (Tx k a xs.length) o0 (x:=x) (i:=i)
 obtain⟨L,hL⟩:∃L,L=H9 xs (Tx k a xs.length) o0 i:=⟨_,rfl⟩
 rw[←hL]at hL0 hS⊢;repeat (first|refine AWp.seq ?_|refine AWp.block ?_)
 apply AWp.reg [] []
 ·conv=>lhs;simp
 ·trivial
 repeat (first|refine AWp.seq ?_|refine AWp.block ?_)
 refine AWp.cond rfl (fun h=>?_) (fun h=>?_)
 ·have hi1:i<xs.length:=by have:=of_decide_eq_true h;omega
  have h1:xs[i]? =some xs[i]:=List.getElem?_eq_getElem hi1;have hmem:xs[i]∈xs:=List.getElem_mem hi1;generalize xs[i]=x at h1 hmem;have hx:=ih x (by have:=Tm.sz_arg (k:=k) (n:=n) (a:=a) (b:=b) (vs:=vs) (cs:=cs) hmem;omega) (hF.arg hmem);have lx:=x.R9;have lt:=Tm.szs_take h1;have hsk:=skipA_len k a xs.length i;have had:=cs_Free1 L x.free (Tx k a xs.length i) (by omega) (by omega);have hS1:=hS x h1;have hskd:Tx k a xs.length i=if k=6∧xs.length=2∧i=1 then[a]else[]:=rfl
  generalize Tx k a xs.length i=sk at hskd had hS1;obtain⟨L',hS0⟩:∃L',L'=H9 xs (Tx k a xs.length) o0 (i+1):=⟨_,rfl⟩
  rw[←hS0]at hS1;generalize x.free=fx at *;rw[←hS1]at had;obtain⟨xk,xn,xa,xb,xv,xx,xc⟩:=x;refine AWp.skip ?_;refine AWp.rg [] [] ?_ (hr:=by conv=>lhs;simp[h1,Tm.row,Tm.Q3,Cs.Q3]);repeat (first|refine AWp.seq ?_|refine AWp.block ?_)
  apply AWp.reg [] []
  ·conv=>lhs;simp
  ·trivial
  refine AWp.seqJ ⟨82,[(1,.ptr 1 0),(3,.ptr 3 0),(4,.clo 62 [.ptr 3 0]),(6,.ptr 6 0),(7,Z7 sk),(27,.d (.sl (xs.map Tm.row))),(28,.d (.int xs.length)),(29,.d (.int i))],(6,Q9 xk xn xa xb xv xx xc)::J8 k n a b vs xs cs L⟩ ?_ (fun W1 hW1=>?_);rotate_left
  ·by_cases k6:k=6
   ·subst k6;by_cases k7:xs.length=2
    ·have k7':(xs.length:Int)=2:=by omega
     by_cases k8:i=1
     ·have k8':(i:Int)=1:=by omega
      rw[if_pos ⟨rfl,k7,k8⟩]at hskd;subst hskd;refine AWp.rg [] [] ?_ (hr:=by conv=>lhs;simp[k7',k8',J8,Q9]);repeat (first|refine AWp.seq ?_|refine AWp.block ?_)
      refine AWp.cond rfl (fun h2=>?_) (fun h2=>?_);rotate_left
      ·simp at h2
      refine AWp.rg [2] [] ?_;exact hW1 _ (Le.low [] [] rfl (by simp[Q7,k7',k8']) (by simp[J8,Q9]))
     ·have k8':¬(i:Int)=1:=by omega
      rw[if_neg (fun hh=>k8 hh.2.2)]at hskd;subst hskd;refine AWp.rg [] [] ?_ (hr:=by conv=>lhs;simp[k7',k8',J8,Q9]);refine AWp.cn ?_;refine AWp.skip ?_;exact hW1 _ (Le.low [] [] rfl (by simp[Q7,k7']) (by simp[J8,Q9]))
    ·have k7':¬(xs.length:Int)=2:=by omega
     rw[if_neg (fun hh=>k7 hh.2.1)]at hskd;subst hskd;refine AWp.rg [] [] ?_ (hr:=by conv=>lhs;simp[k7',J8,Q9]);refine AWp.cn ?_;refine AWp.skip ?_;exact hW1 _ (Le.low [] [] rfl (by simp[Q7]) (by simp[J8,Q9]))
   ·rw[if_neg (fun hh=>k6 hh.1)]at hskd;subst hskd;refine AWp.rg [] [] ?_ (hr:=by conv=>lhs;simp[k6,J8,Q9]);refine AWp.cn ?_;refine AWp.skip ?_;exact hW1 _ (Le.low [] [] rfl (by simp[Q7]) (by simp[J8,Q9]))
  repeat (first|refine AWp.seq ?_|refine AWp.block ?_)
  apply AWp.reg [2] [.p (fun d=>.arr d 0 fx.length) (some (.arr 9 1 (fx.map Y0))),.c [(1000,3),(500,400)] [Z7 fx,Z7 sk,.ptr 1000 0] [(1000,.blk 28 [.arr 500 0 L.length]),(500,.arr 9 1 (L.map Y0))] (Zz []) [(1000,.blk 28 [.arr 500 0 L'.length]),(500,.arr 9 1 (L'.map Y0))]]
  ·conv=>lhs;simp[Xj,Q9,J8,Zz]
  ·exact⟨hx,had⟩
  refine AWp.rg [] [] ?_;refine⟨⟨i+1,hi1⟩,by simp;omega,?_⟩;dsimp only;rw[←hS0];exact Le.sub (by simp) (by simp[Q9,J8])
 have hi1:i=xs.length:=by have:=of_decide_eq_false h;omega
 subst hi1;clear h hS;have hlx:Tm.szs (xs.take xs.length)=Tm.szs xs:=by rw[List.take_length]
 refine AWp.exit ?_;by_cases e6:k=6∧xs.length=2
 ·have hf:(Tm.mk k n a b vs xs cs).free=L:=by
   obtain⟨e6,e7⟩:=e6;rw[hL,ho0,e6];match xs,e7 with
   |[x,y],_=>
    rw[if_neg (by omega)];refine Eq.trans ?_ (rfree_let a x y).symm;simp[Tm.free]
  rw[hf];obtain⟨e6,e7⟩:=e6;subst e6;have k7':(xs.length:Int)=2:=by omega
  refine AWp.rg [] [] ?_ (hr:=by conv=>lhs;simp[k7',J8,Q9]);refine AWp.cy ?_;refine AWp.rg [] [] ?_;refine AWp.ret ?_;try dsimp only[Qq,Q8]
  apply endX.ret 400
  ·conv=>lhs;simp[Qz,Tryd.results49]
  ·rfl
  ·rfl
  ·rfl
 have hf:(Tm.mk k n a b vs xs cs).free=Cs.frees L cs:=by
  simp only[Tm.free,if_neg e1,if_neg e6];rw[hL,rfree_all k a xs o0 e6,ho0]
 rw[hf];refine AWp.seqJ ⟨82,[(1,.ptr 1 0),(3,.ptr 3 0),(4,.clo 62 [.ptr 3 0])],J8 k n a b vs xs cs L⟩ ?_ (fun W1 hW1=>?_);rotate_left
 ·by_cases k6:k=6
  ·subst k6;have k7':¬(xs.length:Int)=2:=fun hh=>e6 ⟨rfl,by omega⟩
   refine AWp.rg [] [] ?_ (hr:=by conv=>lhs;simp[k7',J8,Q9]);refine AWp.cn ?_;refine AWp.skip ?_;exact hW1 _ (Le.sub (by simp) (by simp[J8,Q9]))
  ·refine AWp.rg [] [] ?_ (hr:=by conv=>lhs;simp[k6,J8,Q9]);refine AWp.cn ?_;refine AWp.skip ?_;exact hW1 _ (Le.sub (by simp) (by simp[J8,Q9]))
 repeat (first|refine AWp.seq ?_|refine AWp.block ?_)
 apply AWp.reg [] []
 ·conv=>lhs;simp[J8,Q9]
 ·trivial
 repeat (first|refine AWp.seq ?_|refine AWp.block ?_)
 refine AWp.loop (σ:=fun u:{i:Nat // i≤cs.length}=>⟨82,[(1,.ptr 1 0),(3,.ptr 3 0),(4,.clo 62 [.ptr 3 0]),(67,.d (.sl (cs.map Cs.row))),(68,.d (.int cs.length)),(69,.d (.int u.1))],J8 k n a b vs xs cs (Cs.frees L (cs.take u.1))⟩)
  (μ:=fun u=>cs.length-u.1) ⟨0,Nat.zero_le _⟩ (Le.sub (by simp[Cs.frees]) (by simp[Cs.frees,J8,Q9])) (fun⟨i,hi⟩=>?_)
 dsimp only;have hM0:=Cs.Pv (cs.take i) L;have hS:∀x,cs[i]? =some x→Cs.frees L (cs.take (i+1))=addN (Cs.frees L (cs.take i)) x.Mw:=fun x=>Cs.frees_snoc
 obtain⟨M,hM⟩:∃M,M=Cs.frees L (cs.take i):=⟨_,rfl⟩
 rw[←hM]at hM0 hS⊢;repeat (first|refine AWp.seq ?_|refine AWp.block ?_)
 apply AWp.reg [] []
 ·conv=>lhs;simp
 ·trivial
 repeat (first|refine AWp.seq ?_|refine AWp.block ?_)
 refine AWp.cond rfl (fun h=>?_) (fun h=>?_)
 ·have hi1:i<cs.length:=by have:=of_decide_eq_true h;omega
  have h1:cs[i]? =some cs[i]:=List.getElem?_eq_getElem hi1;have hmem:cs[i]∈cs:=List.getElem_mem hi1;generalize cs[i]=x at h1 hmem;have lx:=x.freeC_len;have lt:=Cs.szs_take h1;have hS1:=hS x h1;obtain⟨g,ws,x⟩:=x;obtain⟨oc1,oc2⟩:=hF.case hmem;have hx:=ih x (by have:=Tm.I8 (k:=k) (n:=n) (a:=a) (b:=b) (vs:=vs) (xs:=xs) hmem;omega) oc1;have lx2:=x.R9;have hsz2:(Cs.mk g ws x).sz=x.sz:=rfl;simp only[Cs.Mw]at hS1;have had:=cs_Free1 M x.free ws (by omega) (by omega);rw[←hS1]at had;obtain⟨M',hM'⟩:∃M',M'=Cs.frees L (cs.take (i+1)):=⟨_,rfl⟩
  rw[←hM']at had;generalize x.free=fx at *;obtain⟨xk,xn,xa,xb,xv,xx,xc⟩:=x;refine AWp.skip ?_;refine AWp.rg [] [] ?_ (hr:=by conv=>lhs;simp[h1,Cs.row,Tm.row,Tm.Q3,Cs.Q3]);repeat (first|refine AWp.seq ?_|refine AWp.block ?_)
  apply AWp.draw [3] [.p (fun d=>.arr d 0 fx.length) (some (.arr 9 1 (fx.map Y0))),.c [(1000,3),(500,400)] [Z7 fx,Z7 ws,.ptr 1000 0] [(1000,.blk 28 [.arr 500 0 M.length]),(500,.arr 9 1 (M.map Y0))] (Zz []) [(1000,.blk 28 [.arr 500 0 M'.length]),(500,.arr 9 1 (M'.map Y0))]] mixed
  ·conv=>lhs;simp[Xj,Q9,J8,Zz]
  ·kernel_rfl
  ·exact⟨hx,had⟩
  refine AWp.rg [] [] ?_;refine⟨⟨i+1,hi1⟩,by simp;omega,?_⟩;dsimp only;rw[←hM'];exact Le.sub (by simp) (by simp[Q9,J8])
 have hi1:i=cs.length:=by have:=of_decide_eq_false h;omega
 subst hi1;rw[List.take_length]at hM;rw[←hM];refine AWp.exit ?_;repeat (first|refine AWp.seq ?_|refine AWp.block ?_)
 apply AWp.reg [] []
 ·conv=>lhs;simp[J8]
 ·trivial
 refine AWp.ret ?_;try dsimp only[Qq,Q8]
 apply endX.ret 400
 ·conv=>lhs;simp[Qz,Tryd.results49]
 ·rfl
 ·rfl
 ·rfl
theorem I9 (t:Tm) (h:t.Fit):Qv Tryd.prog 49 [Xj t] (fun d=>.arr d 0 t.free.length) (some (.arr 9 1 (t.free.map Y0))):=sp_refFree_at _ t (Nat.lt_succ_self _) h
@[simp] theorem u8min:IntKind.u8.min=0:=rfl
@[simp] theorem u8max:IntKind.u8.max=255:=rfl
@[simp] theorem i32min:IntKind.i32.min= -2147483648:=rfl
@[simp] theorem i32max:IntKind.i32.max=2147483647:=rfl
def chOk (i:Nat) (c:UInt8):Bool:=(decide ((97:Int)≤c.toNat) && decide ((c.toNat:Int)≤122))||((decide ((48:Int)≤c.toNat) && decide ((c.toNat:Int)≤57)) && !(i==0))
def Rw (s:ByteArray):Bool:=((List.range s.size).all fun j=>match s[j]? with|some c=>chOk j c|none=>true) && (decide (1≤(s.size:Int)) && decide ((s.size:Int)≤8))
theorem nameB_bad {s:ByteArray} {i:Nat} {c:UInt8} (h:s[i]? =some c) (hi:i<s.size) (hc:chOk i c=false):Rw s=false:=by
 unfold Rw;rw[Bool.and_eq_false_iff];left;rw[List.all_eq_false];exact⟨i,List.mem_range.2 hi,by rw[h];simp[hc]⟩
theorem nameB_good {s:ByteArray} (h:∀j<s.size,∀c,s[j]? =some c→chOk j c=true):Rw s=(decide (1≤(s.size:Int)) && decide ((s.size:Int)≤8)):=by
 unfold Rw;have:((List.range s.size).all fun j=>match s[j]? with|some c=>chOk j c|none=>true)=true:=by
  rw[List.all_eq_true];intro j hj;have:=h j (List.mem_range.1 hj);revert this;cases s[j]? with
  |none=>intro _;rfl
  |some c=>intro h;exact h c rfl
 rw[this,Bool.true_and]
theorem sp_Name (s:ByteArray) (hs:s.size≤9223372036854775806):Qv Tryd.prog 13 [.d (.str s)] (fun _=>.d (.bool (Rw s))) none:=by
 refine Qv.of Tryd.func13 rfl rfl rfl (Nat.le_of_ble_eq_true rfl) ?_;show AWp _ _ (Z5 _ Tryd.f13 _ _ _) (Qw 50 _);repeat (first|refine AWp.seq ?_|refine AWp.block ?_)
 apply AWp.reg [] []
 ·conv=>lhs;simp
 ·trivial
 repeat (first|refine AWp.seq ?_|refine AWp.block ?_)
 apply AWp.reg [] []
 ·conv=>lhs;simp
 ·trivial
 repeat (first|refine AWp.seq ?_|refine AWp.block ?_)
 refine AWp.loop (σ:=fun u:{i:Nat // i≤s.size∧∀j<i,∀c,s[j]? =some c→chOk j c=true}=>⟨50,[(0,.d (.str s)),(7,.d (.int s.size)),(8,.d (.int u.1))],[]⟩)
  (μ:=fun u=>s.size-u.1) ⟨0,Nat.zero_le _,by simp⟩ (Le.sub (by simp) (by simp)) (fun⟨i,hi,ht⟩=>?_)
 dsimp only;repeat (first|refine AWp.seq ?_|refine AWp.block ?_)
 apply AWp.reg [] []
 ·conv=>lhs;simp
 ·trivial
 repeat (first|refine AWp.seq ?_|refine AWp.block ?_)
 refine AWp.cond rfl (fun h=>?_) (fun h=>?_)
 ·have hi1:i<s.size:=by have:=of_decide_eq_true h;omega
  have h1:s[i]? =some s[i]:=by rw[getElem?_pos]
  generalize s[i]=c at h1;have hc:chOk i c=((decide ((97:Int)≤c.toNat) && decide ((c.toNat:Int)≤122))||((decide ((48:Int)≤c.toNat) && decide ((c.toNat:Int)≤57)) && !(i==0))):=rfl;obtain⟨A,hA⟩:∃A,A=decide ((97:Int)≤c.toNat):=⟨_,rfl⟩
  obtain⟨B,hB⟩:∃B,B=decide ((c.toNat:Int)≤122):=⟨_,rfl⟩
  obtain⟨C,hC⟩:∃C,C=decide ((48:Int)≤c.toNat):=⟨_,rfl⟩
  obtain⟨E,hE⟩:∃E,E=decide ((c.toNat:Int)≤57):=⟨_,rfl⟩
  rw[←hA,←hB,←hC,←hE]at hc;refine AWp.skip ?_;repeat (first|refine AWp.seq ?_|refine AWp.block ?_)
  apply AWp.reg [] []
  ·conv=>lhs;simp
  ·trivial
  refine AWp.seqJ ⟨50,[(0,.d (.str s)),(3,.d (.int i)),(4,.d (.bool (A && B))),(5,.d (.bool (C && E))),(7,.d (.int s.size)),(8,.d (.int i))],[]⟩ ?_ (fun W hW=>?_);rotate_left
  ·cases A<;> cases B<;> cases C<;> cases E
   all_goals (
    have qA:=hA.symm;have qB:=hB.symm;have qC:=hC.symm;have qE:=hE.symm;simp only[decide_eq_true_eq,decide_eq_false_iff_not]at qA qB qC qE;refine AWp.dw [] [] mixed ?_ (hr:=by conv=>lhs;simp[h1,qA,qB,qC,qE]);exact hW _ (Le.sub (by simp) (by simp)))
  obtain⟨L,hL⟩:∃L,L=(A && B):=⟨_,rfl⟩
  obtain⟨G,hG⟩:∃G,G=(C && E):=⟨_,rfl⟩
  rw[←hL,←hG]at hc⊢;have step:chOk i c=true→∀j<i+1,∀c,s[j]? =some c→chOk j c=true:=fun hok j hj c' hc'=>by
   rcases Nat.lt_or_ge j i with hlt|hge
   ·exact ht j hlt c' hc'
   ·obtain rfl:j=i:=by omega
    rw[h1]at hc';cases hc';exact hok
  by_cases hz:i=0
  ·subst hz;cases L<;> cases G
   all_goals first
    |(
     have hbad:=nameB_bad h1 hi1 (by rw[hc];rfl);refine AWp.rg [] [] ?_;repeat (first|refine AWp.seq ?_|refine AWp.block ?_)
     refine AWp.cond rfl (fun h2=>?_) (fun h2=>?_);rotate_left
     ·cases h2
     refine AWp.rg [] [] ?_;refine AWp.ret ?_;try dsimp only[Qq,Q8]
     apply Z5.ret
     ·rfl
     ·conv=>lhs;simp[Qz,Tryd.results13]
     rw[hbad];rfl)
    |(
     have hgood:=step (by rw[hc];rfl);refine AWp.rg [] [] ?_;repeat (first|refine AWp.seq ?_|refine AWp.block ?_)
     refine AWp.cond rfl (fun h2=>?_) (fun h2=>?_)
     ·cases h2
     refine AWp.skip ?_;refine AWp.rg [] [] ?_;refine⟨⟨0+1,hi1,hgood⟩,by simp;omega,Le.sub (by simp) (by simp)⟩)
  ·have hz':¬(i:Int)=0:=by omega
   have hzb:(i==0)=false:=by simp[hz]
   rw[hzb]at hc;cases L<;> cases G
   all_goals first
    |(
     have hbad:=nameB_bad h1 hi1 (by rw[hc];rfl);refine AWp.rg [] [] ?_ (hr:=by conv=>lhs;simp[hz]);repeat (first|refine AWp.seq ?_|refine AWp.block ?_)
     refine AWp.cond rfl (fun h2=>?_) (fun h2=>?_);rotate_left
     ·cases h2
     refine AWp.rg [] [] ?_;refine AWp.ret ?_;try dsimp only[Qq,Q8]
     apply Z5.ret
     ·rfl
     ·conv=>lhs;simp[Qz,Tryd.results13]
     rw[hbad];rfl)
    |(
     have hgood:=step (by rw[hc];rfl);refine AWp.rg [] [] ?_ (hr:=by conv=>lhs;simp[hz]);repeat (first|refine AWp.seq ?_|refine AWp.block ?_)
     refine AWp.cond rfl (fun h2=>?_) (fun h2=>?_)
     ·cases h2
     refine AWp.skip ?_;refine AWp.rg [] [] ?_;refine⟨⟨i+1,hi1,hgood⟩,by simp;omega,Le.sub (by simp) (by simp)⟩)
 have hi1:i=s.size:=by have:=of_decide_eq_false h;omega
 subst hi1;have hg:=nameB_good ht;rw[hg];refine AWp.exit ?_;by_cases g1:(1:Int)≤s.size
 ·by_cases g2:(s.size:Int)≤8
  ·refine AWp.rg [] [] ?_ (hr:=by conv=>lhs;simp[g1,g2]);refine AWp.ret ?_;try dsimp only[Qq,Q8]
   apply Z5.ret
   ·rfl
   ·conv=>lhs;simp[Qz,Tryd.results13]
   rw[decide_eq_true g1,decide_eq_true g2];rfl
  ·refine AWp.rg [] [] ?_ (hr:=by conv=>lhs;simp[g1,g2]);refine AWp.ret ?_;try dsimp only[Qq,Q8]
   apply Z5.ret
   ·rfl
   ·conv=>lhs;simp[Qz,Tryd.results13]
   rw[decide_eq_true g1,decide_eq_false g2];rfl
 ·refine AWp.rg [] [] ?_ (hr:=by conv=>lhs;simp[g1]);refine AWp.ret ?_;try dsimp only[Qq,Q8]
  apply Z5.ret
  ·rfl
  ·conv=>lhs;simp[Qz,Tryd.results13]
  rw[decide_eq_false g1];rfl
def twB (l:List ByteArray):Bool:=(List.range l.length).any fun j=>match l[j]? with|some x=>hasB (l.take j) x|none=>false
theorem twB_yes {l:List ByteArray} {i:Nat} {x:ByteArray} (h:l[i]? =some x) (hc:hasB (l.take i) x=true):twB l=true:=by
 unfold twB;rw[List.any_eq_true];exact⟨i,List.mem_range.2 (List.getElem?_eq_some_iff.1 h).1,by rw[h];exact hc⟩
theorem twB_no {l:List ByteArray} (h:∀j<l.length,∀x,l[j]? =some x→hasB (l.take j) x=false):twB l=false:=by
 unfold twB;rw[List.any_eq_false];intro j hj;have:=h j (List.mem_range.1 hj);revert this;cases l[j]? with
 |none=>simp
 |some c=>intro h;simp[h c rfl]
theorem twB_snoc {l:List ByteArray} {i:Nat} {x:ByteArray} (h1:l[i]? =some x) (ht:∀j<i,∀x,l[j]? =some x→hasB (l.take j) x=false) (hc:hasB (l.take i) x=false):∀j<i+1,∀x,l[j]? =some x→hasB (l.take j) x=false:=fun j hj c' hc'=>by
 rcases Nat.lt_or_ge j i with hlt|hge
 ·exact ht j hlt c' hc'
 ·obtain rfl:j=i:=by omega
  rw[h1]at hc';cases hc';exact hc
theorem sp_twice (l:List ByteArray) (hl:l.length≤8796093022208):Qv Tryd.prog 14 [Z7 l] (fun _=>.d (.bool (twB l))) none:=by
 refine Qv.of Tryd.func14 rfl rfl rfl (Nat.le_of_ble_eq_true rfl) ?_;show AWp _ _ (Z5 _ Tryd.f14 _ _ _) (Qw 18 _);repeat (first|refine AWp.seq ?_|refine AWp.block ?_)
 apply AWp.reg [] []
 ·conv=>lhs;simp
 ·trivial
 repeat (first|refine AWp.seq ?_|refine AWp.block ?_)
 apply AWp.reg [] []
 ·conv=>lhs;simp
 ·trivial
 repeat (first|refine AWp.seq ?_|refine AWp.block ?_)
 refine AWp.loop (σ:=fun u:{i:Nat // i≤l.length∧∀j<i,∀x,l[j]? =some x→hasB (l.take j) x=false}=>⟨18,[(0,Z7 l),(5,Z7 l),(6,.d (.int l.length)),(7,.d (.int u.1))],[]⟩)
  (μ:=fun u=>l.length-u.1) ⟨0,Nat.zero_le _,by simp⟩ (Le.sub (by simp) (by simp)) (fun⟨i,hi,ht⟩=>?_)
 dsimp only;repeat (first|refine AWp.seq ?_|refine AWp.block ?_)
 apply AWp.reg [] []
 ·conv=>lhs;simp
 ·trivial
 repeat (first|refine AWp.seq ?_|refine AWp.block ?_)
 refine AWp.cond rfl (fun h=>?_) (fun h=>?_)
 ·have hi1:i<l.length:=by have:=of_decide_eq_true h;omega
  have h1:l[i]? =some l[i]:=List.getElem?_eq_getElem hi1;generalize l[i]=x at h1;have hp:=sp_Has (l.take i) x (by simp;omega);have hs:=fun hc=>twB_snoc (i:=i) h1 ht hc
  have hy:=fun hc=>twB_yes (i:=i) h1 hc
  have htl:(l.map Y0).take i=(l.take i).map Y0:=by rw[List.map_take]
  obtain⟨T,hT⟩:∃T,T=l.take i:=⟨_,rfl⟩
  rw[←hT]at hp hs hy htl;obtain⟨B,hB⟩:∃B,B=hasB T x:=⟨_,rfl⟩
  rw[←hB]at hp hs hy;refine AWp.skip ?_;refine AWp.rg [] [] ?_ (hr:=by conv=>lhs;simp[h1]);cases B with
  |true=>
   repeat (first|refine AWp.seq ?_|refine AWp.block ?_)
   apply AWp.reg [] [.p (fun _=>.d (.bool true)) none]
   ·conv=>lhs;simp[htl]
   ·exact⟨by omega,hp⟩
   refine AWp.cy ?_;refine AWp.rg [] [] ?_;refine AWp.ret ?_;try dsimp only[Qq,Q8]
   apply Z5.ret
   ·rfl
   ·conv=>lhs;simp[Qz,Tryd.results14]
   rw[hy rfl];rfl
  |false=>
   repeat (first|refine AWp.seq ?_|refine AWp.block ?_)
   apply AWp.reg [] [.p (fun _=>.d (.bool false)) none]
   ·conv=>lhs;simp[htl]
   ·exact⟨by omega,hp⟩
   refine AWp.cn ?_;refine AWp.skip ?_;refine AWp.rg [] [] ?_;refine⟨⟨i+1,hi1,hs rfl⟩,by simp;omega,Le.sub (by simp) (by simp)⟩
 have hi1:i=l.length:=by have:=of_decide_eq_false h;omega
 subst hi1;have hn:=twB_no ht;refine AWp.exit ?_;repeat (first|refine AWp.seq ?_|refine AWp.block ?_)
 apply AWp.reg [] []
 ·conv=>lhs;simp
 ·trivial
 refine AWp.ret ?_;try dsimp only[Qq,Q8]
 apply Z5.ret
 ·rfl
 ·conv=>lhs;simp[Qz,Tryd.results14]
 rw[hn];rfl
def badB (l:List ByteArray):Bool:=l.any fun s=>!Rw s
theorem sp_bad (l:List ByteArray) (hl:l.length≤8796093022208) (hs:∀s∈l,s.size≤9223372036854775806):Qv Tryd.prog 15 [Z7 l] (fun _=>.d (.bool (badB l))) none:=by
 refine Qv.of Tryd.func15 rfl rfl rfl (Nat.le_of_ble_eq_true rfl) ?_;show AWp _ _ (Z5 _ Tryd.f15 _ _ _) (Qw 15 _);repeat (first|refine AWp.seq ?_|refine AWp.block ?_)
 apply AWp.reg [] []
 ·conv=>lhs;simp
 ·trivial
 repeat (first|refine AWp.seq ?_|refine AWp.block ?_)
 apply AWp.reg [] []
 ·conv=>lhs;simp
 ·trivial
 repeat (first|refine AWp.seq ?_|refine AWp.block ?_)
 refine AWp.loop (σ:=fun u:{i:Nat // i≤l.length∧∀y∈l.take i,(!Rw y)=false}=>⟨15,[(5,Z7 l),(6,.d (.int l.length)),(7,.d (.int u.1))],[]⟩)
  (μ:=fun u=>l.length-u.1) ⟨0,Nat.zero_le _,by simp⟩ (Le.sub (by simp) (by simp)) (fun⟨i,hi,ht⟩=>?_)
 dsimp only;repeat (first|refine AWp.seq ?_|refine AWp.block ?_)
 apply AWp.reg [] []
 ·conv=>lhs;simp
 ·trivial
 repeat (first|refine AWp.seq ?_|refine AWp.block ?_)
 refine AWp.cond rfl (fun h=>?_) (fun h=>?_)
 ·have hi1:i<l.length:=by have:=of_decide_eq_true h;omega
  have h1:l[i]? =some l[i]:=List.getElem?_eq_getElem hi1;have hmem:l[i]∈l:=List.getElem_mem hi1;generalize l[i]=x at h1 hmem;have hp:=sp_Name x (hs x hmem);obtain⟨B,hB⟩:∃B,B=Rw x:=⟨_,rfl⟩
  rw[←hB]at hp;refine AWp.skip ?_;refine AWp.rg [] [] ?_ (hr:=by conv=>lhs;simp[h1]);cases B with
  |true=>
   repeat (first|refine AWp.seq ?_|refine AWp.block ?_)
   apply AWp.reg [] [.p (fun _=>.d (.bool true)) none]
   ·conv=>lhs;simp
   ·exact hp
   refine AWp.cn ?_;refine AWp.skip ?_;refine AWp.rg [] [] ?_;refine⟨⟨i+1,hi1,take_all_snoc h1 ht (by rw[←hB];rfl)⟩,by simp;omega,Le.sub (by simp) (by simp)⟩
  |false=>
   repeat (first|refine AWp.seq ?_|refine AWp.block ?_)
   apply AWp.reg [] [.p (fun _=>.d (.bool false)) none]
   ·conv=>lhs;simp
   ·exact hp
   refine AWp.cy ?_;refine AWp.rg [] [] ?_;refine AWp.ret ?_;try dsimp only[Qq,Q8]
   apply Z5.ret
   ·rfl
   ·conv=>lhs;simp[Qz,Tryd.results15]
   rw[show badB l=true from List.any_eq_true.2 ⟨x,hmem,by rw[←hB];rfl⟩];rfl
 have hi1:i=l.length:=by have:=of_decide_eq_false h;omega
 subst hi1;rw[List.take_length]at ht;refine AWp.exit ?_;repeat (first|refine AWp.seq ?_|refine AWp.block ?_)
 apply AWp.reg [] []
 ·conv=>lhs;simp
 ·trivial
 refine AWp.ret ?_;try dsimp only[Qq,Q8]
 apply Z5.ret
 ·rfl
 ·conv=>lhs;simp[Qz,Tryd.results15]
 rw[show badB l=false from List.any_eq_false.2 fun y hy=>by rw[ht y hy];simp];rfl
abbrev nmObj:Q6:=.blk 43 [.d (.fn 13)]
abbrev fnsObj (ents:List (D×List D)):Q6:=.map true false 1 ents
inductive Vl where
 |mk (con:Bool) (n:Int) (kids:List Vl)
def Vl.con:Vl→Bool| .mk c _ _=>c
def Vl.n:Vl→Int| .mk _ n _=>n
def Vl.kids:Vl→List Vl| .mk _ _ k=>k
mutual
def Vl.row:Vl→List D
 | .mk c n ks=>[.bool c,.int n,.sl (Vl.rows ks)]
def Vl.rows:List Vl→List (List D)
 |[]=>[]
 |t::r=>t.row::Vl.rows r
end
mutual
def Vl.sz:Vl→Nat
 | .mk _ _ ks=>1+Vl.szs ks
def Vl.szs:List Vl→Nat
 |[]=>0
 |t::r=>t.sz+Vl.szs r
end
mutual
def Vl.Ok:Vl→Prop
 | .mk _ n ks=>(-9223372036854775808≤n∧n≤9223372036854775807)∧ks.length≤3518437208883∧Vl.Oks ks
def Vl.Oks:List Vl→Prop
 |[]=>True
 |t::r=>t.Ok∧Vl.Oks r
end
mutual
def Vl.left:Vl→Int→Int
 | .mk _ _ ks,l=>Vl.lefts ks (l-1)
def Vl.lefts:List Vl→Int→Int
 |[],l=>l
 |x::r,l=>Vl.lefts r (if 0≤l then x.left l else l)
end
end Go.Proofs.YtlbcipohiepjmaaDoor
namespace Go.Proofs.YtlbcipohiepjmaaDoor
open Go.RowKit
def inN (l o:List ByteArray):List ByteArray:=l.filter fun s=>hasB o s
theorem Pz (l o:List ByteArray):(inN l o).length≤l.length:=List.length_filter_le _ _
theorem inN_snoc {l:List ByteArray} (o:List ByteArray) {i:Nat} {x:ByteArray} (hx:l[i]? =some x):inN (l.take (i+1)) o=if hasB o x then inN (l.take i) o++[x]else inN (l.take i) o:=by
 unfold inN;rw[List.take_add_one,hx,List.filter_append];cases hq:hasB o x<;> simp[List.filter,hq]
theorem woN_snoc {l:List ByteArray} (o:List ByteArray) {i:Nat} {x:ByteArray} (hx:l[i]? =some x):woN (l.take (i+1)) o=if hasB o x then woN (l.take i) o else woN (l.take i) o++[x]:=by
 unfold woN;rw[List.take_add_one,hx,List.filter_append];cases hq:hasB o x<;> simp[List.filter,hq]
def Tm.nm:Tm→ByteArray
 | .mk _ _ a _ _ _ _=>a
def U4 (had:List ByteArray):List Tm→List ByteArray
 |[]=>[]
 |x::r=>if hasB had x.nm then x.nm::U4 (had++[x.nm]) r else U4 (had++[x.nm]) r
theorem moreN_len:∀(l:List Tm) (had:List ByteArray),(U4 had l).length≤l.length
 |[],_=>Nat.le_refl _
 |x::r,had=>by
  have:=moreN_len r (had++[x.nm]);rw[U4];split<;> simp<;> omega
theorem inN_woN (l f g:List ByteArray):woN (inN l f) g=inN l (woN f g):=by
 unfold woN inN;rw[List.filter_filter];refine List.filter_congr fun s _=>?_
 rw[Bool.eq_iff_iff];simp[X4,Nv,and_comm]
theorem inN_inN (l f g:List ByteArray):inN (inN l f) (inN l g)=inN (inN l f) g:=by
 unfold inN;refine List.filter_congr fun s hs=>?_
 have:=(List.mem_filter.1 hs).1;rw[Bool.eq_iff_iff];simp[X4,this]
def letH (a:ByteArray) (own:List ByteArray):List Tm→List (List ByteArray)
 |[x,y]=>[inN own x.free,inN own (woN y.free [a])++[a]]
 |_=>[]
def letD (a:ByteArray) (own:List ByteArray):List Tm→List ByteArray
 |[x,y]=>inN (inN own x.free) (woN y.free [a])
 |_=>[]
def nmH:List Tm→ByteArray
 |x::_=>x.nm
 |[]=>.empty
mutual
def Tm.ow:Tm→List ByteArray→Tm
 | .mk k n a b vs xs cs,has=>cnt 9 (woN has (Tm.mk k n a b vs xs cs).free) (
   if k=3∨k=4∨k=5 then cnt 8 (U4 [] xs) (.mk k n a b vs xs cs)
   else if k=6 then cnt 8 (letD a (inN has (Tm.mk k n a b vs xs cs).free) xs) (.mk 6 0 a .empty [] (Tm.owZ xs (letH a (inN has (Tm.mk k n a b vs xs cs).free) xs)) [])
   else if k=7 then .mk 7 0 .empty .empty [] xs (Cs.owL cs (inN has (Tm.mk k n a b vs xs cs).free) (nmH xs))
   else .mk k n a b vs xs cs)
def Tm.owZ:List Tm→List (List ByteArray)→List Tm
 |[],_=>[]
 |x::r,hs=>x.ow (hs.headD [])::Tm.owZ r hs.tail
def Cs.owL:List Cs→List ByteArray→ByteArray→List Cs
 |[],_,_=>[]
 |c::r,own,nm=>c.ow own nm::Cs.owL r own nm
def Cs.ow:Cs→List ByteArray→ByteArray→Cs
 | .mk t ws y,own,nm=>.mk t ws (cnt 8 (inN ws y.free) (cnt 9 (if hasB y.free nm then[]else[nm]) (y.ow (if hasB y.free nm then own++inN ws y.free else woN (own++inN ws y.free) [nm]))))
end
theorem Cs.owL_snoc {l:List Cs} {i:Nat} {x:Cs} (hx:l[i]? =some x) (own:List ByteArray) (nm:ByteArray):Cs.owL (l.take (i+1)) own nm=Cs.owL (l.take i) own nm++[x.ow own nm]:=by
 have:∀l:List Cs,Cs.owL l own nm=l.map fun c=>c.ow own nm:=fun l=>by
  induction l with
  |nil=>rfl
  |cons c r ih=>rw[Cs.owL,ih];rfl
 rw[this,this,List.take_add_one,hx,List.map_append];rfl
theorem Cs.owL_len (own:List ByteArray) (nm:ByteArray):∀l:List Cs,(Cs.owL l own nm).length=l.length
 |[]=>rfl
 |c::r=>by rw[Cs.owL,List.length_cons,Cs.owL_len own nm r,List.length_cons]
def Fn.ow (f:Fn):Fn:=⟨f.name,f.params,f.body.ow f.params⟩
theorem AWp.seqJ2 {P:Program} {Q:Exit→AS→Prop} {s:AS} {x y z:Code} (s0:AS) (h2:AWp P z Q s0) (h1:∀W:AS→Prop,(∀s',Le s' s0→W s')→AWp P x (Qq (AWp P y (Qq W Q)) Q) s):AWp P (.seq x (.seq y z)) Q s:=by
 refine AWp.seq (AWp.mono (h1 (AWp P z Q) fun s' hl=>AWp.le hl h2) ?_);intro e s' h;cases e<;> first|exact h|exact AWp.seq h
theorem AWp.keep {P:Program} {c:Code} {Q:Exit→AS→Prop} {s:AS} (lf lm:List Nat) {fr:List (Nat×AV)} {mem:List (Nat×Option Q6)} (hf:Nk s.fr lf=fr) (hm:Mv s.mem lm=mem) (h:AWp P c Q ⟨s.n,fr,mem⟩):AWp P c Q s:=
 AWp.le (by have:=Le.keep s lf lm;rw[hf,hm]at this;exact this) h
abbrev J6:=List (ByteArray×Nat)
def J6.get (f:J6) (s:ByteArray):Option Nat:=(f.find? fun x=>decide (x.1=s)).map (·.2)
def Xw (f:J6) (k n:Int) (a:ByteArray) (names:List ByteArray) (na:Nat):Int:=
 if k=1 then (if hasB names a then 0 else 6)
 else if k=2 then (if n< -2147483648∨2147483647<n then 3 else 0)
 else if k=3 then (if n<0∨9<n then 3 else 0)
 else if k=5 then (if n<1∨5<n then 1 else 0)
 else if k=6 then (if Rw a then 0 else 7)
 else if k=4 then (match f.get a with|none=>6|some m=>if m=na then 0 else 5)
 else 0
def Zv (k:Int) (na nc:Nat):Bool:=
 (if k=3∨k=4 then decide (6<na)else if k=7 then decide (na≠1)else if k=5∨k=6 then decide (na≠2)else decide (na≠0))||(decide (k≠7) && decide (0<nc))
mutual
def Tm.wrong (f:J6):Tm→List ByteArray→Int→Int
 | .mk k n a _ _ xs cs,names,deep=>
  if 24<deep then 9 else if k<1∨7<k then 1 else if Zv k xs.length cs.length then 5
  else if Xw f k n a names xs.length≠0 then Xw f k n a names xs.length
  else if Tm.X9 f k a names deep 0 xs≠0 then Tm.X9 f k a names deep 0 xs
  else if k≠7 then 0 else if cs.length=0∨5<cs.length then 5 else Cs.X9 f names deep [] cs
def Tm.X9 (f:J6) (k:Int) (a:ByteArray) (names:List ByteArray) (deep:Int):Nat→List Tm→Int
 |_,[]=>0
 |i,x::r=>if x.wrong f (if k=6∧i=1 then names++[a]else names) (deep+1)≠0 then x.wrong f (if k=6∧i=1 then names++[a]else names) (deep+1)else Tm.X9 f k a names deep (i+1) r
def Cs.X9 (f:J6) (names:List ByteArray) (deep:Int):List Int→List Cs→Int
 |_,[]=>0
 |had,c::r=>if Cs.wrongC f names deep had c≠0 then Cs.wrongC f names deep had c else Cs.X9 f names deep (c.tag::had) r
def Cs.wrongC (f:J6) (names:List ByteArray) (deep:Int):List Int→Cs→Int
 |had,.mk t vs b=>if t<0∨9<t then 3 else if (had.contains t||twB vs||badB vs)then 7 else if 6<vs.length then 5 else b.wrong f (names++vs) (deep+1)
end
end Go.Proofs.YtlbcipohiepjmaaDoor
