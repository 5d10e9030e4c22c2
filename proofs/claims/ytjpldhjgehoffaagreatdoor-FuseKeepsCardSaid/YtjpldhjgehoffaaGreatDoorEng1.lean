import Derived.WalkKit
import Derived.ProofKit
import Derived.OpenShut
import Derived.Deep.AppendLies
import Derived.Deep.Draws
import Derived.Maps.AppendAt
import Derived.RegionTactic
import Derived.OwnWalk
import Derived.LoopN
import Derived.WalkSpells
import Derived.WalkLawsBesides
import Derived.Deep.QuietTactic
import Derived.BigQuiet
import Derived.Deep.LoopGhost
import Derived.Lib.Hide
import Derived.MapKept
import Derived.IntWalk
import Derived.Laws.Strings
import Derived.Laws.StructEq
import Derived.Test.YtjpldhjgehoffaaGreatDoorGlob
set_option maxHeartbeats 1000000
namespace Go.Proofs.YtjpldhjgehoffaaGreatDoor
open Go.RowKit
inductive D where
 |int (n:Int)
 |bool (b:Bool)
 |str (s:ByteArray)
 |sl (rows:List (List D))
 |num (k:IntKind) (n:Int)
 |nil
 |ptr (row:List D)
 |fn (f:Nat)
 |ub
inductive Rep (w:World) (ok:Nat→Prop):D→Value→Prop where
 |int (n:Int) (lo: -9223372036854775808≤n) (hi:n≤9223372036854775807):Rep w ok (.int n) (.int .i64 n)
 |bool (b:Bool):Rep w ok (.bool b) (.bool b)
 |str (s:ByteArray) (hs:s.size≤maxLen):Rep w ok (.str s) (.string s)
 |empty (a:Option Addr) (c:Nat) (ha:a=none→c=0) (hc:c≤maxLen):Rep w ok (.sl []) (.slice a 0 c)
 |sl (rows:List (List D)) (size b o c:Nat) (V:Nat→Nat→Value) (hne:rows≠[]) (hlen:rows.length≤c) (hc:c≤maxLen)
   (hsz:∀(i:Nat) (r:List D),rows[i]? =some r→r.length=size) (hok:ok b)
   (hcell:∀i j,i<rows.length→j<size→w.cell? ⟨b,o+(i * size+j),none⟩=some (V i j))
   (hrep:∀(i j:Nat) (r:List D) (d:D),rows[i]? =some r→r[j]? =some d→Rep w ok d (V i j)):Rep w ok (.sl rows) (.slice (some ⟨b,o,none⟩) rows.length c)
 |num (k:IntKind) (n:Int) (lo:k.min≤n) (hi:n≤k.max):Rep w ok (.num k n) (.int k n)
 |nil:Rep w ok .nil (.pointer none)
 |fn (f:Nat):Rep w ok (.fn f) (.func (.func f) #[] #[])
 |ub (b:Bool):Rep w ok .ub (.bool b)
 |ptr (row:List D) (b o:Nat) (V:Nat→Value) (hok:ok b) (hcell:∀j,j<row.length→w.cell? ⟨b,o+j,none⟩=some (V j))
   (hrep:∀(j:Nat) (d:D),row[j]? =some d→Rep w ok d (V j)):Rep w ok (.ptr row) (.pointer (some ⟨b,o,none⟩))
section
variable {w w':World} {ok ok':Nat→Prop} {d:D} {v:Value} {rows:List (List D)}
theorem Rep.keep (h:Rep w ok d v) (hk:∀p:Addr,ok p.block→w'.cell? p=w.cell? p):Rep w' ok d v:=by
 induction h with
 |int n lo hi=>exact .int n lo hi
 |bool b=>exact .bool b
 |str s hs=>exact .str s hs
 |empty a c ha hc=>exact .empty a c ha hc
 |sl rows size b o c V hne hlen hc hsz hok hcell hrep ih=>
  exact .sl rows size b o c V hne hlen hc hsz hok (fun i j hi hj=>(hk _ hok).trans (hcell i j hi hj)) (fun i j r d hr hd=>ih i j r d hr hd)
 |num k n lo hi=>exact .num k n lo hi
 |nil=>exact .nil
 |fn f=>exact .fn f
 |ub b=>exact .ub b
 |ptr row b o V hok hcell hrep ih=>exact .ptr row b o V hok (fun j hj=>(hk _ hok).trans (hcell j hj)) ih
theorem Rep.weak (h:Rep w ok d v) (hk:∀b,ok b→ok' b):Rep w ok' d v:=by
 induction h with
 |int n lo hi=>exact .int n lo hi
 |bool b=>exact .bool b
 |str s hs=>exact .str s hs
 |empty a c ha hc=>exact .empty a c ha hc
 |sl rows size b o c V hne hlen hc hsz hok hcell hrep ih=>
  exact .sl rows size b o c V hne hlen hc hsz (hk _ hok) hcell (fun i j r d hr hd=>ih i j r d hr hd)
 |num k n lo hi=>exact .num k n lo hi
 |nil=>exact .nil
 |fn f=>exact .fn f
 |ub b=>exact .ub b
 |ptr row b o V hok hcell hrep ih=>exact .ptr row b o V (hk _ hok) hcell ih
theorem Rep.alloc (h:Rep w ok d v) (o:Obj) (hok:∀b,ok b→b<w.heap.size):Rep (w.alloc o) ok d v:=h.keep fun p hp=>World.cell?_alloc_lt w o p (hok _ hp)
theorem Rep.drew (h:Rep w ok d v):Rep w.drew ok d v:=h.keep fun _ _=>rfl
theorem Rep.drewN (h:Rep w ok d v) (k:Nat):Rep (w.drewN k) ok d v:=h.keep fun _ _=>rfl
theorem Rep.J7 {n:Int} (h:Rep w ok (.int n) v):v= .int .i64 n∧-9223372036854775808≤n∧n≤9223372036854775807:=by cases h;exact⟨rfl,by assumption,by assumption⟩
theorem Rep.M7 {b:Bool} (h:Rep w ok (.bool b) v):v= .bool b:=by cases h;rfl
theorem Rep.R9 {s:ByteArray} (h:Rep w ok (.str s) v):v= .string s∧s.size≤maxLen:=by cases h;exact⟨rfl,by assumption⟩
theorem Rep.sl_inv (h:Rep w ok (.sl rows) v):∃a c,v= .slice a rows.length c∧rows.length≤c∧c≤maxLen∧(a=none→c=0):=by
 cases h with
 |empty a c ha hc=>exact⟨a,c,rfl,Nat.zero_le _,hc,ha⟩
 |sl _ size b o c V hne hlen hc hsz hok hcell hrep=>exact⟨_,c,rfl,hlen,hc,by simp⟩
theorem Rep.none_inv {n c:Nat} (h:Rep w ok (.sl rows) (.slice none n c)):rows=[]∧n=0∧c=0:=by
 cases h with
 |empty a c ha hc=>exact⟨rfl,rfl,ha rfl⟩
def D.flat:D→Prop
 | .sl _=>False
 | .ptr _=>False
 |_=>True
theorem Rep.flat (h:Rep w ok d v) (hd:d.flat):Rep w' ok' d v:=by
 cases h with
 |int n lo hi=>exact .int n lo hi
 |bool b=>exact .bool b
 |str s hs=>exact .str s hs
 |empty a c ha hc=>exact hd.elim
 |sl=>exact hd.elim
 |num k n lo hi=>exact .num k n lo hi
 |nil=>exact .nil
 |fn f=>exact .fn f
 |ub b=>exact .ub b
 |ptr=>exact hd.elim
theorem Rep.oneCell (h:Rep w ok d v):v.oneCell'=true:=by cases h<;> rfl
end
def RepRow (w:World) (ok:Nat→Prop) (r:List D) (vs:List Value):Prop:=r.length=vs.length∧∀(j:Nat) (d:D) (v:Value),r[j]? =some d→vs[j]? =some v→Rep w ok d v
def Blk (w:World) (g:Nat) (t:TypeId) (cs:Array Value):Prop:=w.heap[g]? =some (.cells cs t (0,0))
section
variable {w w':World} {g:Nat} {t:TypeId} {cs:Array Value}
theorem Blk.lt (h:Blk w g t cs):g<w.heap.size:=(Array.getElem?_eq_some_iff.1 h).1
theorem Blk.cell (h:Blk w g t cs) (i:Nat):w.cell? ⟨g,i,none⟩=cs[i]?:=cell_of_row w g i cs t (0,0) h
theorem Blk.frozen (h:Blk w g t cs) (i:Nat):w.frozen? ⟨g,i,none⟩=false:=by
 unfold Blk at h;simp[World.frozen?,h]
theorem Blk.new (w:World) (t:TypeId) (cs:Array Value):Blk (w.alloc (.cells cs t)) w.heap.size t cs:=heap_alloc_new w _
theorem Blk.drew (h:Blk w g t cs):Blk w.drew g t cs:=h
theorem Blk.drewN (h:Blk w g t cs) (n:Nat):Blk (w.drewN n) g t cs:=h
theorem Blk.alloc (h:Blk w g t cs) (o:Obj):Blk (w.alloc o) g t cs:=(Below.heap_alloc w o g h.lt).trans h
end
theorem idx_div' {size i j:Nat} (hj:j<size):(i * size+j) / size=i∧(i * size+j) % size=j:=by
 have h0:0<size:=by omega
 refine⟨?_,?_⟩
 ·rw[Nat.mul_comm,Nat.mul_add_div h0,Nat.div_eq_of_lt hj,Nat.add_zero]
 ·rw[Nat.mul_comm,Nat.mul_add_mod,Nat.mod_eq_of_lt hj]
def Arr (w:World) (base:Nat) (e:TypeId) (size:Nat) (ok:Nat→Prop) (v:Value) (rows:List (List D)):Prop:=
 ∃xs,w.ownsRow base e size v rows.length xs∧(∀(i:Nat) (r:List D),rows[i]? =some r→r.length=size)∧
  ∀(i j:Nat) (r:List D) (d:D) (u:Value),rows[i]? =some r→r[j]? =some d→xs[i * size+j]? =some u→Rep w (fun b=>ok b∧v.ownBlock≠some b) d u
section
variable {w w':World} {ok ok':Nat→Prop} {base size:Nat} {e:TypeId} {v:Value} {rows:List (List D)}
theorem Arr.nil (w:World) (base:Nat) (e:TypeId) (size:Nat) (ok:Nat→Prop):Arr w base e size ok (.slice none 0 0) []:=
 ⟨[],World.ownsRow_nil _ _ _ _,by simp,by simp⟩
theorem Arr.alloc (h:Arr w base e size ok v rows) (o:Obj) (hok:∀b,ok b→b<w.heap.size):Arr (w.alloc o) base e size ok v rows:=by
 obtain⟨xs,h1,h2,h3⟩:=h;exact⟨xs,h1.alloc o,h2,fun i j r d u a b c=>(h3 i j r d u a b c).alloc o fun b hb=>hok b hb.1⟩
theorem Arr.weak (h:Arr w base e size ok v rows) (hok:∀b,ok b→ok' b):Arr w base e size ok' v rows:=by
 obtain⟨xs,h1,h2,h3⟩:=h;exact⟨xs,h1,h2,fun i j r d u a b c=>(h3 i j r d u a b c).weak fun b hb=>⟨hok b hb.1,hb.2⟩⟩
theorem Arr.drew (h:Arr w base e size ok v rows):Arr w.drew base e size ok v rows:=by
 obtain⟨xs,h1,h2,h3⟩:=h;exact⟨xs,h1.drew,h2,fun i j r d u a b c=>(h3 i j r d u a b c).drew⟩
theorem Arr.own (h:Arr w base e size ok v rows):∀g,v.ownBlock=some g→base≤g∧g<w.heap.size:=by
 obtain⟨xs,h1,_⟩:=h;exact h1.lt
theorem Arr.get {i j:Nat} {r:List D} {d:D} (h:Arr w base e size ok v rows) (hr:rows[i]? =some r) (hd:r[j]? =some d):
  ∃g c u,v= .slice (some ⟨g,0,none⟩) rows.length c∧base≤g∧g<w.heap.size∧w.cell? ⟨g,i * size+j,none⟩=some u∧(∀o,w.frozen? ⟨g,o,none⟩=false)∧Rep w (fun b=>ok b∧b≠g) d u:=by
 obtain⟨xs,h1,h2,h3⟩:=h;have hi:i<rows.length:=(List.getElem?_eq_some_iff.1 hr).1;have hj:j<size:=by have:=h2 i r hr;have:=(List.getElem?_eq_some_iff.1 hd).1;omega
 have hlt:i * size+j<xs.length:=by
  rw[h1.1];have:(i+1) * size≤rows.length * size:=Nat.mul_le_mul_right _ hi;rw[Nat.add_mul]at this;omega
 have hx:xs[i * size+j]? =some xs[i * size+j]:=List.getElem?_eq_getElem hlt;have hlt':=h1.lt;have hcs:=fun g=>h1.cells (g:=g)
 rcases h1.2 with⟨_,hn⟩|⟨g,cap,cur,rfl,hbg,hg,hnc,hcm,hsz,htk⟩
 ·omega
 ·refine⟨g,cap,_,rfl,hbg,(hlt' g rfl).2,?_,fun o=>?_,(h3 i j r d _ hr hd hx).weak fun b hb=>⟨hb.1,fun e=>hb.2 (by rw[e];rfl)⟩⟩
  ·have:=hcs g rfl _ _ hx;rw[Addr.add_lit,Nat.zero_add]at this;exact this
  ·simp[World.frozen?,hg]
end
end Go.Proofs.YtjpldhjgehoffaaGreatDoor
namespace Go.Proofs.YtjpldhjgehoffaaGreatDoor
open Go.RowKit
section
variable {w:World} {ok:Nat→Prop} {rows:List (List D)}
theorem idx_div {size i j:Nat} (hj:j<size):(i * size+j) / size=i∧(i * size+j) % size=j:=by
 have h0:0<size:=by omega
 refine⟨?_,?_⟩
 ·rw[Nat.mul_comm,Nat.mul_add_div h0,Nat.div_eq_of_lt hj,Nat.add_zero]
 ·rw[Nat.mul_comm,Nat.mul_add_mod,Nat.mod_eq_of_lt hj]
theorem Rep.news {a:Option Addr} {n c size:Nat} (h:Rep w ok (.sl rows) (.slice a n c)) (hs:∀(i:Nat) (r:List D),rows[i]? =some r→r.length=size):
  ∃news:List Value,news.length=n * size∧(∀j u,news[j]? =some u→∃ad,a=some ad∧w.cell? (ad.add j)=some u)∧(∀u∈news,u.oneCell'=true)∧
   ∀(i j:Nat) (r:List D) (d:D) (u:Value),rows[i]? =some r→r[j]? =some d→news[i * size+j]? =some u→Rep w ok d u:=by
 cases h with
 |empty a c ha hc=>exact⟨[],by simp,by simp,by simp,by simp⟩
 |sl _ size' b o c V hne hlen hc hsz hok hcell hrep=>
  have hss:size'=size:=by
   rcases rows with _|⟨r,rs⟩
   ·exact absurd rfl hne
   ·exact(hsz 0 r rfl).symm.trans (hs 0 r rfl)
  subst hss;have key:∀k,k<rows.length * size'→k / size'<rows.length∧k % size'<size'∧k / size' * size'+k % size'=k:=fun k hk=>by
   have h0:0<size':=by
    rcases Nat.eq_zero_or_pos size' with h|h
    ·subst h;omega
    ·exact h
   exact⟨(Nat.div_lt_iff_lt_mul h0).2 hk,Nat.mod_lt _ h0,by rw[Nat.mul_comm];exact Nat.div_add_mod k size'⟩
  refine⟨(List.range (rows.length * size')).map fun k=>V (k / size') (k % size'),by simp,fun j u hu=>?_,fun u hu=>?_,fun i j r d u hr hd hu=>?_⟩
  ·have hj:j<rows.length * size':=by have:=(List.getElem?_eq_some_iff.1 hu).1;simpa using this
   obtain⟨h1,h2,h3⟩:=key j hj;refine⟨_,rfl,?_⟩;rw[Addr.add_lit];have:=hcell _ _ h1 h2;rw[h3]at this;rw[this];simp[hj]at hu;rw[hu]
  ·obtain⟨k,hk,rfl⟩:=List.mem_map.1 hu;obtain⟨h1,h2,h3⟩:=key k (by simpa using hk);have hr:rows[k / size']? =some rows[k / size']:=List.getElem?_eq_getElem h1;have hl:=hs _ _ hr;exact(hrep (k / size') (k % size') _ _ hr (List.getElem?_eq_getElem (by omega))).oneCell
  ·have hi:i<rows.length:=(List.getElem?_eq_some_iff.1 hr).1;have hj:j<size':=by have:=hs i r hr;have:=(List.getElem?_eq_some_iff.1 hd).1;omega
   obtain⟨e1,e2⟩:=idx_div (i:=i) hj;have:=hrep i j r d hr hd;have hu':=(List.getElem?_eq_some_iff.1 hu).2;simp[e1,e2]at hu';rw[←hu'];exact this
end
section
variable {P:Program} (w:World)
theorem run_append_none (base:Nat) (t ty e:TypeId) (i:TypeInfo) (size:Nat) (ht:P.underlying t=some (.slice e)) (hi:P.info? e=some i)
  (v:Value) (n:Nat) (xs:List Value) (hown:w.ownsRow base e size v n xs) (c:Nat):(Builtin.append_ #[t,t] ty #[v,.slice none 0 c]).run P w= .ok v w:=by
 rcases hown.2 with⟨rfl,rfl⟩|⟨g,cap,cur,rfl,_,_,hnc,_⟩
 ·simp[Builtin.append_,run_underlying ht,sizeOf,typeInfo,hi,Builtin.lenOf,Builtin.firstCells]
 ·simp[Builtin.append_,run_underlying ht,sizeOf,typeInfo,hi,Builtin.lenOf,Builtin.firstCells,hnc,storeCells]
theorem run_append_news (base:Nat) (t ty e:TypeId) (i:TypeInfo) (z:Value) (size bytes:Nat) (ht:P.underlying t=some (.slice e)) (hi:P.info? e=some i) (hz:i.zero=some z)
  (hsize:i.size=size) (hby:i.bytes=bytes) (hzs:z.cells.size=size) (hsz:0<size)
  (v:Value) (n:Nat) (xs:List Value) (hown:w.ownsRow base e size v n xs)
  (A:Option Addr) (m c:Nat) (news:List Value) (hl:news.length=m * size) (hc:∀j u,news[j]? =some u→∃ad,A=some ad∧w.cell? (ad.add j)=some u) (h1:∀u∈news,u.oneCell'=true)
  (h63:n+m≤maxLen) (hbytes:(n+m) * bytes≤140737488355328) (hbase:base≤w.heap.size):
  ∃v' w',(Builtin.append_ #[t,t] ty #[v,.slice A m c]).run P w= .ok v' w'∧w'.ownsRow base e size v' (n+m) (xs++news)∧w.grownBy w' v.ownBlock∧
   (v'.ownBlock=v.ownBlock∨v'.ownBlock=some w.heap.size):=by
 rcases A with _|ad
 ·have hn:news=[]:=by
   rcases news with _|⟨u,us⟩
   ·rfl
   ·obtain⟨ad,h,_⟩:=hc 0 u rfl;cases h
  subst hn;have hm:m=0:=by
   rcases Nat.eq_zero_or_pos m with h0|h0
   ·exact h0
   ·have:=Nat.mul_pos h0 hsz;simp at hl;omega
  subst hm;exact⟨v,w,run_append_none w base t ty e i size ht hi v n xs hown c,by simpa using hown,World.grownBy.refl w _,.inl rfl⟩
 ·have hcells:∀j u,news[j]? =some u→w.cell? (ad.add j)=some u:=by
   intro j u hu;obtain⟨ad',h,hcc⟩:=hc j u hu;injection h with h;subst h;exact hcc
  obtain⟨v',w',hrun,h2,h3,_,h5⟩:=run_append_own_at (P:=P) w base t ty e i z size bytes ht hi hz hsize hby hzs hsz v n xs hown ad m c news hl hcells h1 h63 hbytes hbase;exact⟨v',w',hrun,h2,h3,h5⟩
theorem Rep.of_block {w:World} {ok:Nat→Prop} {b:Nat} {cs:Array Value} {t:TypeId} {fr:Nat×Nat} (hb:w.heap[b]? =some (.cells cs t fr)) (r:List D) (hr:RepRow w ok r cs.toList) (hok:ok b):
  Rep w ok (.sl [r]) (.slice (some ⟨b,0,none⟩) 1 1):=by
 refine .sl [r] r.length b 0 1 (fun _ j=>cs[j]?.getD (.bool false)) (by simp) (Nat.le_refl _) (by simp[maxLen]) (fun i r' h=>?_) hok (fun i j hi hj=>?_) (fun i j r' d h hd=>?_)
 ·match i,h with
  |0,h=>simp at h;rw[h]
 ·obtain rfl:i=0:=by simp at hi;omega
  have hl:=hr.1;simp at hl;have hc:cs[j]? =some cs[j]:=Array.getElem?_eq_getElem (by omega);rw[Nat.zero_mul,Nat.zero_add,Nat.zero_add,cell_of_row w b j cs t fr hb,hc,Option.getD_some]
 ·match i,h with
  |0,h=>
   simp at h;subst h;have hl:=hr.1;have hj:=(List.getElem?_eq_some_iff.1 hd).1;simp at hl;have hc:cs[j]? =some cs[j]:=Array.getElem?_eq_getElem (by omega);rw[hc,Option.getD_some];exact hr.2 j d _ hd (by simp)
end
end Go.Proofs.YtjpldhjgehoffaaGreatDoor
namespace Go.Proofs.YtjpldhjgehoffaaGreatDoor
open Go.RowKit
inductive AV where
 |any
 |d (d:D)
 |lit (v:Value)
 |fl (rows:List (List D))
 |ptr (o off:Nat)
 |arr (o lo n:Nat)
 |U2 (o i j:Nat)
 |mp (o:Nat)
 |agg (cs:List AV)
 |tuple (vs:List AV)
 |clo (f:Nat) (cap:List AV)
inductive Raw where
 |U8 (b:Nat) (ks ag:Bool) (n clock:Nat) (ents:List (Nat×D×List D))
 |iter (b clock:Nat) (seen:List Nat)
inductive Qz where
 |blk (t:TypeId) (cs:List AV)
 |arr (e:TypeId) (sz:Nat) (rows:List (List D))
 |map (ks ag:Bool) (n:Nat) (ents:List (D×List D))
 |raw (r:Raw)
structure Gh where
 bl:Nat→Option Nat
 cp:Nat→Nat
abbrev Me:=Nat→Option Qz
mutual
def AV.has (q:Nat→Bool):AV→Bool
 | .ptr o _=>q o
 | .arr o _ _=>q o
 | .U2 o _ _=>q o
 | .mp o=>q o
 | .agg cs=>AV.K6 q cs
 | .tuple vs=>AV.K6 q vs
 | .clo _ cap=>AV.K6 q cap
 |_=>false
def AV.K6 (q:Nat→Bool):List AV→Bool
 |[]=>false
 |x::r=>AV.has q x||AV.K6 q r
end
theorem AV.Qk7 {q:Nat→Bool} {l:List AV} (h:AV.K6 q l=false) (i:Nat) (c:AV) (hi:l[i]? =some c):c.has q=false:=by
 induction l generalizing i with
 |nil=>simp at hi
 |cons x r ih=>
  simp only[AV.K6,Bool.or_eq_false_iff]at h;rcases i with _|i
  ·simp at hi;subst hi;exact h.1
  ·simp at hi;exact ih h.2 i hi
inductive VR (w:World) (ok:Nat→Prop) (g:Gh) (m:Me):AV→Value→Prop where
 |any (v:Value):VR w ok g m .any v
 |d (d:D) (v:Value) (h:Rep w ok d v):VR w ok g m (.d d) v
 |lit (v:Value) (h:v.oneCell'=true):VR w ok g m (.lit v) v
 |fl (rows:List (List D)) (v:Value) (h:∃a,v= .slice a rows.length rows.length) (hr:Rep w ok (.sl rows) v):VR w ok g m (.fl rows) v
 |ptr (o off:Nat) (v:Value) (hv:v.oneCell'=true) (h:∀x,m o=some x→∃b,g.bl o=some b∧v= .pointer (some ⟨b,off,none⟩)):VR w ok g m (.ptr o off) v
 |arr (o lo n:Nat) (v:Value) (hv:v.oneCell'=true) (h:∀e sz rows,m o=some (.arr e sz rows)→lo+n≤rows.length∧
   ((g.bl o=none∧v= .slice none 0 0∧lo=0∧n=0)∨(∃b,g.bl o=some b∧v= .slice (some ⟨b,lo * sz,none⟩) n (g.cp o-lo))∨(0<lo∧n=0∧∃a c,v= .slice a 0 c∧c≤maxLen∧(a=none→c=0)))):VR w ok g m (.arr o lo n) v
 |U2 (o i j:Nat) (v:Value) (hv:v.oneCell'=true) (h:∀e sz rows,m o=some (.arr e sz rows)→∃b,g.bl o=some b∧v= .pointer (some ⟨b,i * sz+j,none⟩)):VR w ok g m (.U2 o i j) v
 |mp (o:Nat) (v:Value) (hv:v.oneCell'=true) (h:∀x,m o=some x→∃b,g.bl o=some b∧v= .map (some b)):VR w ok g m (.mp o) v
 |agg (cs:List AV) (vs:Array Value) (hl:cs.length=vs.size) (h:∀(i:Nat) (c:AV) (v:Value),cs[i]? =some c→vs[i]? =some v→VR w ok g m c v) (h1:∀(i:Nat) (v:Value),vs[i]? =some v→v.oneCell'=true):VR w ok g m (.agg cs) (.agg vs)
 |tuple (cs:List AV) (vs:Array Value) (hl:cs.length=vs.size) (h:∀(i:Nat) (c:AV) (v:Value),cs[i]? =some c→vs[i]? =some v→VR w ok g m c v):VR w ok g m (.tuple cs) (.tuple vs)
 |clo (f:Nat) (cs:List AV) (vs:Array Value) (hl:cs.length=vs.size) (h:∀(i:Nat) (c:AV) (v:Value),cs[i]? =some c→vs[i]? =some v→VR w ok g m c v):VR w ok g m (.clo f cs) (.func (.func f) #[] vs)
def Qz.like:Qz→Qz→Prop
 | .blk _ _,.blk _ _=>True
 | .arr _ sz rows,.arr _ sz' rows'=>sz=sz'∧rows.length≤rows'.length
 | .map ks ag n _,.map ks' ag' n' _=>ks=ks'∧ag=ag'∧n=n'
 | .raw _,.raw _=>True
 | .map _ _ _ _,.raw _=>True
 | .raw _,.map _ _ _ _=>True
 |_,_=>False
theorem Qz.D9 (x:Qz):x.like x:=by cases x<;> simp[Qz.like]
section
variable {w w':World} {ok ok':Nat→Prop} {g g':Gh} {m m':Me}
theorem VR.mono {c:AV} {v:Value} (h:VR w ok g m c v) (q:Nat→Bool) (hq:c.has q=false) (hk:∀p:Addr,ok p.block→w'.cell? p=w.cell? p) (hok:∀b,ok b→ok' b)
  (hm:∀o x',q o=false→m' o=some x'→∃x,m o=some x∧x.like x'∧g'.bl o=g.bl o∧g'.cp o=g.cp o):VR w' ok' g' m' c v:=by
 induction h with
 |any v=>exact .any v
 |d d v h=>exact .d d v ((h.keep hk).weak hok)
 |lit v h=>exact .lit v h
 |fl rows v h hr=>exact .fl rows v h ((hr.keep hk).weak hok)
 |ptr o off v hv h=>
  refine .ptr o off v hv fun x' hx'=>?_
  obtain⟨x,hx,_,hb,_⟩:=hm o x' hq hx';rw[hb];exact h x hx
 |arr o lo n v hv h=>
  refine .arr o lo n v hv fun e sz rows hx'=>?_
  obtain⟨x,hx,hl,hb,hc⟩:=hm o _ hq hx';rcases x with⟨t,cs⟩|⟨e0,sz0,rows0⟩|⟨_,_,_,_⟩|⟨_⟩
  ·exact hl.elim
  ·obtain⟨hl1,hl2⟩:=hl;subst hl1;obtain⟨h1,h2⟩:=h _ _ _ hx;rw[hb,hc];exact⟨by omega,h2⟩
  ·exact hl.elim
  ·exact hl.elim
 |U2 o i j v hv h=>
  refine .U2 o i j v hv fun e sz rows hx'=>?_
  obtain⟨x,hx,hl,hb,hc⟩:=hm o _ hq hx';rcases x with⟨t,cs⟩|⟨e0,sz0,rows0⟩|⟨_,_,_,_⟩|⟨_⟩
  ·exact hl.elim
  ·obtain⟨hl1,hl2⟩:=hl;subst hl1;rw[hb];exact h _ _ _ hx
  ·exact hl.elim
  ·exact hl.elim
 |mp o v hv h=>
  refine .mp o v hv fun x' hx'=>?_
  obtain⟨x,hx,_,hb,_⟩:=hm o x' hq hx';rw[hb];exact h x hx
 |agg cs vs hl h h1 ih=>exact .agg cs vs hl (fun i c v hc hv=>ih i c v hc hv (AV.Qk7 hq i c hc)) h1
 |tuple cs vs hl h ih=>exact .tuple cs vs hl (fun i c v hc hv=>ih i c v hc hv (AV.Qk7 hq i c hc))
 |clo f cs vs hl h ih=>exact .clo f cs vs hl (fun i c v hc hv=>ih i c v hc hv (AV.Qk7 hq i c hc))
theorem VR.Qv6 {cs:List AV} {v:Value} (h:VR w ok g m (.agg cs) v):∃vs:Array Value,v= .agg vs∧cs.length=vs.size∧(∀(i:Nat) (c:AV) (v:Value),cs[i]? =some c→vs[i]? =some v→VR w ok g m c v)∧∀(i:Nat) (v:Value),vs[i]? =some v→v.oneCell'=true:=by
 cases h;exact⟨_,rfl,by assumption,by assumption,by assumption⟩
theorem VR.tuple_inv {cs:List AV} {v:Value} (h:VR w ok g m (.tuple cs) v):∃vs:Array Value,v= .tuple vs∧cs.length=vs.size∧∀(i:Nat) (c:AV) (v:Value),cs[i]? =some c→vs[i]? =some v→VR w ok g m c v:=by
 cases h;exact⟨_,rfl,by assumption,by assumption⟩
theorem VR.clo_inv {f:Nat} {cs:List AV} {v:Value} (h:VR w ok g m (.clo f cs) v):∃vs:Array Value,v= .func (.func f) #[] vs∧cs.length=vs.size∧∀(i:Nat) (c:AV) (v:Value),cs[i]? =some c→vs[i]? =some v→VR w ok g m c v:=by
 cases h;exact⟨_,rfl,by assumption,by assumption⟩
theorem VR.Zv {d:D} {v:Value} (h:VR w ok g m (.d d) v):Rep w ok d v:=by cases h;assumption
theorem VR.fl_inv {rows:List (List D)} {v:Value} (h:VR w ok g m (.fl rows) v):(∃a,v= .slice a rows.length rows.length)∧Rep w ok (.sl rows) v:=by cases h;exact⟨by assumption,by assumption⟩
theorem VR.Wv {u v:Value} (h:VR w ok g m (.lit u) v):v=u∧u.oneCell'=true:=by cases h;exact⟨rfl,by assumption⟩
theorem VR.ptr_inv {o off:Nat} {v:Value} (h:VR w ok g m (.ptr o off) v) {x:Qz} (hx:m o=some x):∃b,g.bl o=some b∧v= .pointer (some ⟨b,off,none⟩):=by
 cases h with
 |ptr o off v hv h=>exact h x hx
theorem VR.Qj9 {o:Nat} {v:Value} (h:VR w ok g m (.mp o) v) {x:Qz} (hx:m o=some x):∃b,g.bl o=some b∧v= .map (some b):=by
 cases h with
 |mp o v hv h=>exact h x hx
theorem VR.Qv4 {o lo n:Nat} {v:Value} (h:VR w ok g m (.arr o lo n) v) {e:TypeId} {sz:Nat} {rows:List (List D)} (hx:m o=some (.arr e sz rows)):
  lo+n≤rows.length∧((g.bl o=none∧v= .slice none 0 0∧lo=0∧n=0)∨(∃b,g.bl o=some b∧v= .slice (some ⟨b,lo * sz,none⟩) n (g.cp o-lo))∨(0<lo∧n=0∧∃a c,v= .slice a 0 c∧c≤maxLen∧(a=none→c=0))):=by
 cases h with
 |arr o lo n v hv h=>exact h e sz rows hx
end
theorem VR.eptr_inv {w:World} {ok:Nat→Prop} {g:Gh} {m:Me} {o i j:Nat} {v:Value} (h:VR w ok g m (.U2 o i j) v) {e:TypeId} {sz:Nat} {rows:List (List D)} (hx:m o=some (.arr e sz rows)):
  ∃b,g.bl o=some b∧v= .pointer (some ⟨b,i * sz+j,none⟩):=by
 cases h with
 |U2 o i j v hv h=>exact h e sz rows hx
def AV.cells:AV→Option (List AV)
 | .any=>none
 | .agg cs=>some cs
 | .tuple _=>none
 |v=>some [v]
def VRs (w:World) (ok:Nat→Prop) (g:Gh) (m:Me) (cs:List AV) (vs:List Value):Prop:=
 cs.length=vs.length∧(∀(i:Nat) (c:AV) (v:Value),cs[i]? =some c→vs[i]? =some v→VR w ok g m c v)∧∀v∈vs,v.oneCell'=true
theorem VR.cells {w:World} {ok:Nat→Prop} {g:Gh} {m:Me} {c:AV} {v:Value} {cs:List AV} (h:VR w ok g m c v) (hc:c.cells=some cs):VRs w ok g m cs v.cells.toList:=by
 have one:∀{c:AV},VR w ok g m c v→v.oneCell'=true→VRs w ok g m [c] v.cells.toList:=fun {c} h hv=>by
  have:v.cells= #[v]:=by cases v<;> first|rfl|simp[Value.oneCell']at hv
  rw[this];refine⟨rfl,fun i c' v' hc hv'=>?_,by simpa using hv⟩;rcases i with _|i
  ·simp at hc hv';subst hc hv';exact h
  ·simp at hc
 cases h with
 |any v=>simp[AV.cells]at hc
 |d d v h=>simp[AV.cells]at hc;subst hc;exact one (.d d v h) h.oneCell
 |lit v h=>simp[AV.cells]at hc;subst hc;exact one (.lit v h) h
 |fl rows v h hr=>simp[AV.cells]at hc;subst hc;exact one (.fl rows v h hr) hr.oneCell
 |ptr o off v hv h=>simp[AV.cells]at hc;subst hc;exact one (.ptr o off v hv h) hv
 |arr o lo n v hv h=>simp[AV.cells]at hc;subst hc;exact one (.arr o lo n v hv h) hv
 |U2 o i j v hv h=>simp[AV.cells]at hc;subst hc;exact one (.U2 o i j v hv h) hv
 |mp o v hv h=>simp[AV.cells]at hc;subst hc;exact one (.mp o v hv h) hv
 |agg cs' vs hl h h1=>
  simp[AV.cells]at hc;subst hc;refine⟨by simpa[Value.cells]using hl,fun i c v hc hv=>h i c v hc (by simpa[Value.cells]using hv),fun v hv=>?_⟩;obtain⟨i,hi⟩:=List.mem_iff_getElem?.1 hv;exact h1 i v (by simpa[Value.cells]using hi)
 |tuple cs' vs hl h=>simp[AV.cells]at hc
 |clo f cs' vs hl h=>simp[AV.cells]at hc;subst hc;exact one (.clo f cs' vs hl h) rfl
theorem VRs.mono {w w':World} {ok ok':Nat→Prop} {g g':Gh} {m m':Me} {cs:List AV} {vs:List Value} (h:VRs w ok g m cs vs) (q:Nat→Bool) (hq:AV.K6 q cs=false) (hk:∀p:Addr,ok p.block→w'.cell? p=w.cell? p) (hok:∀b,ok b→ok' b)
  (hm:∀o x',q o=false→m' o=some x'→∃x,m o=some x∧x.like x'∧g'.bl o=g.bl o∧g'.cp o=g.cp o):VRs w' ok' g' m' cs vs:=
 ⟨h.1,fun i c v hc hv=>(h.2.1 i c v hc hv).mono q (AV.Qk7 hq i c hc) hk hok hm,h.2.2⟩
def D.Y5:Bool→D→Bool
 |true,.str _=>true
 |false,.int _=>true
 |_,_=>false
def D.keq:D→D→Bool
 | .str a,.str b=>decide (a=b)
 | .int a,.int b=>decide (a=b)
 |_,_=>false
def Sk (w:World) (ok:Nat→Prop) (ag:Bool) (r:List D) (v:Value):Prop:=
 if ag=true then∃vs:Array Value,v= .agg vs∧vs.size=r.length∧∀(i:Nat) (d:D) (u:Value),r[i]? =some d→vs[i]? =some u→Rep w ok d u
 else∃d,r=[d]∧Rep w ok d v
theorem Sk.keep {w w':World} {ok:Nat→Prop} {ag:Bool} {r:List D} {v:Value} (h:Sk w ok ag r v) (hk:∀p:Addr,ok p.block→w'.cell? p=w.cell? p):Sk w' ok ag r v:=by
 unfold Sk at h⊢;split
 ·rename_i ha;rw[if_pos ha]at h;obtain⟨vs,h1,h2,h3⟩:=h;exact⟨vs,h1,h2,fun i d u a b=>(h3 i d u a b).keep hk⟩
 ·rename_i ha;rw[if_neg ha]at h;obtain⟨d,h1,h2⟩:=h;exact⟨d,h1,h2.keep hk⟩
theorem Sk.weak {w:World} {ok ok':Nat→Prop} {ag:Bool} {r:List D} {v:Value} (h:Sk w ok ag r v) (hk:∀b,ok b→ok' b):Sk w ok' ag r v:=by
 unfold Sk at h⊢;split
 ·rename_i ha;rw[if_pos ha]at h;obtain⟨vs,h1,h2,h3⟩:=h;exact⟨vs,h1,h2,fun i d u a b=>(h3 i d u a b).weak hk⟩
 ·rename_i ha;rw[if_neg ha]at h;obtain⟨d,h1,h2⟩:=h;exact⟨d,h1,h2.weak hk⟩
structure Fx (w:World) (ok:Nat→Prop) (ks ag:Bool) (n:Nat) (ents:List (D×List D)) (es:Array MapEntry) (clock:Nat):Prop where
 st:MapKept.Stamped es clock
 keys:∀p∈ents,D.Y5 ks p.1=true∧p.2.length=n
 nodup:ents.Pairwise fun p q=>D.keq p.1 q.1=false
 perm:∃l:List (D×List D),l.Perm ents∧l.length=es.size∧∀(i:Nat) (e:MapEntry) (p:D×List D),es[i]? =some e→l[i]? =some p→Rep w ok p.1 e.key∧Sk w ok ag p.2 e.val
theorem Fx.keep {w w':World} {ok ok':Nat→Prop} {ks ag:Bool} {n:Nat} {ents:List (D×List D)} {es:Array MapEntry} {clock:Nat} (h:Fx w ok ks ag n ents es clock) (hk:∀p:Addr,ok p.block→w'.cell? p=w.cell? p) (hok:∀b,ok b→ok' b):Fx w' ok' ks ag n ents es clock:=by
 obtain⟨l,h1,h2,h3⟩:=h.perm;exact⟨h.st,h.keys,h.nodup,l,h1,h2,fun i e p a b=>⟨((h3 i e p a b).1.keep hk).weak hok,((h3 i e p a b).2.keep hk).weak hok⟩⟩
theorem D.Tk (a b:D):D.keq a b=D.keq b a:=by
 cases a<;> cases b<;> simp[D.keq,eq_comm]
theorem Fx.reorder {w:World} {ok:Nat→Prop} {ks ag:Bool} {n:Nat} {ents ents':List (D×List D)} {es:Array MapEntry} {clock:Nat} (h:Fx w ok ks ag n ents es clock) (hp:ents.Perm ents'):Fx w ok ks ag n ents' es clock:=by
 obtain⟨l,h1,h2,h3⟩:=h.perm;exact⟨h.st,fun p hm=>h.keys p (hp.mem_iff.2 hm),(hp.pairwise_iff fun {a b} hab=>by rw[D.Tk];exact hab).1 h.nodup,l,h1.trans hp,h2,h3⟩
structure MapB (w:World) (ok:Nat→Prop) (ks ag:Bool) (n:Nat) (ents:List (Nat×D×List D)) (es:Array MapEntry) (clock:Nat):Prop where
 st:MapKept.Stamped es clock
 keys:∀p∈ents,D.Y5 ks p.2.1=true∧p.2.2.length=n
 nodup:ents.Pairwise fun p q=>D.keq p.2.1 q.2.1=false
 size:ents.length=es.size
 at':∀(i:Nat) (e:MapEntry) (p:Nat×D×List D),es[i]? =some e→ents[i]? =some p→p.1=e.born∧Rep w ok p.2.1 e.key∧Sk w ok ag p.2.2 e.val
def RawR (w:World) (ok:Nat→Prop) (g:Gh) (o:Nat):Raw→Prop
 | .U8 b ks ag n clock ents=>g.bl o=some b∧∃es,w.heap[b]? =some (.map es clock)∧MapB w ok ks ag n ents es clock
 | .iter b clock seen=>∃bi,g.bl o=some bi∧w.heap[bi]? =some (.mapIter (some b) clock seen.toArray clock)
theorem RawR.mono {w w':World} {ok ok':Nat→Prop} {g g':Gh} {o:Nat} {r:Raw} (h:RawR w ok g o r) (hw:∀b,g.bl o=some b→w'.heap[b]? =w.heap[b]?) (hb:g'.bl o=g.bl o) (hk:∀p:Addr,ok p.block→w'.cell? p=w.cell? p) (hok:∀b,ok b→ok' b):RawR w' ok' g' o r:=by
 cases r with
 |U8 b ks ag n clock ents=>
  obtain⟨h1,es,h2,h3⟩:=h;exact⟨hb.trans h1,es,(hw b h1).trans h2,h3.st,h3.keys,h3.nodup,h3.size,fun i e p a c=>⟨(h3.at' i e p a c).1,((h3.at' i e p a c).2.1.keep hk).weak hok,((h3.at' i e p a c).2.2.keep hk).weak hok⟩⟩
 |iter b clock seen=>
  obtain⟨bi,h1,h2⟩:=h;exact⟨bi,hb.trans h1,(hw bi h1).trans h2⟩
theorem RawR.at' {w:World} {ok:Nat→Prop} {g g':Gh} {o o':Nat} {r:Raw} (h:RawR w ok g o r) (hb:g'.bl o'=g.bl o):RawR w ok g' o' r:=by
 cases r with
 |U8 b ks ag n clock ents=>exact⟨hb.trans h.1,h.2⟩
 |iter b clock seen=>
  obtain⟨bi,h1,h2⟩:=h;exact⟨bi,hb.trans h1,h2⟩
def OR (w:World) (ok:Nat→Prop) (g:Gh) (m:Me) (o:Nat):Qz→Prop
 | .blk t cs=>∃b vs,g.bl o=some b∧w.heap[b]? =some (.cells vs t (0,0))∧VRs w ok g m cs vs.toList
 | .arr e sz rows=>0<sz∧(∀(i:Nat) (r:List D),rows[i]? =some r→r.length=sz)∧
   ((g.bl o = none∧rows = [])∨∃ b cur,g.bl o = some b∧w.heap[b]? = some (.cells cur e (0,0))∧rows.length≤g.cp o∧g.cp o≤maxLen∧cur.size = g.cp o * sz ∧
    ∀(i j:Nat) (r:List D) (c:D) (v:Value),rows[i]? =some r→r[j]? =some c→cur[i * sz+j]? =some v→Rep w ok c v)
 | .map ks ag n ents=>∃b es clock,g.bl o=some b∧w.heap[b]? =some (.map es clock)∧Fx w ok ks ag n ents es clock
 | .raw r=>RawR w ok g o r
structure Cx where
 w:World
 ok:Nat→Prop
 T:Nat→Prop
 g:Gh
def kept (i:Nat):Bool:=Nat.ble 1000 i
structure MS (C:Cx) (w:World) (ok:Nat→Prop) (g:Gh) (m:Me):Prop where
 obj:∀o x,m o=some x→OR w ok g m o x
 inj:∀i j xi xj b,m i=some xi→m j=some xj→g.bl i=some b→g.bl j=some b→i=j
 own:∀i x b,m i=some x→g.bl i=some b→¬ok b∧b<w.heap.size∧(C.w.heap.size≤b∨(C.T b∧500≤i))
 okb:∀b,ok b→b<w.heap.size∧(C.ok b∨C.w.heap.size≤b)
 okk:∀b,C.ok b→ok b
 size:C.w.heap.size≤w.heap.size
 heap:∀b,b<C.w.heap.size→¬C.T b→w.heap[b]? =C.w.heap[b]?
 keep:∀i,kept i=true→g.bl i=C.g.bl i∧g.cp i=C.g.cp i
 os:w.os=C.w.os
 tape:w.tape=C.w.tape
 output:w.output=C.w.output
 gi:GI C.w
 gb:∀b,GB b→¬C.T b
theorem MS.giw {C:Cx} {w:World} {ok:Nat→Prop} {g:Gh} {m:Me} (h:MS C w ok g m):GI w:=h.gi.keep fun b hb=>h.heap b (h.gi.lt hb) (h.gb b hb)
theorem World.J6 {w w':World} {p:Addr} (h:w'.heap[p.block]? =w.heap[p.block]?):w'.cell? p=w.cell? p:=World.cell?_of_block h
theorem OR.mono {w w':World} {ok ok':Nat→Prop} {g g':Gh} {m m':Me} {o:Nat} {x:Qz} (h:OR w ok g m o x) (q:Nat→Bool)
  (hx:match x with| .blk _ cs=>AV.K6 q cs=false|_=>True)
  (hw:∀b,g.bl o=some b→w'.heap[b]? =w.heap[b]?) (hb:g'.bl o=g.bl o) (hc:g'.cp o=g.cp o) (hk:∀p:Addr,ok p.block→w'.cell? p=w.cell? p) (hok:∀b,ok b→ok' b)
  (hm:∀o x',q o=false→m' o=some x'→∃x,m o=some x∧x.like x'∧g'.bl o=g.bl o∧g'.cp o=g.cp o):OR w' ok' g' m' o x:=by
 cases x with
 |blk t cs=>
  obtain⟨b,vs,h1,h2,h3⟩:=h;exact⟨b,vs,hb.trans h1,(hw b h1).trans h2,h3.mono q hx hk hok hm⟩
 |arr e sz rows=>
  obtain⟨h0,h1,h2⟩:=h;refine⟨h0,h1,?_⟩;rcases h2 with⟨h2,h3⟩|⟨b,cur,h2,h3,h4,h5,h6,h7⟩
  ·exact .inl ⟨hb.trans h2,h3⟩
  ·exact .inr ⟨b,cur,hb.trans h2,(hw b h2).trans h3,by rw[hc];exact h4,by rw[hc];exact h5,by rw[hc];exact h6,fun i j r c v a b d=>((h7 i j r c v a b d).keep hk).weak hok⟩
 |map ks ag n ents=>
  obtain⟨b,es,clock,h1,h2,h3⟩:=h;exact⟨b,es,clock,hb.trans h1,(hw b h1).trans h2,h3.keep hk hok⟩
 |raw r=>exact RawR.mono h hw hb hk hok
end Go.Proofs.YtjpldhjgehoffaaGreatDoor
namespace Go.Proofs.YtjpldhjgehoffaaGreatDoor
open Go.RowKit
def AV.kill (q:Nat→Bool) (c:AV):AV:=if c.has q then .any else c
def Qz.kill (q:Nat→Bool):Qz→Qz
 | .blk t cs=>.blk t (cs.map (AV.kill q))
 | .arr e sz rows=>.arr e sz rows
 | .map ks ag n ents=>.map ks ag n ents
 | .raw r=>.raw r
theorem AV.kill_has (q:Nat→Bool) (c:AV):(c.kill q).has q=false:=by
 unfold AV.kill;by_cases h:c.has q=true
 ·rw[if_pos h];rfl
 ·rw[if_neg h];simpa using h
theorem AV.kill_hasL (q:Nat→Bool) (l:List AV):AV.K6 q (l.map (AV.kill q))=false:=by
 induction l with
 |nil=>rfl
 |cons x r ih=>simp only[List.map_cons,AV.K6,AV.kill_has,ih,Bool.or_self]
section
variable {w w':World} {ok ok':Nat→Prop} {g g':Gh} {m m':Me}
theorem VR.kill {c:AV} {v:Value} (h:VR w ok g m c v) (q:Nat→Bool):VR w ok g m (c.kill q) v:=by
 unfold AV.kill;split
 ·exact .any v
 ·exact h
theorem VRs.kill {cs:List AV} {vs:List Value} (h:VRs w ok g m cs vs) (q:Nat→Bool):VRs w ok g m (cs.map (AV.kill q)) vs:=by
 refine⟨by simpa using h.1,fun i c v hc hv=>?_,h.2.2⟩;rw[List.getElem?_map]at hc;obtain⟨c',hc',rfl⟩:=Option.map_eq_some_iff.1 hc;exact(h.2.1 i c' v hc' hv).kill q
theorem OR.kill {o:Nat} {x:Qz} (h:OR w ok g m o x) (q:Nat→Bool):OR w ok g m o (x.kill q):=by
 cases x with
 |blk t cs=>
  obtain⟨b,vs,h1,h2,h3⟩:=h;exact⟨b,vs,h1,h2,h3.kill q⟩
 |arr e sz rows=>exact h
 |map ks ag n ents=>exact h
 |raw r=>exact h
theorem Qz.kill_like (q:Nat→Bool) (x:Qz):x.like (x.kill q):=by cases x<;> simp[Qz.like,Qz.kill]
def X5 (m:Me) (U:Nat→Bool) (q:Nat→Bool) (N:Me):Me:=fun i=>if U i then N i else (m i).map (Qz.kill q)
theorem MS.eff {C:Cx} (h:MS C w ok g m) (U q:Nat→Bool) (N:Me) (hqU:∀i,q i=true→U i=true)
  (hN:∀i x,U i=true→N i=some x→OR w' ok' g' (X5 m U q N) i x)
  (hg:∀i,q i=false→g'.bl i=g.bl i∧g'.cp i=g.cp i)
  (hl:∀i x',U i=true→q i=false→N i=some x'→∃x,m i=some x∧x.like x')
  (hh:∀i x b,U i=false→m i=some x→g.bl i=some b→w'.heap[b]? =w.heap[b]?)
  (hokc:∀b,ok b→w'.heap[b]? =w.heap[b]?) (hok:∀b,ok b→ok' b) (hokb:∀b,ok' b→ok b∨(b<w'.heap.size∧C.w.heap.size≤b∧∀i x,U i=false→m i=some x→g.bl i≠some b))
  (hinj:∀i x b,U i=true→N i=some x→g'.bl i=some b→¬ok' b∧b<w'.heap.size∧(C.w.heap.size≤b∨(C.T b∧500≤i))∧(∀j xj,U j=false→m j=some xj→g.bl j≠some b)∧∀j xj,U j=true→N j=some xj→g'.bl j=some b→i=j)
  (hK:∀i,q i=true→kept i=false) (hsz:w.heap.size≤w'.heap.size)
  (hheap:∀b,b<C.w.heap.size→¬C.T b→w'.heap[b]? =w.heap[b]?) (hos:w'.os=w.os) (htape:w'.tape=w.tape) (hout:w'.output=w.output):
  MS C w' ok' g' (X5 m U q N)∧∀c v,c.has q=false→VR w ok g m c v→VR w' ok' g' (X5 m U q N) c v:=by
 have hk:∀p:Addr,ok p.block→w'.cell? p=w.cell? p:=fun p hp=>World.J6 (hokc _ hp)
 have hm:∀o x',q o=false→(X5 m U q N) o=some x'→∃x,m o=some x∧x.like x'∧g'.bl o=g.bl o∧g'.cp o=g.cp o:=by
  intro o x' hq hx';unfold X5 at hx';by_cases hU:U o=true
  ·rw[if_pos hU]at hx';obtain⟨x,hx,hl⟩:=hl o x' hU hq hx';exact⟨x,hx,hl,hg o hq⟩
  ·rw[if_neg hU]at hx';obtain⟨x,hx,rfl⟩:=Option.map_eq_some_iff.1 hx';exact⟨x,hx,Qz.kill_like q x,hg o hq⟩
 have hold:∀o x',U o=false→(X5 m U q N) o=some x'→q o=false∧∃x,m o=some x∧x'=x.kill q:=by
  intro o x' hU hx';unfold X5 at hx';rw[if_neg (by simp[hU])]at hx';obtain⟨x,hx,rfl⟩:=Option.map_eq_some_iff.1 hx';refine⟨?_,x,hx,rfl⟩;rcases hq:q o
  ·rfl
  ·rw[hqU o hq]at hU;cases hU
 have hnew:∀o x',U o=true→(X5 m U q N) o=some x'→N o=some x':=fun o x' hU hx'=>by unfold X5 at hx';rwa [if_pos hU]at hx'
 refine⟨⟨fun o x' hx'=>?_,fun i j xi xj b hi hj hbi hbj=>?_,fun i x b hi hbi=>?_,fun b hb=>?_,fun b hb=>hok b (h.okk b hb),Nat.le_trans h.size hsz,fun b hb hT=>(hheap b hb hT).trans (h.heap b hb hT),
  fun i hi=>?_,hos.trans h.os,htape.trans h.tape,hout.trans h.output,h.gi,h.gb⟩,fun c v hc hv=>hv.mono q hc hk hok hm⟩
 ·rcases hU:U o
  ·obtain⟨hq,x,hx,rfl⟩:=hold o x' hU hx';refine((h.obj o x hx).kill q).mono q ?_ (fun b hb=>hh o x b hU hx hb) (hg o hq).1 (hg o hq).2 hk hok hm;cases x with
   |blk t cs=>exact AV.kill_hasL q cs
   |arr e sz rows=>trivial
   |map ks ag n ents=>trivial
   |raw r=>trivial
  ·exact hN o x' hU (hnew o x' hU hx')
 ·rcases hUi:U i
  ·obtain⟨hqi,x,hx,rfl⟩:=hold i xi hUi hi;rw[(hg i hqi).1]at hbi;rcases hUj:U j
   ·obtain⟨hqj,y,hy,rfl⟩:=hold j xj hUj hj;rw[(hg j hqj).1]at hbj;exact h.inj i j x y b hx hy hbi hbj
   ·exact absurd hbi ((hinj j xj b hUj (hnew j xj hUj hj) hbj).2.2.2.1 i x hUi hx)
  ·rcases hUj:U j
   ·obtain⟨hqj,y,hy,rfl⟩:=hold j xj hUj hj;rw[(hg j hqj).1]at hbj;exact absurd hbj ((hinj i xi b hUi (hnew i xi hUi hi) hbi).2.2.2.1 j y hUj hy)
   ·exact(hinj i xi b hUi (hnew i xi hUi hi) hbi).2.2.2.2 j xj hUj (hnew j xj hUj hj) hbj
 ·rcases hUi:U i
  ·obtain⟨hqi,y,hy,rfl⟩:=hold i x hUi hi;rw[(hg i hqi).1]at hbi;obtain⟨h1,h2,h3⟩:=h.own i y b hy hbi;refine⟨fun hb=>?_,by omega,h3⟩;rcases hokb b hb with h4|⟨_,_,h4⟩
   ·exact h1 h4
   ·exact h4 i y hUi hy hbi
  ·obtain⟨h1,h2,h3,_⟩:=hinj i x b hUi (hnew i x hUi hi) hbi;exact⟨h1,h2,h3⟩
 ·rcases hokb b hb with h1|⟨h1,h2,_⟩
  ·have:=h.okb b h1;exact⟨by omega,this.2⟩
  ·exact⟨h1,.inr h2⟩
 ·have h1:=h.keep i hi;have hq:q i=false:=by
   rcases hq:q i
   ·rfl
   ·rw[hK i hq]at hi;cases hi
  obtain⟨h2,h3⟩:=hg i hq;exact⟨h2.trans h1.1,h3.trans h1.2⟩
end
structure AS where
 n:Nat
 fr:List (Nat×AV)
 mem:List (Nat×Option Qz)
def Zj:List (Nat×AV)→Nat→AV
 |[],_=>.any
 |(t,v)::r,u=>if t==u then v else Zj r u
def Q4:List (Nat×Option Qz)→Nat→Option Qz
 |[],_=>none
 |(t,v)::r,u=>if t==u then v else Q4 r u
def Gq (q:Nat→Bool):List (Nat×AV)→List (Nat×AV)
 |[]=>[]
 |(t,v)::r=>(t,v.kill q)::Gq q r
def Wq (q:Nat→Bool):List (Nat×Option Qz)→List (Nat×Option Qz)
 |[]=>[]
 |(t,v)::r=>(t,v.map (Qz.kill q))::Wq q r
theorem frGet_kill (q:Nat→Bool) (f:List (Nat×AV)) (t:Nat):Zj (Gq q f) t=(Zj f t).kill q:=by
 induction f with
 |nil=>rfl
 |cons x r ih=>obtain⟨u,v⟩:=x;simp only[Gq,Zj,ih];split<;> rfl
theorem memGet_kill (q:Nat→Bool) (f:List (Nat×Option Qz)) (t:Nat):Q4 (Wq q f) t=(Q4 f t).map (Qz.kill q):=by
 induction f with
 |nil=>rfl
 |cons x r ih=>obtain⟨u,v⟩:=x;simp only[Wq,Q4,ih];split<;> rfl
def Z5 (l:List Nat) (i:Nat):Bool:=l.any (· ==i)
def Jw (l:List (Nat×Option Qz)) (i:Nat):Bool:=l.any (·.1==i)
theorem memGet_append (l r:List (Nat×Option Qz)) (i:Nat):Q4 (l++r) i=if Jw l i then Q4 l i else Q4 r i:=by
 induction l with
 |nil=>rfl
 |cons x l ih=>
  obtain⟨t,v⟩:=x;simp only[List.cons_append,Q4,ih,Jw,List.any_cons];by_cases h:(t==i)=true
  ·simp[h]
  ·rw[Bool.not_eq_true]at h;simp only[h,Bool.false_or,Bool.false_eq_true,if_false];rfl
def St (C:Cx) (s:AS) (a:Act) (w:World):Prop:=
 ∃ok g,MS C w ok g (Q4 s.mem)∧a.tmps.size=s.n∧a.defers=[]∧∀t,VR w ok g (Q4 s.mem) (Zj s.fr t) (a.tmps.getD t undef)
structure Eff where
 q:List Nat
 ws:List (Nat×Option Qz)
def AS.after (s:AS) (dst:Option Nat) (v:AV) (e:Eff):AS:=
 let q:=Z5 e.q
 let fr:=match e.q with|[]=>s.fr|_=>Gq q s.fr
 let mem:=match e.q with|[]=>s.mem|_=>Wq q s.mem
 { n:=s.n,fr:=match dst with|some d=>(d,v)::fr|none=>fr,mem:=e.ws++mem }
theorem Qz.Pq {q:Nat→Bool} (hq:∀i,q i=false) (x:Qz):x.kill q=x:=by
 have h1:∀c:AV,c.kill q=c:=fun c=>by
  unfold AV.kill;rw[if_neg];have:∀c:AV,c.has q=false:=fun c=>AV.rec (motive_1:=fun c=>c.has q=false) (motive_2:=fun l=>AV.K6 q l=false) (by rfl) (fun _=>rfl) (fun _=>rfl) (fun _=>rfl) (fun o _=>hq o) (fun o _ _=>hq o) (fun o _ _=>hq o) (fun o=>hq o)
   (fun cs h=>h) (fun cs h=>h) (fun _ cs h=>h) rfl (fun x r h1 h2=>by simp only[AV.K6,h1,h2,Bool.or_self]) c
  simp[this c]
 have h2:AV.kill q=id:=funext h1;cases x<;> simp[Qz.kill,h2]
theorem AV.V3 {q:Nat→Bool} (hq:∀i,q i=false) (c:AV):c.has q=false:=
 AV.rec (motive_1:=fun c=>c.has q=false) (motive_2:=fun l=>AV.K6 q l=false) (by rfl) (fun _=>rfl) (fun _=>rfl) (fun _=>rfl) (fun o _=>hq o) (fun o _ _=>hq o) (fun o _ _=>hq o) (fun o=>hq o)
   (fun cs h=>h) (fun cs h=>h) (fun _ cs h=>h) rfl (fun x r h1 h2=>by simp only[AV.K6,h1,h2,Bool.or_self]) c
theorem AS.K8 (s:AS) (dst:Option Nat) (v:AV) (e:Eff):Q4 (s.after dst v e).mem=X5 (Q4 s.mem) (Jw e.ws) (Z5 e.q) (Q4 e.ws):=by
 funext i;simp only[AS.after,X5,memGet_append];split
 ·rfl
 ·rcases hq:e.q with _|⟨a,b⟩
  ·have:(Qz.kill (Z5 ([]:List Nat)))=id:=funext fun x=>Qz.Pq (fun _=>rfl) x
   simp[this]
  ·simp only[memGet_kill]
theorem AS.Jz (s:AS) (dst:Option Nat) (v:AV) (e:Eff) (t:Nat):Zj (s.after dst v e).fr t=if dst=some t then v else (Zj s.fr t).kill (Z5 e.q):=by
 have h0:Zj (match e.q with|[]=>s.fr|_=>Gq (Z5 e.q) s.fr) t=(Zj s.fr t).kill (Z5 e.q):=by
  rcases hq:e.q with _|⟨a,b⟩
  ·simp only[AV.kill,AV.V3 (fun _=>rfl:∀i,Z5 ([]:List Nat) i=false)];rfl
  ·simp only[frGet_kill]
 simp only[AS.after];cases dst with
 |none=>simpa using h0
 |some d=>
  simp only[Zj,Option.some.injEq];by_cases hd:d=t
  ·simp[hd]
  ·simp only[hd,if_false];rw[if_neg (by simpa using hd)];exact h0
theorem St.after {C:Cx} {s:AS} {a:Act} {w w':World} {ok ok':Nat→Prop} {g g':Gh} (hs:a.tmps.size=s.n) (hd:a.defers=[]) (hf:∀t,VR w ok g (Q4 s.mem) (Zj s.fr t) (a.tmps.getD t undef))
  (dst:Option Nat) (hdst:∀d,dst=some d→d<s.n) (c:AV) (v:Value) (e:Eff)
  (hM:MS C w' ok' g' (X5 (Q4 s.mem) (Jw e.ws) (Z5 e.q) (Q4 e.ws))∧∀c v,c.has (Z5 e.q)=false→VR w ok g (Q4 s.mem) c v→VR w' ok' g' (X5 (Q4 s.mem) (Jw e.ws) (Z5 e.q) (Q4 e.ws)) c v)
  (hv:dst≠none→VR w' ok' g' (X5 (Q4 s.mem) (Jw e.ws) (Z5 e.q) (Q4 e.ws)) c v):St C (s.after dst c e) (a.put dst v) w':=by
 refine⟨ok',g',by rw[AS.K8];exact hM.1,?_,?_,fun t=>?_⟩
 ·cases dst<;> simpa[Act.put,AS.after]using hs
 ·cases dst<;> simpa[Act.put]using hd
 ·rw[AS.K8,AS.Jz];have hold:VR w' ok' g' (X5 (Q4 s.mem) (Jw e.ws) (Z5 e.q) (Q4 e.ws)) ((Zj s.fr t).kill (Z5 e.q)) (a.tmps.getD t undef):=
   hM.2 _ _ (AV.kill_has _ _) ((hf t).kill _)
  cases dst with
  |none=>simpa[Act.put]using hold
  |some d=>
   have hlt:=hdst d rfl;by_cases hdt:d=t
   ·subst hdt;simp only[if_true,Act.put];have:(a.tmps.setIfInBounds d v).getD d undef=v:=by simp[hs,hlt]
    rw[this];exact hv (by simp)
   ·have:(a.tmps.setIfInBounds d v).getD t undef=a.tmps.getD t undef:=by simp[Array.getElem?_setIfInBounds_ne hdt]
    simp only[Act.put,this,Option.some.injEq,hdt,if_false];exact hold
end Go.Proofs.YtjpldhjgehoffaaGreatDoor
namespace Go.Proofs.YtjpldhjgehoffaaGreatDoor
open Go.RowKit
set_option linter.unusedVariables false
def Dz:Value→AV
 | .int .i64 n=>if -9223372036854775808≤n∧n≤9223372036854775807 then .d (.int n)else .any
 | .int k n=>if k.min≤n∧n≤k.max then .d (.num k n)else .any
 | .bool b=>.d (.bool b)
 | .string s=>if s.size≤maxLen then .d (.str s)else .any
 | .pointer none=>.d .nil
 | .slice none 0 0=>.lit (.slice none 0 0)
 | .nilFunc=>.lit .nilFunc
 | .map none=>.lit (.map none)
 |_=>.any
def Vj:Value→AV
 | .int .i64 n=>if -9223372036854775808≤n∧n≤9223372036854775807 then .d (.int n)else .any
 | .int k n=>if k.min≤n∧n≤k.max then .d (.num k n)else .any
 | .bool b=>.d (.bool b)
 | .string s=>if s.size≤maxLen then .d (.str s)else .any
 | .pointer none=>.d .nil
 | .slice none 0 0=>.lit (.slice none 0 0)
 | .nilFunc=>.lit .nilFunc
 | .map none=>.lit (.map none)
 | .agg vs=>if vs.toList.all (·.oneCell')then .agg (vs.toList.map Dz)else .any
 |_=>.any
def evA (f:List (Nat×AV)):Operand→AV
 | .tmp t=>Zj f t
 | .const v=>Vj v
 | .global _=>.any
 | .func f=>.d (.fn f)
section
variable {w:World} {ok:Nat→Prop} {g:Gh} {m:Me}
theorem scalAV_ok (v:Value):VR w ok g m (Dz v) v:=by
 unfold Dz;split
 ·split
  ·rename_i n h;exact .d _ _ (.int n h.1 h.2)
  ·exact .any _
 ·split
  ·rename_i n _ h;exact .d _ _ (.num _ n h.1 h.2)
  ·exact .any _
 ·exact .d _ _ (.bool _)
 ·split
  ·rename_i n h;exact .d _ _ (.str _ h)
  ·exact .any _
 ·exact .d _ _ .nil
 ·exact .lit _ rfl
 ·exact .lit _ rfl
 ·exact .lit _ rfl
 ·exact .any _
theorem constAV_ok (v:Value):VR w ok g m (Vj v) v:=by
 unfold Vj;split
 ·split
  ·rename_i n h;exact .d _ _ (.int n h.1 h.2)
  ·exact .any _
 ·split
  ·rename_i n _ h;exact .d _ _ (.num _ n h.1 h.2)
  ·exact .any _
 ·exact .d _ _ (.bool _)
 ·split
  ·rename_i n h;exact .d _ _ (.str _ h)
  ·exact .any _
 ·exact .d _ _ .nil
 ·exact .lit _ rfl
 ·exact .lit _ rfl
 ·exact .lit _ rfl
 ·split
  ·rename_i vs h;refine .agg _ _ (by simp) (fun i c v hc hv=>?_) (fun i v hv=>?_)
   ·rw[List.getElem?_map,Array.getElem?_toList,hv]at hc;simp only[Option.map_some,Option.some.injEq]at hc;subst hc;exact scalAV_ok v
   ·exact List.all_eq_true.1 h v (by
     have:=Array.mem_of_getElem? hv;simpa using this)
  ·exact .any _
 ·exact .any _
theorem Qq0 {f:List (Nat×AV)} {a:Act} (hf:∀t,VR w ok g m (Zj f t) (a.tmps.getD t undef)) (x:Operand):VR w ok g m (evA f x) (a.eval x):=by
 cases x with
 |tmp t=>exact hf t
 |const v=>exact constAV_ok v
 |global b=>exact .any _
 |func f=>exact .d _ _ (.fn f)
end
def U4 (P:Program) (t:TypeId):Option (Bool×Nat):=
 match P.underlying t,P.info? t with
 |some d,some i=>some (match d with| .struct _| .array _ _=>true|_=>false,i.size)
 |_,_=>none
def Xv (P:Program) (t:TypeId) (f:Nat):Option (Nat×Bool×Nat):=
 match P.underlying t with
 |some (.struct fs)=>match fs[f]? with
  |some x=>match U4 P x.type with
   |some (g,n)=>if n=0 then none else some (x.offset,g,n)
   |none=>none
  |none=>none
 |_=>none
def Ux (P:Program) (t:TypeId):Option (TypeId×Nat):=
 match P.underlying t with
 |some (.slice e)=>match P.info? e with
  |some i=>some (e,i.size)
  |none=>none
 |_=>none
theorem run_isAgg {P:Program} {t:TypeId} {b:Bool} {n:Nat} (h:U4 P t=some (b,n)) (w:World):(isAgg t).run P w= .ok b w∧(sizeOf t).run P w= .ok n w:=by
 unfold U4 at h;rcases hu:P.underlying t with _|d
 ·rw[hu]at h;simp at h
 ·rcases hi:P.info? t with _|i
  ·rw[hu,hi]at h;simp at h
  ·rw[hu,hi]at h;simp only[Option.some.injEq,Prod.mk.injEq]at h;obtain⟨rfl,rfl⟩:=h;refine⟨?_,by simp[sizeOf,typeInfo,hi]⟩;simp only[isAgg,Sem.run_bind,run_underlying hu,Result.andThen_ok];cases d<;> rfl
def H6 (b:Bool) (cs:List AV):Option AV:=if b then some (.agg cs)else match cs with|[c]=>some c|_=>none
theorem mkVal_ok {w:World} {ok:Nat→Prop} {g:Gh} {m:Me} {b:Bool} {cs:List AV} {c:AV} (h:H6 b cs=some c) {vs:List Value} (hv:VRs w ok g m cs vs):
  (b=true→VR w ok g m c (.agg vs.toArray))∧(b=false→∃v,vs=[v]∧VR w ok g m c v):=by
 unfold H6 at h;cases b
 ·refine⟨by simp,fun _=>?_⟩;match cs,h with
  |[c'],h=>
   simp at h;subst h;obtain⟨hl,h2,_⟩:=hv;match vs,hl with
   |[v],_=>exact⟨v,rfl,h2 0 _ _ rfl rfl⟩
 ·refine⟨fun _=>?_,by simp⟩;simp at h;subst h;refine .agg cs _ (by simpa using hv.1) (fun i c v hc hv'=>hv.2.1 i c v hc (by simpa using hv')) (fun i v hv'=>hv.2.2 v (List.mem_iff_getElem?.2 ⟨i,by simpa using hv'⟩))
def Y1 (m:Me) (p:AV) (n:Nat):Option (List AV):=
 match p with
 | .ptr o off=>match m o with
  |some (.blk _ cs)=>if off+n≤cs.length then some ((cs.drop off).take n)else none
  |_=>none
 | .U2 o i j=>match m o with
  |some (.arr _ _ rows)=>match rows[i]? with
   |some r=>if j+n≤r.length then some (((r.drop j).take n).map AV.d)else none
   |none=>none
  |_=>none
 | .d (.ptr r)=>if n≤r.length then some ((r.take n).map AV.d)else none
 |_=>none
theorem VRs.seg {w:World} {ok:Nat→Prop} {g:Gh} {m:Me} {cs:List AV} {vs:List Value} (h:VRs w ok g m cs vs) (o n:Nat):VRs w ok g m ((cs.drop o).take n) ((vs.drop o).take n):=by
 refine⟨by simp[h.1],fun i c v hc hv=>?_,fun v hv=>h.2.2 v (List.drop_subset _ _ (List.take_subset _ _ hv))⟩;rw[List.getElem?_take]at hc hv;split at hc
 ·rw[if_pos (by assumption)]at hv;rw[List.getElem?_drop]at hc hv;exact h.2.1 _ c v hc hv
 ·cases hc
theorem MS.rd {C:Cx} {w:World} {ok:Nat→Prop} {g:Gh} {m:Me} (hM:MS C w ok g m) {p:AV} {v:Value} (hp:VR w ok g m p v) {n:Nat} {cs:List AV} (h:Y1 m p n=some cs):
  ∃b off vs,v= .pointer (some ⟨b,off,none⟩)∧vs.length=n∧(∀j u,vs[j]? =some u→w.cell? ⟨b,off+j,none⟩=some u)∧VRs w ok g m cs vs:=by
 unfold Y1 at h;split at h
 ·rename_i o off;split at h
  ·rename_i t cs' hm;split at h
   ·rename_i hle;simp at h;subst h;obtain⟨b,hb,rfl⟩:=hp.ptr_inv hm;obtain⟨b',vs,hb',hw,hvs⟩:=hM.obj o _ hm;rw[hb]at hb';obtain rfl:=Option.some.inj hb';refine⟨b,off,(vs.toList.drop off).take n,rfl,by have:=hvs.1;simp at this;simp;omega,fun j u hu=>?_,hvs.seg off n⟩;rw[List.getElem?_take]at hu;split at hu
    ·rw[List.getElem?_drop]at hu;rw[cell_of_row w b _ vs t (0,0) hw];simpa using hu
    ·cases hu
   ·cases h
  ·cases h
 ·rename_i o i j;split at h
  ·rename_i e sz rows hm;split at h
   ·rename_i r hr;split at h
    ·rename_i hle;simp at h;subst h;obtain⟨b,hb,rfl⟩:=hp.eptr_inv hm;obtain⟨h0,h1,h2⟩:=hM.obj o _ hm;rcases h2 with⟨_,h3⟩|⟨b',cur,h2,h3,h4,h5,h6,h7⟩
     ·subst h3;simp at hr
     ·rw[hb]at h2;obtain rfl:=Option.some.inj h2;have hrl:=h1 i r hr;have hi:i<rows.length:=(List.getElem?_eq_some_iff.1 hr).1;have hlt:i * sz+sz≤cur.size:=by
       rw[h6];have:(i+1) * sz≤g.cp o * sz:=Nat.mul_le_mul_right _ (by omega);rw[Nat.add_mul]at this;omega
      refine⟨b,i * sz+j,(cur.toList.drop (i * sz+j)).take n,rfl,by simp;omega,fun k u hu=>?_,?_,fun k c v hc hv=>?_,fun v hv=>?_⟩
      ·rw[List.getElem?_take]at hu;split at hu
       ·rw[List.getElem?_drop]at hu;rw[cell_of_row w b _ cur e (0,0) h3];simpa using hu
       ·cases hu
      ·simp;omega
      ·rw[List.getElem?_take]at hv;split at hv
       ·rename_i hk;rw[List.getElem?_drop]at hv;rw[List.getElem?_take,if_pos hk,List.getElem?_drop,List.getElem?_map]at hc;obtain⟨d,hd,rfl⟩:=Option.map_eq_some_iff.1 hc;exact .d _ _ (h7 i (j+k) r d v hr hd (by rw[←Nat.add_assoc];simpa using hv))
       ·cases hv
      ·obtain⟨k,hk⟩:=List.mem_iff_getElem?.1 hv;rw[List.getElem?_take]at hk;split at hk
       ·rename_i hkn;rw[List.getElem?_drop]at hk;have hd:r[j+k]? =some r[j+k]:=List.getElem?_eq_getElem (by omega);exact(h7 i (j+k) r _ v hr hd (by rw[←Nat.add_assoc];simpa using hk)).oneCell
       ·cases hk
    ·cases h
   ·cases h
  ·cases h
 ·rename_i r;split at h
  ·rename_i hle;simp at h;subst h;have hR:=hp.Zv;cases hR with
   |ptr row b o V hok hcell hrep=>
    refine⟨b,o,(List.range n).map V,rfl,by simp,fun j u hu=>?_,by simp;omega,fun j c u hc hu=>?_,fun u hu=>?_⟩
    ·have hj:j<n:=by have:=(List.getElem?_eq_some_iff.1 hu).1;simpa using this
     rw[hcell j (by omega)];simpa[hj]using hu
    ·have hj:j<n:=by have:=(List.getElem?_eq_some_iff.1 hu).1;simpa using this
     rw[List.getElem?_take,if_pos hj,List.getElem?_map]at hc;obtain⟨d,hd,rfl⟩:=Option.map_eq_some_iff.1 hc;have:=hrep j d hd;simp[hj]at hu;subst hu;exact .d _ _ this
    ·obtain⟨j,hj,rfl⟩:=List.mem_map.1 hu;have hj':j<n:=by simpa using hj
     exact(hrep j _ (List.getElem?_eq_getElem (by omega))).oneCell
  ·cases h
 ·cases h
theorem run_loadVar_at {P:Program} {w:World} {t:TypeId} {b:Bool} {n:Nat} (ht:U4 P t=some (b,n)) {bb off:Nat} {vs:List Value} (hl:vs.length=n) (hc:∀j u,vs[j]? =some u→w.cell? ⟨bb,off+j,none⟩=some u):
  (b=true→(loadVar t ⟨bb,off,none⟩).run P w= .ok (.agg vs.toArray) w)∧(b=false→∀v,vs=[v]→(loadVar t ⟨bb,off,none⟩).run P w= .ok v w):=by
 obtain⟨h1,h2⟩:=run_isAgg ht w;refine⟨fun hb=>?_,fun hb v hv=>?_⟩
 ·subst hb;have h3:=run_loadCells_list (P:=P) w ⟨bb,off,none⟩ vs (fun j v hv=>by rw[Addr.add_lit];exact hc j v hv);rw[hl]at h3;simp[loadVar,h1,h2,h3]
 ·subst hb hv;have:=hc 0 v rfl;simp only[Nat.add_zero]at this;simp[loadVar,h1,this]
end Go.Proofs.YtjpldhjgehoffaaGreatDoor
namespace Go.Proofs.YtjpldhjgehoffaaGreatDoor
open Go.RowKit
set_option linter.unusedVariables false
def setAt {α:Type}:List α→Nat→List α→List α
 |l,_,[]=>l
 |[],_,_::_=>[]
 |_::l,0,c::cs=>c::setAt l 0 cs
 |x::l,n+1,c::cs=>x::setAt l n (c::cs)
theorem P8 {α:Type} (c:α) (cs:List α):∀(l:List α) (n:Nat),setAt l n (c::cs)=setAt (l.set n c) (n+1) cs
 |[],n=>by cases cs<;> simp[setAt]
 |x::l,0=>by
  cases cs with
  |nil=>simp[setAt]
  |cons d ds=>simp[setAt]
 |x::l,n+1=>by
  have:=P8 c cs l n;cases cs with
  |nil=>simp[setAt]at this⊢;exact this
  |cons d ds=>simp[setAt]at this⊢;exact this
theorem Nk {α:Type}:∀(cs l:List α) (n:Nat),n+cs.length≤l.length→setAt l n cs=l.take n++cs++l.drop (n+cs.length)
 |[],l,n,_=>by simp[setAt]
 |c::cs,l,n,h=>by
  simp at h;rw[P8,Nk cs (l.set n c) (n+1) (by simp;omega)];apply List.ext_getElem?;intro k;simp only[List.getElem?_append,List.length_take,List.length_append,List.length_cons,List.getElem?_take,List.getElem?_drop,List.getElem?_set,List.length_set,List.getElem?_cons]
  grind
theorem D5 {α:Type}:∀(cs l:List α) (n:Nat),(setAt l n cs).length=l.length
 |[],l,n=>by simp[setAt]
 |c::cs,l,n=>by rw[P8,D5 cs];simp
section
variable {w:World} {ok:Nat→Prop} {g:Gh} {m:Me}
theorem VRs.set {cs:List AV} {vs:List Value} (h:VRs w ok g m cs vs) (i:Nat) {c:AV} {v:Value} (hc:VR w ok g m c v) (hv:v.oneCell'=true):VRs w ok g m (cs.set i c) (vs.set i v):=by
 refine⟨by simpa using h.1,fun j c' v' hc' hv'=>?_,fun v' hv'=>?_⟩
 ·rw[List.getElem?_set]at hc' hv';split at hc'
  ·rw[if_pos (by assumption)]at hv';split at hc'
   ·rw[if_pos (by have:=h.1;omega)]at hv';obtain rfl:=Option.some.inj hc';obtain rfl:=Option.some.inj hv';exact hc
   ·cases hc'
  ·rw[if_neg (by assumption)]at hv';exact h.2.1 j c' v' hc' hv'
 ·rcases List.mem_or_eq_of_mem_set hv' with h1|rfl
  ·exact h.2.2 v' h1
  ·exact hv
theorem VRs.setAt:∀(ds:List AV) (us:List Value) (cs:List AV) (vs:List Value) (n:Nat),VRs w ok g m cs vs→VRs w ok g m ds us→VRs w ok g m (setAt cs n ds) (setAt vs n us)
 |[],[],cs,vs,n,h,_=>by cases cs<;> cases vs<;> simpa[Proofs.YtjpldhjgehoffaaGreatDoor.setAt]using h
 |d::ds,u::us,cs,vs,n,h,hd=>by
  rw[P8,P8];exact VRs.setAt ds us _ _ _ (h.set n (hd.2.1 0 d u rfl rfl) (hd.2.2 u (by simp))) ⟨by simpa using hd.1,fun i c v hc hv=>hd.2.1 (i+1) c v hc hv,fun v hv=>hd.2.2 v (by simp[hv])⟩
 |[],u::us,cs,vs,n,h,hd=>by have:=hd.1;simp at this
 |d::ds,[],cs,vs,n,h,hd=>by have:=hd.1;simp at this
theorem VRs.nil:VRs w ok g m [] []:=⟨rfl,by simp,by simp⟩
end
theorem foldl_set_list (off:Nat):∀(vs:List Value) (k:Nat) (cs:Array Value),((vs.zipIdx k).foldl (fun cs (x:Value×Nat)=>cs.setIfInBounds (off+x.2) x.1) cs).toList=setAt cs.toList (off+k) vs
 |[],k,cs=>by cases h:cs.toList<;> simp[setAt,h]
 |v::vs,k,cs=>by
  rw[List.zipIdx_cons,List.foldl_cons,foldl_set_list off vs (k+1),P8];simp[Nat.add_assoc]
theorem foldl_set (off:Nat) (vs cs:Array Value):(vs.zipIdx.foldl (fun cs (x:Value×Nat)=>cs.setIfInBounds (off+x.2) x.1) cs).toList=setAt cs.toList off vs.toList:=by
 rw[←Array.foldl_toList,Array.toList_zipIdx];simpa using foldl_set_list off vs.toList 0 cs
def Gz (place:Nat→Option (Nat×Nat)) (zero:List AV):List (Nat×AV)→Option (List AV)
 |[]=>some zero
 |(i,c)::rest=>match place i,c.cells with
  |some (off,n),some cs=>if cs.length=n∧off+n≤zero.length then Gz place (setAt zero off cs) rest else none
  |_,_=>none
theorem fillAV_ok {w:World} {ok:Nat→Prop} {g:Gh} {m:Me} (place:Nat→Option (Nat×Nat)):∀(parts:List (Nat×AV)) (zero:List AV) (ps:List (Nat×Value)) (zs:Array Value) (cs:List AV),Gz place zero parts=some cs→VRs w ok g m zero zs.toList→
  parts.length=ps.length→(∀(i:Nat) (p:Nat×AV) (q:Nat×Value),parts[i]? =some p→ps[i]? =some q→p.1=q.1∧VR w ok g m p.2 q.2)→∃vs,Instr.fill place zs ps=some vs∧VRs w ok g m cs vs.toList
 |[],zero,[],zs,cs,h,hz,_,_=>by simp[Gz]at h;subst h;exact⟨zs,rfl,hz⟩
 |p::parts,zero,[],zs,cs,h,hz,hl,_=>by simp at hl
 |[],zero,q::ps,zs,cs,h,hz,hl,_=>by simp at hl
 |(i,c)::parts,zero,(j,v)::ps,zs,cs,h,hz,hl,hp=>by
  obtain⟨h1,h2⟩:=hp 0 _ _ rfl rfl;dsimp only at h1 h2;subst h1;unfold Gz at h;split at h
  ·rename_i off n cs' hpl hcs;split at h
   ·rename_i hle;obtain⟨hle1,hle2⟩:=hle;have hv:=h2.cells hcs;have hz':VRs w ok g m (setAt zero off cs') (v.cells.zipIdx.foldl (fun cs (x:Value×Nat)=>cs.setIfInBounds (off+x.2) x.1) zs).toList:=by
     rw[foldl_set];exact VRs.setAt _ _ _ _ _ hz hv
    obtain⟨vs,hf,hvs⟩:=fillAV_ok place parts _ ps _ cs h hz' (by simpa using hl) (fun k p q a b=>hp (k+1) p q a b);refine⟨vs,?_,hvs⟩;have e1:=hv.1;have e2:=hz.1;simp at e1 e2;simp only[Instr.fill,hpl];rw[if_neg (by simp;omega)];exact hf
   ·cases h
  ·cases h
def G5 (P:Program) (t:TypeId):Option (List AV):=
 match P.info? t with
 |some i=>match i.zero with
  |some z=>if z.cells.toList.all (·.oneCell')then some (z.cells.toList.map Vj)else none
  |none=>none
 |none=>none
theorem constAVs_ok {w:World} {ok:Nat→Prop} {g:Gh} {m:Me} (vs:List Value) (h:∀v∈vs,v.oneCell'=true):VRs w ok g m (vs.map Vj) vs:=by
 refine⟨by simp,fun i c v hc hv=>?_,h⟩;rw[List.getElem?_map,hv]at hc;simp at hc;subst hc;exact constAV_ok v
theorem tyZero_ok {P:Program} {t:TypeId} {cs:List AV} (h:G5 P t=some cs) (w0:World):∃z,(zeroValue t).run P w0= .ok z w0∧∀w ok g m,VRs w ok g m cs z.cells.toList:=by
 unfold G5 at h;split at h
 ·rename_i i hi;split at h
  ·rename_i z hiz;split at h
   ·rename_i hf;simp at h;subst h;refine⟨z,by simp[zeroValue,typeInfo,hi,hiz],fun w ok g m=>constAVs_ok _ fun v hv=>?_⟩;exact List.all_eq_true.1 hf v hv
   ·cases h
  ·cases h
 ·cases h
def H5 (P:Program) (t:TypeId):Option (List (Nat×Nat)):=
 match P.underlying t with
 |some (.struct fs)=>fs.toList.mapM fun f=>(P.info? f.type).map fun i=>(f.offset,i.size)
 |_=>none
theorem run_mapM_list {P:Program} {α β:Type} (f:α→Sem β) (h:α→Option β) (hf:∀a b,h a=some b→∀w,(f a).run P w= .ok b w):∀(l:List α) (r:List β),l.mapM h=some r→∀w,(l.mapM f).run P w= .ok r w
 |[],r,hr,w=>by simp at hr;subst hr;rfl
 |a::l,r,hr,w=>by
  rw[List.mapM_cons]at hr;obtain⟨b,hb,hr⟩:=Option.bind_eq_some_iff.1 hr;obtain⟨r',hr',hr⟩:=Option.bind_eq_some_iff.1 hr;simp at hr;subst hr;rw[List.mapM_cons];simp[hf a b hb,run_mapM_list f h hf l r' hr']
theorem run_mapM_array {P:Program} {α β:Type} (f:α→Sem β) (h:α→Option β) (hf:∀a b,h a=some b→∀w,(f a).run P w= .ok b w) (l:Array α) (r:List β) (hr:l.toList.mapM h=some r) (w:World):(l.mapM f).run P w= .ok r.toArray w:=by
 rw[←Array.toArray_toList (xs:=l),List.mapM_toArray];simp[run_mapM_list f h hf _ r hr]
def L8 (P:Program) (t:TypeId) (parts:List (Nat×AV)):Option AV:=
 match G5 P t,H5 P t with
 |some z,some pl=>match Gz (fun i=>pl[i]?) z parts with
  |some cs=>some (.agg cs)
  |none=>none
 |_,_=>none
theorem bldAV_ok {P:Program} {w:World} {ok:Nat→Prop} {g:Gh} {m:Me} {t:TypeId} {parts:List (Nat×AV)} {c:AV} (h:L8 P t parts=some c) {ps:Array (Nat×Value)}
  (hl:parts.length=ps.size) (hp:∀(i:Nat) (p:Nat×AV) (q:Nat×Value),parts[i]? =some p→ps[i]? =some q→p.1=q.1∧VR w ok g m p.2 q.2):∃v,(Instr.build t ps).run P w= .ok v w∧VR w ok g m c v:=by
 unfold L8 at h;split at h
 ·rename_i z pl hz hpl;split at h
  ·rename_i cs hcs;simp at h;subst h;obtain⟨zv,hzv,hzr⟩:=tyZero_ok hz w;unfold H5 at hpl;split at hpl
   ·rename_i fs hu;have hm:=run_mapM_array (P:=P) (fun f:Field=>do pure (f.offset,←sizeOf f.type)) _ (fun f b hb w=>by
     obtain⟨i,hi,rfl⟩:=Option.map_eq_some_iff.1 hb;simp[sizeOf,typeInfo,hi]) fs pl hpl w
    obtain⟨vs,hf,hvs⟩:=fillAV_ok (fun i=>pl[i]?) parts z ps.toList zv.cells cs hcs (hzr w ok g m) (by simpa using hl) (fun i p q a b=>hp i p q a (by simpa using b));refine⟨.agg vs,?_,.agg cs vs (by simpa using hvs.1) (fun i c v hc hv=>hvs.2.1 i c v hc (by simpa using hv)) (fun i v hv=>hvs.2.2 v (List.mem_iff_getElem?.2 ⟨i,by simpa using hv⟩))⟩;have hf':Instr.fill (fun i=>pl.toArray[i]?) zv.cells ps.toList=some vs:=by simpa using hf
    simp only[Instr.build,Sem.run_bind,hzv,Result.andThen_ok,run_underlying hu,hm,hf',Sem.run_pure]
   ·cases hpl
  ·cases h
 ·cases h
end Go.Proofs.YtjpldhjgehoffaaGreatDoor
namespace Go.Proofs.YtjpldhjgehoffaaGreatDoor
open Go.RowKit
set_option linter.unusedVariables false
def inI (n:Int):Prop:=-9223372036854775808≤n∧n≤9223372036854775807
def binI (op:BinOp) (a b:Int):Option (AV×Prop):=
 match op with
 | .add=>some (.d (.int (a+b)),inI (a+b))
 | .sub=>some (.d (.int (a-b)),inI (a-b))
 | .mul=>some (.d (.int (a * b)),inI (a * b))
 | .quo=>some (.d (.int (a.tdiv b)),b≠0∧inI (a.tdiv b))
 | .rem=>some (.d (.int (a.tmod b)),b≠0∧inI (a.tmod b))
 | .eql=>some (.d (.bool (decide (a=b))),True)
 | .neq=>some (.d (.bool (decide (a≠b))),True)
 | .lss=>some (.d (.bool (decide (a<b))),True)
 | .leq=>some (.d (.bool (decide (a≤b))),True)
 | .gtr=>some (.d (.bool (decide (b<a))),True)
 | .geq=>some (.d (.bool (decide (b≤a))),True)
 |_=>none
theorem maxLen_eq0:maxLen=9223372036854775807:=rfl
theorem Bj {n:Int} (h:inI n):IntKind.i64.wrap n=n:=by
 have h1:=h.1;have h2:=h.2;simp only[IntKind.wrap,IntKind.signed,IntKind.bits];simp only[Bool.true_and];split<;> rename_i hh<;> simp at hh<;> omega
theorem binI_ok {P:Program} {w:World} {ok:Nat→Prop} {g:Gh} {m:Me} {op:BinOp} {a b:Int} {c:AV} {p:Prop} (h:binI op a b=some (c,p)) (hp:p) (t t2:TypeId) (x y:Operand):
  ∃v,(do eqGuard op t x y (.int .i64 a) (.int .i64 b);binOp op t (.int .i64 a) (.int .i64 b)).run P w= .ok v w∧VR w ok g m c v:=by
 have hg:(eqGuard op t x y (.int .i64 a) (.int .i64 b)).run P w= .ok () w:=by
  unfold eqGuard;cases op<;> rfl
 rw[Sem.run_bind,hg,Result.andThen_ok];cases op<;> simp only[binI,Option.some.injEq,Prod.mk.injEq,reduceCtorEq]at h
 case add=>obtain⟨rfl,rfl⟩:=h;exact⟨.int .i64 (a+b),by simp[binOp,Op.intArith,Bj hp],.d _ _ (.int _ hp.1 hp.2)⟩
 case sub=>obtain⟨rfl,rfl⟩:=h;exact⟨.int .i64 (a-b),by simp[binOp,Op.intArith,Bj hp],.d _ _ (.int _ hp.1 hp.2)⟩
 case mul=>obtain⟨rfl,rfl⟩:=h;exact⟨.int .i64 (a * b),by simp[binOp,Op.intArith,Bj hp],.d _ _ (.int _ hp.1 hp.2)⟩
 case quo=>obtain⟨rfl,rfl⟩:=h;exact⟨.int .i64 (a.tdiv b),by simp[binOp,Op.intDiv,hp.1,Bj hp.2],.d _ _ (.int _ hp.2.1 hp.2.2)⟩
 case rem=>obtain⟨rfl,rfl⟩:=h;exact⟨.int .i64 (a.tmod b),by simp[binOp,Op.intDiv,hp.1],.d _ _ (.int _ hp.2.1 hp.2.2)⟩
 case eql=>obtain⟨rfl,rfl⟩:=h;exact⟨.bool (decide (a=b)),by simp[binOp,Op.intCmp,BEq.beq],.d _ _ (.bool _)⟩
 case neq=>obtain⟨rfl,rfl⟩:=h;exact⟨.bool (decide (a≠b)),by simp[binOp,Op.intCmp,bne,BEq.beq],.d _ _ (.bool _)⟩
 case lss=>obtain⟨rfl,rfl⟩:=h;exact⟨.bool (decide (a<b)),by simp[binOp,Op.intCmp],.d _ _ (.bool _)⟩
 case leq=>obtain⟨rfl,rfl⟩:=h;exact⟨.bool (decide (a≤b)),by simp[binOp,Op.intCmp],.d _ _ (.bool _)⟩
 case gtr=>obtain⟨rfl,rfl⟩:=h;exact⟨.bool (decide (b<a)),by simp[binOp,Op.intCmp],.d _ _ (.bool _)⟩
 case geq=>obtain⟨rfl,rfl⟩:=h;exact⟨.bool (decide (b≤a)),by simp[binOp,Op.intCmp],.d _ _ (.bool _)⟩
def PairEq (P:Program) (t:TypeId):Prop:=∀(a b c d:Int) (w:World),(Op.equalIn 10000 t (.agg #[.int .i64 a,.int .i64 b]) (.agg #[.int .i64 c,.int .i64 d])).run P w= .ok (decide (a=c) && decide (b=d)) w∧
 ∀(op:BinOp) (x y:Operand),(eqGuard op t x y (.agg #[.int .i64 a,.int .i64 b]) (.agg #[.int .i64 c,.int .i64 d])).run P w= .ok () w
def L9 (P:Program) (t:TypeId) (op:BinOp):AV→AV→Option (AV×Prop)
 | .d (.int a),.d (.int b)=>binI op a b
 | .d (.bool a),.d (.bool b)=>match op with
  | .eql=>some (.d (.bool (a==b)),P.underlying t=some .bool)
  | .neq=>some (.d (.bool (!(a==b))),P.underlying t=some .bool)
  |_=>none
 | .d (.str a),.d (.str b)=>match op with
  | .eql=>some (.d (.bool (decide (a=b))),True)
  | .neq=>some (.d (.bool (!(decide (a=b)))),True)
  | .add=>some (.d (.str (a++b)),a.size+b.size≤maxLen)
  |_=>none
 | .d (.num k a),.d (.num k' b)=>if k=k' then match op with
  | .eql=>some (.d (.bool (decide (a=b))),True)
  | .neq=>some (.d (.bool (!(decide (a=b)))),True)
  | .lss=>some (.d (.bool (decide (a<b))),True)
  | .leq=>some (.d (.bool (decide (a≤b))),True)
  | .gtr=>some (.d (.bool (decide (b<a))),True)
  | .geq=>some (.d (.bool (decide (b≤a))),True)
  | .add=>some (.d (.num k (a+b)),k.min≤a+b∧a+b≤k.max∧k.wrap (a+b)=a+b)
  | .sub=>some (.d (.num k (a-b)),k.min≤a-b∧a-b≤k.max∧k.wrap (a-b)=a-b)
  |_=>none else none
 | .agg [.d (.int a),.d (.int b)],.agg [.d (.int c),.d (.int d)]=>match op with
  | .eql=>some (.d (.bool (decide (a=c) && decide (b=d))),PairEq P t)
  | .neq=>some (.d (.bool (!(decide (a=c) && decide (b=d)))),PairEq P t)
  |_=>none
 |_,_=>none
theorem VR.pair {w:World} {ok:Nat→Prop} {g:Gh} {m:Me} {a b:Int} {v:Value} (h:VR w ok g m (.agg [.d (.int a),.d (.int b)]) v):v= .agg #[.int .i64 a,.int .i64 b]:=by
 obtain⟨vs,rfl,hl,h1,_⟩:=h.Qv6;simp at hl;have e0:vs[0]? =some (vs[0]'(by omega)):=Array.getElem?_eq_getElem _;have e1:vs[1]? =some (vs[1]'(by omega)):=Array.getElem?_eq_getElem _;have r0:=(h1 0 _ _ rfl e0).Zv.J7.1;have r1:=(h1 1 _ _ rfl e1).Zv.J7.1;congr 1;apply Array.ext
 ·simp;omega
 ·intro i hi _;match i,hi with
  |0,_=>simpa using r0
  |1,_=>simpa using r1
  |i+2,hi=>omega
theorem ByteArray.beq_toList (a b:ByteArray):(a.toList==b.toList)=decide (a=b):=by
 rw[ByteArray.toList_eq,ByteArray.toList_eq];by_cases h:a=b
 ·subst h;simp
 ·have:a.data.toList≠b.data.toList:=fun e=>h (by
   have:=Array.toList_inj.1 e;cases a;cases b;simpa using this)
  have h2:¬a.data=b.data:=fun e=>this (by rw[e])
  simp[h,h2]
theorem run_equalIn_bool {P:Program} {t:TypeId} (ht:P.underlying t=some .bool) (w:World) (a b:Bool) (d:Nat):(Op.equalIn (d+1) t (.bool a) (.bool b)).run P w= .ok (a==b) w:=by
 simp only[Op.equalIn,Sem.run_bind,run_underlying ht,Result.andThen_ok];rfl
theorem run_equal_bool {P:Program} {t:TypeId} (ht:P.underlying t=some .bool) (w:World) (a b:Bool):(Op.equal t (.bool a) (.bool b)).run P w= .ok (a==b) w:=run_equalIn_bool ht w a b 9999
theorem binAV_ok {P:Program} {w:World} {ok:Nat→Prop} {g:Gh} {m:Me} {op:BinOp} {t:TypeId} {x' y':AV} {c:AV} {p:Prop} (h:L9 P t op x' y'=some (c,p)) (hp:p) {a b:Value} (ha:VR w ok g m x' a) (hb:VR w ok g m y' b) (x y:Operand):
  ∃v,(do eqGuard op t x y a b;binOp op t a b).run P w= .ok v w∧VR w ok g m c v:=by
 unfold L9 at h;split at h
 ·rw[ha.Zv.J7.1,hb.Zv.J7.1];exact binI_ok h hp t t x y
 ·rename_i a' b';rw[ha.Zv.M7,hb.Zv.M7];have hg:(eqGuard op t x y (.bool a') (.bool b')).run P w= .ok () w:=by
   unfold eqGuard;cases op<;> rfl
  rw[Sem.run_bind,hg,Result.andThen_ok];split at h
  ·simp only[Option.some.injEq,Prod.mk.injEq]at h;obtain⟨rfl,rfl⟩:=h;exact⟨.bool (a'==b'),by simp only[binOp,Sem.run_bind,run_equal_bool hp,Result.andThen_ok];rfl,.d _ _ (.bool _)⟩
  ·simp only[Option.some.injEq,Prod.mk.injEq]at h;obtain⟨rfl,rfl⟩:=h;exact⟨.bool (!(a'==b')),by simp only[binOp,Sem.run_bind,run_equal_bool hp,Result.andThen_ok];rfl,.d _ _ (.bool _)⟩
  ·cases h
 ·rename_i a' b';obtain⟨rfl,hs1⟩:=ha.Zv.R9;obtain⟨rfl,hs2⟩:=hb.Zv.R9;have hg:(eqGuard op t x y (.string a') (.string b')).run P w= .ok () w:=by
   unfold eqGuard;cases op<;> rfl
  rw[Sem.run_bind,hg,Result.andThen_ok];split at h
  ·simp only[Option.some.injEq,Prod.mk.injEq]at h;obtain⟨rfl,rfl⟩:=h;exact⟨.bool (decide (a'=b')),by simp[binOp,Op.stringOp,ByteArray.beq_toList],.d _ _ (.bool _)⟩
  ·simp only[Option.some.injEq,Prod.mk.injEq]at h;obtain⟨rfl,rfl⟩:=h;exact⟨.bool (!(decide (a'=b'))),by simp[binOp,Op.stringOp,ByteArray.beq_toList],.d _ _ (.bool _)⟩
  ·simp only[Option.some.injEq,Prod.mk.injEq]at h;obtain⟨rfl,rfl⟩:=h;refine⟨.string (a'++b'),?_,.d _ _ (.str _ (by simpa using hp))⟩;simp only[binOp,Op.stringOp];rw[if_neg (by rw[maxLen_eq0]at hp;simp[IntKind.max,IntKind.signed,IntKind.bits];omega)];rfl
  ·cases h
 ·rename_i k a' k' b';split at h
  ·rename_i hk;subst hk;cases ha.Zv with
   |num _ _ l1 u1=>
   cases hb.Zv with
   |num _ _ l2 u2=>
   have hg:(eqGuard op t x y (.int k a') (.int k b')).run P w= .ok () w:=by
    unfold eqGuard;cases op<;> rfl
   rw[Sem.run_bind,hg,Result.andThen_ok];split at h<;> simp only[Option.some.injEq,Prod.mk.injEq,reduceCtorEq]at h
   all_goals obtain⟨rfl,rfl⟩:=h
   ·exact⟨.bool (decide (a'=b')),by simp[binOp,Op.intCmp,BEq.beq],.d _ _ (.bool _)⟩
   ·exact⟨.bool (!(decide (a'=b'))),by simp[binOp,Op.intCmp,bne,BEq.beq],.d _ _ (.bool _)⟩
   ·exact⟨.bool (decide (a'<b')),by simp[binOp,Op.intCmp],.d _ _ (.bool _)⟩
   ·exact⟨.bool (decide (a'≤b')),by simp[binOp,Op.intCmp],.d _ _ (.bool _)⟩
   ·exact⟨.bool (decide (b'<a')),by simp[binOp,Op.intCmp],.d _ _ (.bool _)⟩
   ·exact⟨.bool (decide (b'≤a')),by simp[binOp,Op.intCmp],.d _ _ (.bool _)⟩
   ·exact⟨.int k (a'+b'),by simp[binOp,Op.intArith,hp.2.2],.d _ _ (.num _ _ hp.1 hp.2.1)⟩
   ·exact⟨.int k (a'-b'),by simp[binOp,Op.intArith,hp.2.2],.d _ _ (.num _ _ hp.1 hp.2.1)⟩
  ·cases h
 ·rename_i a' b' c' d';rw[ha.pair,hb.pair];split at h<;> simp only[Option.some.injEq,Prod.mk.injEq,reduceCtorEq]at h
  all_goals
   obtain⟨rfl,rfl⟩:=h;obtain⟨h1,h2⟩:=hp a' b' c' d' w;rw[Sem.run_bind,h2,Result.andThen_ok]
  ·exact⟨_,by rw[run_eql_struct,h1,Result.andThen_ok],.d _ _ (.bool _)⟩
  ·exact⟨_,by rw[run_neq_struct,h1,Result.andThen_ok],.d _ _ (.bool _)⟩
 ·cases h
theorem fieldPlace_run {P:Program} {w:World} {f:Field} {b:Bool} {n:Nat} (h:U4 P f.type=some (b,n)) (hn:n≠0) (bb off:Nat):(fieldPlace ⟨bb,off,none⟩ f).run P w= .ok ⟨bb,off+f.offset,none⟩ w:=by
 simp[fieldPlace,(run_isAgg h w).2,hn,Addr.add_lit]
def Vx (m:Me) (off:Nat):AV→Option AV
 | .ptr o k=>match m o with|some (.blk _ _)=>some (.ptr o (k+off))|_=>none
 | .U2 o i j=>match m o with|some (.arr _ _ _)=>some (.U2 o i (j+off))|_=>none
 | .d (.ptr r)=>if off≤r.length then some (.d (.ptr (r.drop off)))else none
 |_=>none
theorem tyField_run {P:Program} {s:TypeId} {f off:Nat} {b:Bool} {n:Nat} (h:Xv P s f=some (off,b,n)):∃fs x,P.underlying s=some (.struct fs)∧fs[f]? =some x∧U4 P x.type=some (b,n)∧n≠0∧x.offset=off:=by
 unfold Xv at h;split at h
 ·rename_i fs hu;split at h
  ·rename_i x hx;split at h
   ·rename_i g n' hg;split at h
    ·cases h
    ·simp at h;obtain⟨rfl,rfl,rfl⟩:=h;exact⟨fs,x,hu,hx,hg,by assumption,rfl⟩
   ·cases h
  ·cases h
 ·cases h
theorem fldAddr_ok {P:Program} {C:Cx} {w:World} {ok:Nat→Prop} {g:Gh} {m:Me} (hM:MS C w ok g m) {s:TypeId} {f off n:Nat} {b:Bool} (hf:Xv P s f=some (off,b,n)) {c c':AV} (h:Vx m off c=some c') {v:Value} (hv:VR w ok g m c v):
  ∃v',(Instr.fieldAt s v f).run P w= .ok v' w∧VR w ok g m c' v':=by
 obtain⟨fs,x,hu,hx,ha,hn,rfl⟩:=tyField_run hf;have go:∀bb k,(Instr.fieldAt s (.pointer (some ⟨bb,k,none⟩)) f).run P w= .ok (.pointer (some ⟨bb,k+x.offset,none⟩)) w:=fun bb k=>by
  simp[Instr.fieldAt,run_underlying hu,hx,Instr.sureAddr,fieldPlace_run ha hn]
 unfold Vx at h;split at h
 ·rename_i o k;split at h
  ·rename_i t cs hm;simp at h;subst h;obtain⟨bb,hb,rfl⟩:=hv.ptr_inv hm;exact⟨_,go bb k,.ptr _ _ _ rfl fun x hx=>⟨bb,hb,rfl⟩⟩
  ·cases h
 ·rename_i o i j;split at h
  ·rename_i e sz rows hm;simp at h;subst h;obtain⟨bb,hb,rfl⟩:=hv.eptr_inv hm;refine⟨_,go bb _,.U2 _ _ _ _ rfl fun e' sz' rows' hx=>?_⟩;rw[hm]at hx;cases hx;exact⟨bb,hb,by rw[Nat.add_assoc]⟩
  ·cases h
 ·rename_i r;split at h
  ·rename_i hle;simp at h;subst h;have hR:=hv.Zv;cases hR with
   |ptr row bb k V hok hcell hrep=>
    refine⟨_,go bb k,.d _ _ (.ptr _ bb _ (fun j=>V (x.offset+j)) hok (fun j hj=>?_) (fun j d hd=>?_))⟩
    ·rw[Nat.add_assoc];simp at hj;exact hcell _ (by omega)
    ·rw[List.getElem?_drop]at hd;exact hrep _ d hd
  ·cases h
 ·cases h
def U1 (m:Me) (sz:Nat):AV→Int→Option (AV×Prop)
 | .d (.sl rows),n=>match rows[n.toNat]? with
  |some r=>some (.d (.ptr r),0≤n∧r.length=sz)
  |none=>none
 | .arr o lo k,n=>match m o with
  |some (.arr _ sz' _)=>if sz'=sz then some (.U2 o (lo+n.toNat) 0,0≤n∧n<k)else none
  |_=>none
 |_,_=>none
theorem idxAddr_ok {P:Program} {C:Cx} {w:World} {ok:Nat→Prop} {g:Gh} {m:Me} (hM:MS C w ok g m) {t e:TypeId} {sz:Nat} (hf:Ux P t=some (e,sz)) {c c':AV} {n:Int} {p:Prop} (h:U1 m sz c n=some (c',p)) (hp:p) {v:Value} (hv:VR w ok g m c v):
  ∃v',(Instr.indexAt t v (.int .i64 n)).run P w= .ok v' w∧VR w ok g m c' v':=by
 unfold Ux at hf;split at hf
 ·rename_i e' hu;split at hf
  ·rename_i i hi;simp at hf;obtain⟨rfl,rfl⟩:=hf;have go:∀(bb k len cap:Nat),0≤n→n<(len:Int)→(Instr.indexAt t (.slice (some ⟨bb,k,none⟩) len cap) (.int .i64 n)).run P w= .ok (.pointer (some ⟨bb,k+n.toNat * i.size,none⟩)) w:=fun bb k len cap h0 h1=>by
    simp[Instr.indexAt,asIntOf,run_underlying hu,h0,h1,sizeOf,typeInfo,hi,Addr.add_lit]
   unfold U1 at h;split at h
   ·rename_i rows;split at h
    ·rename_i r hr;simp only[Option.some.injEq,Prod.mk.injEq]at h;obtain⟨rfl,rfl⟩:=h;obtain⟨h0,hsz⟩:=hp;have hR:=hv.Zv;have hlt:n.toNat<rows.length:=(List.getElem?_eq_some_iff.1 hr).1;cases hR with
     |empty a cc ha hcc=>simp at hlt
     |sl rows size bb o cc V hne hlen hcc hsz' hok hcell hrep=>
      have:size=i.size:=(hsz' _ r hr).symm.trans hsz;subst this;refine⟨_,go bb o _ cc h0 (by omega),.d _ _ (.ptr r bb _ (fun j=>V n.toNat j) hok (fun j hj=>?_) (fun j d hd=>hrep _ j r d hr hd))⟩;rw[Nat.add_assoc];exact hcell _ _ hlt (by omega)
    ·cases h
   ·rename_i o lo k;split at h
    ·rename_i e2 sz' rows hm;split at h
     ·rename_i hsz;subst hsz;simp only[Option.some.injEq,Prod.mk.injEq]at h;obtain⟨rfl,rfl⟩:=h;obtain⟨h0,h1⟩:=hp;obtain⟨h2,h3⟩:=hv.Qv4 hm;rcases h3 with⟨_,_,_,h4⟩|⟨bb,hb,rfl⟩|⟨_,h4,_⟩
      ·omega
      ·refine⟨_,go bb _ k _ h0 h1,.U2 _ _ _ _ rfl fun e' sz' rows' hx=>?_⟩;rw[hm]at hx;cases hx;exact⟨bb,hb,by rw[Nat.add_mul,Nat.add_zero]⟩
      ·omega
     ·cases h
    ·cases h
   ·cases h
  ·cases hf
 ·cases hf
end Go.Proofs.YtjpldhjgehoffaaGreatDoor
namespace Go.Proofs.YtjpldhjgehoffaaGreatDoor
open Go.RowKit
set_option linter.unusedVariables false
def U9:AV→Option Int→Option Int→Option (AV×Prop)
 | .d (.sl rows),lo,hi=>
  let l:=lo.getD 0
  let h:=hi.getD rows.length
  some (.d (.sl ((rows.drop l.toNat).take (h.toNat-l.toNat))),0≤l∧l≤h∧h≤rows.length)
 | .arr o k n,lo,hi=>
  let l:=lo.getD 0
  let h:=hi.getD n
  some (.arr o (k+l.toNat) (h.toNat-l.toNat),0≤l∧l≤h∧h≤n)
 | .lit (.slice none 0 0),lo,hi=>some (.lit (.slice none 0 0),lo.getD 0=0∧hi.getD 0=0)
 |_,_,_=>none
def Ij (f:Operand→AV):Option Operand→Option (Option Int)
 |none=>some none
 |some x=>match f x with
  | .d (.int n)=>some (some n)
  |_=>none
def Dj (off:Nat) (b:Bool) (n:Nat):AV→Option AV
 | .agg cs=>if off+n≤cs.length then H6 b ((cs.drop off).take n)else none
 |_=>none
def J3 (P:Program) (m:Me) (f:Operand→AV):Op→Option (AV×Prop)
 | .move x=>some (f x,True)
 | .assign x=>some (f x,True)
 | .pick c a b=>match f c with
  | .d (.bool true)=>some (f a,True)
  | .d (.bool false)=>some (f b,True)
  |_=>none
 | .build t parts=>match L8 P t (parts.toList.map fun x=>(x.1,f x.2))with
  |some c=>some (c,True)
  |none=>none
 | .fieldAddr s x k=>match Xv P s k with
  |some (off,_,_)=>match Vx m off (f x)with
   |some c=>some (c,True)
   |none=>none
  |none=>none
 | .field s x k=>match Xv P s k with
  |some (off,b,n)=>match Dj off b n (f x)with
   |some c=>some (c,True)
   |none=>none
  |none=>none
 | .indexAddr t x i=>match Ux P t,f i with
  |some (_,sz),.d (.int n)=>U1 m sz (f x) n
  |_,_=>none
 | .extract x i=>match f x with
  | .tuple cs=>match cs[i]? with
   |some c=>some (c,True)
   |none=>none
  |_=>none
 | .binOp op t x y _=>L9 P t op (f x) (f y)
 | .unOp .not _ x=>match f x with
  | .d (.bool b)=>some (.d (.bool (!b)),True)
  |_=>none
 | .makeFunc (.func k) first cap=>if first.size=0 then some (.clo k (cap.toList.map f),True)else none
 | .load t x=>match U4 P t with
  |some (b,n)=>match Y1 m (f x) n with
   |some cs=>match H6 b cs with
    |some c=>some (c,True)
    |none=>none
   |none=>none
  |none=>none
 | .slice t x lo hi none=>match Ux P t,Ij f lo,Ij f hi with
  |some (_,sz),some l,some h=>match f x with
   | .d (.sl rows)=>match U9 (.d (.sl rows)) l h with
    |some (c,p)=>some (c,p∧∀(i:Nat) (r:List D),rows[i]? =some r→r.length=sz)
    |none=>none
   | .arr o k n=>match m o with
    |some (.arr _ sz' _)=>if sz'=sz then U9 (.arr o k n) l h else none
    |_=>none
   |x=>U9 x l h
  |_,_,_=>none
 | .call c=>match c.callee,c.args.toList,c.argTypes.toList with
  | .builtin .len,[x],[t]=>match P.underlying t with
   |some (.slice _)=>match f x with
    | .d (.sl rows)=>some (.d (.int rows.length),True)
    | .arr o _ n=>match m o with
     |some (.arr _ _ _)=>some (.d (.int n),True)
     |_=>none
    | .lit (.slice none 0 0)=>some (.d (.int 0),True)
    |_=>none
   |some .string=>match f x with
    | .d (.str s)=>some (.d (.int s.size),True)
    |_=>none
   |_=>none
  |_,_,_=>none
 |_=>none
theorem maxLen_eq:maxLen=9223372036854775807:=rfl
section
variable {P:Program} {C:Cx} {w:World} {ok:Nat→Prop} {g:Gh} {m:Me}
theorem run_sliceBounds (P:Program) (w:World) (len cap:Nat) (lo hi:Option Int) (h0:0≤lo.getD 0) (h1:lo.getD 0≤hi.getD len) (h2:hi.getD len≤cap):
  (Instr.sliceBounds true len cap (lo.map (Value.int .i64)) (hi.map (Value.int .i64)) none).run P w= .ok ((lo.getD 0).toNat,(hi.getD len).toNat,cap) w:=by
 have sb:∀(n:Int) (y:Nat) (code:BoundsCode),0≤n→n≤(y:Int)→(Instr.sliceBound (.int .i64 n) y code).run P w= .ok n.toNat w:=fun n y code a b=>by
  unfold Instr.sliceBound;simp only[asIntOf,Sem.run_bind,Sem.run_pure,Result.andThen_ok];rw[if_pos ⟨a,b⟩];rfl
 rcases lo with _|l<;> rcases hi with _|h<;> simp only[Option.getD_none,Option.getD_some,Option.map_none,Option.map_some]at * <;> simp only[Instr.sliceBounds,Sem.run_bind,Sem.run_pure,Result.andThen_ok,Option.isSome_none]
 ·simp
 ·rw[sb h cap _ (by omega) (by omega)];simp
 ·have:=sb l len (if False then .slice3C else .sliceB) (by omega) (by omega);simp at this;simp[this]
 ·rw[sb h cap _ (by omega) (by omega)];have:=sb l h.toNat .sliceB (by omega) (by omega);simp[this]
theorem sliceAV_ok (hM:MS C w ok g m) {t e:TypeId} (hu:P.underlying t=some (.slice e)) {sz:Nat} (hsz:(sizeOf e).run P w= .ok sz w) {c c':AV} {lo hi:Option Int} {p:Prop} (h:U9 c lo hi=some (c',p)) (hp:p) {v:Value} (hv:VR w ok g m c v)
  (hms:∀o k n,c= .arr o k n→∃e rows,m o=some (.arr e sz rows)) (hrs:∀rows,c= .d (.sl rows)→∀(i:Nat) (r:List D),rows[i]? =some r→r.length=sz):
  ∃v',(Instr.sliceAt t v (lo.map (Value.int .i64)) (hi.map (Value.int .i64)) none).run P w= .ok v' w∧VR w ok g m c' v':=by
 have go:∀(a:Option Addr) (len cap:Nat),0≤lo.getD 0→lo.getD 0≤hi.getD len→hi.getD len≤cap→(Instr.sliceAt t (.slice a len cap) (lo.map (Value.int .i64)) (hi.map (Value.int .i64)) none).run P w=
   .ok (.slice (if cap=(lo.getD 0).toNat then a else a.map (·.add ((lo.getD 0).toNat * sz))) ((hi.getD len).toNat-(lo.getD 0).toNat) (cap-(lo.getD 0).toNat)) w:=fun a len cap h0 h1 h2=>by
  simp[Instr.sliceAt,Instr.slice,run_underlying hu,run_sliceBounds P w len cap lo hi h0 h1 h2,hsz]
 unfold U9 at h;split at h
 ·rename_i rows;simp only[Option.some.injEq,Prod.mk.injEq]at h;obtain⟨rfl,rfl⟩:=h;obtain⟨h0,h1,h2⟩:=hp;have hR:=hv.Zv;cases hR with
  |empty a cc ha hcc=>
   simp at h0 h1 h2;have hl:lo.getD 0=0:=by omega
   have hh:hi.getD 0=0:=by omega
   refine⟨_,go a 0 cc (by omega) (by simp;omega) (by simp;omega),?_⟩;rw[hl];simp[hh];refine .d _ _ (.empty _ cc ?_ hcc);intro ha';split at ha'
   ·exact ha ha'
   ·exact ha (by simpa using ha')
  |sl rows size b o cc V hne hlen hcc hsz' hok hcell hrep=>
   refine⟨_,go _ rows.length cc (by omega) (by omega) (by omega),?_⟩;generalize hl:lo.getD 0=l at *;generalize hh:hi.getD (rows.length:Int)=h at *;have hlen':((rows.drop l.toNat).take (h.toNat-l.toNat)).length=h.toNat-l.toNat:=by simp;omega
   rcases Nat.eq_zero_or_pos (h.toNat-l.toNat)with hz|hz
   ·rw[hz,List.take_zero];refine .d _ _ (.empty _ _ ?_ (by omega));split<;> simp
   ·have hc0:¬cc=l.toNat:=by omega
    rw[if_neg hc0];have hsize:size=sz:=by
     rcases rows with _|⟨r,rs⟩
     ·exact absurd rfl hne
     ·exact(hsz' 0 r rfl).symm.trans (hrs _ rfl 0 r rfl)
    subst hsize;have hx:=Rep.sl (w:=w) (ok:=ok) ((rows.drop l.toNat).take (h.toNat-l.toNat)) size b (o+l.toNat * size) (cc-l.toNat) (fun i j=>V (l.toNat+i) j) (fun e=>by rw[e]at hlen';simp at hlen';omega)
     (by rw[hlen'];omega) (by omega) (fun i r hr=>?_) hok (fun i j hi hj=>?_) (fun i j r d hr hd=>?_)
    ·rw[hlen']at hx;simpa[Addr.add_lit]using VR.d _ _ hx
    ·rw[List.getElem?_take]at hr;split at hr
     ·rw[List.getElem?_drop]at hr;exact hsz' _ r hr
     ·cases hr
    ·rw[hlen']at hi;have:=hcell (l.toNat+i) j (by omega) hj;rw[←this,Nat.add_mul];congr 2;omega
    ·rw[List.getElem?_take]at hr;split at hr
     ·rw[List.getElem?_drop]at hr;exact hrep _ j r d hr hd
     ·cases hr
 ·rename_i o k n;simp only[Option.some.injEq,Prod.mk.injEq]at h;obtain⟨rfl,rfl⟩:=h;obtain⟨h0,h1,h2⟩:=hp;obtain⟨e,rows,hm⟩:=hms o k n rfl;obtain⟨h3,h4⟩:=hv.Qv4 hm;have hO:=hM.obj o _ hm;rcases h4 with⟨hb,rfl,rfl,rfl⟩|⟨b,hb,rfl⟩|⟨hk,rfl,a,cc,rfl,hcc,hac⟩
  ·simp at h0 h1 h2;have hl:lo.getD 0=0:=by omega
   have hh:hi.getD 0=0:=by omega
   refine⟨_,go none 0 0 (by omega) (by simp;omega) (by simp;omega),?_⟩;rw[hl];simp[hh];refine .arr _ _ _ _ rfl fun e' sz' rows' hx=>?_
   rw[hm]at hx;cases hx;exact⟨by simp,.inl ⟨hb,rfl,rfl,rfl⟩⟩
  ·obtain⟨hs0,hs1,hs2⟩:=hO;rcases hs2 with⟨hs2,_⟩|⟨b',cur,hs2,hs3,hs4,hs5,_⟩
   ·rw[hb]at hs2;cases hs2
   ·refine⟨_,go _ n (g.cp o-k) (by omega) (by omega) (by omega),?_⟩;generalize hl:lo.getD 0=l at *;generalize hh:hi.getD (n:Int)=h at *;refine .arr _ _ _ _ (by rfl) fun e' sz' rows' hx=>?_
    rw[hm]at hx;cases hx;refine⟨by omega,?_⟩;by_cases hc0:g.cp o-k=l.toNat
    ·rw[if_pos hc0];rcases Nat.eq_zero_or_pos (k+l.toNat)with hz|hz
     ·right;left;refine⟨b,hb,?_⟩;have hk0:k=0:=by omega
      have hl0:l.toNat=0:=by omega
      subst hk0;rw[hl0];simp
     ·right;right;have hn0:h.toNat-l.toNat=0:=by omega
      refine⟨hz,hn0,_,_,by rw[hn0],by omega,by simp⟩
    ·rw[if_neg hc0];right;left;refine⟨b,hb,?_⟩;simp[Addr.add_lit,Nat.add_mul];omega
  ·simp at h0 h1 h2;have hl:lo.getD 0=0:=by omega
   have hh:hi.getD 0=0:=by omega
   refine⟨_,go a 0 cc (by omega) (by simp;omega) (by simp;omega),?_⟩;rw[hl];simp[hh];refine .arr _ _ _ _ (by rfl) fun e' sz' rows' hx=>?_
   rw[hm]at hx;cases hx;refine⟨by simpa using h3,.inr (.inr ⟨hk,rfl,_,cc,rfl,hcc,?_⟩)⟩;intro ha';split at ha'
   ·exact hac ha'
   ·exact hac (by simpa using ha')
 ·simp only[Option.some.injEq,Prod.mk.injEq]at h;obtain⟨rfl,rfl⟩:=h;obtain⟨hl,hh⟩:=hp;obtain⟨rfl,_⟩:=hv.Wv;refine⟨_,go none 0 0 (by omega) (by simp;omega) (by simp;omega),?_⟩;rw[hl];simp[hh];exact .lit _ rfl
 ·cases h
end
end Go.Proofs.YtjpldhjgehoffaaGreatDoor
namespace Go.Proofs.YtjpldhjgehoffaaGreatDoor
open Go.RowKit
set_option linter.unusedVariables false
theorem Bw {P:Program} {t e:TypeId} {sz:Nat} (h:Ux P t=some (e,sz)):P.underlying t=some (.slice e)∧∃i,P.info? e=some i∧i.size=sz:=by
 unfold Ux at h;split at h
 ·rename_i e' hu;split at h
  ·rename_i i hi;simp at h;obtain⟨rfl,rfl⟩:=h;exact⟨hu,i,hi,rfl⟩
  ·cases h
 ·cases h
section
variable {P:Program} {C:Cx} {w:World} {ok:Nat→Prop} {g:Gh} {m:Me}
theorem VR.map {f:Operand→AV} {ρ:Operand→Value} (hf:∀x,VR w ok g m (f x) (ρ x)) (l:Array Operand):(l.toList.map f).length=(l.map ρ).size∧∀(i:Nat) (c:AV) (v:Value),(l.toList.map f)[i]? =some c→(l.map ρ)[i]? =some v→VR w ok g m c v:=by
 refine⟨by simp,fun i c v hc hv=>?_⟩;rw[List.getElem?_map]at hc;rw[Array.getElem?_map]at hv;obtain⟨x,hx,rfl⟩:=Option.map_eq_some_iff.1 hc;obtain⟨y,hy,rfl⟩:=Option.map_eq_some_iff.1 hv;rw[Array.getElem?_toList,hy]at hx;obtain rfl:=Option.some.inj hx;exact hf y
theorem optI_ok {f:Operand→AV} {ρ:Operand→Value} (hf:∀x,VR w ok g m (f x) (ρ x)) {x:Option Operand} {n:Option Int} (h:Ij f x=some n):x.map ρ=n.map (Value.int .i64):=by
 unfold Ij at h;split at h
 ·simp at h;subst h;rfl
 ·rename_i y;split at h
  ·rename_i k hk;simp at h;subst h;have:=hf y;rw[hk]at this;simp[this.Zv.J7.1]
  ·cases h
theorem partAV_ok {s:TypeId} {k off n:Nat} {b:Bool} (hf:Xv P s k=some (off,b,n)) {c c':AV} (h:Dj off b n c=some c') {v:Value} (hv:VR w ok g m c v):
  ∃v',(Instr.field s v k).run P w= .ok v' w∧VR w ok g m c' v':=by
 obtain⟨fs,x,hu,hx,ha,hn,rfl⟩:=tyField_run hf;unfold Dj at h;split at h
 ·rename_i cs;split at h
  ·rename_i hle;obtain⟨vs,rfl,hl,h1,h2⟩:=hv.Qv6;have hvs:VRs w ok g m cs vs.toList:=⟨by simpa using hl,fun i c v hc hv=>h1 i c v hc (by simpa using hv),fun v hv=>by
    obtain⟨i,hi⟩:=List.mem_iff_getElem?.1 hv;exact h2 i v (by simpa using hi)⟩
   obtain⟨k1,k2⟩:=mkVal_ok h (hvs.seg x.offset n);obtain⟨r1,r2⟩:=run_isAgg ha w;cases b
   ·obtain⟨v,hv',hr⟩:=k2 rfl;have hat:vs[x.offset]? =some v:=by
     have h0:((vs.toList.drop x.offset).take n)[0]? =some v:=by rw[hv'];rfl
     rw[List.getElem?_take]at h0;split at h0
     ·simpa using h0
     ·cases h0
    refine⟨v,?_,hr⟩;simp[Instr.field,run_underlying hu,hx,asAgg,part,r1,hat]
   ·refine⟨_,?_,k1 rfl⟩;simp only[Instr.field,Sem.run_bind,run_underlying hu,Result.andThen_ok,hx,asAgg,Sem.run_pure,part,r1,r2,if_true,Result.ok.injEq,and_true];congr 1;apply Array.ext';simp[List.take_drop,Nat.add_comm]
  ·cases h
 ·cases h
theorem pureOp_ok (hM:MS C w ok g m) {f:Operand→AV} {ρ:Operand→Value} (hf:∀x,VR w ok g m (f x) (ρ x)) {o:Oper} {c:AV} {p:Prop} (h:J3 P m f o.op=some (c,p)) (hp:p):
  ∃v,(execOp ρ o).run P w= .ok (.value v) w∧VR w ok g m c v:=by
 have val:∀{s:Sem Value} {v:Value},s.run P w= .ok v w→(do pure (Next.value (←s)):Sem Next).run P w= .ok (.value v) w:=fun {s v} hs=>by simp[hs]
 obtain⟨dst,op,ty,pos,after,guard⟩:=o;dsimp only at h;unfold J3 at h;split at h
 ·rename_i x;simp only[Option.some.injEq,Prod.mk.injEq]at h;obtain⟨rfl,_⟩:=h;exact⟨ρ x,rfl,hf x⟩
 ·rename_i x;simp only[Option.some.injEq,Prod.mk.injEq]at h;obtain⟨rfl,_⟩:=h;exact⟨ρ x,rfl,hf x⟩
 ·rename_i x y z;have hx:=hf x;split at h
  ·rename_i e;rw[e]at hx;have:=hx.Zv.M7;simp only[Option.some.injEq,Prod.mk.injEq]at h;obtain⟨rfl,_⟩:=h;exact⟨ρ y,by simp[execOp,this,asBool],hf y⟩
  ·rename_i e;rw[e]at hx;have:=hx.Zv.M7;simp only[Option.some.injEq,Prod.mk.injEq]at h;obtain⟨rfl,_⟩:=h;exact⟨ρ z,by simp[execOp,this,asBool],hf z⟩
  ·cases h
 ·rename_i t parts;split at h
  ·rename_i c' hc;simp only[Option.some.injEq,Prod.mk.injEq]at h;obtain⟨rfl,_⟩:=h;obtain⟨v,hv,hr⟩:=bldAV_ok (w:=w) (ok:=ok) (g:=g) (m:=m) (ps:=parts.map fun(i,x)=>(i,ρ x)) hc (by simp) (fun i p q hpi hqi=>by
    rw[List.getElem?_map]at hpi;rw[Array.getElem?_map]at hqi;obtain⟨a,ha,rfl⟩:=Option.map_eq_some_iff.1 hpi;obtain⟨b,hb,rfl⟩:=Option.map_eq_some_iff.1 hqi;rw[Array.getElem?_toList,hb]at ha;obtain rfl:=Option.some.inj ha;exact⟨rfl,hf _⟩)
   exact⟨v,val hv,hr⟩
  ·cases h
 ·rename_i s x k;split at h
  ·rename_i off b n hty;split at h
   ·rename_i c' hc;simp only[Option.some.injEq,Prod.mk.injEq]at h;obtain⟨rfl,_⟩:=h;obtain⟨v,hv,hr⟩:=fldAddr_ok hM hty hc (hf x);exact⟨v,val hv,hr⟩
   ·cases h
  ·cases h
 ·rename_i s x k;split at h
  ·rename_i off b n hty;split at h
   ·rename_i c' hc;simp only[Option.some.injEq,Prod.mk.injEq]at h;obtain⟨rfl,_⟩:=h;obtain⟨v,hv,hr⟩:=partAV_ok hty hc (hf x);exact⟨v,val hv,hr⟩
   ·cases h
  ·cases h
 ·rename_i t x i;split at h
  ·rename_i e sz n hty hi;have hi':=hf i;rw[hi]at hi';have hi2:=hi'.Zv.J7.1;obtain⟨v,hv,hr⟩:=idxAddr_ok hM hty h hp (hf x);exact⟨v,val (by rw[hi2];exact hv),hr⟩
  ·cases h
 ·rename_i x i;have hx:=hf x;split at h
  ·rename_i cs e;rw[e]at hx;obtain⟨vs,hvs,hl,h1⟩:=hx.tuple_inv;split at h
   ·rename_i c' hc;simp only[Option.some.injEq,Prod.mk.injEq]at h;obtain⟨rfl,_⟩:=h;have hlt:i<vs.size:=by have:=(List.getElem?_eq_some_iff.1 hc).1;omega
    refine⟨vs[i],val (by simp[Instr.extract,hvs,hlt]),h1 i _ _ hc (Array.getElem?_eq_getElem hlt)⟩
   ·cases h
  ·cases h
 ·rename_i op t x y t2;have hx:=hf x;have hy:=hf y;obtain⟨v,hv,hr⟩:=binAV_ok (P:=P) (w:=w) (ok:=ok) (g:=g) (m:=m) h hp hx hy x y;exact⟨v,val hv,hr⟩
 ·rename_i t x;have hx:=hf x;split at h
  ·rename_i b e;rw[e]at hx;simp only[Option.some.injEq,Prod.mk.injEq]at h;obtain⟨rfl,_⟩:=h;exact⟨.bool (!b),val (by rw[hx.Zv.M7];rfl),.d _ _ (.bool _)⟩
  ·cases h
 ·rename_i k first cap;split at h
  ·rename_i h0;simp only[Option.some.injEq,Prod.mk.injEq]at h;obtain⟨rfl,_⟩:=h;have hfirst:first= #[]:=Array.eq_empty_of_size_eq_zero h0;subst hfirst;obtain⟨hl,h1⟩:=VR.map hf cap;exact⟨.func (.func k) #[] (cap.map ρ),val (by simp[Instr.makeFunc]),.clo _ _ _ hl h1⟩
  ·cases h
 ·rename_i t x;split at h
  ·rename_i b n hty;split at h
   ·rename_i cs hcs;split at h
    ·rename_i c' hc;simp only[Option.some.injEq,Prod.mk.injEq]at h;obtain⟨rfl,_⟩:=h;obtain⟨bb,off,vs,hv,hl,hcell,hvs⟩:=hM.rd (hf x) hcs;obtain⟨k1,k2⟩:=mkVal_ok hc hvs;obtain⟨l1,l2⟩:=run_loadVar_at (P:=P) hty hl hcell;cases b
     ·obtain⟨v,hv1,hr⟩:=k2 rfl;exact⟨v,val (by simp only[Instr.loadAt,hv,Instr.sureAddr,Sem.run_bind,Sem.run_pure,Result.andThen_ok];exact l2 rfl v hv1),hr⟩
     ·exact⟨_,val (by simp only[Instr.loadAt,hv,Instr.sureAddr,Sem.run_bind,Sem.run_pure,Result.andThen_ok];exact l1 rfl),k1 rfl⟩
    ·cases h
   ·cases h
  ·cases h
 ·rename_i t x lo hi;split at h
  ·rename_i e sz l hh hty hl hh';obtain⟨hu,i,hi2,rfl⟩:=Bw hty;have hsz:(sizeOf e).run P w= .ok i.size w:=by simp[sizeOf,typeInfo,hi2]
   have hx:=hf x;have e1:=optI_ok hf hl;have e2:=optI_ok hf hh';split at h
   ·rename_i rows ex;rw[ex]at hx;split at h
    ·rename_i c' p' hs;simp only[Option.some.injEq,Prod.mk.injEq]at h;obtain⟨rfl,rfl⟩:=h;obtain⟨v,hv,hr⟩:=sliceAV_ok hM hu hsz hs hp.1 hx (fun o k n e=>by cases e) (fun rows' e=>by cases e;exact hp.2);exact⟨v,val (by rw[e1,e2];exact hv),hr⟩
    ·cases h
   ·rename_i o k n ex;rw[ex]at hx;split at h
    ·rename_i e' sz' rows hm;split at h
     ·rename_i hse;obtain⟨v,hv,hr⟩:=sliceAV_ok hM hu hsz h hp hx (fun o k n e=>by cases e;exact⟨_,_,by rw[←hse];exact hm⟩) (fun rows' e=>by cases e);exact⟨v,val (by rw[e1,e2];exact hv),hr⟩
     ·cases h
    ·cases h
   ·rename_i n1 n2;obtain⟨v,hv,hr⟩:=sliceAV_ok hM hu hsz h hp hx (fun o k n e=>absurd e (n2 o k n)) (fun rows' e=>absurd e (n1 rows'));exact⟨v,val (by rw[e1,e2];exact hv),hr⟩
  ·cases h
 ·rename_i c';obtain⟨callee,args,argTypes⟩:=c';split at h
  ·rename_i x t hcal hargs htys;dsimp only at hcal hargs htys;subst hcal;have ha:args= #[x]:=by rw[←Array.toArray_toList (xs:=args),hargs]
   have hty:argTypes= #[t]:=by rw[←Array.toArray_toList (xs:=argTypes),htys]
   subst ha hty;have hx:=hf x;have go:∀k:Int,(Builtin.len_ #[t] ty #[ρ x]).run P w= .ok (.int .i64 k) w→(execOp ρ ⟨dst,.call ⟨.builtin .len,#[x],#[t]⟩,ty,pos,after,guard⟩).run P w= .ok (.value (.int .i64 k)) w:=fun k hk=>by
    simp[execOp,resolve,invoke,builtin,hk]
   split at h
   ·rename_i e hu;split at h
    ·rename_i rows ex;rw[ex]at hx;simp only[Option.some.injEq,Prod.mk.injEq]at h;obtain⟨rfl,_⟩:=h;obtain⟨a,cc,hv,hle,hcm,_⟩:=hx.Zv.sl_inv;exact⟨_,go rows.length (by simp[Builtin.len_,run_underlying hu,hv,goInt]),.d _ _ (.int _ (by omega) (by rw[maxLen_eq]at hcm;omega))⟩
    ·rename_i o k n ex;rw[ex]at hx;split at h
     ·rename_i e' sz rows hm;simp only[Option.some.injEq,Prod.mk.injEq]at h;obtain⟨rfl,_⟩:=h;obtain⟨h1,h2⟩:=hx.Qv4 hm;have hO:=hM.obj o _ hm;have hn:n≤maxLen:=by
       rcases hO.2.2 with⟨_,h3⟩|⟨_,_,_,_,h3,h4,_⟩
       ·rw[h3]at h1;simp at h1;omega
       ·omega
      have hv:∃a cc,ρ x= .slice a n cc:=by
       rcases h2 with⟨_,h3,_,h4⟩|⟨b,_,h3⟩|⟨_,h4,a,cc,h3,_⟩
       ·exact⟨none,0,by rw[h4];exact h3⟩
       ·exact⟨_,_,h3⟩
       ·exact⟨a,cc,by rw[h4];exact h3⟩
      obtain⟨a,cc,hv⟩:=hv;exact⟨_,go n (by simp[Builtin.len_,run_underlying hu,hv,goInt]),.d _ _ (.int _ (by omega) (by rw[maxLen_eq]at hn;omega))⟩
     ·cases h
    ·rename_i ex;rw[ex]at hx;simp only[Option.some.injEq,Prod.mk.injEq]at h;obtain⟨rfl,_⟩:=h;exact⟨_,go 0 (by simp[Builtin.len_,run_underlying hu,hx.Wv.1,goInt]),.d _ _ (.int _ (by omega) (by omega))⟩
    ·cases h
   ·rename_i hu;split at h
    ·rename_i s ex;rw[ex]at hx;simp only[Option.some.injEq,Prod.mk.injEq]at h;obtain⟨rfl,_⟩:=h;obtain⟨hv,hs⟩:=hx.Zv.R9;exact⟨_,go s.size (by simp[Builtin.len_,run_underlying hu,hv,goInt]),.d _ _ (.int _ (by omega) (by rw[maxLen_eq]at hs;omega))⟩
    ·cases h
   ·cases h
  ·cases h
 ·cases h
end
end Go.Proofs.YtjpldhjgehoffaaGreatDoor
namespace Go.Proofs.YtjpldhjgehoffaaGreatDoor
open Go.RowKit
set_option linter.unusedVariables false
section
variable {P:Program} {C:Cx} {w:World} {ok:Nat→Prop} {g:Gh} {m:Me}
theorem Kw (d i:Nat):Z5 [d] i=(d==i):=by simp[Z5]
theorem Z9 (d:Nat) (x:Option Qz) (i:Nat):Jw [(d,x)] i=(d==i):=by simp[Jw]
theorem MS.new (hM:MS C w ok g m) (d:Nat) (hd:kept d=false) (t:TypeId) (vs:Array Value) (x:Qz) (cp:Nat)
  (hx : match x with
   | .blk t' cs=>t'=t∧VRs w ok g m cs vs.toList∧AV.K6 (Z5 [d]) cs=false
   | .arr e sz rows=>e=t∧0<sz∧(∀(i:Nat) (r:List D),rows[i]? =some r→r.length=sz)∧rows.length≤cp∧cp≤maxLen∧vs.size=cp * sz∧
     ∀(i j:Nat) (r:List D) (c:D) (v:Value),rows[i]? =some r→r[j]? =some c→vs[i * sz+j]? =some v→Rep w ok c v
   | .map _ _ _ _=>False
   | .raw _=>False):
  ∃g',g'.bl d=some w.heap.size∧g'.cp d=cp∧MS C (w.alloc (.cells vs t)) ok g' (X5 m (Jw [(d,some x)]) (Z5 [d]) (Q4 [(d,some x)]))∧
   ∀c v,c.has (Z5 [d])=false→VR w ok g m c v→VR (w.alloc (.cells vs t)) ok g' (X5 m (Jw [(d,some x)]) (Z5 [d]) (Q4 [(d,some x)])) c v:=by
 have hcell:∀p:Addr,ok p.block→(w.alloc (.cells vs t)).cell? p=w.cell? p:=fun p hp=>World.cell?_alloc_lt w _ p (hM.okb _ hp).1
 refine⟨⟨fun i=>if d==i then some w.heap.size else g.bl i,fun i=>if d==i then cp else g.cp i⟩,by simp,by simp,?_⟩;have hm:∀o x',Z5 [d] o=false→(X5 m (Jw [(d,some x)]) (Z5 [d]) (Q4 [(d,some x)])) o=some x'→∃x,m o=some x∧x.like x'∧(if d==o then some w.heap.size else g.bl o)=g.bl o∧(if d==o then cp else g.cp o)=g.cp o:=by
  intro o x' ho hx';rw[Kw]at ho;simp only[X5,Z9,ho]at hx';obtain⟨x,hx,rfl⟩:=Option.map_eq_some_iff.1 hx';exact⟨x,hx,Qz.kill_like _ x,by simp[ho],by simp[ho]⟩
 refine MS.eff hM _ _ _ ?_ ?_ ?_ ?_ ?_ ?_ ?_ ?_ ?_ ?_ ?_ ?_ rfl rfl rfl
 ·intro i hi;rwa [Kw,←Z9 d (some x)]at hi
 ·intro i x' hU hN;rw[Z9]at hU;have hdi:d=i:=by simpa using hU
  subst hdi;simp[Q4]at hN;subst hN;cases x with
  |blk t' cs=>
   obtain⟨rfl,h1,h2⟩:=hx;exact⟨w.heap.size,vs,by simp,heap_alloc_new w _,h1.mono _ h2 hcell (fun _ h=>h) hm⟩
  |arr e sz rows=>
   obtain⟨rfl,h1,h2,h3,h4,h5,h6⟩:=hx;exact⟨h1,h2,.inr ⟨w.heap.size,vs,by simp,heap_alloc_new w _,by simpa using h3,by simpa using h4,by simpa using h5,fun i j r c v a b e=>(h6 i j r c v a b e).keep hcell⟩⟩
  |map ks ag n ents=>exact hx.elim
  |raw r=>exact hx.elim
 ·intro i hi;rw[Kw]at hi;simp[hi]
 ·intro i x' hU hq;rw[Z9]at hU;rw[Kw]at hq;rw[hU]at hq;cases hq
 ·intro i y b hU hy hb;exact Below.heap_alloc w _ b (hM.own i y b hy hb).2.1
 ·intro b hb;exact Below.heap_alloc w _ b (hM.okb b hb).1
 ·exact fun b hb=>hb
 ·exact fun b hb=>.inl hb
 ·intro i y b hU hN hb;rw[Z9]at hU;simp only[hU,if_true,Option.some.injEq]at hb;subst hb;refine⟨fun h=>by have:=(hM.okb _ h).1;omega,by simp,.inl hM.size,fun j xj hUj hj hb=>?_,fun j xj hUj _ _=>?_⟩
  ·have:=(hM.own j xj _ hj hb).2.1;omega
  ·rw[Z9]at hUj;have e1:d=i:=by simpa using hU
   have e2:d=j:=by simpa using hUj
   rw[←e1,←e2]
 ·intro i hi;rw[Kw]at hi;have e1:d=i:=by simpa using hi
  rw[←e1];exact hd
 ·simp
 ·intro b hb _;exact Below.heap_alloc w _ b (by have:=hM.size;omega)
theorem MS.put (hM:MS C w ok g m) (o:Nat) {b:Nat} (hb:g.bl o=some b) {x x':Qz} (hx:m o=some x) (hl:x.like x') (cs:Array Value) (hx':OR (w.setRow b cs) ok g m o x'):
  MS C (w.setRow b cs) ok g (X5 m (Jw [(o,some x')]) (Z5 []) (Q4 [(o,some x')]))∧
   ∀c v,c.has (Z5 [])=false→VR w ok g m c v→VR (w.setRow b cs) ok g (X5 m (Jw [(o,some x')]) (Z5 []) (Q4 [(o,some x')])) c v:=by
 have hown:=hM.own o x b hx hb;have hq:∀i,Z5 [] i=false:=fun _=>rfl
 have hm:∀i y',(X5 m (Jw [(o,some x')]) (Z5 []) (Q4 [(o,some x')])) i=some y'→∃y,m i=some y∧y.like y':=by
  intro i y' hy';simp only[X5,Z9]at hy';split at hy'
  ·rename_i h;have e:o=i:=by simpa using h
   subst e;simp[Q4]at hy';subst hy';exact⟨x,hx,hl⟩
  ·obtain⟨y,hy,rfl⟩:=Option.map_eq_some_iff.1 hy';exact⟨y,hy,Qz.kill_like _ y⟩
 refine MS.eff hM _ _ _ ?_ ?_ ?_ ?_ ?_ ?_ ?_ ?_ ?_ ?_ ?_ ?_ rfl rfl rfl
 ·intro i hi;rw[hq i]at hi;cases hi
 ·intro i y' hU hN;rw[Z9]at hU;have e:o=i:=by simpa using hU
  subst e;simp[Q4]at hN;subst hN;have hk:∀p:Addr,ok p.block→(w.setRow b cs).cell? p=(w.setRow b cs).cell? p:=fun _ _=>rfl
  refine OR.mono hx' (fun _=>false) ?_ (fun b h=>rfl) rfl rfl hk (fun _ h=>h) (fun i y' _ hy'=>?_)
  ·cases x' with
   |blk t cs=>
    have:∀l:List AV,AV.K6 (fun _=>false) l=false:=fun l=>by
     induction l with
     |nil=>rfl
     |cons c r ih=>simp only[AV.K6,ih,AV.V3 (fun _=>rfl) c,Bool.or_self]
    exact this cs
   |arr e sz rows=>trivial
   |map ks ag n ents=>trivial
   |raw r=>trivial
  ·obtain⟨y,hy,hl⟩:=hm i y' hy';exact⟨y,hy,hl,rfl,rfl⟩
 ·exact fun i _=>⟨rfl,rfl⟩
 ·intro i y' hU _ hN;rw[Z9]at hU;have e:o=i:=by simpa using hU
  subst e;simp[Q4]at hN;subst hN;exact⟨x,hx,hl⟩
 ·intro i y b' hU hy hb';refine setRow_other w b b' cs fun e=>?_
  subst e;rw[Z9]at hU;exact absurd (hM.inj i o y x b' hy hx hb' hb) (fun e=>by subst e;simp at hU)
 ·intro b' hb';exact setRow_other w b b' cs fun e=>by subst e;exact hown.1 hb'
 ·exact fun _ h=>h
 ·exact fun _ h=>.inl h
 ·intro i y b' hU hN hb';rw[Z9]at hU;have e:o=i:=by simpa using hU
  subst e;rw[hb]at hb';obtain rfl:=Option.some.inj hb';refine⟨hown.1,by simpa[World.setRow]using hown.2.1,hown.2.2,fun j xj hUj hj hbj=>?_,fun j xj hUj _ _=>by rw[Z9]at hUj;simpa using hUj⟩;rw[Z9]at hUj;exact absurd (hM.inj j o xj x b hj hx hbj hb) (fun e=>by subst e;simp at hUj)
 ·intro i hi;rw[hq i]at hi;cases hi
 ·simp[World.setRow]
 ·intro b' hb' hT;refine setRow_other w b b' cs fun e=>?_
  subst e;rcases hown.2.2 with h|h
  ·omega
  ·exact hT h.1
def toD1:AV→Option D
 | .d d=>some d
 | .lit (.slice none 0 0)=>some (.sl [])
 |_=>none
def Sw:List AV→Option (List D)
 |[]=>some []
 |c::cs=>match toD1 c,Sw cs with
  |some d,some ds=>some (d::ds)
  |_,_=>none
theorem toD1_ok {c:AV} {d:D} (h:toD1 c=some d) {v:Value} (hv:VR w ok g m c v):Rep w ok d v:=by
 unfold toD1 at h;split at h
 ·simp at h;subst h;exact hv.Zv
 ·simp at h;subst h;rw[hv.Wv.1];exact .empty none 0 (fun _=>rfl) (Nat.zero_le _)
 ·cases h
theorem toDs_ok {cs:List AV} {ds:List D} (h:Sw cs=some ds):cs.length=ds.length∧∀(i:Nat) (c:AV) (d:D),cs[i]? =some c→ds[i]? =some d→toD1 c=some d:=by
 induction cs generalizing ds with
 |nil=>simp[Sw]at h;subst h;simp
 |cons c cs ih=>
  unfold Sw at h;split at h
  ·rename_i d ds' h1 h2;simp at h;subst h;obtain⟨k1,k2⟩:=ih h2;refine⟨by simpa using k1,fun i c d hc hd=>?_⟩;rcases i with _|i
   ·simp at hc hd;subst hc hd;exact h1
   ·exact k2 i c d hc hd
  ·cases h
def Y3 (m:Me) (p:AV) (cs:List AV):Option (Nat×Qz):=
 match p with
 | .ptr o off=>match m o with
  |some (.blk t old)=>if off+cs.length≤old.length then some (o,.blk t (setAt old off cs))else none
  |_=>none
 | .U2 o i j=>match m o with
  |some (.arr e sz rows)=>match rows[i]?,Sw cs with
   |some r,some ds=>if j+ds.length≤r.length then some (o,.arr e sz (rows.set i (setAt r j ds)))else none
   |_,_=>none
  |_=>none
 |_=>none
theorem MS.wr (hM:MS C w ok g m) {p:AV} {cs:List AV} {o:Nat} {x':Qz} (h:Y3 m p cs=some (o,x')) {v:Value} (hp:VR w ok g m p v) {vs:List Value} (hvs:VRs w ok g m cs vs):
  ∃b off w',v= .pointer (some ⟨b,off,none⟩)∧(storeCells ⟨b,off,none⟩ vs).run P w= .ok () w'∧
   MS C w' ok g (X5 m (Jw [(o,some x')]) (Z5 []) (Q4 [(o,some x')]))∧∀c v,c.has (Z5 [])=false→VR w ok g m c v→VR w' ok g (X5 m (Jw [(o,some x')]) (Z5 []) (Q4 [(o,some x')])) c v:=by
 have hqL:∀l:List AV,AV.K6 (fun _=>false) l=false:=fun l=>by
  induction l with
  |nil=>rfl
  |cons c r ih=>simp only[AV.K6,ih,AV.V3 (fun _=>rfl) c,Bool.or_self]
 unfold Y3 at h;split at h
 ·rename_i o' off;split at h
  ·rename_i t old hm;split at h
   ·rename_i hle;simp only[Option.some.injEq,Prod.mk.injEq]at h;obtain⟨rfl,rfl⟩:=h;obtain⟨b,hb,rfl⟩:=hp.ptr_inv hm;obtain⟨b',cur,hb',hw,hcur⟩:=hM.obj o' _ hm;rw[hb]at hb';obtain rfl:=Option.some.inj hb';have h1:=hcur.1;have h2:=hvs.1;simp at h1;have hst:=run_storeCells_at P b off t vs 0 cur w hw (by omega) (fun v hv=>hvs.2.2 v hv);refine⟨b,off,_,rfl,hst,MS.put hM o' hb hm (by simp[Qz.like]) _ ?_⟩;refine⟨b,_,hb,setRow_heap w b cur _ t _ hw,?_⟩;simp only[Nat.add_zero];rw[←Nk vs cur.toList off (by simp;omega)];have hk:∀p:Addr,ok p.block→(w.setRow b (setAt cur.toList off vs).toArray).cell? p=w.cell? p:=fun p hp=>World.J6 (setRow_other w b _ _ fun e=>(hM.own o' _ b hm hb).1 (e▸hp))
    exact(VRs.setAt cs vs old cur.toList off hcur hvs).mono (fun _=>false) (hqL _) hk (fun _ h=>h) (fun i y _ hy=>⟨y,hy,Qz.D9 y,rfl,rfl⟩)
   ·cases h
  ·cases h
 ·rename_i o' i j;split at h
  ·rename_i e sz rows hm;split at h
   ·rename_i r ds hr hds;split at h
    ·rename_i hle;simp only[Option.some.injEq,Prod.mk.injEq]at h;obtain⟨rfl,rfl⟩:=h;obtain⟨b,hb,rfl⟩:=hp.eptr_inv hm;obtain⟨h0,h1,h2⟩:=hM.obj o' _ hm;rcases h2 with⟨_,h3⟩|⟨b',cur,h2,h3,h4,h5,h6,h7⟩
     ·subst h3;simp at hr
     ·rw[hb]at h2;obtain rfl:=Option.some.inj h2;obtain⟨k1,k2⟩:=toDs_ok hds;have hrl:=h1 i r hr;have hi:i<rows.length:=(List.getElem?_eq_some_iff.1 hr).1;have hlt:i * sz+sz≤cur.size:=by
       rw[h6];have:(i+1) * sz≤g.cp o' * sz:=Nat.mul_le_mul_right _ (by omega);rw[Nat.add_mul]at this;omega
      have hvl:=hvs.1;have hst:=run_storeCells_at P b (i * sz+j) e vs 0 cur w h3 (by omega) (fun v hv=>hvs.2.2 v hv);refine⟨b,i * sz+j,_,rfl,hst,MS.put hM o' hb hm (by simp[Qz.like]) _ ?_⟩;simp only[Nat.add_zero];rw[←Nk vs cur.toList (i * sz+j) (by simp;omega)];have hk:∀p:Addr,ok p.block→(w.setRow b (setAt cur.toList (i * sz+j) vs).toArray).cell? p=w.cell? p:=fun p hp=>World.J6 (setRow_other w b _ _ fun e=>(hM.own o' _ b hm hb).1 (e▸hp))
      refine⟨h0,fun i' r' hr'=>?_,.inr ⟨b,_,hb,setRow_heap w b cur _ e _ h3,by simpa using h4,h5,by simpa[D5]using h6,fun i' j' r' c v hr' hc hv=>?_⟩⟩
      ·rw[List.getElem?_set]at hr';split at hr'
       ·obtain rfl:=Option.some.inj hr';rw[D5];exact hrl
       ·exact h1 i' r' hr'
      ·refine Rep.keep ?_ hk;have hv2:(setAt cur.toList (i * sz+j) vs)[i' * sz+j']? =some v:=by simpa using hv
       rw[Nk vs cur.toList _ (by simp;omega),List.getElem?_append,List.getElem?_append]at hv2;simp only[List.length_append,List.length_take,Array.length_toList]at hv2;rw[Nat.min_eq_left (by omega)]at hv2;have hj':j'<sz:=by
        have:r'.length=sz:=by
         rw[List.getElem?_set]at hr';split at hr'
         ·obtain rfl:=Option.some.inj hr';rw[D5];exact hrl
         ·exact h1 i' r' hr'
        have:=(List.getElem?_eq_some_iff.1 hc).1;omega
       rw[List.getElem?_set]at hr';rcases Nat.decEq i i' with hne|he
       ·rw[if_neg hne]at hr';have hout:i' * sz+j'<i * sz+j∨i * sz+j+vs.length≤i' * sz+j':=by
         rcases Nat.lt_or_gt_of_ne hne with hlt'|hlt'
         ·right;have:(i+1) * sz≤i' * sz:=Nat.mul_le_mul_right _ (by omega);rw[Nat.add_mul]at this;omega
         ·left;have:(i'+1) * sz≤i * sz:=Nat.mul_le_mul_right _ (by omega);rw[Nat.add_mul]at this;omega
        rcases hout with ho|ho
        ·rw[if_pos (by omega),if_pos ho,List.getElem?_take,if_pos ho]at hv2;exact h7 i' j' r' c v hr' hc (by simpa using hv2)
        ·rw[if_neg (by omega),List.getElem?_drop]at hv2;rw[show i * sz+j+vs.length+(i' * sz+j'-(i * sz+j+vs.length))=i' * sz+j' from by omega]at hv2;exact h7 i' j' r' c v hr' hc (by simpa using hv2)
       ·subst he;rw[if_pos rfl,if_pos hi]at hr';simp at hr';subst hr';rw[Nk ds r j hle,List.getElem?_append,List.getElem?_append]at hc;simp only[List.length_append,List.length_take]at hc;rw[Nat.min_eq_left (by omega)]at hc;rcases Nat.lt_or_ge j' j with hj1|hj1
        ·rw[if_pos (by omega),if_pos hj1,List.getElem?_take,if_pos hj1]at hc;rw[if_pos (by omega),if_pos (by omega),List.getElem?_take,if_pos (by omega)]at hv2;exact h7 i j' r c v hr hc (by simpa using hv2)
        ·rcases Nat.lt_or_ge j' (j+ds.length)with hj2|hj2
         ·rw[if_pos hj2,if_neg (by omega)]at hc;rw[if_pos (by omega),if_neg (by omega)]at hv2;rw[show i * sz+j'-(i * sz+j)=j'-j from by omega]at hv2;have hjl:j'-j<cs.length:=by omega
          have hcs:cs[j'-j]? =some cs[j'-j]:=List.getElem?_eq_getElem hjl;exact toD1_ok (k2 _ _ _ hcs hc) (hvs.2.1 _ _ _ hcs hv2)
         ·rw[if_neg (by omega),List.getElem?_drop]at hc;rw[if_neg (by omega),List.getElem?_drop]at hv2;rw[show j+ds.length+(j'-(j+ds.length))=j' from by omega]at hc;rw[show i * sz+j+vs.length+(i * sz+j'-(i * sz+j+vs.length))=i * sz+j' from by omega]at hv2;exact h7 i j' r c v hr hc (by simpa using hv2)
    ·cases h
   ·cases h
  ·cases h
 ·cases h
end
end Go.Proofs.YtjpldhjgehoffaaGreatDoor
namespace Go.Proofs.YtjpldhjgehoffaaGreatDoor
open Go.RowKit
set_option linter.unusedVariables false
def U0 (m:Me) (sz:Nat):AV→Option (List (List D)×Prop)
 | .d (.sl rows)=>some (rows,∀(i:Nat) (r:List D),rows[i]? =some r→r.length=sz)
 | .arr o lo n=>match m o with
  |some (.arr _ sz' rows)=>if sz'=sz then some ((rows.drop lo).take n,True)else none
  |_=>none
 | .lit (.slice none 0 0)=>some ([],True)
 |_=>none
section
variable {P:Program} {C:Cx} {w:World} {ok:Nat→Prop} {g:Gh} {m:Me}
theorem srcRows_ok (hM:MS C w ok g m) {sz:Nat} {c:AV} {rows:List (List D)} {p:Prop} (h:U0 m sz c=some (rows,p)) (hp:p) {v:Value} (hv:VR w ok g m c v):
  (∀(i:Nat) (r:List D),rows[i]? =some r→r.length=sz)∧∃(A:Option Addr) (cc:Nat) (news:List Value),v= .slice A rows.length cc∧news.length=rows.length * sz∧
   (∀j u,news[j]? =some u→∃ad,A=some ad∧w.cell? (ad.add j)=some u)∧(∀u∈news,u.oneCell'=true)∧
   ∀(i j:Nat) (r:List D) (d:D) (u:Value),rows[i]? =some r→r[j]? =some d→news[i * sz+j]? =some u→Rep w ok d u:=by
 unfold U0 at h;split at h
 ·rename_i rows';simp only[Option.some.injEq,Prod.mk.injEq]at h;obtain⟨rfl,rfl⟩:=h;refine⟨hp,?_⟩;have hR:=hv.Zv;obtain⟨A,cc,rfl,_⟩:=hR.sl_inv;obtain⟨news,h1,h2,h3,h4⟩:=hR.news hp;exact⟨A,cc,news,rfl,h1,h2,h3,h4⟩
 ·rename_i o lo n;split at h
  ·rename_i e sz' rows' hm;split at h
   ·rename_i hsz;subst hsz;simp only[Option.some.injEq,Prod.mk.injEq]at h;obtain⟨rfl,_⟩:=h;obtain⟨h0,h1,h2⟩:=hM.obj o _ hm;obtain⟨h3,h4⟩:=hv.Qv4 hm;have hlen:((rows'.drop lo).take n).length=n:=by simp;omega
    refine⟨fun i r hr=>?_,?_⟩
    ·rw[List.getElem?_take]at hr;split at hr
     ·rw[List.getElem?_drop]at hr;exact h1 _ r hr
     ·cases hr
    ·rw[hlen];have nil:n=0→∀a cc,v= .slice a 0 cc→∃(A:Option Addr) (cc:Nat) (news:List Value),v= .slice A n cc∧news.length=n * sz'∧
       (∀j u,news[j]? =some u→∃ad,A=some ad∧w.cell? (ad.add j)=some u)∧(∀u∈news,u.oneCell'=true)∧
       ∀(i j:Nat) (r:List D) (d:D) (u:Value),((rows'.drop lo).take n)[i]? =some r→r[j]? =some d→news[i * sz'+j]? =some u→Rep w ok d u:=fun hn a cc hvv=>by
      subst hn;exact⟨a,cc,[],hvv,by simp,by simp,by simp,by simp⟩
     rcases h4 with⟨_,hvv,rfl,rfl⟩|⟨b,hb,hvv⟩|⟨_,rfl,a,cc,hvv,_⟩
     ·exact nil rfl _ _ hvv
     ·rcases h2 with⟨hb',_⟩|⟨b',cur,hb',hw,hc1,hc2,hc3,hc4⟩
      ·rw[hb]at hb';cases hb'
      ·rw[hb]at hb';obtain rfl:=Option.some.inj hb';have hsz:(lo+n) * sz'≤cur.size:=by rw[hc3];exact Nat.mul_le_mul_right _ (by omega)
       rw[Nat.add_mul]at hsz;refine⟨_,_,(cur.toList.drop (lo * sz')).take (n * sz'),hvv,by simp;omega,fun j u hu=>⟨_,rfl,?_⟩,fun u hu=>?_,fun i j r d u hr hd hu=>?_⟩
       ·rw[List.getElem?_take]at hu;split at hu
        ·rw[List.getElem?_drop]at hu;rw[Addr.add_lit,cell_of_row w b _ cur e (0,0) hw];simpa using hu
        ·cases hu
       ·obtain⟨k,hk⟩:=List.mem_iff_getElem?.1 hu;rw[List.getElem?_take]at hk;split at hk
        ·rename_i hkn;rw[List.getElem?_drop]at hk;have hk1:k / sz'<n:=(Nat.div_lt_iff_lt_mul h0).2 hkn;have hk2:k % sz'<sz':=Nat.mod_lt _ h0;have hk3:k / sz' * sz'+k % sz'=k:=by rw[Nat.mul_comm];exact Nat.div_add_mod k sz'
         have hr:rows'[lo+k / sz']? =some rows'[lo+k / sz']:=List.getElem?_eq_getElem (by omega);have hrl:=h1 _ _ hr;have hd:(rows'[lo+k / sz'])[k % sz']? =some (rows'[lo+k / sz'])[k % sz']:=List.getElem?_eq_getElem (by omega);refine(hc4 (lo+k / sz') (k % sz') _ _ u hr hd ?_).oneCell;rw[Nat.add_mul,Nat.add_assoc,hk3];simpa using hk
        ·cases hk
       ·have hi:i<n:=by have:=(List.getElem?_eq_some_iff.1 hr).1;omega
        rw[List.getElem?_take,if_pos hi,List.getElem?_drop]at hr;have hj:j<sz':=by have:=h1 _ r hr;have:=(List.getElem?_eq_some_iff.1 hd).1;omega
        rw[List.getElem?_take]at hu;split at hu
        ·rw[List.getElem?_drop]at hu;refine hc4 (lo+i) j r d u hr hd ?_;rw[Nat.add_mul,Nat.add_assoc];simpa using hu
        ·cases hu
     ·exact nil rfl _ _ hvv
   ·cases h
  ·cases h
 ·simp only[Option.some.injEq,Prod.mk.injEq]at h;obtain⟨rfl,_⟩:=h;refine⟨by simp,none,0,[],hv.Wv.1,by simp,by simp,by simp,by simp⟩
 ·cases h
def capOf:Value→Nat
 | .slice _ _ c=>c
 |_=>0
theorem MS.app0 (hM:MS C w ok g m) (t:Nat) (ht:kept t=false) {ty e tr:TypeId} {i:TypeInfo} {z:Value} (hu:P.underlying ty=some (.slice e)) (hi:P.info? e=some i) (hz:i.zero=some z) (hzs:z.cells.size=i.size) (hsz:0<i.size)
  {v:Value} {n:Nat} {xs:List Value} {ob:Option Nat} (hlx:xs.length=n * i.size) (hvb:∀b,ob=some b→g.bl t=some b∧∃x,m t=some x)
  {rows:List (List D)} (hn:rows.length=n) (hrl:∀(k:Nat) (r:List D),rows[k]? =some r→r.length=i.size)
  (hxr:∀(k j:Nat) (r:List D) (d:D) (u:Value),rows[k]? =some r→r[j]? =some d→xs[k * i.size+j]? =some u→Rep w ok d u)
  {A:Option Addr} {cc:Nat} {news:List Value} {rows2:List (List D)} (hrl2:∀(k:Nat) (r:List D),rows2[k]? =some r→r.length=i.size) (hnl:news.length=rows2.length * i.size)
  (hnc:∀j u,news[j]? =some u→∃ad,A=some ad∧w.cell? (ad.add j)=some u) (hn1:∀u∈news,u.oneCell'=true)
  (hnr:∀(k j:Nat) (r:List D) (d:D) (u:Value),rows2[k]? =some r→r[j]? =some d→news[k * i.size+j]? =some u→Rep w ok d u)
  (hr0:∃v' w',(Builtin.append_ #[ty,ty] tr #[v,.slice A rows2.length cc]).run P w= .ok v' w'∧w'.ownsRow 0 e i.size v' (n+rows2.length) (xs++news)∧w.grownBy w' ob∧(v'.ownBlock=ob∨v'.ownBlock=some w.heap.size)):
  ∃v' w' g',(Builtin.append_ #[ty,ty] tr #[v,.slice A rows2.length cc]).run P w= .ok v' w'∧
   MS C w' ok g' (X5 m (Jw [(t,some (.arr e i.size (rows++rows2)))]) (Z5 [t]) (Q4 [(t,some (.arr e i.size (rows++rows2)))]))∧
   (∀c v,c.has (Z5 [t])=false→VR w ok g m c v→VR w' ok g' (X5 m (Jw [(t,some (.arr e i.size (rows++rows2)))]) (Z5 [t]) (Q4 [(t,some (.arr e i.size (rows++rows2)))])) c v)∧
   VR w' ok g' (X5 m (Jw [(t,some (.arr e i.size (rows++rows2)))]) (Z5 [t]) (Q4 [(t,some (.arr e i.size (rows++rows2)))])) (.arr t 0 (rows.length+rows2.length)) v':=by
 subst hn;obtain⟨v',w',hrun,h2,h3,h4⟩:=hr0;have hvown:∀b,ob=some b→¬ok b∧b<w.heap.size∧(C.w.heap.size≤b∨(C.T b∧500≤t))∧∀j xj,j≠t→m j=some xj→g.bl j≠some b:=fun b hb=>by
  obtain⟨k1,x,k2⟩:=hvb b hb;obtain⟨a1,a2,a3⟩:=hM.own t x b k2 k1;exact⟨a1,a2,a3,fun j xj hj hmj hbj=>hj (hM.inj j t xj x b hmj k2 hbj k1)⟩
 have hokc:∀b,ok b→w'.heap[b]? =w.heap[b]?:=fun b hb=>h3.block b (hM.okb b hb).1 fun e=>(hvown b e.symm).1 hb
 have hk:∀p:Addr,ok p.block→w'.cell? p=w.cell? p:=fun p hp=>World.J6 (hokc _ hp)
 have hblk:∀b,v'.ownBlock=some b→¬ok b∧b<w'.heap.size∧(C.w.heap.size≤b∨(C.T b∧500≤t))∧∀j xj,j≠t→m j=some xj→g.bl j≠some b:=fun b hb=>by
  have hlt:=(h2.lt b hb).2;rcases h4 with h4|h4
  ·rw[h4]at hb;obtain⟨a1,a2,a3,a4⟩:=hvown b hb;exact⟨a1,hlt,a3,a4⟩
  ·rw[h4]at hb;obtain rfl:=Option.some.inj hb;exact⟨fun h=>by have:=(hM.okb _ h).1;omega,hlt,.inl hM.size,fun j xj _ hmj hbj=>by have:=(hM.own j xj _ hmj hbj).2.1;omega⟩
 have hrows:∀(k:Nat) (r:List D),(rows++rows2)[k]? =some r→r.length=i.size:=fun k r hr=>by
  rw[List.getElem?_append]at hr;split at hr
  ·exact hrl k r hr
  ·exact hrl2 _ r hr
 have hcells:∀(k j:Nat) (r:List D) (d:D) (u:Value),(rows++rows2)[k]? =some r→r[j]? =some d→(xs++news)[k * i.size+j]? =some u→Rep w' ok d u:=fun k j r d u hr hd hu=>by
  have hj:j<i.size:=by have:=hrows k r hr;have:=(List.getElem?_eq_some_iff.1 hd).1;omega
  rw[List.getElem?_append]at hr;split at hr
  ·rename_i hk1;have:(k+1) * i.size≤rows.length * i.size:=Nat.mul_le_mul_right _ hk1;rw[Nat.add_mul]at this;rw[List.getElem?_append_left (by omega)]at hu;exact(hxr k j r d u hr hd hu).keep hk
  ·rename_i hk1;have:rows.length * i.size≤k * i.size:=Nat.mul_le_mul_right _ (by omega);rw[List.getElem?_append_right (by omega)]at hu;refine(hnr (k-rows.length) j r d u hr hd ?_).keep hk;rw[←hu,hlx,Nat.sub_mul];congr 1;omega
 let cap:Nat:=capOf v'
 let g':Gh:=⟨fun k=>if t==k then v'.ownBlock else g.bl k,fun k=>if t==k then cap else g.cp k⟩
 have hOR:∀M',OR w' ok g' M' t (.arr e i.size (rows++rows2)):=fun M'=>by
  refine⟨hsz,hrows,?_⟩;rcases h2.2 with⟨hv',h0⟩|⟨gg,cap',cur,hv',_,hg,hle,hcm,hcs,htk⟩
  ·left;refine⟨by simp[g',hv',Value.ownBlock],List.eq_nil_of_length_eq_zero (by simpa using h0)⟩
  ·right;have hc:cap=cap':=by
    show capOf v'=cap';rw[hv'];rfl
   refine⟨gg,cur,by simp[g',hv',Value.ownBlock],hg,by simp[g',hc];omega,by simp[g',hc];exact hcm,by simp[g',hc];exact hcs,fun k j r c u hr hcc hu=>?_⟩;refine hcells k j r c u hr hcc ?_;rw[←htk,List.getElem?_take];have hk1:k<rows.length+rows2.length:=by have:=(List.getElem?_eq_some_iff.1 hr).1;simpa using this
   have hj:j<i.size:=by have:=hrows k r hr;have:=(List.getElem?_eq_some_iff.1 hcc).1;omega
   have:(k+1) * i.size≤(rows.length+rows2.length) * i.size:=Nat.mul_le_mul_right _ hk1;rw[Nat.add_mul]at this;rw[if_pos (by omega)];simpa using hu
 have hMS:=MS.eff (w':=w') (ok':=ok) (g':=g') hM (Jw [(t,some (.arr e i.size (rows++rows2)))]) (Z5 [t]) (Q4 [(t,some (.arr e i.size (rows++rows2)))])
  (fun k hk=>by rwa [Kw,←Z9 t (some (.arr e i.size (rows++rows2)))]at hk)
  (fun k x hU hN=>by
   rw[Z9]at hU;have e1:t=k:=by simpa using hU
   subst e1;simp[Q4]at hN;subst hN;exact hOR _)
  (fun k hk=>by rw[Kw]at hk;simp[g',hk])
  (fun k x hU hq=>by rw[Z9]at hU;rw[Kw]at hq;rw[hU]at hq;cases hq)
  (fun k x b hU hx hb=>by
   rw[Z9]at hU;refine h3.block b (hM.own k x b hx hb).2.1 fun e=>?_
   exact(hvown b e.symm).2.2.2 k x (fun e=>by subst e;simp at hU) hx hb)
  hokc (fun _ h=>h) (fun _ h=>.inl h)
  (fun k x b hU hN hb=>by
   rw[Z9]at hU;have hb':v'.ownBlock=some b:=by simpa[g',hU]using hb
   obtain⟨a1,a2,a3,a4⟩:=hblk b hb'
   refine ⟨a1, a2, by have e1 : t = k := by simpa using hU
                      rw[←e1]; exact a3, fun j xj hUj hj hbj=> ?_, fun j xj hUj _ _=> ?_⟩
   ·rw[Z9]at hUj;exact a4 j xj (fun e=>by subst e;simp at hUj) hj hbj
   ·rw[Z9]at hUj;have e1:t=k:=by simpa using hU
    have e2:t=j:=by simpa using hUj
    rw[←e1,←e2])
  (fun k hk => by rw [Kw] at hk; have e1 : t = k := by simpa using hk
                  rw[←e1]; exact ht)
  h3.size
  (fun b hb hT=>h3.block b (by have:=hM.size;omega) fun e=>by
   rcases(hvown b e.symm).2.2.1 with h|h
   ·omega
   ·exact hT h.1)
  h3.os h3.tape h3.output
 refine⟨v',w',g',hrun,hMS.1,hMS.2,.arr _ _ _ _ ?_ fun e' sz' rows' hx=>?_⟩
 ·rcases h2.2 with⟨hv',_⟩|⟨gg,cap',cur,hv',_⟩<;> rw[hv']<;> rfl
 ·simp only[X5,Z9,beq_self_eq_true,if_true,Q4]at hx;cases hx;refine⟨by simp,?_⟩;rcases h2.2 with⟨hv',h0⟩|⟨gg,cap',cur,hv',_⟩
  ·left;exact⟨by simp[g',hv',Value.ownBlock],hv',rfl,by simpa using h0⟩
  ·right;left;have hc:cap=cap':=by
    show capOf v'=cap';rw[hv'];rfl
   refine⟨gg,by simp[g',hv',Value.ownBlock],?_⟩;have e1:g'.cp t=cap':=by simp[g',hc]
   rw[e1,hv'];simp
theorem MS.app (hM:MS C w ok g m) (t:Nat) (ht:kept t=false) {ty e tr:TypeId} {i:TypeInfo} {z:Value} (hu:P.underlying ty=some (.slice e)) (hi:P.info? e=some i) (hz:i.zero=some z) (hzs:z.cells.size=i.size) (hsz:0<i.size)
  {v:Value} {n:Nat} {xs:List Value} (hown:w.ownsRow 0 e i.size v n xs) (hvb:∀b,v.ownBlock=some b→g.bl t=some b∧∃x,m t=some x)
  {rows:List (List D)} (hn:rows.length=n) (hrl:∀(k:Nat) (r:List D),rows[k]? =some r→r.length=i.size)
  (hxr:∀(k j:Nat) (r:List D) (d:D) (u:Value),rows[k]? =some r→r[j]? =some d→xs[k * i.size+j]? =some u→Rep w ok d u)
  {A:Option Addr} {cc:Nat} {news:List Value} {rows2:List (List D)} (hrl2:∀(k:Nat) (r:List D),rows2[k]? =some r→r.length=i.size) (hnl:news.length=rows2.length * i.size)
  (hnc:∀j u,news[j]? =some u→∃ad,A=some ad∧w.cell? (ad.add j)=some u) (hn1:∀u∈news,u.oneCell'=true)
  (hnr:∀(k j:Nat) (r:List D) (d:D) (u:Value),rows2[k]? =some r→r[j]? =some d→news[k * i.size+j]? =some u→Rep w ok d u)
  (h63:rows.length+rows2.length≤maxLen) (hbytes:(rows.length+rows2.length) * i.bytes≤140737488355328):
  ∃v' w' g',(Builtin.append_ #[ty,ty] tr #[v,.slice A rows2.length cc]).run P w= .ok v' w'∧
   MS C w' ok g' (X5 m (Jw [(t,some (.arr e i.size (rows++rows2)))]) (Z5 [t]) (Q4 [(t,some (.arr e i.size (rows++rows2)))]))∧
   (∀c v,c.has (Z5 [t])=false→VR w ok g m c v→VR w' ok g' (X5 m (Jw [(t,some (.arr e i.size (rows++rows2)))]) (Z5 [t]) (Q4 [(t,some (.arr e i.size (rows++rows2)))])) c v)∧
   VR w' ok g' (X5 m (Jw [(t,some (.arr e i.size (rows++rows2)))]) (Z5 [t]) (Q4 [(t,some (.arr e i.size (rows++rows2)))])) (.arr t 0 (rows.length+rows2.length)) v':=by
 subst hn;exact MS.app0 hM t ht hu hi hz hzs hsz hown.1 hvb rfl hrl hxr hrl2 hnl hnc hn1 hnr (run_append_news (P:=P) w 0 ty tr e i z i.size i.bytes hu hi hz rfl rfl hzs hsz v rows.length xs hown A rows2.length cc news hnl hnc hn1 h63 hbytes (Nat.zero_le _))
theorem run_append_full (w:World) (t ty e:TypeId) (i:TypeInfo) (z:Value) (ht:P.underlying t=some (.slice e)) (hi:P.info? e=some i) (hz:i.zero=some z) (hzs:z.cells.size=i.size) (hsz:0<i.size)
  (A0:Option Addr) (n:Nat) (xs:List Value) (hxl:xs.length=n * i.size) (hxc:∀j u,xs[j]? =some u→∃ad,A0=some ad∧w.cell? (ad.add j)=some u)
  (A:Option Addr) (m c:Nat) (news:List Value) (hl:news.length=m * i.size) (hc:∀j u,news[j]? =some u→∃ad,A=some ad∧w.cell? (ad.add j)=some u) (h1:∀u∈news,u.oneCell'=true)
  (hm:0<m) (h63:n+m≤maxLen) (hbytes:(n+m) * i.bytes≤140737488355328):
  ∃v' w',(Builtin.append_ #[t,t] ty #[.slice A0 n n,.slice A m c]).run P w= .ok v' w'∧w'.ownsRow 0 e i.size v' (n+m) (xs++news)∧w.grownBy w' none∧
   (v'.ownBlock=none∨v'.ownBlock=some w.heap.size):=by
 have hpos:=Nat.mul_pos hm hsz;obtain⟨ad,rfl⟩:∃ad,A=some ad:=by
  rcases news with _|⟨u,us⟩
  ·simp at hl;omega
  ·obtain⟨ad,h,_⟩:=hc 0 u rfl;exact⟨ad,h⟩
 have hcells:∀j u,news[j]? =some u→w.cell? (ad.add j)=some u:=fun j u hu=>by
  obtain⟨ad',h,hcc⟩:=hc j u hu;injection h with h;subst h;exact hcc
 have hlen:(xs++news).length=(n+m) * i.size:=by rw[List.length_append,hxl,hl,Nat.add_mul]
 have hcm:grownCap w (n+m) n e≤maxLen:=grownCap_le_maxLen w (n+m) n e h63;have hge:=grownCap_ge w (n+m) n e;have hsmall:n+m≤9223372036854775807:=by simp only[maxLen]at h63;omega
 have hown:(w.drew.alloc (.cells (xs.toArray++news.toArray++Builtin.zeroCells z.cells (grownCap w (n+m) n e-(n+m))) e)).ownsRow 0 e i.size
    (.slice (some ⟨w.heap.size,0,none⟩) (n+m) (grownCap w (n+m) n e)) (n+m) (xs++news)∧
   w.grownBy (w.drew.alloc (.cells (xs.toArray++news.toArray++Builtin.zeroCells z.cells (grownCap w (n+m) n e-(n+m))) e)) none:=by
  refine⟨⟨hlen,.inr ⟨w.heap.size,_,_,rfl,Nat.zero_le _,heap_alloc_new w.drew _,hge,hcm,?_,?_⟩⟩,⟨rfl,rfl,rfl,by simp,fun k hk _=>heap_alloc_old w.drew _ hk⟩⟩
  ·simp only[Array.size_append,List.size_toArray,size_zeroCells,hzs,hxl,hl,←Nat.add_mul];congr 1;omega
  ·simp only[Array.toList_append,List.append_assoc];rw[←List.append_assoc,←hlen];exact List.take_left
 rcases A0 with _|a0
 ·have hx0:xs=[]:=by
   rcases xs with _|⟨u,us⟩
   ·rfl
   ·obtain⟨_,h,_⟩:=hxc 0 u rfl;cases h
  subst hx0;have hn0:n=0:=by
   rcases Nat.eq_zero_or_pos n with h|h
   ·exact h
   ·have:=Nat.mul_pos h hsz;simp at hxl;omega
  subst hn0;have hr:=run_append_nil (P:=P) w t ty e i z ht hi hz ad m c news hl hcells (by omega) (by omega) (by have hb:=hbytes;simp only[Nat.zero_add]at hb;omega);simp only[Nat.zero_add,List.nil_append,Array.empty_append]at hown⊢;exact⟨_,_,hr,hown.1,hown.2,.inr rfl⟩
 ·have holds:∀j u,xs[j]? =some u→w.cell? (a0.add j)=some u:=fun j u hu=>by
   obtain⟨ad',h,hcc⟩:=hxc j u hu;injection h with h;subst h;exact hcc
  have hr:=run_append_grow (P:=P) w t ty e i z ht hi hz a0 n n xs hxl holds ad m c news hl hcells (by omega) (by omega) (growslice_fits (by omega) hbytes);exact⟨_,_,hr,hown.1,hown.2,.inr rfl⟩
end
end Go.Proofs.YtjpldhjgehoffaaGreatDoor
namespace Go.Proofs.YtjpldhjgehoffaaGreatDoor
open Go.RowKit
set_option linter.unusedVariables false
def Pz (o:Nat) (x:Qz):AV→AV
 | .arr o' lo n=>if o'==o then (match x with| .arr _ _ rows=>.d (.sl ((rows.drop lo).take n))|_=>.any)else .arr o' lo n
 | .U2 o' i j=>if o'==o then (match x with| .arr _ _ rows=>(match rows[i]? with|some r=>if j≤r.length then .d (.ptr (r.drop j))else .any|none=>.any)|_=>.any)else .U2 o' i j
 | .ptr o' off=>if o'==o then (match x with| .blk _ cs=>(match Sw cs with|some ds=>if off≤ds.length then .d (.ptr (ds.drop off))else .any|none=>.any)|_=>.any)else .ptr o' off
 | .mp o'=>if o'==o then .any else .mp o'
 |v=>v
mutual
def AV.frz (o:Nat) (x:Qz):AV→AV
 | .agg cs=>.agg (Ik o x cs)
 | .tuple cs=>.tuple (Ik o x cs)
 | .clo f cs=>.clo f (Ik o x cs)
 | .any=>.any
 | .d d=>.d d
 | .lit v=>.lit v
 | .fl r=>.fl r
 | .ptr o' k=>Pz o x (.ptr o' k)
 | .arr o' l n=>Pz o x (.arr o' l n)
 | .U2 o' i j=>Pz o x (.U2 o' i j)
 | .mp o'=>Pz o x (.mp o')
def Ik (o:Nat) (x:Qz):List AV→List AV
 |[]=>[]
 |c::cs=>AV.frz o x c::Ik o x cs
end
theorem Qk8 (o:Nat) (x:Qz) (cs:List AV):Ik o x cs=cs.map (AV.frz o x):=by
 induction cs with
 |nil=>rfl
 |cons c cs ih=>simp only[Ik,List.map_cons,ih]
def Qz.frz (o:Nat) (x:Qz):Qz→Qz
 | .blk t cs=>.blk t (Ik o x cs)
 | .arr e sz rows=>.arr e sz rows
 | .map ks ag n ents=>.map ks ag n ents
 | .raw r=>.raw r
def Tw (o:Nat) (x:Qz):List (Nat×AV)→List (Nat×AV)
 |[]=>[]
 |(t,v)::r=>(t,v.frz o x)::Tw o x r
def Rq (o:Nat) (x:Qz):List (Nat×Option Qz)→List (Nat×Option Qz)
 |[]=>[]
 |(t,v)::r=>(t,if t==o then none else v.map (Qz.frz o x))::Rq o x r
theorem frGet_frz (o:Nat) (x:Qz) (f:List (Nat×AV)) (t:Nat):Zj (Tw o x f) t=(Zj f t).frz o x:=by
 induction f with
 |nil=>rfl
 |cons y r ih=>obtain⟨u,v⟩:=y;simp only[Tw,Zj,ih];split<;> rfl
theorem memGet_frz (o:Nat) (x:Qz) (f:List (Nat×Option Qz)) (t:Nat):Q4 (Rq o x f) t=if t==o then none else (Q4 f t).map (Qz.frz o x):=by
 induction f with
 |nil=>simp[Rq,Q4]
 |cons y r ih=>
  obtain⟨u,v⟩:=y;simp only[Rq,Q4];by_cases h:(u==t)=true
  ·have:u=t:=by simpa using h
   subst this;simp
  ·simp only[Bool.not_eq_true]at h;simp only[h];exact ih
section
variable {w:World} {ok:Nat→Prop} {g:Gh} {m:Me}
theorem VR.frz {C:Cx} (hM:MS C w ok g m) {o:Nat} {x:Qz} (hx:m o=some x) {c:AV} {v:Value} (h:VR w ok g m c v):
  VR w (fun b=>ok b∨g.bl o=some b) g (fun i=>if i==o then none else (m i).map (Qz.frz o x)) (c.frz o x) v:=by
 have weak:∀{d:D} {v:Value},Rep w ok d v→Rep w (fun b=>ok b∨g.bl o=some b) d v:=fun h=>h.weak fun b hb=>.inl hb
 have oth:∀{o':Nat} {y:Qz},(o'==o)=false→(if (o'==o)=true then none else (m o').map (Qz.frz o x))=some y→∃z,m o'=some z∧y=Qz.frz o x z:=fun hne hy=>by
  rw[if_neg (by simp[hne])]at hy;obtain⟨z,hz,rfl⟩:=Option.map_eq_some_iff.1 hy;exact⟨z,hz,rfl⟩
 induction h with
 |any v=>exact .any v
 |d d v h=>exact .d d v (weak h)
 |lit v h=>exact .lit v h
 |fl rows v h hr=>exact .fl rows v h (weak hr)
 |ptr o' off v hv h=>
  simp only[AV.frz,Pz];rcases ho:o'==o
  ·simp only[Bool.false_eq_true,if_false];refine .ptr o' off v hv fun y hy=>?_
   obtain⟨z,hz,_⟩:=oth ho hy;exact h z hz
  ·simp only[if_true];have e:o'=o:=by simpa using ho
   subst e;split
   ·rename_i t cs;split
    ·rename_i ds hds;split
     ·rename_i hoff;obtain⟨b,hb,rfl⟩:=h _ hx;obtain⟨b',vs,hb',hw,hvs⟩:=hM.obj o' _ hx;rw[hb]at hb';obtain rfl:=Option.some.inj hb';obtain⟨k1,k2⟩:=toDs_ok hds;have hl:=hvs.1;simp at hl;refine .d _ _ (.ptr _ b off (fun j=>vs[off+j]?.getD undef) (.inr hb) (fun j hj=>?_) (fun j d hd=>?_))
      ·simp at hj;rw[cell_of_row w b _ vs t (0,0) hw,Array.getElem?_eq_getElem (by omega)];rfl
      ·rw[List.getElem?_drop]at hd;have hj:off+j<ds.length:=(List.getElem?_eq_some_iff.1 hd).1;have hc:cs[off+j]? =some cs[off+j]:=List.getElem?_eq_getElem (by omega);have hv':vs[off+j]? =some (vs[off+j]'(by omega)):=Array.getElem?_eq_getElem (by omega);rw[hv',Option.getD_some];exact weak (toD1_ok (k2 _ _ _ hc hd) (hvs.2.1 _ _ _ hc (by rw[Array.getElem?_toList];exact hv')))
     ·exact .any _
    ·exact .any _
   ·exact .any _
 |arr o' lo n v hv h=>
  simp only[AV.frz,Pz];rcases ho:o'==o
  ·simp only[Bool.false_eq_true,if_false];refine .arr o' lo n v hv fun e sz rows hy=>?_
   obtain⟨z,hz,hy'⟩:=oth ho hy;cases z with
   |blk t cs=>cases hy'
   |arr e' sz' rows'=>cases hy';exact h _ _ _ hz
   |map ks ag n ents=>cases hy'
   |raw r=>cases hy'
  ·simp only[if_true];have e:o'=o:=by simpa using ho
   subst e;split
   ·rename_i e sz rows;obtain⟨h1,h2⟩:=h _ _ _ hx;obtain⟨k0,k1,k2⟩:=hM.obj o' _ hx;have hlen:((rows.drop lo).take n).length=n:=by simp;omega
    have nil:n=0→∀a cc,v= .slice a 0 cc→cc≤maxLen→(a=none→cc=0)→VR w (fun b=>ok b∨g.bl o'=some b) g (fun i=>if i==o' then none else (m i).map (Qz.frz o' (.arr e sz rows))) (.d (.sl ((rows.drop lo).take n))) v:=fun hn a cc hvv g1 g2=>by
     subst hn;rw[hvv,List.take_zero];exact .d _ _ (.empty a cc g2 g1)
    rcases h2 with⟨_,rfl,rfl,rfl⟩|⟨b,hb,rfl⟩|⟨_,rfl,a,cc,rfl,h3,h4⟩
    ·exact nil rfl _ _ rfl (Nat.zero_le _) (fun _=>rfl)
    ·rcases k2 with⟨k2,_⟩|⟨b',cur,k2,k3,k4,k5,k6,k7⟩
     ·rw[hb]at k2;cases k2
     ·rw[hb]at k2;obtain rfl:=Option.some.inj k2;rcases Nat.eq_zero_or_pos n with hn|hn
      ·subst hn;exact nil rfl _ _ rfl (by omega) (by simp)
      ·have hx:=Rep.sl (w:=w) (ok:=fun b=>ok b∨g.bl o'=some b) ((rows.drop lo).take n) sz b (lo * sz) (g.cp o'-lo) (fun i j=>cur[(lo+i) * sz+j]?.getD undef) (fun e=>by rw[e]at hlen;simp at hlen;omega) (by omega) (by omega)
        (fun i r hr=>?_) (.inr hb) (fun i j hi hj=>?_) (fun i j r d hr hd=>?_)
       ·rw[hlen]at hx;exact .d _ _ hx
       ·rw[List.getElem?_take]at hr;split at hr
        ·rw[List.getElem?_drop]at hr;exact k1 _ r hr
        ·cases hr
       ·rw[hlen]at hi;have:(lo+i+1) * sz≤g.cp o' * sz:=Nat.mul_le_mul_right _ (by omega);rw[Nat.add_mul]at this;rw[cell_of_row w b _ cur e (0,0) k3,←Nat.add_assoc,←Nat.add_mul,Array.getElem?_eq_getElem (by omega)];rfl
       ·have hi:i<n:=by have:=(List.getElem?_eq_some_iff.1 hr).1;omega
        rw[List.getElem?_take,if_pos hi,List.getElem?_drop]at hr;have hj:j<sz:=by have:=k1 _ r hr;have:=(List.getElem?_eq_some_iff.1 hd).1;omega
        have:(lo+i+1) * sz≤g.cp o' * sz:=Nat.mul_le_mul_right _ (by omega);rw[Nat.add_mul]at this;have hc:cur[(lo+i) * sz+j]? =some (cur[(lo+i) * sz+j]'(by omega)):=Array.getElem?_eq_getElem _;rw[hc,Option.getD_some];exact weak (k7 _ j r d _ hr hd hc)
    ·exact nil rfl a cc rfl h3 h4
   ·exact .any _
 |U2 o' i j v hv h=>
  simp only[AV.frz,Pz];rcases ho:o'==o
  ·simp only[Bool.false_eq_true,if_false];refine .U2 o' i j v hv fun e sz rows hy=>?_
   obtain⟨z,hz,hy'⟩:=oth ho hy;cases z with
   |blk t cs=>cases hy'
   |arr e' sz' rows'=>cases hy';exact h _ _ _ hz
   |map ks ag n ents=>cases hy'
   |raw r=>cases hy'
  ·simp only[if_true];have e:o'=o:=by simpa using ho
   subst e;split
   ·rename_i e sz rows;split
    ·rename_i r hr;split
     ·rename_i hj0;obtain⟨b,hb,rfl⟩:=h _ _ _ hx;obtain⟨k0,k1,k2⟩:=hM.obj o' _ hx;rcases k2 with⟨k2,_⟩|⟨b',cur,k2,k3,k4,k5,k6,k7⟩
      ·rw[hb]at k2;cases k2
      ·rw[hb]at k2;obtain rfl:=Option.some.inj k2;have hi:i<rows.length:=(List.getElem?_eq_some_iff.1 hr).1;have hrl:=k1 i r hr;have hlt:i * sz+sz≤cur.size:=by
        rw[k6];have:(i+1) * sz≤g.cp o' * sz:=Nat.mul_le_mul_right _ (by omega);rw[Nat.add_mul]at this;omega
       refine .d _ _ (.ptr _ b _ (fun k=>cur[i * sz+j+k]?.getD undef) (.inr hb) (fun k hk=>?_) (fun k d hd=>?_))
       ·simp at hk;rw[cell_of_row w b _ cur e (0,0) k3,Array.getElem?_eq_getElem (by omega)];rfl
       ·rw[List.getElem?_drop]at hd;have hk:j+k<r.length:=(List.getElem?_eq_some_iff.1 hd).1;have hc:cur[i * sz+j+k]? =some (cur[i * sz+j+k]'(by omega)):=Array.getElem?_eq_getElem _;rw[hc,Option.getD_some];exact weak (k7 i (j+k) r d _ hr hd (by rw[←Nat.add_assoc];exact hc))
     ·exact .any _
    ·exact .any _
   ·exact .any _
 |mp o' v hv h=>
  simp only[AV.frz,Pz];rcases ho:o'==o
  ·simp only[Bool.false_eq_true,if_false];refine .mp o' v hv fun y hy=>?_
   obtain⟨z,hz,_⟩:=oth ho hy;exact h z hz
  ·simp only[if_true];exact .any _
 |agg cs vs hl h h1 ih=>
  simp only[AV.frz,Qk8];refine .agg _ _ (by simpa using hl) (fun i c v hc hv=>?_) h1;rw[List.getElem?_map]at hc;obtain⟨c',hc',rfl⟩:=Option.map_eq_some_iff.1 hc;exact ih i c' v hc' hv
 |tuple cs vs hl h ih=>
  simp only[AV.frz,Qk8];refine .tuple _ _ (by simpa using hl) (fun i c v hc hv=>?_);rw[List.getElem?_map]at hc;obtain⟨c',hc',rfl⟩:=Option.map_eq_some_iff.1 hc;exact ih i c' v hc' hv
 |clo f cs vs hl h ih=>
  simp only[AV.frz,Qk8];refine .clo f _ _ (by simpa using hl) (fun i c v hc hv=>?_);rw[List.getElem?_map]at hc;obtain⟨c',hc',rfl⟩:=Option.map_eq_some_iff.1 hc;exact ih i c' v hc' hv
theorem MS.frz {C:Cx} (hM:MS C w ok g m) {o:Nat} {x:Qz} (hx:m o=some x) (ho:Nat.ble 500 o=false):
  MS C w (fun b=>ok b∨g.bl o=some b) g (fun i=>if i==o then none else (m i).map (Qz.frz o x)):=by
 have oth:∀{i:Nat} {y:Qz},(if (i==o)=true then none else (m i).map (Qz.frz o x))=some y→i≠o∧∃z,m i=some z∧y=Qz.frz o x z:=fun {i y} hy=>by
  by_cases h:i=o
  ·subst h;simp at hy
  ·rw[if_neg (by simpa using h)]at hy;obtain⟨z,hz,rfl⟩:=Option.map_eq_some_iff.1 hy;exact⟨h,z,hz,rfl⟩
 have ho':o<500:=by
  rcases Nat.lt_or_ge o 500 with h|h
  ·exact h
  ·rw[Nat.ble_eq_true_of_le h]at ho;cases ho
 refine⟨fun i y hy=>?_,fun i j xi xj b hi hj hbi hbj=>?_,fun i y b hy hb=>?_,fun b hb=>?_,fun b hb=>.inl (hM.okk b hb),hM.size,hM.heap,hM.keep,hM.os,hM.tape,hM.output,hM.gi,hM.gb⟩
 ·obtain⟨hne,z,hz,rfl⟩:=oth hy;have hO:=hM.obj i z hz;cases z with
  |blk t cs=>
   obtain⟨b,vs,h1,h2,h3⟩:=hO;refine⟨b,vs,h1,h2,by rw[Qk8];simpa using h3.1,fun k c v hc hv=>?_,h3.2.2⟩;rw[Qk8,List.getElem?_map]at hc;obtain⟨c',hc',rfl⟩:=Option.map_eq_some_iff.1 hc;exact(h3.2.1 k c' v hc' hv).frz hM hx
  |arr e sz rows=>
   obtain⟨h1,h2,h3⟩:=hO;refine⟨h1,h2,?_⟩;rcases h3 with h3|⟨b,cur,k1,k2,k3,k4,k5,k6⟩
   ·exact .inl h3
   ·exact .inr ⟨b,cur,k1,k2,k3,k4,k5,fun a b c d e f g h=>(k6 a b c d e f g h).weak fun b hb=>.inl hb⟩
  |map ks ag n ents=>
   obtain⟨b,es,clock,h1,h2,h3⟩:=hO;exact⟨b,es,clock,h1,h2,h3.keep (fun _ _=>rfl) fun b hb=>.inl hb⟩
  |raw r=>exact RawR.mono hO (fun _ _=>rfl) rfl (fun _ _=>rfl) (fun b hb=>.inl hb)
 ·obtain⟨_,zi,hzi,_⟩:=oth hi;obtain⟨_,zj,hzj,_⟩:=oth hj;exact hM.inj i j zi zj b hzi hzj hbi hbj
 ·obtain⟨hne,z,hz,_⟩:=oth hy;obtain⟨h1,h2,h3⟩:=hM.own i z b hz hb;refine⟨fun h=>?_,h2,h3⟩;rcases h with h|h
  ·exact h1 h
  ·exact hne (hM.inj i o z x b hz hx hb h)
 ·rcases hb with hb|hb
  ·exact hM.okb b hb
  ·obtain⟨_,h2,h3⟩:=hM.own o x b hx hb;refine⟨h2,?_⟩;rcases h3 with h3|h3
   ·exact .inr h3
   ·omega
end
def AS.frz (s:AS) (o:Nat):AS:=
 match Q4 s.mem o with
 |some x=>{ s with fr:=Tw o x s.fr,mem:=Rq o x s.mem }
 |none=>s
theorem St.frz {C:Cx} {s:AS} {a:Act} {w:World} (h:St C s a w) (o:Nat) (ho:Nat.ble 500 o=false):St C (s.frz o) a w:=by
 unfold AS.frz;split
 ·rename_i x hx;obtain⟨ok,g,hM,h1,h2,h3⟩:=h;have e:(fun t=>Q4 (Rq o x s.mem) t)=fun i=>if i==o then none else (Q4 s.mem i).map (Qz.frz o x):=funext fun i=>memGet_frz o x s.mem i
  refine⟨fun b=>ok b∨g.bl o=some b,g,?_,h1,h2,fun t=>?_⟩
  ·have:=hM.frz hx ho;rw[←e]at this;exact this
  ·have:=(h3 t).frz hM hx;rw[←e]at this;dsimp only;rw[frGet_frz];exact this
 ·exact h
theorem St.weak {C:Cx} {s s':AS} {a:Act} {w:World} (h:St C s a w) (hn:s'.n=s.n) (hf:∀t,Zj s'.fr t= .any∨Zj s'.fr t=Zj s.fr t) (hm:∀o x,Q4 s'.mem o=some x→Q4 s.mem o=some x):St C s' a w:=by
 obtain⟨ok,g,hM,h1,h2,h3⟩:=h;have mono:∀c v,VR w ok g (Q4 s.mem) c v→VR w ok g (Q4 s'.mem) c v:=fun c v hv=>
  hv.mono (fun _=>false) (AV.V3 (fun _=>rfl) c) (fun _ _=>rfl) (fun _ h=>h) fun o x' _ hx'=>⟨x',hm o x' hx',Qz.D9 x',rfl,rfl⟩
 refine⟨ok,g,⟨fun o x hx=>?_,fun i j xi xj b hi hj=>hM.inj i j xi xj b (hm i xi hi) (hm j xj hj),fun i x b hi=>hM.own i x b (hm i x hi),hM.okb,hM.okk,hM.size,hM.heap,hM.keep,hM.os,hM.tape,hM.output,hM.gi,hM.gb⟩,by rw[hn];exact h1,h2,fun t=>?_⟩
 ·refine(hM.obj o x (hm o x hx)).mono (fun _=>false) ?_ (fun _ _=>rfl) rfl rfl (fun _ _=>rfl) (fun _ h=>h) fun o x' _ hx'=>⟨x',hm o x' hx',Qz.D9 x',rfl,rfl⟩
  cases x with
  |blk t cs=>
   have:∀l:List AV,AV.K6 (fun _=>false) l=false:=fun l=>by
    induction l with
    |nil=>rfl
    |cons c r ih=>simp only[AV.K6,ih,AV.V3 (fun _=>rfl) c,Bool.or_self]
   exact this cs
  |arr e sz rows=>trivial
  |map ks ag n ents=>trivial
  |raw r=>trivial
 ·rcases hf t with h|h
  ·rw[h];exact .any _
  ·rw[h];exact mono _ _ (h3 t)
end Go.Proofs.YtjpldhjgehoffaaGreatDoor
