import Derived.WalkKit
import Derived.ProofKit
import Derived.OpenShut
import Derived.Deep.AppendLies
import Derived.Deep.Draws
import Derived.Maps.AppendAt
import Derived.RegionTactic
import Derived.OwnWalk
import Derived.LoopN
import Derived.WalkSpells
import Derived.WalkLawsBesides
import Derived.Deep.QuietTactic
import Derived.BigQuiet
import Derived.Deep.LoopGhost
import Derived.Lib.Hide
import Derived.MapKept
import Derived.IntWalk
import Derived.Laws.Strings
import Derived.Laws.StructEq
import Derived.Test.YtlbcipohiepjmaaDoorGlob
set_option maxHeartbeats 1000000
set_option linter.unusedVariables false
namespace Go.Proofs.YtlbcipohiepjmaaDoor
open Go.RowKit
inductive D where
 |int (n:Int)
 |bool (b:Bool)
 |str (s:ByteArray)
 |sl (rows:List (List D))
 |num (k:IntKind) (n:Int)
 |nil
 |ptr (row:List D)
 |fn (f:Nat)
 |ub
 |ln (n:Nat)
inductive Rep (w:World) (ok:Nat→Prop):D→Value→Prop where
 |int (n:Int) (lo: -9223372036854775808≤n) (hi:n≤9223372036854775807):Rep w ok (.int n) (.int .i64 n)
 |bool (b:Bool):Rep w ok (.bool b) (.bool b)
 |str (s:ByteArray) (hs:s.size≤maxLen):Rep w ok (.str s) (.string s)
 |empty (a:Option Addr) (c:Nat) (ha:a=none→c=0) (hc:c≤maxLen):Rep w ok (.sl []) (.slice a 0 c)
 |sl (rows:List (List D)) (size b o c:Nat) (V:Nat→Nat→Value) (hne:rows≠[]) (hlen:rows.length≤c) (hc:c≤maxLen)
   (hsz:∀(i:Nat) (r:List D),rows[i]? =some r→r.length=size) (hok:ok b)
   (hcell:∀i j,i<rows.length→j<size→w.cell? ⟨b,o+(i * size+j),none⟩=some (V i j))
   (hrep:∀(i j:Nat) (r:List D) (d:D),rows[i]? =some r→r[j]? =some d→Rep w ok d (V i j)):Rep w ok (.sl rows) (.slice (some ⟨b,o,none⟩) rows.length c)
 |num (k:IntKind) (n:Int) (lo:k.min≤n) (hi:n≤k.max):Rep w ok (.num k n) (.int k n)
 |nil:Rep w ok .nil (.pointer none)
 |fn (f:Nat):Rep w ok (.fn f) (.func (.func f) #[] #[])
 |ub (b:Bool):Rep w ok .ub (.bool b)
 |ln (n:Nat) (a:Option Addr) (c:Nat):Rep w ok (.ln n) (.slice a n c)
 |ptr (row:List D) (b o:Nat) (V:Nat→Value) (hok:ok b) (hcell:∀j,j<row.length→w.cell? ⟨b,o+j,none⟩=some (V j))
   (hrep:∀(j:Nat) (d:D),row[j]? =some d→Rep w ok d (V j)):Rep w ok (.ptr row) (.pointer (some ⟨b,o,none⟩))
section
variable {w w':World} {ok ok':Nat→Prop} {d:D} {v:Value} {rows:List (List D)}
theorem Rep.keep (h:Rep w ok d v) (hk:∀p:Addr,ok p.block→w'.cell? p=w.cell? p):Rep w' ok d v:=by
 induction h with
 |int n lo hi=>exact .int n lo hi
 |bool b=>exact .bool b
 |str s hs=>exact .str s hs
 |empty a c ha hc=>exact .empty a c ha hc
 |sl rows size b o c V hne hlen hc hsz hok hcell hrep ih=>
  exact .sl rows size b o c V hne hlen hc hsz hok (fun i j hi hj=>(hk _ hok).trans (hcell i j hi hj)) (fun i j r d hr hd=>ih i j r d hr hd)
 |num k n lo hi=>exact .num k n lo hi
 |nil=>exact .nil
 |fn f=>exact .fn f
 |ub b=>exact .ub b
 |ln n a c=>exact .ln n a c
 |ptr row b o V hok hcell hrep ih=>exact .ptr row b o V hok (fun j hj=>(hk _ hok).trans (hcell j hj)) ih
theorem Rep.weak (h:Rep w ok d v) (hk:∀b,ok b→ok' b):Rep w ok' d v:=by
 induction h with
 |int n lo hi=>exact .int n lo hi
 |bool b=>exact .bool b
 |str s hs=>exact .str s hs
 |empty a c ha hc=>exact .empty a c ha hc
 |sl rows size b o c V hne hlen hc hsz hok hcell hrep ih=>
  exact .sl rows size b o c V hne hlen hc hsz (hk _ hok) hcell (fun i j r d hr hd=>ih i j r d hr hd)
 |num k n lo hi=>exact .num k n lo hi
 |nil=>exact .nil
 |fn f=>exact .fn f
 |ub b=>exact .ub b
 |ln n a c=>exact .ln n a c
 |ptr row b o V hok hcell hrep ih=>exact .ptr row b o V (hk _ hok) hcell ih
theorem Rep.Xv {n:Int} (h:Rep w ok (.int n) v):v= .int .i64 n∧-9223372036854775808≤n∧n≤9223372036854775807:=by cases h;exact⟨rfl,by assumption,by assumption⟩
theorem Rep.E8 {b:Bool} (h:Rep w ok (.bool b) v):v= .bool b:=by cases h;rfl
theorem Rep.D5 {s:ByteArray} (h:Rep w ok (.str s) v):v= .string s∧s.size≤maxLen:=by cases h;exact⟨rfl,by assumption⟩
theorem Rep.sl_inv (h:Rep w ok (.sl rows) v):∃a c,v= .slice a rows.length c∧rows.length≤c∧c≤maxLen∧(a=none→c=0):=by
 cases h with
 |empty a c ha hc=>exact⟨a,c,rfl,Nat.zero_le _,hc,ha⟩
 |sl _ size b o c V hne hlen hc hsz hok hcell hrep=>exact⟨_,c,rfl,hlen,hc,by simp⟩
theorem Rep.none_inv {n c:Nat} (h:Rep w ok (.sl rows) (.slice none n c)):rows=[]∧n=0∧c=0:=by
 cases h with
 |empty a c ha hc=>exact⟨rfl,rfl,ha rfl⟩
def D.flat:D→Prop
 | .sl _=>False
 | .ptr _=>False
 |_=>True
theorem Rep.flat (h:Rep w ok d v) (hd:d.flat):Rep w' ok' d v:=by
 cases h with
 |int n lo hi=>exact .int n lo hi
 |bool b=>exact .bool b
 |str s hs=>exact .str s hs
 |empty a c ha hc=>exact hd.elim
 |sl=>exact hd.elim
 |num k n lo hi=>exact .num k n lo hi
 |nil=>exact .nil
 |fn f=>exact .fn f
 |ub b=>exact .ub b
 |ln n a c=>exact .ln n a c
 |ptr=>exact hd.elim
theorem Rep.oneCell (h:Rep w ok d v):v.oneCell'=true:=by cases h<;> rfl
end
inductive OD where
 |d (d:D)
 |own (ty:TypeId) (sz:Nat) (rows:List (List OD))
 |hole
 |nil
inductive G9 (w:World) (ok:Nat→Prop):(Nat→Prop)→OD→Value→Prop where
 |d (Q:Nat→Prop) (d:D) (v:Value) (h:Rep w ok d v):G9 w ok Q (.d d) v
 |hole (Q:Nat→Prop) (v:Value) (h:v.oneCell'=true):G9 w ok Q .hole v
 |nil (Q:Nat→Prop) (ty:TypeId) (sz:Nat) (h0:0<sz):G9 w ok Q (.own ty sz []) (.slice none 0 0)
 |nl (Q:Nat→Prop):G9 w ok Q .nil (.slice none 0 0)
 |own (Q:Nat→Prop) (ty:TypeId) (sz:Nat) (rows:List (List OD)) (b c:Nat) (cur:Array Value) (S:Nat→Nat→Nat→Prop) (h0:0<sz)
   (hsz:∀(i:Nat) (r:List OD),rows[i]? =some r→r.length=sz) (hb:w.heap[b]? =some (.cells cur ty (0,0))) (hlen:rows.length≤c) (hc:c≤maxLen) (hcs:cur.size=c * sz) (hQ:Q b)
   (hS:∀i j x,S i j x→Q x∧x≠b) (hd:∀i j i' j' x,S i j x→S i' j' x→i=i'∧j=j')
   (hcell:∀(i j:Nat) (r:List OD) (d:OD) (v:Value),rows[i]? =some r→r[j]? =some d→cur[i * sz+j]? =some v→G9 w ok (S i j) d v):G9 w ok Q (.own ty sz rows) (.slice (some ⟨b,0,none⟩) rows.length c)
theorem G9.keep {w w':World} {ok ok' Q Q':Nat→Prop} {d:OD} {v:Value} (h:G9 w ok Q d v) (hk:∀p:Addr,ok p.block→w'.cell? p=w.cell? p) (hok:∀b,ok b→ok' b)
  (hw:∀b,Q b→w'.heap[b]? =w.heap[b]?) (hQ:∀b,Q b→Q' b):G9 w' ok' Q' d v:=by
 induction h generalizing Q' with
 |d Q d v h=>exact .d _ d v ((h.keep hk).weak hok)
 |hole Q v h=>exact .hole _ v h
 |nil Q ty sz h0=>exact .nil _ ty sz h0
 |nl Q=>exact .nl _
 |own Q ty sz rows b c cur S h0 hsz hb hlen hc hcs hQb hS hd hcell ih=>
  exact .own _ ty sz rows b c cur S h0 hsz ((hw b hQb).trans hb) hlen hc hcs (hQ b hQb) (fun i j x hx=>⟨hQ x (hS i j x hx).1,(hS i j x hx).2⟩) hd
   fun i j r d v hr hd hv=>ih i j r d v hr hd hv (fun b hb=>hw b (hS i j b hb).1) fun _ h=>h
theorem G9.oneCell {w:World} {ok Q:Nat→Prop} {d:OD} {v:Value} (h:G9 w ok Q d v):v.oneCell'=true:=by
 cases h with
 |d _ _ _ h=>exact Rep.oneCell h
 |hole _ _ h=>exact h
 |nil=>rfl
 |nl=>rfl
 |own=>rfl
def RepRow (w:World) (ok:Nat→Prop) (r:List D) (vs:List Value):Prop:=r.length=vs.length∧∀(j:Nat) (d:D) (v:Value),r[j]? =some d→vs[j]? =some v→Rep w ok d v
def Blk (w:World) (g:Nat) (t:TypeId) (cs:Array Value):Prop:=w.heap[g]? =some (.cells cs t (0,0))
section
variable {w w':World} {g:Nat} {t:TypeId} {cs:Array Value}
end
theorem idx_div' {size i j:Nat} (hj:j<size):(i * size+j) / size=i∧(i * size+j) % size=j:=by
 have h0:0<size:=by omega
 refine⟨?_,?_⟩
 ·rw[Nat.mul_comm,Nat.mul_add_div h0,Nat.div_eq_of_lt hj,Nat.add_zero]
 ·rw[Nat.mul_comm,Nat.mul_add_mod,Nat.mod_eq_of_lt hj]
def Arr (w:World) (base:Nat) (e:TypeId) (size:Nat) (ok:Nat→Prop) (v:Value) (rows:List (List D)):Prop:=
 ∃xs,w.ownsRow base e size v rows.length xs∧(∀(i:Nat) (r:List D),rows[i]? =some r→r.length=size)∧
  ∀(i j:Nat) (r:List D) (d:D) (u:Value),rows[i]? =some r→r[j]? =some d→xs[i * size+j]? =some u→Rep w (fun b=>ok b∧v.ownBlock≠some b) d u
section
variable {w w':World} {ok ok':Nat→Prop} {base size:Nat} {e:TypeId} {v:Value} {rows:List (List D)}
end
end Go.Proofs.YtlbcipohiepjmaaDoor
namespace Go.Proofs.YtlbcipohiepjmaaDoor
open Go.RowKit
section
variable {w:World} {ok:Nat→Prop} {rows:List (List D)}
theorem idx_div {size i j:Nat} (hj:j<size):(i * size+j) / size=i∧(i * size+j) % size=j:=by
 have h0:0<size:=by omega
 refine⟨?_,?_⟩
 ·rw[Nat.mul_comm,Nat.mul_add_div h0,Nat.div_eq_of_lt hj,Nat.add_zero]
 ·rw[Nat.mul_comm,Nat.mul_add_mod,Nat.mod_eq_of_lt hj]
theorem Rep.news {a:Option Addr} {n c size:Nat} (h:Rep w ok (.sl rows) (.slice a n c)) (hs:∀(i:Nat) (r:List D),rows[i]? =some r→r.length=size):
  ∃news:List Value,news.length=n * size∧(∀j u,news[j]? =some u→∃ad,a=some ad∧w.cell? (ad.add j)=some u)∧(∀u∈news,u.oneCell'=true)∧
   ∀(i j:Nat) (r:List D) (d:D) (u:Value),rows[i]? =some r→r[j]? =some d→news[i * size+j]? =some u→Rep w ok d u:=by
 cases h with
 |empty a c ha hc=>exact⟨[],by simp,by simp,by simp,by simp⟩
 |sl _ size' b o c V hne hlen hc hsz hok hcell hrep=>
  have hss:size'=size:=by
   rcases rows with _|⟨r,rs⟩
   ·exact absurd rfl hne
   ·exact(hsz 0 r rfl).symm.trans (hs 0 r rfl)
  subst hss;have key:∀k,k<rows.length * size'→k / size'<rows.length∧k % size'<size'∧k / size' * size'+k % size'=k:=fun k hk=>by
   have h0:0<size':=by
    rcases Nat.eq_zero_or_pos size' with h|h
    ·subst h;omega
    ·exact h
   exact⟨(Nat.div_lt_iff_lt_mul h0).2 hk,Nat.mod_lt _ h0,by rw[Nat.mul_comm];exact Nat.div_add_mod k size'⟩
  refine⟨(List.range (rows.length * size')).map fun k=>V (k / size') (k % size'),by simp,fun j u hu=>?_,fun u hu=>?_,fun i j r d u hr hd hu=>?_⟩
  ·have hj:j<rows.length * size':=by have:=(List.getElem?_eq_some_iff.1 hu).1;simpa using this
   obtain⟨h1,h2,h3⟩:=key j hj;refine⟨_,rfl,?_⟩;rw[Addr.add_lit];have:=hcell _ _ h1 h2;rw[h3]at this;rw[this];simp[hj]at hu;rw[hu]
  ·obtain⟨k,hk,rfl⟩:=List.mem_map.1 hu;obtain⟨h1,h2,h3⟩:=key k (by simpa using hk);have hr:rows[k / size']? =some rows[k / size']:=List.getElem?_eq_getElem h1;have hl:=hs _ _ hr;exact(hrep (k / size') (k % size') _ _ hr (List.getElem?_eq_getElem (by omega))).oneCell
  ·have hi:i<rows.length:=(List.getElem?_eq_some_iff.1 hr).1;have hj:j<size':=by have:=hs i r hr;have:=(List.getElem?_eq_some_iff.1 hd).1;omega
   obtain⟨e1,e2⟩:=idx_div (i:=i) hj;have:=hrep i j r d hr hd;have hu':=(List.getElem?_eq_some_iff.1 hu).2;simp[e1,e2]at hu';rw[←hu'];exact this
end
section
variable {P:Program} (w:World)
theorem run_append_none (base:Nat) (t ty e:TypeId) (i:TypeInfo) (size:Nat) (ht:P.underlying t=some (.slice e)) (hi:P.info? e=some i)
  (v:Value) (n:Nat) (xs:List Value) (hown:w.ownsRow base e size v n xs) (c:Nat):(Builtin.append_ #[t,t] ty #[v,.slice none 0 c]).run P w= .ok v w:=by
 rcases hown.2 with⟨rfl,rfl⟩|⟨g,cap,cur,rfl,_,_,hnc,_⟩
 ·simp[Builtin.append_,run_underlying ht,sizeOf,typeInfo,hi,Builtin.lenOf,Builtin.firstCells]
 ·simp[Builtin.append_,run_underlying ht,sizeOf,typeInfo,hi,Builtin.lenOf,Builtin.firstCells,hnc,storeCells]
theorem run_append_news (base:Nat) (t ty e:TypeId) (i:TypeInfo) (z:Value) (size bytes:Nat) (ht:P.underlying t=some (.slice e)) (hi:P.info? e=some i) (hz:i.zero=some z)
  (hsize:i.size=size) (hby:i.bytes=bytes) (hzs:z.cells.size=size) (hsz:0<size)
  (v:Value) (n:Nat) (xs:List Value) (hown:w.ownsRow base e size v n xs)
  (A:Option Addr) (m c:Nat) (news:List Value) (hl:news.length=m * size) (hc:∀j u,news[j]? =some u→∃ad,A=some ad∧w.cell? (ad.add j)=some u) (h1:∀u∈news,u.oneCell'=true)
  (h63:n+m≤maxLen) (hbytes:(n+m) * bytes≤140737488355328) (hbase:base≤w.heap.size):
  ∃v' w',(Builtin.append_ #[t,t] ty #[v,.slice A m c]).run P w= .ok v' w'∧w'.ownsRow base e size v' (n+m) (xs++news)∧w.grownBy w' v.ownBlock∧
   (v'.ownBlock=v.ownBlock∨v'.ownBlock=some w.heap.size):=by
 rcases A with _|ad
 ·have hn:news=[]:=by
   rcases news with _|⟨u,us⟩
   ·rfl
   ·obtain⟨ad,h,_⟩:=hc 0 u rfl;cases h
  subst hn;have hm:m=0:=by
   rcases Nat.eq_zero_or_pos m with h0|h0
   ·exact h0
   ·have:=Nat.mul_pos h0 hsz;simp at hl;omega
  subst hm;exact⟨v,w,run_append_none w base t ty e i size ht hi v n xs hown c,by simpa using hown,World.grownBy.refl w _,.inl rfl⟩
 ·have hcells:∀j u,news[j]? =some u→w.cell? (ad.add j)=some u:=by
   intro j u hu;obtain⟨ad',h,hcc⟩:=hc j u hu;injection h with h;subst h;exact hcc
  obtain⟨v',w',hrun,h2,h3,_,h5⟩:=run_append_own_at (P:=P) w base t ty e i z size bytes ht hi hz hsize hby hzs hsz v n xs hown ad m c news hl hcells h1 h63 hbytes hbase;exact⟨v',w',hrun,h2,h3,h5⟩
end
end Go.Proofs.YtlbcipohiepjmaaDoor
namespace Go.Proofs.YtlbcipohiepjmaaDoor
open Go.RowKit
inductive AV where
 |any
 |d (d:D)
 |lit (v:Value)
 |fl (rows:List (List D))
 |ptr (o off:Nat)
 |arr (o lo n:Nat)
 |K7 (o i j:Nat)
 |mp (o:Nat)
 |agg (cs:List AV)
 |tuple (vs:List AV)
 |clo (f:Nat) (cap:List AV)
inductive Raw where
 |births (b:Nat) (ks ag:Bool) (n clock:Nat) (ents:List (Nat×D×List D))
 |iter (b clock:Nat) (seen:List Nat)
 |own (ty:TypeId) (sz:Nat) (rows:List (List OD)) (lk:List (Nat×Nat×Nat×Nat))
@[simp] def Kz (q:Nat→Bool):List (Nat×Nat×Nat×Nat)→List (Nat×Nat×Nat×Nat)
 |[]=>[]
 |(i,j,o,n)::r=>if q o then Kz q r else (i,j,o,n)::Kz q r
@[simp] def lkHas (q:Nat→Bool):List (Nat×Nat×Nat×Nat)→Bool
 |[]=>false
 |(_,_,o,_)::r=>q o||lkHas q r
theorem Sk (q:Nat→Bool):∀l,lkHas q (Kz q l)=false
 |[]=>rfl
 |(i,j,o,n)::r=>by
  unfold Kz;split
  ·exact Sk q r
  ·rename_i h;simp only[lkHas,Sk q r,Bool.or_false];simpa using h
theorem Sj {q:Nat→Bool} {x:Nat×Nat×Nat×Nat}:∀{l:List (Nat×Nat×Nat×Nat)},x∈Kz q l→x∈l
 |[],h=>h
 |(i,j,o,n)::r,h=>by
  unfold Kz at h;split at h
  ·exact List.mem_cons_of_mem _ (Sj h)
  ·rcases List.mem_cons.1 h with h|h
   ·rw[h];exact List.mem_cons_self ..
   ·exact List.mem_cons_of_mem _ (Sj h)
theorem F7 {q:Nat→Bool} {i j o n:Nat}:∀{l:List (Nat×Nat×Nat×Nat)},lkHas q l=false→(i,j,o,n)∈l→q o=false
 |[],_,h=>by cases h
 |(i',j',o',n')::r,hq,h=>by
  simp only[lkHas,Bool.or_eq_false_iff]at hq;rcases List.mem_cons.1 h with h|h
  ·cases h;exact hq.1
  ·exact F7 hq.2 h
theorem Nj (q1 q2:Nat→Bool):∀l,Kz q2 (Kz q1 l)=Kz (fun i=>q1 i||q2 i) l
 |[]=>rfl
 |(i,j,o,n)::r=>by
  by_cases h1:q1 o=true
  ·rw[Kz,if_pos h1,Nj q1 q2 r,Kz,if_pos (by simp[h1])]
  ·rw[Kz,if_neg h1,Kz,Nj q1 q2 r,Kz];by_cases h2:q2 o=true
   ·rw[if_pos h2,if_pos (by simp[h2])]
   ·rw[if_neg h2,if_neg (by simp[h1,h2])]
theorem lkKill_id {q:Nat→Bool}:∀{l:List (Nat×Nat×Nat×Nat)},(l.map fun x=>x.2.2.1).any q=false→Kz q l=l
 |[],_=>rfl
 |(i,j,o,n)::r,h=>by
  simp only[List.map_cons,List.any_cons,Bool.or_eq_false_iff]at h;rw[Kz,if_neg (by rw[h.1];simp),lkKill_id h.2]
theorem lkHas_none {q:Nat→Bool} (hq:∀i,q i=false):∀l,lkHas q l=false
 |[]=>rfl
 |(i,j,o,n)::r=>by simp only[lkHas,hq o,lkHas_none hq r,Bool.or_self]
theorem lkKill_none {q:Nat→Bool} (hq:∀i,q i=false):∀l,Kz q l=l
 |[]=>rfl
 |(i,j,o,n)::r=>by simp only[Kz,hq o,lkKill_none hq r];rfl
@[simp] def Raw.kill (q:Nat→Bool):Raw→Raw
 | .own ty sz rows lk=>.own ty sz rows (Kz q lk)
 | .births b ks ag n clock ents=>.births b ks ag n clock ents
 | .iter b clock seen=>.iter b clock seen
inductive Q6 where
 |blk (t:TypeId) (cs:List AV)
 |arr (e:TypeId) (sz:Nat) (rows:List (List D))
 |map (ks ag:Bool) (n:Nat) (ents:List (D×List D))
 |raw (r:Raw)
structure Gh where
 bl:Nat→Option Nat
 cp:Nat→Nat
 pv:Nat→Nat→Prop
abbrev Me:=Nat→Option Q6
def Q6.shape:Q6→Option (Nat×Nat)
 | .arr _ sz rows=>some (sz,rows.length)
 | .raw (.own _ sz rows _)=>some (sz,rows.length)
 |_=>none
def Q6.at_ (g:Gh) (o:Nat) (x:Q6) (b:Nat):Prop:=g.bl o=some b∨(match x with| .raw (.own _ _ _ _)=>g.pv o b|_=>False)
mutual
def AV.has (q:Nat→Bool):AV→Bool
 | .ptr o _=>q o
 | .arr o _ _=>q o
 | .K7 o _ _=>q o
 | .mp o=>q o
 | .agg cs=>AV.Yj q cs
 | .tuple vs=>AV.Yj q vs
 | .clo _ cap=>AV.Yj q cap
 |_=>false
def AV.Yj (q:Nat→Bool):List AV→Bool
 |[]=>false
 |x::r=>AV.has q x||AV.Yj q r
end
theorem AV.Sw {q:Nat→Bool} {l:List AV} (h:AV.Yj q l=false) (i:Nat) (c:AV) (hi:l[i]? =some c):c.has q=false:=by
 induction l generalizing i with
 |nil=>simp at hi
 |cons x r ih=>
  simp only[AV.Yj,Bool.or_eq_false_iff]at h;rcases i with _|i
  ·simp at hi;subst hi;exact h.1
  ·simp at hi;exact ih h.2 i hi
inductive VR (w:World) (ok:Nat→Prop) (g:Gh) (m:Me):AV→Value→Prop where
 |any (v:Value):VR w ok g m .any v
 |d (d:D) (v:Value) (h:Rep w ok d v):VR w ok g m (.d d) v
 |lit (v:Value) (h:v.oneCell'=true):VR w ok g m (.lit v) v
 |fl (rows:List (List D)) (v:Value) (h:∃a,v= .slice a rows.length rows.length) (hr:Rep w ok (.sl rows) v):VR w ok g m (.fl rows) v
 |ptr (o off:Nat) (v:Value) (hv:v.oneCell'=true) (h:∀x,m o=some x→∃b,g.bl o=some b∧v= .pointer (some ⟨b,off,none⟩)):VR w ok g m (.ptr o off) v
 |arr (o lo n:Nat) (v:Value) (hv:v.oneCell'=true) (h:∀x sz L,m o=some x→x.shape=some (sz,L)→lo+n≤L∧
   ((g.bl o=none∧v= .slice none 0 0∧lo=0∧n=0)∨(∃b,g.bl o=some b∧v= .slice (some ⟨b,lo * sz,none⟩) n (g.cp o-lo))∨(0<lo∧n=0∧∃a c,v= .slice a 0 c∧c≤maxLen∧(a=none→c=0)))):VR w ok g m (.arr o lo n) v
 |K7 (o i j:Nat) (v:Value) (hv:v.oneCell'=true) (h:∀x sz L,m o=some x→x.shape=some (sz,L)→∃b,g.bl o=some b∧v= .pointer (some ⟨b,i * sz+j,none⟩)):VR w ok g m (.K7 o i j) v
 |mp (o:Nat) (v:Value) (hv:v.oneCell'=true) (h:∀x,m o=some x→∃b,g.bl o=some b∧v= .map (some b)):VR w ok g m (.mp o) v
 |agg (cs:List AV) (vs:Array Value) (hl:cs.length=vs.size) (h:∀(i:Nat) (c:AV) (v:Value),cs[i]? =some c→vs[i]? =some v→VR w ok g m c v) (h1:∀(i:Nat) (v:Value),vs[i]? =some v→v.oneCell'=true):VR w ok g m (.agg cs) (.agg vs)
 |tuple (cs:List AV) (vs:Array Value) (hl:cs.length=vs.size) (h:∀(i:Nat) (c:AV) (v:Value),cs[i]? =some c→vs[i]? =some v→VR w ok g m c v):VR w ok g m (.tuple cs) (.tuple vs)
 |clo (f:Nat) (cs:List AV) (vs:Array Value) (hl:cs.length=vs.size) (h:∀(i:Nat) (c:AV) (v:Value),cs[i]? =some c→vs[i]? =some v→VR w ok g m c v):VR w ok g m (.clo f cs) (.func (.func f) #[] vs)
def Q6.like:Q6→Q6→Prop
 | .blk _ _,.blk _ _=>True
 | .arr _ sz rows,.arr _ sz' rows'=>sz=sz'∧rows.length≤rows'.length
 | .map ks ag n _,.map ks' ag' n' _=>ks=ks'∧ag=ag'∧n=n'
 | .raw (.own _ sz rows _),.raw (.own _ sz' rows' _)=>sz=sz'∧rows.length≤rows'.length
 | .raw (.own _ _ _ _),_=>False
 |_,.raw (.own _ _ _ _)=>False
 | .raw _,.raw _=>True
 | .map _ _ _ _,.raw _=>True
 | .raw _,.map _ _ _ _=>True
 |_,_=>False
theorem Q6.Wq (x:Q6):x.like x:=by
 rcases x with _|_|_|r
 ·simp[Q6.like]
 ·simp[Q6.like]
 ·simp[Q6.like]
 ·cases r<;> simp[Q6.like]
theorem Q6.like_shape {x x':Q6} (h:x.like x') {sz L:Nat} (hs:x'.shape=some (sz,L)):∃L0,x.shape=some (sz,L0)∧L0≤L:=by
 have fin:∀{a b c d:Nat},a=b∧c≤d→some (b,d)=some (sz,L)→∃L0,some (a,c)=some (sz,L0)∧L0≤L:=fun {a b c d} h1 h2=>by
  cases h2;exact⟨c,by rw[h1.1],h1.2⟩
 rcases x with⟨t,cs⟩|⟨e,sz1,rows1⟩|⟨ks,ag,n,ents⟩|r<;> rcases x' with⟨t',cs'⟩|⟨e',sz2,rows2⟩|⟨ks',ag',n',ents'⟩|r'
 all_goals first
  |(cases r<;> cases r'<;> first|exact fin h hs|exact h.elim|cases hs)
  |(cases r<;> first|exact h.elim|cases hs)
  |(cases r'<;> first|exact h.elim|cases hs)
  |exact fin h hs
  |exact h.elim
  |cases hs
theorem Q6.like_at {x x':Q6} (h:x.like x') {g:Gh} {o b:Nat}:x'.at_ g o b↔x.at_ g o b:=by
 rcases x with⟨t,cs⟩|⟨e,sz1,rows1⟩|⟨ks,ag,n,ents⟩|r<;> rcases x' with⟨t',cs'⟩|⟨e',sz2,rows2⟩|⟨ks',ag',n',ents'⟩|r'
 all_goals first
  |(cases r<;> cases r'<;> simp[Q6.like,Q6.at_]at h⊢)
  |(cases r<;> simp[Q6.like,Q6.at_]at h⊢)
  |(cases r'<;> simp[Q6.like,Q6.at_]at h⊢)
  |(simp[Q6.like,Q6.at_]at h⊢)
section
variable {w w':World} {ok ok':Nat→Prop} {g g':Gh} {m m':Me}
theorem VR.mono {c:AV} {v:Value} (h:VR w ok g m c v) (q:Nat→Bool) (hq:c.has q=false) (hk:∀p:Addr,ok p.block→w'.cell? p=w.cell? p) (hok:∀b,ok b→ok' b)
  (hm:∀o x',q o=false→m' o=some x'→∃x,m o=some x∧x.like x'∧g'.bl o=g.bl o∧g'.cp o=g.cp o):VR w' ok' g' m' c v:=by
 induction h with
 |any v=>exact .any v
 |d d v h=>exact .d d v ((h.keep hk).weak hok)
 |lit v h=>exact .lit v h
 |fl rows v h hr=>exact .fl rows v h ((hr.keep hk).weak hok)
 |ptr o off v hv h=>
  refine .ptr o off v hv fun x' hx'=>?_
  obtain⟨x,hx,_,hb,_⟩:=hm o x' hq hx';rw[hb];exact h x hx
 |arr o lo n v hv h=>
  refine .arr o lo n v hv fun x' sz L hx' hs=>?_
  obtain⟨x,hx,hl,hb,hc⟩:=hm o _ hq hx';obtain⟨L0,hs0,hle⟩:=Q6.like_shape hl hs;obtain⟨h1,h2⟩:=h _ _ _ hx hs0;rw[hb,hc];exact⟨by omega,h2⟩
 |K7 o i j v hv h=>
  refine .K7 o i j v hv fun x' sz L hx' hs=>?_
  obtain⟨x,hx,hl,hb,hc⟩:=hm o _ hq hx';obtain⟨L0,hs0,hle⟩:=Q6.like_shape hl hs;rw[hb];exact h _ _ _ hx hs0
 |mp o v hv h=>
  refine .mp o v hv fun x' hx'=>?_
  obtain⟨x,hx,_,hb,_⟩:=hm o x' hq hx';rw[hb];exact h x hx
 |agg cs vs hl h h1 ih=>exact .agg cs vs hl (fun i c v hc hv=>ih i c v hc hv (AV.Sw hq i c hc)) h1
 |tuple cs vs hl h ih=>exact .tuple cs vs hl (fun i c v hc hv=>ih i c v hc hv (AV.Sw hq i c hc))
 |clo f cs vs hl h ih=>exact .clo f cs vs hl (fun i c v hc hv=>ih i c v hc hv (AV.Sw hq i c hc))
theorem VR.Qa {cs:List AV} {v:Value} (h:VR w ok g m (.agg cs) v):∃vs:Array Value,v= .agg vs∧cs.length=vs.size∧(∀(i:Nat) (c:AV) (v:Value),cs[i]? =some c→vs[i]? =some v→VR w ok g m c v)∧∀(i:Nat) (v:Value),vs[i]? =some v→v.oneCell'=true:=by
 cases h;exact⟨_,rfl,by assumption,by assumption,by assumption⟩
theorem VR.tuple_inv {cs:List AV} {v:Value} (h:VR w ok g m (.tuple cs) v):∃vs:Array Value,v= .tuple vs∧cs.length=vs.size∧∀(i:Nat) (c:AV) (v:Value),cs[i]? =some c→vs[i]? =some v→VR w ok g m c v:=by
 cases h;exact⟨_,rfl,by assumption,by assumption⟩
theorem VR.clo_inv {f:Nat} {cs:List AV} {v:Value} (h:VR w ok g m (.clo f cs) v):∃vs:Array Value,v= .func (.func f) #[] vs∧cs.length=vs.size∧∀(i:Nat) (c:AV) (v:Value),cs[i]? =some c→vs[i]? =some v→VR w ok g m c v:=by
 cases h;exact⟨_,rfl,by assumption,by assumption⟩
theorem VR.Z6 {d:D} {v:Value} (h:VR w ok g m (.d d) v):Rep w ok d v:=by cases h;assumption
theorem VR.fl_inv {rows:List (List D)} {v:Value} (h:VR w ok g m (.fl rows) v):(∃a,v= .slice a rows.length rows.length)∧Rep w ok (.sl rows) v:=by cases h;exact⟨by assumption,by assumption⟩
theorem VR.Vz {u v:Value} (h:VR w ok g m (.lit u) v):v=u∧u.oneCell'=true:=by cases h;exact⟨rfl,by assumption⟩
theorem VR.ptr_inv {o off:Nat} {v:Value} (h:VR w ok g m (.ptr o off) v) {x:Q6} (hx:m o=some x):∃b,g.bl o=some b∧v= .pointer (some ⟨b,off,none⟩):=by
 cases h with
 |ptr o off v hv h=>exact h x hx
theorem VR.mp_inv {o:Nat} {v:Value} (h:VR w ok g m (.mp o) v) {x:Q6} (hx:m o=some x):∃b,g.bl o=some b∧v= .map (some b):=by
 cases h with
 |mp o v hv h=>exact h x hx
theorem VR.arr_invS {o lo n:Nat} {v:Value} (h:VR w ok g m (.arr o lo n) v) {x:Q6} {sz L:Nat} (hx:m o=some x) (hs:x.shape=some (sz,L)):
  lo+n≤L∧((g.bl o=none∧v= .slice none 0 0∧lo=0∧n=0)∨(∃b,g.bl o=some b∧v= .slice (some ⟨b,lo * sz,none⟩) n (g.cp o-lo))∨(0<lo∧n=0∧∃a c,v= .slice a 0 c∧c≤maxLen∧(a=none→c=0))):=by
 cases h with
 |arr o lo n v hv h=>exact h x sz L hx hs
theorem VR.arr_inv {o lo n:Nat} {v:Value} (h:VR w ok g m (.arr o lo n) v) {e:TypeId} {sz:Nat} {rows:List (List D)} (hx:m o=some (.arr e sz rows)):
  lo+n≤rows.length∧((g.bl o=none∧v= .slice none 0 0∧lo=0∧n=0)∨(∃b,g.bl o=some b∧v= .slice (some ⟨b,lo * sz,none⟩) n (g.cp o-lo))∨(0<lo∧n=0∧∃a c,v= .slice a 0 c∧c≤maxLen∧(a=none→c=0))):=by
 cases h with
 |arr o lo n v hv h=>exact h _ sz _ hx rfl
end
theorem VR.eptr_invS {w:World} {ok:Nat→Prop} {g:Gh} {m:Me} {o i j:Nat} {v:Value} (h:VR w ok g m (.K7 o i j) v) {x:Q6} {sz L:Nat} (hx:m o=some x) (hs:x.shape=some (sz,L)):
  ∃b,g.bl o=some b∧v= .pointer (some ⟨b,i * sz+j,none⟩):=by
 cases h with
 |K7 o i j v hv h=>exact h x sz L hx hs
theorem VR.eptr_inv {w:World} {ok:Nat→Prop} {g:Gh} {m:Me} {o i j:Nat} {v:Value} (h:VR w ok g m (.K7 o i j) v) {e:TypeId} {sz:Nat} {rows:List (List D)} (hx:m o=some (.arr e sz rows)):
  ∃b,g.bl o=some b∧v= .pointer (some ⟨b,i * sz+j,none⟩):=by
 cases h with
 |K7 o i j v hv h=>exact h _ sz _ hx rfl
def AV.cells:AV→Option (List AV)
 | .any=>none
 | .agg cs=>some cs
 | .tuple _=>none
 |v=>some [v]
def VRs (w:World) (ok:Nat→Prop) (g:Gh) (m:Me) (cs:List AV) (vs:List Value):Prop:=
 cs.length=vs.length∧(∀(i:Nat) (c:AV) (v:Value),cs[i]? =some c→vs[i]? =some v→VR w ok g m c v)∧∀v∈vs,v.oneCell'=true
theorem VR.cells {w:World} {ok:Nat→Prop} {g:Gh} {m:Me} {c:AV} {v:Value} {cs:List AV} (h:VR w ok g m c v) (hc:c.cells=some cs):VRs w ok g m cs v.cells.toList:=by
 have one:∀{c:AV},VR w ok g m c v→v.oneCell'=true→VRs w ok g m [c] v.cells.toList:=fun {c} h hv=>by
  have:v.cells= #[v]:=by cases v<;> first|rfl|simp[Value.oneCell']at hv
  rw[this];refine⟨rfl,fun i c' v' hc hv'=>?_,by simpa using hv⟩;rcases i with _|i
  ·simp at hc hv';subst hc hv';exact h
  ·simp at hc
 cases h with
 |any v=>simp[AV.cells]at hc
 |d d v h=>simp[AV.cells]at hc;subst hc;exact one (.d d v h) h.oneCell
 |lit v h=>simp[AV.cells]at hc;subst hc;exact one (.lit v h) h
 |fl rows v h hr=>simp[AV.cells]at hc;subst hc;exact one (.fl rows v h hr) hr.oneCell
 |ptr o off v hv h=>simp[AV.cells]at hc;subst hc;exact one (.ptr o off v hv h) hv
 |arr o lo n v hv h=>simp[AV.cells]at hc;subst hc;exact one (.arr o lo n v hv h) hv
 |K7 o i j v hv h=>simp[AV.cells]at hc;subst hc;exact one (.K7 o i j v hv h) hv
 |mp o v hv h=>simp[AV.cells]at hc;subst hc;exact one (.mp o v hv h) hv
 |agg cs' vs hl h h1=>
  simp[AV.cells]at hc;subst hc;refine⟨by simpa[Value.cells]using hl,fun i c v hc hv=>h i c v hc (by simpa[Value.cells]using hv),fun v hv=>?_⟩;obtain⟨i,hi⟩:=List.mem_iff_getElem?.1 hv;exact h1 i v (by simpa[Value.cells]using hi)
 |tuple cs' vs hl h=>simp[AV.cells]at hc
 |clo f cs' vs hl h=>simp[AV.cells]at hc;subst hc;exact one (.clo f cs' vs hl h) rfl
theorem VRs.mono {w w':World} {ok ok':Nat→Prop} {g g':Gh} {m m':Me} {cs:List AV} {vs:List Value} (h:VRs w ok g m cs vs) (q:Nat→Bool) (hq:AV.Yj q cs=false) (hk:∀p:Addr,ok p.block→w'.cell? p=w.cell? p) (hok:∀b,ok b→ok' b)
  (hm:∀o x',q o=false→m' o=some x'→∃x,m o=some x∧x.like x'∧g'.bl o=g.bl o∧g'.cp o=g.cp o):VRs w' ok' g' m' cs vs:=
 ⟨h.1,fun i c v hc hv=>(h.2.1 i c v hc hv).mono q (AV.Sw hq i c hc) hk hok hm,h.2.2⟩
def D.Y2:Bool→D→Bool
 |true,.str _=>true
 |false,.int _=>true
 |_,_=>false
def D.keq:D→D→Bool
 | .str a,.str b=>decide (a=b)
 | .int a,.int b=>decide (a=b)
 |_,_=>false
def M0 (w:World) (ok:Nat→Prop) (ag:Bool) (r:List D) (v:Value):Prop:=
 if ag=true then∃vs:Array Value,v= .agg vs∧vs.size=r.length∧∀(i:Nat) (d:D) (u:Value),r[i]? =some d→vs[i]? =some u→Rep w ok d u
 else∃d,r=[d]∧Rep w ok d v
theorem M0.keep {w w':World} {ok:Nat→Prop} {ag:Bool} {r:List D} {v:Value} (h:M0 w ok ag r v) (hk:∀p:Addr,ok p.block→w'.cell? p=w.cell? p):M0 w' ok ag r v:=by
 unfold M0 at h⊢;split
 ·rename_i ha;rw[if_pos ha]at h;obtain⟨vs,h1,h2,h3⟩:=h;exact⟨vs,h1,h2,fun i d u a b=>(h3 i d u a b).keep hk⟩
 ·rename_i ha;rw[if_neg ha]at h;obtain⟨d,h1,h2⟩:=h;exact⟨d,h1,h2.keep hk⟩
theorem M0.weak {w:World} {ok ok':Nat→Prop} {ag:Bool} {r:List D} {v:Value} (h:M0 w ok ag r v) (hk:∀b,ok b→ok' b):M0 w ok' ag r v:=by
 unfold M0 at h⊢;split
 ·rename_i ha;rw[if_pos ha]at h;obtain⟨vs,h1,h2,h3⟩:=h;exact⟨vs,h1,h2,fun i d u a b=>(h3 i d u a b).weak hk⟩
 ·rename_i ha;rw[if_neg ha]at h;obtain⟨d,h1,h2⟩:=h;exact⟨d,h1,h2.weak hk⟩
structure Hw (w:World) (ok:Nat→Prop) (ks ag:Bool) (n:Nat) (ents:List (D×List D)) (es:Array MapEntry) (clock:Nat):Prop where
 st:MapKept.Stamped es clock
 keys:∀p∈ents,D.Y2 ks p.1=true∧p.2.length=n
 nodup:ents.Pairwise fun p q=>D.keq p.1 q.1=false
 perm:∃l:List (D×List D),l.Perm ents∧l.length=es.size∧∀(i:Nat) (e:MapEntry) (p:D×List D),es[i]? =some e→l[i]? =some p→Rep w ok p.1 e.key∧M0 w ok ag p.2 e.val
theorem Hw.keep {w w':World} {ok ok':Nat→Prop} {ks ag:Bool} {n:Nat} {ents:List (D×List D)} {es:Array MapEntry} {clock:Nat} (h:Hw w ok ks ag n ents es clock) (hk:∀p:Addr,ok p.block→w'.cell? p=w.cell? p) (hok:∀b,ok b→ok' b):Hw w' ok' ks ag n ents es clock:=by
 obtain⟨l,h1,h2,h3⟩:=h.perm;exact⟨h.st,h.keys,h.nodup,l,h1,h2,fun i e p a b=>⟨((h3 i e p a b).1.keep hk).weak hok,((h3 i e p a b).2.keep hk).weak hok⟩⟩
theorem D.keq_symm (a b:D):D.keq a b=D.keq b a:=by
 cases a<;> cases b<;> simp[D.keq,eq_comm]
theorem Hw.reorder {w:World} {ok:Nat→Prop} {ks ag:Bool} {n:Nat} {ents ents':List (D×List D)} {es:Array MapEntry} {clock:Nat} (h:Hw w ok ks ag n ents es clock) (hp:ents.Perm ents'):Hw w ok ks ag n ents' es clock:=by
 obtain⟨l,h1,h2,h3⟩:=h.perm;exact⟨h.st,fun p hm=>h.keys p (hp.mem_iff.2 hm),(hp.pairwise_iff fun {a b} hab=>by rw[D.keq_symm];exact hab).1 h.nodup,l,h1.trans hp,h2,h3⟩
structure MapB (w:World) (ok:Nat→Prop) (ks ag:Bool) (n:Nat) (ents:List (Nat×D×List D)) (es:Array MapEntry) (clock:Nat):Prop where
 st:MapKept.Stamped es clock
 keys:∀p∈ents,D.Y2 ks p.2.1=true∧p.2.2.length=n
 nodup:ents.Pairwise fun p q=>D.keq p.2.1 q.2.1=false
 size:ents.length=es.size
 at':∀(i:Nat) (e:MapEntry) (p:Nat×D×List D),es[i]? =some e→ents[i]? =some p→p.1=e.born∧Rep w ok p.2.1 e.key∧M0 w ok ag p.2.2 e.val
def RawR (w:World) (ok:Nat→Prop) (g:Gh) (m:Me) (o:Nat):Raw→Prop
 | .births b ks ag n clock ents=>g.bl o=some b∧∃es,w.heap[b]? =some (.map es clock)∧MapB w ok ks ag n ents es clock
 | .iter b clock seen=>∃bi,g.bl o=some bi∧w.heap[bi]? =some (.mapIter (some b) clock seen.toArray clock)
 | .own ty sz rows lk=>0<sz∧(∀(i:Nat) (r:List OD),rows[i]? =some r→r.length=sz)∧
   ((g.bl o = none∧rows = [])∨∃ (b : Nat) (cur : Array Value) (S : Nat→Nat→Nat→Prop),g.bl o = some b∧¬ g.pv o b∧w.heap[b]? = some (.cells cur ty (0,0))∧rows.length≤g.cp o∧g.cp o≤maxLen∧cur.size = g.cp o * sz ∧
    (∀i j x,S i j x→g.pv o x)∧(∀i j i' j' x,S i j x→S i' j' x→i=i'∧j=j')∧
    ∀(i j:Nat) (r:List OD) (c:OD) (v:Value),rows[i]? =some r→r[j]? =some c→cur[i * sz+j]? =some v→G9 w ok (S i j) c v)∧
   ∀(i j o' n:Nat),(i,j,o',n)∈lk→∃(r:List OD) (b:Nat) (v:Value),rows[i]? =some r∧j<sz∧g.bl o=some b∧w.cell? ⟨b,i * sz+j,none⟩=some v∧VR w ok g m (.arr o' 0 n) v
def Q6.clear (q:Nat→Bool):Q6→Prop
 | .blk _ cs=>AV.Yj q cs=false
 | .raw (.own _ _ _ lk)=>lkHas q lk=false
 |_=>True
theorem Q6.Fz {q:Nat→Bool} (hq:∀i,q i=false) (x:Q6):x.clear q:=by
 have h1:∀c:AV,c.has q=false:=fun c=>AV.rec (motive_1:=fun c=>c.has q=false) (motive_2:=fun l=>AV.Yj q l=false) (by rfl) (fun _=>rfl) (fun _=>rfl) (fun _=>rfl) (fun o _=>hq o) (fun o _ _=>hq o) (fun o _ _=>hq o) (fun o=>hq o)
   (fun cs h=>h) (fun cs h=>h) (fun _ cs h=>h) rfl (fun x r h1 h2=>by simp only[AV.Yj,h1,h2,Bool.or_self]) c
 have h2:∀l:List AV,AV.Yj q l=false:=fun l=>by
  induction l with
  |nil=>rfl
  |cons c r ih=>simp only[AV.Yj,h1 c,ih,Bool.or_self]
 rcases x with⟨t,cs⟩|_|_|r
 ·exact h2 cs
 ·trivial
 ·trivial
 ·cases r with
  |own ty sz rows lk=>exact lkHas_none hq lk
  |births=>trivial
  |iter=>trivial
theorem RawR.mono {w w':World} {ok ok':Nat→Prop} {g g':Gh} {m m':Me} {o:Nat} {r:Raw} (h:RawR w ok g m o r) (q:Nat→Bool) (hx:(Q6.raw r).clear q) (hw:∀b,(Q6.raw r).at_ g o b→w'.heap[b]? =w.heap[b]?) (hb:g'.bl o=g.bl o) (hc:g'.cp o=g.cp o) (hp:g'.pv o=g.pv o) (hk:∀p:Addr,ok p.block→w'.cell? p=w.cell? p) (hok:∀b,ok b→ok' b)
  (hm:∀o x',q o=false→m' o=some x'→∃x,m o=some x∧x.like x'∧g'.bl o=g.bl o∧g'.cp o=g.cp o):RawR w' ok' g' m' o r:=by
 cases r with
 |own ty sz rows lk=>
  obtain⟨h0,h1,h2,hlk⟩:=h;refine⟨h0,h1,?_,fun i j o' n hmem=>?_⟩
  case refine_2=>
   obtain⟨r,b,v,k1,k2,k3,k4,k5⟩:=hlk i j o' n hmem;exact⟨r,b,v,k1,k2,hb.trans k3,(World.cell?_of_block (hw b (.inl k3))).trans k4,k5.mono q (by simpa[AV.has]using F7 hx hmem) hk hok hm⟩
  rcases h2 with⟨h2,h3⟩|⟨b,cur,S,k1,k2,k3,k4,k5,k6,k7,k8,k9⟩
  ·exact .inl ⟨hb.trans h2,h3⟩
  ·exact .inr ⟨b,cur,S,hb.trans k1,by rw[hp];exact k2,(hw b (.inl k1)).trans k3,by rw[hc];exact k4,by rw[hc];exact k5,by rw[hc];exact k6,by rw[hp];exact k7,k8,
    fun i j r c v x y z=>(k9 i j r c v x y z).keep hk hok (fun b hb=>hw b (.inr (k7 i j b hb))) fun _ h=>h⟩
 |births b ks ag n clock ents=>
  obtain⟨h1,es,h2,h3⟩:=h;exact⟨hb.trans h1,es,(hw b (.inl h1)).trans h2,h3.st,h3.keys,h3.nodup,h3.size,fun i e p a c=>⟨(h3.at' i e p a c).1,((h3.at' i e p a c).2.1.keep hk).weak hok,((h3.at' i e p a c).2.2.keep hk).weak hok⟩⟩
 |iter b clock seen=>
  obtain⟨bi,h1,h2⟩:=h;exact⟨bi,hb.trans h1,(hw bi (.inl h1)).trans h2⟩
@[simp] def Raw.ids:Raw→List Nat
 | .own _ _ _ lk=>lk.map fun x=>x.2.2.1
 |_=>[]
@[simp] def Raw.ren (ρ:Nat→Nat):Raw→Raw
 | .own ty sz rows lk=>.own ty sz rows (lk.map fun x=>(x.1,x.2.1,ρ x.2.2.1,x.2.2.2))
 | .births b ks ag n clock ents=>.births b ks ag n clock ents
 | .iter b clock seen=>.iter b clock seen
theorem RawR.at' {w:World} {ok:Nat→Prop} {g g':Gh} {m m':Me} {o o':Nat} {r:Raw} (h:RawR w ok g m o r) (hb:g'.bl o'=g.bl o) (hc:g'.cp o'=g.cp o) (hp:g'.pv o'=g.pv o) (ρ:Nat→Nat) (hm:∀i,i∈r.ids→∀n v,VR w ok g m (.arr i 0 n) v→VR w ok g' m' (.arr (ρ i) 0 n) v):RawR w ok g' m' o' (r.ren ρ):=by
 cases r with
 |own ty sz rows lk=>
  obtain⟨h0,h1,h2,h3⟩:=h;refine⟨h0,h1,?_,fun i j o1 n hmem=>?_⟩
  ·rw[hb,hc,hp];exact h2
  ·obtain⟨⟨i',j',o2,n'⟩,hmem',he⟩:=List.mem_map.1 hmem;cases he;obtain⟨r,b,v,k1,k2,k3,k4,k5⟩:=h3 _ _ _ _ hmem';exact⟨r,b,v,k1,k2,hb.trans k3,k4,hm o2 (List.mem_map.2 ⟨_,hmem',rfl⟩) _ _ k5⟩
 |births b ks ag n clock ents=>exact⟨hb.trans h.1,h.2⟩
 |iter b clock seen=>
  obtain⟨bi,h1,h2⟩:=h;exact⟨bi,hb.trans h1,h2⟩
theorem RawR.back {w:World} {ok:Nat→Prop} {g g':Gh} {m m':Me} {o o':Nat} {r:Raw} (ρ:Nat→Nat) (h:RawR w ok g m o (r.ren ρ)) (hb:g'.bl o'=g.bl o) (hc:g'.cp o'=g.cp o) (hp:g'.pv o'=g.pv o)
  (hm:∀i n v,VR w ok g m (.arr (ρ i) 0 n) v→VR w ok g' m' (.arr i 0 n) v):RawR w ok g' m' o' r:=by
 cases r with
 |own ty sz rows lk=>
  obtain⟨h0,h1,h2,h3⟩:=h;refine⟨h0,h1,?_,fun i j o1 n hmem=>?_⟩
  ·rw[hb,hc,hp];exact h2
  ·obtain⟨r,b,v,k1,k2,k3,k4,k5⟩:=h3 i j (ρ o1) n (List.mem_map.2 ⟨_,hmem,rfl⟩);exact⟨r,b,v,k1,k2,hb.trans k3,k4,hm _ _ _ k5⟩
 |births b ks ag n clock ents=>exact⟨hb.trans h.1,h.2⟩
 |iter b clock seen=>
  obtain⟨bi,h1,h2⟩:=h;exact⟨bi,hb.trans h1,h2⟩
def OR (w:World) (ok:Nat→Prop) (g:Gh) (m:Me) (o:Nat):Q6→Prop
 | .blk t cs=>∃b vs,g.bl o=some b∧w.heap[b]? =some (.cells vs t (0,0))∧VRs w ok g m cs vs.toList
 | .arr e sz rows=>0<sz∧(∀(i:Nat) (r:List D),rows[i]? =some r→r.length=sz)∧
   ((g.bl o = none∧rows = [])∨∃ b cur,g.bl o = some b∧w.heap[b]? = some (.cells cur e (0,0))∧rows.length≤g.cp o∧g.cp o≤maxLen∧cur.size = g.cp o * sz ∧
    ∀(i j:Nat) (r:List D) (c:D) (v:Value),rows[i]? =some r→r[j]? =some c→cur[i * sz+j]? =some v→Rep w ok c v)
 | .map ks ag n ents=>∃b es clock,g.bl o=some b∧w.heap[b]? =some (.map es clock)∧Hw w ok ks ag n ents es clock
 | .raw r=>RawR w ok g m o r
structure Cx where
 w:World
 ok:Nat→Prop
 T:Nat→Prop
 g:Gh
def kept (i:Nat):Bool:=Nat.ble 1000 i
structure MS (C:Cx) (w:World) (ok:Nat→Prop) (g:Gh) (m:Me):Prop where
 obj:∀o x,m o=some x→OR w ok g m o x
 inj:∀i j xi xj b,m i=some xi→m j=some xj→xi.at_ g i b→xj.at_ g j b→i=j
 own:∀i x b,m i=some x→x.at_ g i b→¬ok b∧b<w.heap.size∧(C.w.heap.size≤b∨(C.T b∧500≤i))
 okb:∀b,ok b→b<w.heap.size∧(C.ok b∨C.w.heap.size≤b)
 okk:∀b,C.ok b→ok b
 size:C.w.heap.size≤w.heap.size
 heap:∀b,b<C.w.heap.size→¬C.T b→w.heap[b]? =C.w.heap[b]?
 keep:∀i,kept i=true→g.bl i=C.g.bl i∧g.cp i=C.g.cp i
 os:w.os=C.w.os
 tape:w.tape=C.w.tape
 output:w.output=C.w.output
 gi:GI C.w
 gb:∀b,GB b→¬C.T b
theorem MS.giw {C:Cx} {w:World} {ok:Nat→Prop} {g:Gh} {m:Me} (h:MS C w ok g m):GI w:=h.gi.keep fun b hb=>h.heap b (h.gi.lt hb) (h.gb b hb)
theorem World.Yw {w w':World} {p:Addr} (h:w'.heap[p.block]? =w.heap[p.block]?):w'.cell? p=w.cell? p:=World.cell?_of_block h
theorem OR.mono {w w':World} {ok ok':Nat→Prop} {g g':Gh} {m m':Me} {o:Nat} {x:Q6} (h:OR w ok g m o x) (q:Nat→Bool)
  (hx:x.clear q)
  (hw:∀b,x.at_ g o b→w'.heap[b]? =w.heap[b]?) (hb:g'.bl o=g.bl o) (hc:g'.cp o=g.cp o) (hk:∀p:Addr,ok p.block→w'.cell? p=w.cell? p) (hok:∀b,ok b→ok' b)
  (hm:∀o x',q o=false→m' o=some x'→∃x,m o=some x∧x.like x'∧g'.bl o=g.bl o∧g'.cp o=g.cp o) (hp:g'.pv o=g.pv o:=by first|rfl|simp[*]):OR w' ok' g' m' o x:=by
 cases x with
 |blk t cs=>
  obtain⟨b,vs,h1,h2,h3⟩:=h;exact⟨b,vs,hb.trans h1,(hw b (.inl h1)).trans h2,h3.mono q hx hk hok hm⟩
 |arr e sz rows=>
  obtain⟨h0,h1,h2⟩:=h;refine⟨h0,h1,?_⟩;rcases h2 with⟨h2,h3⟩|⟨b,cur,h2,h3,h4,h5,h6,h7⟩
  ·exact .inl ⟨hb.trans h2,h3⟩
  ·exact .inr ⟨b,cur,hb.trans h2,(hw b (.inl h2)).trans h3,by rw[hc];exact h4,by rw[hc];exact h5,by rw[hc];exact h6,fun i j r c v a b d=>((h7 i j r c v a b d).keep hk).weak hok⟩
 |map ks ag n ents=>
  obtain⟨b,es,clock,h1,h2,h3⟩:=h;exact⟨b,es,clock,hb.trans h1,(hw b (.inl h1)).trans h2,h3.keep hk hok⟩
 |raw r=>exact RawR.mono h q hx hw hb hc hp hk hok hm
end Go.Proofs.YtlbcipohiepjmaaDoor
namespace Go.Proofs.YtlbcipohiepjmaaDoor
open Go.RowKit
def AV.kill (q:Nat→Bool) (c:AV):AV:=if c.has q then .any else c
def Q6.kill (q:Nat→Bool):Q6→Q6
 | .blk t cs=>.blk t (cs.map (AV.kill q))
 | .arr e sz rows=>.arr e sz rows
 | .map ks ag n ents=>.map ks ag n ents
 | .raw r=>.raw (r.kill q)
theorem AV.kill_has (q:Nat→Bool) (c:AV):(c.kill q).has q=false:=by
 unfold AV.kill;by_cases h:c.has q=true
 ·rw[if_pos h];rfl
 ·rw[if_neg h];simpa using h
theorem AV.kill_hasL (q:Nat→Bool) (l:List AV):AV.Yj q (l.map (AV.kill q))=false:=by
 induction l with
 |nil=>rfl
 |cons x r ih=>simp only[List.map_cons,AV.Yj,AV.kill_has,ih,Bool.or_self]
section
variable {w w':World} {ok ok':Nat→Prop} {g g':Gh} {m m':Me}
theorem VR.kill {c:AV} {v:Value} (h:VR w ok g m c v) (q:Nat→Bool):VR w ok g m (c.kill q) v:=by
 unfold AV.kill;split
 ·exact .any v
 ·exact h
theorem VRs.kill {cs:List AV} {vs:List Value} (h:VRs w ok g m cs vs) (q:Nat→Bool):VRs w ok g m (cs.map (AV.kill q)) vs:=by
 refine⟨by simpa using h.1,fun i c v hc hv=>?_,h.2.2⟩;rw[List.getElem?_map]at hc;obtain⟨c',hc',rfl⟩:=Option.map_eq_some_iff.1 hc;exact(h.2.1 i c' v hc' hv).kill q
theorem OR.kill {o:Nat} {x:Q6} (h:OR w ok g m o x) (q:Nat→Bool):OR w ok g m o (x.kill q):=by
 cases x with
 |blk t cs=>
  obtain⟨b,vs,h1,h2,h3⟩:=h;exact⟨b,vs,h1,h2,h3.kill q⟩
 |arr e sz rows=>exact h
 |map ks ag n ents=>exact h
 |raw r=>
  cases r with
  |own ty sz rows lk=>exact⟨h.1,h.2.1,h.2.2.1,fun i j o' n hm=>h.2.2.2 i j o' n (Sj hm)⟩
  |births=>exact h
  |iter=>exact h
theorem Q6.F9 (q:Nat→Bool) (x:Q6):x.like (x.kill q):=by
 rcases x with _|_|_|r
 ·simp[Q6.like,Q6.kill]
 ·simp[Q6.like,Q6.kill]
 ·simp[Q6.like,Q6.kill]
 ·cases r<;> simp[Q6.like,Q6.kill,Raw.kill]
theorem Q6.kill_clear (q:Nat→Bool) (x:Q6):(x.kill q).clear q:=by
 rcases x with _|_|_|r
 ·exact AV.kill_hasL q _
 ·trivial
 ·trivial
 ·cases r with
  |own ty sz rows lk=>exact Sk q lk
  |births=>trivial
  |iter=>trivial
theorem Q6.at_blk {g:Gh} {o b:Nat} {t:TypeId} {cs:List AV}:(Q6.blk t cs).at_ g o b↔g.bl o=some b:=by simp[Q6.at_]
theorem Q6.at_arr {g:Gh} {o b:Nat} {e:TypeId} {sz:Nat} {rows:List (List D)}:(Q6.arr e sz rows).at_ g o b↔g.bl o=some b:=by simp[Q6.at_]
theorem Q6.at_map {g:Gh} {o b:Nat} {ks ag:Bool} {n:Nat} {ents:List (D×List D)}:(Q6.map ks ag n ents).at_ g o b↔g.bl o=some b:=by simp[Q6.at_]
theorem Q6.kill_at {q:Nat→Bool} {x:Q6} {g:Gh} {o b:Nat}:(x.kill q).at_ g o b↔x.at_ g o b:=Q6.like_at (Q6.F9 q x)
theorem Q6.Dz {x:Q6} {g g':Gh} {o o' b:Nat} (hb:g'.bl o'=g.bl o) (hp:g'.pv o'=g.pv o):x.at_ g' o' b↔x.at_ g o b:=by
 unfold Q6.at_;rw[hb,hp]
def Zq (m:Me) (U:Nat→Bool) (q:Nat→Bool) (N:Me):Me:=fun i=>if U i then N i else (m i).map (Q6.kill q)
theorem MS.eff {C:Cx} (h:MS C w ok g m) (U q:Nat→Bool) (N:Me) (hqU:∀i,q i=true→U i=true)
  (hN:∀i x,U i=true→N i=some x→OR w' ok' g' (Zq m U q N) i x)
  (hg:∀i,q i=false→g'.bl i=g.bl i∧g'.cp i=g.cp i)
  (hl:∀i x',U i=true→q i=false→N i=some x'→∃x,m i=some x∧x.like x')
  (hh:∀i x b,U i=false→m i=some x→x.at_ g i b→w'.heap[b]? =w.heap[b]?)
  (hokc:∀b,ok b→w'.heap[b]? =w.heap[b]?) (hok:∀b,ok b→ok' b) (hokb:∀b,ok' b→ok b∨(b<w'.heap.size∧C.w.heap.size≤b∧∀i x,U i=false→m i=some x→¬x.at_ g i b))
  (hinj:∀i x b,U i=true→N i=some x→x.at_ g' i b→¬ok' b∧b<w'.heap.size∧(C.w.heap.size≤b∨(C.T b∧500≤i))∧(∀j xj,U j=false→m j=some xj→¬xj.at_ g j b)∧∀j xj,U j=true→N j=some xj→xj.at_ g' j b→i=j)
  (hK:∀i,q i=true→kept i=false) (hsz:w.heap.size≤w'.heap.size)
  (hheap:∀b,b<C.w.heap.size→¬C.T b→w'.heap[b]? =w.heap[b]?) (hos:w'.os=w.os) (htape:w'.tape=w.tape) (hout:w'.output=w.output) (hpv:∀i,U i=false→g'.pv i=g.pv i:=by first|exact fun _ _=>rfl|(intro i hi;simp[*])):
  MS C w' ok' g' (Zq m U q N)∧∀c v,c.has q=false→VR w ok g m c v→VR w' ok' g' (Zq m U q N) c v:=by
 have hk:∀p:Addr,ok p.block→w'.cell? p=w.cell? p:=fun p hp=>World.Yw (hokc _ hp)
 have hm:∀o x',q o=false→(Zq m U q N) o=some x'→∃x,m o=some x∧x.like x'∧g'.bl o=g.bl o∧g'.cp o=g.cp o:=by
  intro o x' hq hx';unfold Zq at hx';by_cases hU:U o=true
  ·rw[if_pos hU]at hx';obtain⟨x,hx,hl⟩:=hl o x' hU hq hx';exact⟨x,hx,hl,hg o hq⟩
  ·rw[if_neg hU]at hx';obtain⟨x,hx,rfl⟩:=Option.map_eq_some_iff.1 hx';exact⟨x,hx,Q6.F9 q x,hg o hq⟩
 have hold:∀o x',U o=false→(Zq m U q N) o=some x'→q o=false∧∃x,m o=some x∧x'=x.kill q:=by
  intro o x' hU hx';unfold Zq at hx';rw[if_neg (by simp[hU])]at hx';obtain⟨x,hx,rfl⟩:=Option.map_eq_some_iff.1 hx';refine⟨?_,x,hx,rfl⟩;rcases hq:q o
  ·rfl
  ·rw[hqU o hq]at hU;cases hU
 have hnew:∀o x',U o=true→(Zq m U q N) o=some x'→N o=some x':=fun o x' hU hx'=>by unfold Zq at hx';rwa [if_pos hU]at hx'
 refine⟨⟨fun o x' hx'=>?_,fun i j xi xj b hi hj hbi hbj=>?_,fun i x b hi hbi=>?_,fun b hb=>?_,fun b hb=>hok b (h.okk b hb),Nat.le_trans h.size hsz,fun b hb hT=>(hheap b hb hT).trans (h.heap b hb hT),
  fun i hi=>?_,hos.trans h.os,htape.trans h.tape,hout.trans h.output,h.gi,h.gb⟩,fun c v hc hv=>hv.mono q hc hk hok hm⟩
 ·rcases hU:U o
  ·obtain⟨hq,x,hx,rfl⟩:=hold o x' hU hx';exact((h.obj o x hx).kill q).mono q (Q6.kill_clear q x) (fun b hb=>hh o x b hU hx (Q6.kill_at.1 hb)) (hg o hq).1 (hg o hq).2 hk hok hm (hpv o hU)
  ·exact hN o x' hU (hnew o x' hU hx')
 ·rcases hUi:U i
  ·obtain⟨hqi,x,hx,rfl⟩:=hold i xi hUi hi;rw[Q6.kill_at,Q6.Dz (hg i hqi).1 (hpv i hUi)]at hbi;rcases hUj:U j
   ·obtain⟨hqj,y,hy,rfl⟩:=hold j xj hUj hj;rw[Q6.kill_at,Q6.Dz (hg j hqj).1 (hpv j hUj)]at hbj;exact h.inj i j x y b hx hy hbi hbj
   ·exact absurd hbi ((hinj j xj b hUj (hnew j xj hUj hj) hbj).2.2.2.1 i x hUi hx)
  ·rcases hUj:U j
   ·obtain⟨hqj,y,hy,rfl⟩:=hold j xj hUj hj;rw[Q6.kill_at,Q6.Dz (hg j hqj).1 (hpv j hUj)]at hbj;exact absurd hbj ((hinj i xi b hUi (hnew i xi hUi hi) hbi).2.2.2.1 j y hUj hy)
   ·exact(hinj i xi b hUi (hnew i xi hUi hi) hbi).2.2.2.2 j xj hUj (hnew j xj hUj hj) hbj
 ·rcases hUi:U i
  ·obtain⟨hqi,y,hy,rfl⟩:=hold i x hUi hi;rw[Q6.kill_at,Q6.Dz (hg i hqi).1 (hpv i hUi)]at hbi;obtain⟨h1,h2,h3⟩:=h.own i y b hy hbi;refine⟨fun hb=>?_,by omega,h3⟩;rcases hokb b hb with h4|⟨_,_,h4⟩
   ·exact h1 h4
   ·exact h4 i y hUi hy hbi
  ·obtain⟨h1,h2,h3,_⟩:=hinj i x b hUi (hnew i x hUi hi) hbi;exact⟨h1,h2,h3⟩
 ·rcases hokb b hb with h1|⟨h1,h2,_⟩
  ·have:=h.okb b h1;exact⟨by omega,this.2⟩
  ·exact⟨h1,.inr h2⟩
 ·have h1:=h.keep i hi;have hq:q i=false:=by
   rcases hq:q i
   ·rfl
   ·rw[hK i hq]at hi;cases hi
  obtain⟨h2,h3⟩:=hg i hq;exact⟨h2.trans h1.1,h3.trans h1.2⟩
end
structure AS where
 n:Nat
 fr:List (Nat×AV)
 mem:List (Nat×Option Q6)
def Z9:List (Nat×AV)→Nat→AV
 |[],_=>.any
 |(t,v)::r,u=>if t==u then v else Z9 r u
def Q5:List (Nat×Option Q6)→Nat→Option Q6
 |[],_=>none
 |(t,v)::r,u=>if t==u then v else Q5 r u
def H5 (q:Nat→Bool):List (Nat×AV)→List (Nat×AV)
 |[]=>[]
 |(t,v)::r=>(t,v.kill q)::H5 q r
def Wj (q:Nat→Bool):List (Nat×Option Q6)→List (Nat×Option Q6)
 |[]=>[]
 |(t,v)::r=>(t,v.map (Q6.kill q))::Wj q r
theorem frGet_kill (q:Nat→Bool) (f:List (Nat×AV)) (t:Nat):Z9 (H5 q f) t=(Z9 f t).kill q:=by
 induction f with
 |nil=>rfl
 |cons x r ih=>obtain⟨u,v⟩:=x;simp only[H5,Z9,ih];split<;> rfl
theorem memGet_kill (q:Nat→Bool) (f:List (Nat×Option Q6)) (t:Nat):Q5 (Wj q f) t=(Q5 f t).map (Q6.kill q):=by
 induction f with
 |nil=>rfl
 |cons x r ih=>obtain⟨u,v⟩:=x;simp only[Wj,Q5,ih];split<;> rfl
def Qj (l:List Nat) (i:Nat):Bool:=l.any (· ==i)
def X6 (l:List (Nat×Option Q6)) (i:Nat):Bool:=l.any (·.1==i)
theorem memGet_append (l r:List (Nat×Option Q6)) (i:Nat):Q5 (l++r) i=if X6 l i then Q5 l i else Q5 r i:=by
 induction l with
 |nil=>rfl
 |cons x l ih=>
  obtain⟨t,v⟩:=x;simp only[List.cons_append,Q5,ih,X6,List.any_cons];by_cases h:(t==i)=true
  ·simp[h]
  ·rw[Bool.not_eq_true]at h;simp only[h,Bool.false_or,Bool.false_eq_true,if_false];rfl
def St (C:Cx) (s:AS) (a:Act) (w:World):Prop:=
 ∃ok g,MS C w ok g (Q5 s.mem)∧a.tmps.size=s.n∧a.defers=[]∧∀t,VR w ok g (Q5 s.mem) (Z9 s.fr t) (a.tmps.getD t undef)
structure Eff where
 q:List Nat
 ws:List (Nat×Option Q6)
def AS.after (s:AS) (dst:Option Nat) (v:AV) (e:Eff):AS:=
 let q:=Qj e.q
 let fr:=match e.q with|[]=>s.fr|_=>H5 q s.fr
 let mem:=match e.q with|[]=>s.mem|_=>Wj q s.mem
 { n:=s.n,fr:=match dst with|some d=>(d,v)::fr|none=>fr,mem:=e.ws++mem }
theorem Q6.F8 {q:Nat→Bool} (hq:∀i,q i=false) (x:Q6):x.kill q=x:=by
 have h1:∀c:AV,c.kill q=c:=fun c=>by
  unfold AV.kill;rw[if_neg];have:∀c:AV,c.has q=false:=fun c=>AV.rec (motive_1:=fun c=>c.has q=false) (motive_2:=fun l=>AV.Yj q l=false) (by rfl) (fun _=>rfl) (fun _=>rfl) (fun _=>rfl) (fun o _=>hq o) (fun o _ _=>hq o) (fun o _ _=>hq o) (fun o=>hq o)
   (fun cs h=>h) (fun cs h=>h) (fun _ cs h=>h) rfl (fun x r h1 h2=>by simp only[AV.Yj,h1,h2,Bool.or_self]) c
  simp[this c]
 have h2:AV.kill q=id:=funext h1;rcases x with _|_|_|r
 ·simp[Q6.kill,h2]
 ·simp[Q6.kill]
 ·simp[Q6.kill]
 ·cases r<;> simp[Q6.kill,Raw.kill,lkKill_none hq]
theorem AV.V6 {q:Nat→Bool} (hq:∀i,q i=false) (c:AV):c.has q=false:=
 AV.rec (motive_1:=fun c=>c.has q=false) (motive_2:=fun l=>AV.Yj q l=false) (by rfl) (fun _=>rfl) (fun _=>rfl) (fun _=>rfl) (fun o _=>hq o) (fun o _ _=>hq o) (fun o _ _=>hq o) (fun o=>hq o)
   (fun cs h=>h) (fun cs h=>h) (fun _ cs h=>h) rfl (fun x r h1 h2=>by simp only[AV.Yj,h1,h2,Bool.or_self]) c
theorem AS.Jw (s:AS) (dst:Option Nat) (v:AV) (e:Eff):Q5 (s.after dst v e).mem=Zq (Q5 s.mem) (X6 e.ws) (Qj e.q) (Q5 e.ws):=by
 funext i;simp only[AS.after,Zq,memGet_append];split
 ·rfl
 ·rcases hq:e.q with _|⟨a,b⟩
  ·have:(Q6.kill (Qj ([]:List Nat)))=id:=funext fun x=>Q6.F8 (fun _=>rfl) x
   simp[this]
  ·simp only[memGet_kill]
theorem AS.J2 (s:AS) (dst:Option Nat) (v:AV) (e:Eff) (t:Nat):Z9 (s.after dst v e).fr t=if dst=some t then v else (Z9 s.fr t).kill (Qj e.q):=by
 have h0:Z9 (match e.q with|[]=>s.fr|_=>H5 (Qj e.q) s.fr) t=(Z9 s.fr t).kill (Qj e.q):=by
  rcases hq:e.q with _|⟨a,b⟩
  ·simp only[AV.kill,AV.V6 (fun _=>rfl:∀i,Qj ([]:List Nat) i=false)];rfl
  ·simp only[frGet_kill]
 simp only[AS.after];cases dst with
 |none=>simpa using h0
 |some d=>
  simp only[Z9,Option.some.injEq];by_cases hd:d=t
  ·simp[hd]
  ·simp only[hd,if_false];rw[if_neg (by simpa using hd)];exact h0
theorem St.after {C:Cx} {s:AS} {a:Act} {w w':World} {ok ok':Nat→Prop} {g g':Gh} (hs:a.tmps.size=s.n) (hd:a.defers=[]) (hf:∀t,VR w ok g (Q5 s.mem) (Z9 s.fr t) (a.tmps.getD t undef))
  (dst:Option Nat) (hdst:∀d,dst=some d→d<s.n) (c:AV) (v:Value) (e:Eff)
  (hM:MS C w' ok' g' (Zq (Q5 s.mem) (X6 e.ws) (Qj e.q) (Q5 e.ws))∧∀c v,c.has (Qj e.q)=false→VR w ok g (Q5 s.mem) c v→VR w' ok' g' (Zq (Q5 s.mem) (X6 e.ws) (Qj e.q) (Q5 e.ws)) c v)
  (hv:dst≠none→VR w' ok' g' (Zq (Q5 s.mem) (X6 e.ws) (Qj e.q) (Q5 e.ws)) c v):St C (s.after dst c e) (a.put dst v) w':=by
 refine⟨ok',g',by rw[AS.Jw];exact hM.1,?_,?_,fun t=>?_⟩
 ·cases dst<;> simpa[Act.put,AS.after]using hs
 ·cases dst<;> simpa[Act.put]using hd
 ·rw[AS.Jw,AS.J2];have hold:VR w' ok' g' (Zq (Q5 s.mem) (X6 e.ws) (Qj e.q) (Q5 e.ws)) ((Z9 s.fr t).kill (Qj e.q)) (a.tmps.getD t undef):=
   hM.2 _ _ (AV.kill_has _ _) ((hf t).kill _)
  cases dst with
  |none=>simpa[Act.put]using hold
  |some d=>
   have hlt:=hdst d rfl;by_cases hdt:d=t
   ·subst hdt;simp only[if_true,Act.put];have:(a.tmps.setIfInBounds d v).getD d undef=v:=by simp[hs,hlt]
    rw[this];exact hv (by simp)
   ·have:(a.tmps.setIfInBounds d v).getD t undef=a.tmps.getD t undef:=by simp[Array.getElem?_setIfInBounds_ne hdt]
    simp only[Act.put,this,Option.some.injEq,hdt,if_false];exact hold
end Go.Proofs.YtlbcipohiepjmaaDoor
namespace Go.Proofs.YtlbcipohiepjmaaDoor
open Go.RowKit
def F4:Value→AV
 | .int .i64 n=>if -9223372036854775808≤n∧n≤9223372036854775807 then .d (.int n)else .any
 | .int k n=>if k.min≤n∧n≤k.max then .d (.num k n)else .any
 | .bool b=>.d (.bool b)
 | .string s=>if s.size≤maxLen then .d (.str s)else .any
 | .pointer none=>.d .nil
 | .slice none 0 0=>.lit (.slice none 0 0)
 | .nilFunc=>.lit .nilFunc
 | .map none=>.lit (.map none)
 |_=>.any
def Vj:Value→AV
 | .int .i64 n=>if -9223372036854775808≤n∧n≤9223372036854775807 then .d (.int n)else .any
 | .int k n=>if k.min≤n∧n≤k.max then .d (.num k n)else .any
 | .bool b=>.d (.bool b)
 | .string s=>if s.size≤maxLen then .d (.str s)else .any
 | .pointer none=>.d .nil
 | .slice none 0 0=>.lit (.slice none 0 0)
 | .nilFunc=>.lit .nilFunc
 | .map none=>.lit (.map none)
 | .agg vs=>if vs.toList.all (·.oneCell')then .agg (vs.toList.map F4)else .any
 |_=>.any
def evA (f:List (Nat×AV)):Operand→AV
 | .tmp t=>Z9 f t
 | .const v=>Vj v
 | .global _=>.any
 | .func f=>.d (.fn f)
section
variable {w:World} {ok:Nat→Prop} {g:Gh} {m:Me}
theorem scalAV_ok (v:Value):VR w ok g m (F4 v) v:=by
 unfold F4;split
 ·split
  ·rename_i n h;exact .d _ _ (.int n h.1 h.2)
  ·exact .any _
 ·split
  ·rename_i n _ h;exact .d _ _ (.num _ n h.1 h.2)
  ·exact .any _
 ·exact .d _ _ (.bool _)
 ·split
  ·rename_i n h;exact .d _ _ (.str _ h)
  ·exact .any _
 ·exact .d _ _ .nil
 ·exact .lit _ rfl
 ·exact .lit _ rfl
 ·exact .lit _ rfl
 ·exact .any _
theorem constAV_ok (v:Value):VR w ok g m (Vj v) v:=by
 unfold Vj;split
 ·split
  ·rename_i n h;exact .d _ _ (.int n h.1 h.2)
  ·exact .any _
 ·split
  ·rename_i n _ h;exact .d _ _ (.num _ n h.1 h.2)
  ·exact .any _
 ·exact .d _ _ (.bool _)
 ·split
  ·rename_i n h;exact .d _ _ (.str _ h)
  ·exact .any _
 ·exact .d _ _ .nil
 ·exact .lit _ rfl
 ·exact .lit _ rfl
 ·exact .lit _ rfl
 ·split
  ·rename_i vs h;refine .agg _ _ (by simp) (fun i c v hc hv=>?_) (fun i v hv=>?_)
   ·rw[List.getElem?_map,Array.getElem?_toList,hv]at hc;simp only[Option.map_some,Option.some.injEq]at hc;subst hc;exact scalAV_ok v
   ·exact List.all_eq_true.1 h v (by
     have:=Array.mem_of_getElem? hv;simpa using this)
  ·exact .any _
 ·exact .any _
theorem evA_ok {f:List (Nat×AV)} {a:Act} (hf:∀t,VR w ok g m (Z9 f t) (a.tmps.getD t undef)) (x:Operand):VR w ok g m (evA f x) (a.eval x):=by
 cases x with
 |tmp t=>exact hf t
 |const v=>exact constAV_ok v
 |global b=>exact .any _
 |func f=>exact .d _ _ (.fn f)
end
def Ux (P:Program) (t:TypeId):Option (Bool×Nat):=
 match P.underlying t,P.info? t with
 |some d,some i=>some (match d with| .struct _| .array _ _=>true|_=>false,i.size)
 |_,_=>none
def Xk (P:Program) (t:TypeId) (f:Nat):Option (Nat×Bool×Nat):=
 match P.underlying t with
 |some (.struct fs)=>match fs[f]? with
  |some x=>match Ux P x.type with
   |some (g,n)=>if n=0 then none else some (x.offset,g,n)
   |none=>none
  |none=>none
 |_=>none
def V3 (P:Program) (t:TypeId):Option (TypeId×Nat):=
 match P.underlying t with
 |some (.slice e)=>match P.info? e with
  |some i=>some (e,i.size)
  |none=>none
 |_=>none
theorem run_isAgg {P:Program} {t:TypeId} {b:Bool} {n:Nat} (h:Ux P t=some (b,n)) (w:World):(isAgg t).run P w= .ok b w∧(sizeOf t).run P w= .ok n w:=by
 unfold Ux at h;rcases hu:P.underlying t with _|d
 ·rw[hu]at h;simp at h
 ·rcases hi:P.info? t with _|i
  ·rw[hu,hi]at h;simp at h
  ·rw[hu,hi]at h;simp only[Option.some.injEq,Prod.mk.injEq]at h;obtain⟨rfl,rfl⟩:=h;refine⟨?_,by simp[sizeOf,typeInfo,hi]⟩;simp only[isAgg,Sem.run_bind,run_underlying hu,Result.andThen_ok];cases d<;> rfl
def Hq (b:Bool) (cs:List AV):Option AV:=if b then some (.agg cs)else match cs with|[c]=>some c|_=>none
theorem mkVal_ok {w:World} {ok:Nat→Prop} {g:Gh} {m:Me} {b:Bool} {cs:List AV} {c:AV} (h:Hq b cs=some c) {vs:List Value} (hv:VRs w ok g m cs vs):
  (b=true→VR w ok g m c (.agg vs.toArray))∧(b=false→∃v,vs=[v]∧VR w ok g m c v):=by
 unfold Hq at h;cases b
 ·refine⟨by simp,fun _=>?_⟩;match cs,h with
  |[c'],h=>
   simp at h;subst h;obtain⟨hl,h2,_⟩:=hv;match vs,hl with
   |[v],_=>exact⟨v,rfl,h2 0 _ _ rfl rfl⟩
 ·refine⟨fun _=>?_,by simp⟩;simp at h;subst h;refine .agg cs _ (by simpa using hv.1) (fun i c v hc hv'=>hv.2.1 i c v hc (by simpa using hv')) (fun i v hv'=>hv.2.2 v (List.mem_iff_getElem?.2 ⟨i,by simpa using hv'⟩))
@[simp] def odRd:OD→AV
 | .d d=>.d d
 | .own _ _ rows=>.d (.ln rows.length)
 | .hole=>.any
 | .nil=>.lit (.slice none 0 0)
@[simp] def lkGet (i j:Nat):List (Nat×Nat×Nat×Nat)→Option (Nat×Nat)
 |[]=>none
 |(a,b,o,n)::r=>if a=i∧b=j then some (o,n)else lkGet i j r
theorem lkGet_mem {i j o n:Nat}:∀{l:List (Nat×Nat×Nat×Nat)},lkGet i j l=some (o,n)→(i,j,o,n)∈l
 |(a,b,o',n')::r,h=>by
  unfold lkGet at h;split at h
  ·rename_i e;cases h;obtain⟨rfl,rfl⟩:=e;exact List.mem_cons_self ..
  ·exact List.mem_cons_of_mem _ (lkGet_mem h)
@[simp] def odRdL (lk:List (Nat×Nat×Nat×Nat)) (i:Nat):Nat→List OD→List AV
 |_,[]=>[]
 |j,c::r=>(match lkGet i j lk with|some (o,n)=>.arr o 0 n|none=>odRd c)::odRdL lk i (j+1) r
theorem odRdL_get (lk:List (Nat×Nat×Nat×Nat)) (i:Nat):∀(j:Nat) (l:List OD),(odRdL lk i j l).length=l.length∧∀(k:Nat) (c:AV),(odRdL lk i j l)[k]? =some c→∃d,l[k]? =some d∧c=(match lkGet i (j+k) lk with|some (o,n)=>.arr o 0 n|none=>odRd d)
 |j,[]=>by simp[odRdL]
 |j,d::r=>by
  obtain⟨h1,h2⟩:=odRdL_get lk i (j+1) r;refine⟨by simp[odRdL,h1],fun k c hc=>?_⟩;rcases k with _|k
  ·simp[odRdL]at hc;exact⟨d,rfl,hc.symm⟩
  ·obtain⟨d',h3,h4⟩:=h2 k c (by simpa[odRdL]using hc);exact⟨d',by simpa using h3,by rw[h4,show j+1+k=j+(k+1)from by omega]⟩
def Jv (m:Me) (p:AV) (n:Nat):Option (List AV):=
 match p with
 | .ptr o off=>match m o with
  |some (.blk _ cs)=>if off+n≤cs.length then some ((cs.drop off).take n)else none
  |_=>none
 | .K7 o i j=>match m o with
  |some (.arr _ _ rows)=>match rows[i]? with
   |some r=>if j+n≤r.length then some (((r.drop j).take n).map AV.d)else none
   |none=>none
  |some (.raw (.own _ _ rows lk))=>match rows[i]? with
   |some r=>if j+n≤r.length then some (odRdL lk i j ((r.drop j).take n))else none
   |none=>none
  |_=>none
 | .d (.ptr r)=>if n≤r.length then some ((r.take n).map AV.d)else none
 |_=>none
theorem VRs.seg {w:World} {ok:Nat→Prop} {g:Gh} {m:Me} {cs:List AV} {vs:List Value} (h:VRs w ok g m cs vs) (o n:Nat):VRs w ok g m ((cs.drop o).take n) ((vs.drop o).take n):=by
 refine⟨by simp[h.1],fun i c v hc hv=>?_,fun v hv=>h.2.2 v (List.drop_subset _ _ (List.take_subset _ _ hv))⟩;rw[List.getElem?_take]at hc hv;split at hc
 ·rw[if_pos (by assumption)]at hv;rw[List.getElem?_drop]at hc hv;exact h.2.1 _ c v hc hv
 ·cases hc
theorem MS.rd {C:Cx} {w:World} {ok:Nat→Prop} {g:Gh} {m:Me} (hM:MS C w ok g m) {p:AV} {v:Value} (hp:VR w ok g m p v) {n:Nat} {cs:List AV} (h:Jv m p n=some cs):
  ∃b off vs,v= .pointer (some ⟨b,off,none⟩)∧vs.length=n∧(∀j u,vs[j]? =some u→w.cell? ⟨b,off+j,none⟩=some u)∧VRs w ok g m cs vs:=by
 unfold Jv at h;split at h
 ·rename_i o off;split at h
  ·rename_i t cs' hm;split at h
   ·rename_i hle;simp at h;subst h;obtain⟨b,hb,rfl⟩:=hp.ptr_inv hm;obtain⟨b',vs,hb',hw,hvs⟩:=hM.obj o _ hm;rw[hb]at hb';obtain rfl:=Option.some.inj hb';refine⟨b,off,(vs.toList.drop off).take n,rfl,by have:=hvs.1;simp at this;simp;omega,fun j u hu=>?_,hvs.seg off n⟩;rw[List.getElem?_take]at hu;split at hu
    ·rw[List.getElem?_drop]at hu;rw[cell_of_row w b _ vs t (0,0) hw];simpa using hu
    ·cases hu
   ·cases h
  ·cases h
 ·rename_i o i j;split at h
  ·rename_i e sz rows hm;split at h
   ·rename_i r hr;split at h
    ·rename_i hle;simp at h;subst h;obtain⟨b,hb,rfl⟩:=hp.eptr_inv hm;obtain⟨h0,h1,h2⟩:=hM.obj o _ hm;rcases h2 with⟨_,h3⟩|⟨b',cur,h2,h3,h4,h5,h6,h7⟩
     ·subst h3;simp at hr
     ·rw[hb]at h2;obtain rfl:=Option.some.inj h2;have hrl:=h1 i r hr;have hi:i<rows.length:=(List.getElem?_eq_some_iff.1 hr).1;have hlt:i * sz+sz≤cur.size:=by
       rw[h6];have:(i+1) * sz≤g.cp o * sz:=Nat.mul_le_mul_right _ (by omega);rw[Nat.add_mul]at this;omega
      refine⟨b,i * sz+j,(cur.toList.drop (i * sz+j)).take n,rfl,by simp;omega,fun k u hu=>?_,?_,fun k c v hc hv=>?_,fun v hv=>?_⟩
      ·rw[List.getElem?_take]at hu;split at hu
       ·rw[List.getElem?_drop]at hu;rw[cell_of_row w b _ cur e (0,0) h3];simpa using hu
       ·cases hu
      ·simp;omega
      ·rw[List.getElem?_take]at hv;split at hv
       ·rename_i hk;rw[List.getElem?_drop]at hv;rw[List.getElem?_take,if_pos hk,List.getElem?_drop,List.getElem?_map]at hc;obtain⟨d,hd,rfl⟩:=Option.map_eq_some_iff.1 hc;exact .d _ _ (h7 i (j+k) r d v hr hd (by rw[←Nat.add_assoc];simpa using hv))
       ·cases hv
      ·obtain⟨k,hk⟩:=List.mem_iff_getElem?.1 hv;rw[List.getElem?_take]at hk;split at hk
       ·rename_i hkn;rw[List.getElem?_drop]at hk;have hd:r[j+k]? =some r[j+k]:=List.getElem?_eq_getElem (by omega);exact(h7 i (j+k) r _ v hr hd (by rw[←Nat.add_assoc];simpa using hk)).oneCell
       ·cases hk
    ·cases h
   ·cases h
  ·rename_i ty sz rows lk hm;split at h
   ·rename_i r hr;split at h
    ·rename_i hle;simp only[Option.some.injEq]at h;subst h;obtain⟨b,hb,rfl⟩:=hp.eptr_invS hm rfl;obtain⟨h0,h1,h2,hlk⟩:=hM.obj o _ hm;rcases h2 with⟨_,h3⟩|⟨b',cur,S,h2,_,h3,h4,h5,h6,_,_,h7⟩
     ·subst h3;simp at hr
     ·rw[hb]at h2;obtain rfl:=Option.some.inj h2;have hrl:=h1 i r hr;have hi:i<rows.length:=(List.getElem?_eq_some_iff.1 hr).1;have hlt:i * sz+sz≤cur.size:=by
       rw[h6];have:(i+1) * sz≤g.cp o * sz:=Nat.mul_le_mul_right _ (by omega);rw[Nat.add_mul]at this;omega
      obtain⟨g1,g2⟩:=odRdL_get lk i j ((r.drop j).take n);refine⟨b,i * sz+j,(cur.toList.drop (i * sz+j)).take n,rfl,by simp;omega,fun k u hu=>?_,by rw[g1];simp;omega,fun k c v hc hv=>?_,fun v hv=>?_⟩
      ·rw[List.getElem?_take]at hu;split at hu
       ·rw[List.getElem?_drop]at hu;rw[cell_of_row w b _ cur ty (0,0) h3];simpa using hu
       ·cases hu
      ·rw[List.getElem?_take]at hv;split at hv
       ·rename_i hk;rw[List.getElem?_drop]at hv;obtain⟨d,hd,hcc⟩:=g2 k c hc;rw[List.getElem?_take,if_pos hk,List.getElem?_drop]at hd;have hv':cur[i * sz+(j+k)]? =some v:=by rw[←Nat.add_assoc];simpa using hv
        rw[hcc];split
        ·rename_i o' n' hg;obtain⟨r',b',v',q1,q2,q3,q4,q5⟩:=hlk _ _ _ _ (lkGet_mem hg);rw[hb]at q3;obtain rfl:=Option.some.inj q3;rw[cell_of_row w b _ cur ty (0,0) h3,hv']at q4;obtain rfl:=Option.some.inj q4;exact q5
        ·have hO:=h7 i (j+k) r d v hr hd hv';cases hO with
         |d _ d v h=>exact .d _ _ h
         |hole _ v h=>exact .any _
         |nil=>exact .d _ _ (.ln 0 _ _)
         |nl=>exact .lit _ rfl
         |own=>exact .d _ _ (.ln _ _ _)
       ·cases hv
      ·obtain⟨k,hk⟩:=List.mem_iff_getElem?.1 hv;rw[List.getElem?_take]at hk;split at hk
       ·rename_i hkn;rw[List.getElem?_drop]at hk;have hd:r[j+k]? =some r[j+k]:=List.getElem?_eq_getElem (by omega);exact(h7 i (j+k) r _ v hr hd (by rw[←Nat.add_assoc];simpa using hk)).oneCell
       ·cases hk
    ·cases h
   ·cases h
  ·cases h
 ·rename_i r;split at h
  ·rename_i hle;simp at h;subst h;have hR:=hp.Z6;cases hR with
   |ptr row b o V hok hcell hrep=>
    refine⟨b,o,(List.range n).map V,rfl,by simp,fun j u hu=>?_,by simp;omega,fun j c u hc hu=>?_,fun u hu=>?_⟩
    ·have hj:j<n:=by have:=(List.getElem?_eq_some_iff.1 hu).1;simpa using this
     rw[hcell j (by omega)];simpa[hj]using hu
    ·have hj:j<n:=by have:=(List.getElem?_eq_some_iff.1 hu).1;simpa using this
     rw[List.getElem?_take,if_pos hj,List.getElem?_map]at hc;obtain⟨d,hd,rfl⟩:=Option.map_eq_some_iff.1 hc;have:=hrep j d hd;simp[hj]at hu;subst hu;exact .d _ _ this
    ·obtain⟨j,hj,rfl⟩:=List.mem_map.1 hu;have hj':j<n:=by simpa using hj
     exact(hrep j _ (List.getElem?_eq_getElem (by omega))).oneCell
  ·cases h
 ·cases h
theorem run_loadVar_at {P:Program} {w:World} {t:TypeId} {b:Bool} {n:Nat} (ht:Ux P t=some (b,n)) {bb off:Nat} {vs:List Value} (hl:vs.length=n) (hc:∀j u,vs[j]? =some u→w.cell? ⟨bb,off+j,none⟩=some u):
  (b=true→(loadVar t ⟨bb,off,none⟩).run P w= .ok (.agg vs.toArray) w)∧(b=false→∀v,vs=[v]→(loadVar t ⟨bb,off,none⟩).run P w= .ok v w):=by
 obtain⟨h1,h2⟩:=run_isAgg ht w;refine⟨fun hb=>?_,fun hb v hv=>?_⟩
 ·subst hb;have h3:=run_loadCells_list (P:=P) w ⟨bb,off,none⟩ vs (fun j v hv=>by rw[Addr.add_lit];exact hc j v hv);rw[hl]at h3;simp[loadVar,h1,h2,h3]
 ·subst hb hv;have:=hc 0 v rfl;simp only[Nat.add_zero]at this;simp[loadVar,h1,this]
end Go.Proofs.YtlbcipohiepjmaaDoor
namespace Go.Proofs.YtlbcipohiepjmaaDoor
open Go.RowKit
def setAt {α:Type}:List α→Nat→List α→List α
 |l,_,[]=>l
 |[],_,_::_=>[]
 |_::l,0,c::cs=>c::setAt l 0 cs
 |x::l,n+1,c::cs=>x::setAt l n (c::cs)
theorem F3 {α:Type} (c:α) (cs:List α):∀(l:List α) (n:Nat),setAt l n (c::cs)=setAt (l.set n c) (n+1) cs
 |[],n=>by cases cs<;> simp[setAt]
 |x::l,0=>by
  cases cs with
  |nil=>simp[setAt]
  |cons d ds=>simp[setAt]
 |x::l,n+1=>by
  have:=F3 c cs l n;cases cs with
  |nil=>simp[setAt]at this⊢;exact this
  |cons d ds=>simp[setAt]at this⊢;exact this
theorem Uj {α:Type}:∀(cs l:List α) (n:Nat),n+cs.length≤l.length→setAt l n cs=l.take n++cs++l.drop (n+cs.length)
 |[],l,n,_=>by simp[setAt]
 |c::cs,l,n,h=>by
  simp at h;rw[F3,Uj cs (l.set n c) (n+1) (by simp;omega)];apply List.ext_getElem?;intro k;simp only[List.getElem?_append,List.length_take,List.length_append,List.length_cons,List.getElem?_take,List.getElem?_drop,List.getElem?_set,List.length_set,List.getElem?_cons]
  grind
theorem Vq {α:Type}:∀(cs l:List α) (n:Nat),(setAt l n cs).length=l.length
 |[],l,n=>by simp[setAt]
 |c::cs,l,n=>by rw[F3,Vq cs];simp
section
variable {w:World} {ok:Nat→Prop} {g:Gh} {m:Me}
theorem VRs.set {cs:List AV} {vs:List Value} (h:VRs w ok g m cs vs) (i:Nat) {c:AV} {v:Value} (hc:VR w ok g m c v) (hv:v.oneCell'=true):VRs w ok g m (cs.set i c) (vs.set i v):=by
 refine⟨by simpa using h.1,fun j c' v' hc' hv'=>?_,fun v' hv'=>?_⟩
 ·rw[List.getElem?_set]at hc' hv';split at hc'
  ·rw[if_pos (by assumption)]at hv';split at hc'
   ·rw[if_pos (by have:=h.1;omega)]at hv';obtain rfl:=Option.some.inj hc';obtain rfl:=Option.some.inj hv';exact hc
   ·cases hc'
  ·rw[if_neg (by assumption)]at hv';exact h.2.1 j c' v' hc' hv'
 ·rcases List.mem_or_eq_of_mem_set hv' with h1|rfl
  ·exact h.2.2 v' h1
  ·exact hv
theorem VRs.setAt:∀(ds:List AV) (us:List Value) (cs:List AV) (vs:List Value) (n:Nat),VRs w ok g m cs vs→VRs w ok g m ds us→VRs w ok g m (setAt cs n ds) (setAt vs n us)
 |[],[],cs,vs,n,h,_=>by cases cs<;> cases vs<;> simpa[Proofs.YtlbcipohiepjmaaDoor.setAt]using h
 |d::ds,u::us,cs,vs,n,h,hd=>by
  rw[F3,F3];exact VRs.setAt ds us _ _ _ (h.set n (hd.2.1 0 d u rfl rfl) (hd.2.2 u (by simp))) ⟨by simpa using hd.1,fun i c v hc hv=>hd.2.1 (i+1) c v hc hv,fun v hv=>hd.2.2 v (by simp[hv])⟩
 |[],u::us,cs,vs,n,h,hd=>by have:=hd.1;simp at this
 |d::ds,[],cs,vs,n,h,hd=>by have:=hd.1;simp at this
end
theorem foldl_set_list (off:Nat):∀(vs:List Value) (k:Nat) (cs:Array Value),((vs.zipIdx k).foldl (fun cs (x:Value×Nat)=>cs.setIfInBounds (off+x.2) x.1) cs).toList=setAt cs.toList (off+k) vs
 |[],k,cs=>by cases h:cs.toList<;> simp[setAt,h]
 |v::vs,k,cs=>by
  rw[List.zipIdx_cons,List.foldl_cons,foldl_set_list off vs (k+1),F3];simp[Nat.add_assoc]
theorem foldl_set (off:Nat) (vs cs:Array Value):(vs.zipIdx.foldl (fun cs (x:Value×Nat)=>cs.setIfInBounds (off+x.2) x.1) cs).toList=setAt cs.toList off vs.toList:=by
 rw[←Array.foldl_toList,Array.toList_zipIdx];simpa using foldl_set_list off vs.toList 0 cs
def H6 (place:Nat→Option (Nat×Nat)) (zero:List AV):List (Nat×AV)→Option (List AV)
 |[]=>some zero
 |(i,c)::rest=>match place i,c.cells with
  |some (off,n),some cs=>if cs.length=n∧off+n≤zero.length then H6 place (setAt zero off cs) rest else none
  |_,_=>none
theorem fillAV_ok {w:World} {ok:Nat→Prop} {g:Gh} {m:Me} (place:Nat→Option (Nat×Nat)):∀(parts:List (Nat×AV)) (zero:List AV) (ps:List (Nat×Value)) (zs:Array Value) (cs:List AV),H6 place zero parts=some cs→VRs w ok g m zero zs.toList→
  parts.length=ps.length→(∀(i:Nat) (p:Nat×AV) (q:Nat×Value),parts[i]? =some p→ps[i]? =some q→p.1=q.1∧VR w ok g m p.2 q.2)→∃vs,Instr.fill place zs ps=some vs∧VRs w ok g m cs vs.toList
 |[],zero,[],zs,cs,h,hz,_,_=>by simp[H6]at h;subst h;exact⟨zs,rfl,hz⟩
 |p::parts,zero,[],zs,cs,h,hz,hl,_=>by simp at hl
 |[],zero,q::ps,zs,cs,h,hz,hl,_=>by simp at hl
 |(i,c)::parts,zero,(j,v)::ps,zs,cs,h,hz,hl,hp=>by
  obtain⟨h1,h2⟩:=hp 0 _ _ rfl rfl;dsimp only at h1 h2;subst h1;unfold H6 at h;split at h
  ·rename_i off n cs' hpl hcs;split at h
   ·rename_i hle;obtain⟨hle1,hle2⟩:=hle;have hv:=h2.cells hcs;have hz':VRs w ok g m (setAt zero off cs') (v.cells.zipIdx.foldl (fun cs (x:Value×Nat)=>cs.setIfInBounds (off+x.2) x.1) zs).toList:=by
     rw[foldl_set];exact VRs.setAt _ _ _ _ _ hz hv
    obtain⟨vs,hf,hvs⟩:=fillAV_ok place parts _ ps _ cs h hz' (by simpa using hl) (fun k p q a b=>hp (k+1) p q a b);refine⟨vs,?_,hvs⟩;have e1:=hv.1;have e2:=hz.1;simp at e1 e2;simp only[Instr.fill,hpl];rw[if_neg (by simp;omega)];exact hf
   ·cases h
  ·cases h
def Gz (P:Program) (t:TypeId):Option (List AV):=
 match P.info? t with
 |some i=>match i.zero with
  |some z=>if z.cells.toList.all (·.oneCell')then some (z.cells.toList.map Vj)else none
  |none=>none
 |none=>none
theorem constAVs_ok {w:World} {ok:Nat→Prop} {g:Gh} {m:Me} (vs:List Value) (h:∀v∈vs,v.oneCell'=true):VRs w ok g m (vs.map Vj) vs:=by
 refine⟨by simp,fun i c v hc hv=>?_,h⟩;rw[List.getElem?_map,hv]at hc;simp at hc;subst hc;exact constAV_ok v
theorem tyZero_ok {P:Program} {t:TypeId} {cs:List AV} (h:Gz P t=some cs) (w0:World):∃z,(zeroValue t).run P w0= .ok z w0∧∀w ok g m,VRs w ok g m cs z.cells.toList:=by
 unfold Gz at h;split at h
 ·rename_i i hi;split at h
  ·rename_i z hiz;split at h
   ·rename_i hf;simp at h;subst h;refine⟨z,by simp[zeroValue,typeInfo,hi,hiz],fun w ok g m=>constAVs_ok _ fun v hv=>?_⟩;exact List.all_eq_true.1 hf v hv
   ·cases h
  ·cases h
 ·cases h
def R6 (P:Program) (t:TypeId):Option (List (Nat×Nat)):=
 match P.underlying t with
 |some (.struct fs)=>fs.toList.mapM fun f=>(P.info? f.type).map fun i=>(f.offset,i.size)
 |_=>none
theorem run_mapM_list {P:Program} {α β:Type} (f:α→Sem β) (h:α→Option β) (hf:∀a b,h a=some b→∀w,(f a).run P w= .ok b w):∀(l:List α) (r:List β),l.mapM h=some r→∀w,(l.mapM f).run P w= .ok r w
 |[],r,hr,w=>by simp at hr;subst hr;rfl
 |a::l,r,hr,w=>by
  rw[List.mapM_cons]at hr;obtain⟨b,hb,hr⟩:=Option.bind_eq_some_iff.1 hr;obtain⟨r',hr',hr⟩:=Option.bind_eq_some_iff.1 hr;simp at hr;subst hr;rw[List.mapM_cons];simp[hf a b hb,run_mapM_list f h hf l r' hr']
theorem run_mapM_array {P:Program} {α β:Type} (f:α→Sem β) (h:α→Option β) (hf:∀a b,h a=some b→∀w,(f a).run P w= .ok b w) (l:Array α) (r:List β) (hr:l.toList.mapM h=some r) (w:World):(l.mapM f).run P w= .ok r.toArray w:=by
 rw[←Array.toArray_toList (xs:=l),List.mapM_toArray];simp[run_mapM_list f h hf _ r hr]
def Av (P:Program) (t:TypeId) (parts:List (Nat×AV)):Option AV:=
 match Gz P t,R6 P t with
 |some z,some pl=>match H6 (fun i=>pl[i]?) z parts with
  |some cs=>some (.agg cs)
  |none=>none
 |_,_=>none
theorem bldAV_ok {P:Program} {w:World} {ok:Nat→Prop} {g:Gh} {m:Me} {t:TypeId} {parts:List (Nat×AV)} {c:AV} (h:Av P t parts=some c) {ps:Array (Nat×Value)}
  (hl:parts.length=ps.size) (hp:∀(i:Nat) (p:Nat×AV) (q:Nat×Value),parts[i]? =some p→ps[i]? =some q→p.1=q.1∧VR w ok g m p.2 q.2):∃v,(Instr.build t ps).run P w= .ok v w∧VR w ok g m c v:=by
 unfold Av at h;split at h
 ·rename_i z pl hz hpl;split at h
  ·rename_i cs hcs;simp at h;subst h;obtain⟨zv,hzv,hzr⟩:=tyZero_ok hz w;unfold R6 at hpl;split at hpl
   ·rename_i fs hu;have hm:=run_mapM_array (P:=P) (fun f:Field=>do pure (f.offset,←sizeOf f.type)) _ (fun f b hb w=>by
     obtain⟨i,hi,rfl⟩:=Option.map_eq_some_iff.1 hb;simp[sizeOf,typeInfo,hi]) fs pl hpl w
    obtain⟨vs,hf,hvs⟩:=fillAV_ok (fun i=>pl[i]?) parts z ps.toList zv.cells cs hcs (hzr w ok g m) (by simpa using hl) (fun i p q a b=>hp i p q a (by simpa using b));refine⟨.agg vs,?_,.agg cs vs (by simpa using hvs.1) (fun i c v hc hv=>hvs.2.1 i c v hc (by simpa using hv)) (fun i v hv=>hvs.2.2 v (List.mem_iff_getElem?.2 ⟨i,by simpa using hv⟩))⟩;have hf':Instr.fill (fun i=>pl.toArray[i]?) zv.cells ps.toList=some vs:=by simpa using hf
    simp only[Instr.build,Sem.run_bind,hzv,Result.andThen_ok,run_underlying hu,hm,hf',Sem.run_pure]
   ·cases hpl
  ·cases h
 ·cases h
end Go.Proofs.YtlbcipohiepjmaaDoor
namespace Go.Proofs.YtlbcipohiepjmaaDoor
open Go.RowKit
def inI (n:Int):Prop:=-9223372036854775808≤n∧n≤9223372036854775807
def binI (op:BinOp) (a b:Int):Option (AV×Prop):=
 match op with
 | .add=>some (.d (.int (a+b)),inI (a+b))
 | .sub=>some (.d (.int (a-b)),inI (a-b))
 | .mul=>some (.d (.int (a * b)),inI (a * b))
 | .quo=>some (.d (.int (a.tdiv b)),b≠0∧inI (a.tdiv b))
 | .rem=>some (.d (.int (a.tmod b)),b≠0∧inI (a.tmod b))
 | .eql=>some (.d (.bool (decide (a=b))),True)
 | .neq=>some (.d (.bool (decide (a≠b))),True)
 | .lss=>some (.d (.bool (decide (a<b))),True)
 | .leq=>some (.d (.bool (decide (a≤b))),True)
 | .gtr=>some (.d (.bool (decide (b<a))),True)
 | .geq=>some (.d (.bool (decide (b≤a))),True)
 |_=>none
theorem O6:maxLen=9223372036854775807:=rfl
theorem Tq {n:Int} (h:inI n):IntKind.i64.wrap n=n:=by
 have h1:=h.1;have h2:=h.2;simp only[IntKind.wrap,IntKind.signed,IntKind.bits];simp only[Bool.true_and];split<;> rename_i hh<;> simp at hh<;> omega
theorem binI_ok {P:Program} {w:World} {ok:Nat→Prop} {g:Gh} {m:Me} {op:BinOp} {a b:Int} {c:AV} {p:Prop} (h:binI op a b=some (c,p)) (hp:p) (t t2:TypeId) (x y:Operand):
  ∃v,(do eqGuard op t x y (.int .i64 a) (.int .i64 b);binOp op t (.int .i64 a) (.int .i64 b)).run P w= .ok v w∧VR w ok g m c v:=by
 have hg:(eqGuard op t x y (.int .i64 a) (.int .i64 b)).run P w= .ok () w:=by
  unfold eqGuard;cases op<;> rfl
 rw[Sem.run_bind,hg,Result.andThen_ok];cases op<;> simp only[binI,Option.some.injEq,Prod.mk.injEq,reduceCtorEq]at h
 case add=>obtain⟨rfl,rfl⟩:=h;exact⟨.int .i64 (a+b),by simp[binOp,Op.intArith,Tq hp],.d _ _ (.int _ hp.1 hp.2)⟩
 case sub=>obtain⟨rfl,rfl⟩:=h;exact⟨.int .i64 (a-b),by simp[binOp,Op.intArith,Tq hp],.d _ _ (.int _ hp.1 hp.2)⟩
 case mul=>obtain⟨rfl,rfl⟩:=h;exact⟨.int .i64 (a * b),by simp[binOp,Op.intArith,Tq hp],.d _ _ (.int _ hp.1 hp.2)⟩
 case quo=>obtain⟨rfl,rfl⟩:=h;exact⟨.int .i64 (a.tdiv b),by simp[binOp,Op.intDiv,hp.1,Tq hp.2],.d _ _ (.int _ hp.2.1 hp.2.2)⟩
 case rem=>obtain⟨rfl,rfl⟩:=h;exact⟨.int .i64 (a.tmod b),by simp[binOp,Op.intDiv,hp.1],.d _ _ (.int _ hp.2.1 hp.2.2)⟩
 case eql=>obtain⟨rfl,rfl⟩:=h;exact⟨.bool (decide (a=b)),by simp[binOp,Op.intCmp,BEq.beq],.d _ _ (.bool _)⟩
 case neq=>obtain⟨rfl,rfl⟩:=h;exact⟨.bool (decide (a≠b)),by simp[binOp,Op.intCmp,bne,BEq.beq],.d _ _ (.bool _)⟩
 case lss=>obtain⟨rfl,rfl⟩:=h;exact⟨.bool (decide (a<b)),by simp[binOp,Op.intCmp],.d _ _ (.bool _)⟩
 case leq=>obtain⟨rfl,rfl⟩:=h;exact⟨.bool (decide (a≤b)),by simp[binOp,Op.intCmp],.d _ _ (.bool _)⟩
 case gtr=>obtain⟨rfl,rfl⟩:=h;exact⟨.bool (decide (b<a)),by simp[binOp,Op.intCmp],.d _ _ (.bool _)⟩
 case geq=>obtain⟨rfl,rfl⟩:=h;exact⟨.bool (decide (b≤a)),by simp[binOp,Op.intCmp],.d _ _ (.bool _)⟩
def PairEq (P:Program) (t:TypeId):Prop:=∀(a b c d:Int) (w:World),(Op.equalIn 10000 t (.agg #[.int .i64 a,.int .i64 b]) (.agg #[.int .i64 c,.int .i64 d])).run P w= .ok (decide (a=c) && decide (b=d)) w∧
 ∀(op:BinOp) (x y:Operand),(eqGuard op t x y (.agg #[.int .i64 a,.int .i64 b]) (.agg #[.int .i64 c,.int .i64 d])).run P w= .ok () w
def Aw (P:Program) (t:TypeId) (op:BinOp):AV→AV→Option (AV×Prop)
 | .d (.int a),.d (.int b)=>binI op a b
 | .d (.bool a),.d (.bool b)=>match op with
  | .eql=>some (.d (.bool (a==b)),P.underlying t=some .bool)
  | .neq=>some (.d (.bool (!(a==b))),P.underlying t=some .bool)
  |_=>none
 | .d (.str a),.d (.str b)=>match op with
  | .eql=>some (.d (.bool (decide (a=b))),True)
  | .neq=>some (.d (.bool (!(decide (a=b)))),True)
  | .add=>some (.d (.str (a++b)),a.size+b.size≤maxLen)
  |_=>none
 | .d (.num k a),.d (.num k' b)=>if k=k' then match op with
  | .eql=>some (.d (.bool (decide (a=b))),True)
  | .neq=>some (.d (.bool (!(decide (a=b)))),True)
  | .lss=>some (.d (.bool (decide (a<b))),True)
  | .leq=>some (.d (.bool (decide (a≤b))),True)
  | .gtr=>some (.d (.bool (decide (b<a))),True)
  | .geq=>some (.d (.bool (decide (b≤a))),True)
  | .add=>some (.d (.num k (a+b)),k.min≤a+b∧a+b≤k.max∧k.wrap (a+b)=a+b)
  | .sub=>some (.d (.num k (a-b)),k.min≤a-b∧a-b≤k.max∧k.wrap (a-b)=a-b)
  |_=>none else none
 | .agg [.d (.int a),.d (.int b)],.agg [.d (.int c),.d (.int d)]=>match op with
  | .eql=>some (.d (.bool (decide (a=c) && decide (b=d))),PairEq P t)
  | .neq=>some (.d (.bool (!(decide (a=c) && decide (b=d)))),PairEq P t)
  |_=>none
 |_,_=>none
theorem VR.pair {w:World} {ok:Nat→Prop} {g:Gh} {m:Me} {a b:Int} {v:Value} (h:VR w ok g m (.agg [.d (.int a),.d (.int b)]) v):v= .agg #[.int .i64 a,.int .i64 b]:=by
 obtain⟨vs,rfl,hl,h1,_⟩:=h.Qa;simp at hl;have e0:vs[0]? =some (vs[0]'(by omega)):=Array.getElem?_eq_getElem _;have e1:vs[1]? =some (vs[1]'(by omega)):=Array.getElem?_eq_getElem _;have r0:=(h1 0 _ _ rfl e0).Z6.Xv.1;have r1:=(h1 1 _ _ rfl e1).Z6.Xv.1;congr 1;apply Array.ext
 ·simp;omega
 ·intro i hi _;match i,hi with
  |0,_=>simpa using r0
  |1,_=>simpa using r1
  |i+2,hi=>omega
theorem ByteArray.beq_toList (a b:ByteArray):(a.toList==b.toList)=decide (a=b):=by
 rw[ByteArray.toList_eq,ByteArray.toList_eq];by_cases h:a=b
 ·subst h;simp
 ·have:a.data.toList≠b.data.toList:=fun e=>h (by
   have:=Array.toList_inj.1 e;cases a;cases b;simpa using this)
  have h2:¬a.data=b.data:=fun e=>this (by rw[e])
  simp[h,h2]
theorem run_equalIn_bool {P:Program} {t:TypeId} (ht:P.underlying t=some .bool) (w:World) (a b:Bool) (d:Nat):(Op.equalIn (d+1) t (.bool a) (.bool b)).run P w= .ok (a==b) w:=by
 simp only[Op.equalIn,Sem.run_bind,run_underlying ht,Result.andThen_ok];rfl
theorem run_equal_bool {P:Program} {t:TypeId} (ht:P.underlying t=some .bool) (w:World) (a b:Bool):(Op.equal t (.bool a) (.bool b)).run P w= .ok (a==b) w:=run_equalIn_bool ht w a b 9999
theorem binAV_ok {P:Program} {w:World} {ok:Nat→Prop} {g:Gh} {m:Me} {op:BinOp} {t:TypeId} {x' y':AV} {c:AV} {p:Prop} (h:Aw P t op x' y'=some (c,p)) (hp:p) {a b:Value} (ha:VR w ok g m x' a) (hb:VR w ok g m y' b) (x y:Operand):
  ∃v,(do eqGuard op t x y a b;binOp op t a b).run P w= .ok v w∧VR w ok g m c v:=by
 unfold Aw at h;split at h
 ·rw[ha.Z6.Xv.1,hb.Z6.Xv.1];exact binI_ok h hp t t x y
 ·rename_i a' b';rw[ha.Z6.E8,hb.Z6.E8];have hg:(eqGuard op t x y (.bool a') (.bool b')).run P w= .ok () w:=by
   unfold eqGuard;cases op<;> rfl
  rw[Sem.run_bind,hg,Result.andThen_ok];split at h
  ·simp only[Option.some.injEq,Prod.mk.injEq]at h;obtain⟨rfl,rfl⟩:=h;exact⟨.bool (a'==b'),by simp only[binOp,Sem.run_bind,run_equal_bool hp,Result.andThen_ok];rfl,.d _ _ (.bool _)⟩
  ·simp only[Option.some.injEq,Prod.mk.injEq]at h;obtain⟨rfl,rfl⟩:=h;exact⟨.bool (!(a'==b')),by simp only[binOp,Sem.run_bind,run_equal_bool hp,Result.andThen_ok];rfl,.d _ _ (.bool _)⟩
  ·cases h
 ·rename_i a' b';obtain⟨rfl,hs1⟩:=ha.Z6.D5;obtain⟨rfl,hs2⟩:=hb.Z6.D5;have hg:(eqGuard op t x y (.string a') (.string b')).run P w= .ok () w:=by
   unfold eqGuard;cases op<;> rfl
  rw[Sem.run_bind,hg,Result.andThen_ok];split at h
  ·simp only[Option.some.injEq,Prod.mk.injEq]at h;obtain⟨rfl,rfl⟩:=h;exact⟨.bool (decide (a'=b')),by simp[binOp,Op.stringOp,ByteArray.beq_toList],.d _ _ (.bool _)⟩
  ·simp only[Option.some.injEq,Prod.mk.injEq]at h;obtain⟨rfl,rfl⟩:=h;exact⟨.bool (!(decide (a'=b'))),by simp[binOp,Op.stringOp,ByteArray.beq_toList],.d _ _ (.bool _)⟩
  ·simp only[Option.some.injEq,Prod.mk.injEq]at h;obtain⟨rfl,rfl⟩:=h;refine⟨.string (a'++b'),?_,.d _ _ (.str _ (by simpa using hp))⟩;simp only[binOp,Op.stringOp];rw[if_neg (by rw[O6]at hp;simp[IntKind.max,IntKind.signed,IntKind.bits];omega)];rfl
  ·cases h
 ·rename_i k a' k' b';split at h
  ·rename_i hk;subst hk;cases ha.Z6 with
   |num _ _ l1 u1=>
   cases hb.Z6 with
   |num _ _ l2 u2=>
   have hg:(eqGuard op t x y (.int k a') (.int k b')).run P w= .ok () w:=by
    unfold eqGuard;cases op<;> rfl
   rw[Sem.run_bind,hg,Result.andThen_ok];split at h<;> simp only[Option.some.injEq,Prod.mk.injEq,reduceCtorEq]at h
   all_goals obtain⟨rfl,rfl⟩:=h
   ·exact⟨.bool (decide (a'=b')),by simp[binOp,Op.intCmp,BEq.beq],.d _ _ (.bool _)⟩
   ·exact⟨.bool (!(decide (a'=b'))),by simp[binOp,Op.intCmp,bne,BEq.beq],.d _ _ (.bool _)⟩
   ·exact⟨.bool (decide (a'<b')),by simp[binOp,Op.intCmp],.d _ _ (.bool _)⟩
   ·exact⟨.bool (decide (a'≤b')),by simp[binOp,Op.intCmp],.d _ _ (.bool _)⟩
   ·exact⟨.bool (decide (b'<a')),by simp[binOp,Op.intCmp],.d _ _ (.bool _)⟩
   ·exact⟨.bool (decide (b'≤a')),by simp[binOp,Op.intCmp],.d _ _ (.bool _)⟩
   ·exact⟨.int k (a'+b'),by simp[binOp,Op.intArith,hp.2.2],.d _ _ (.num _ _ hp.1 hp.2.1)⟩
   ·exact⟨.int k (a'-b'),by simp[binOp,Op.intArith,hp.2.2],.d _ _ (.num _ _ hp.1 hp.2.1)⟩
  ·cases h
 ·rename_i a' b' c' d';rw[ha.pair,hb.pair];split at h<;> simp only[Option.some.injEq,Prod.mk.injEq,reduceCtorEq]at h
  all_goals
   obtain⟨rfl,rfl⟩:=h;obtain⟨h1,h2⟩:=hp a' b' c' d' w;rw[Sem.run_bind,h2,Result.andThen_ok]
  ·exact⟨_,by rw[run_eql_struct,h1,Result.andThen_ok],.d _ _ (.bool _)⟩
  ·exact⟨_,by rw[run_neq_struct,h1,Result.andThen_ok],.d _ _ (.bool _)⟩
 ·cases h
theorem fieldPlace_run {P:Program} {w:World} {f:Field} {b:Bool} {n:Nat} (h:Ux P f.type=some (b,n)) (hn:n≠0) (bb off:Nat):(fieldPlace ⟨bb,off,none⟩ f).run P w= .ok ⟨bb,off+f.offset,none⟩ w:=by
 simp[fieldPlace,(run_isAgg h w).2,hn,Addr.add_lit]
def Vx (m:Me) (off:Nat):AV→Option AV
 | .ptr o k=>match m o with|some (.blk _ _)=>some (.ptr o (k+off))|_=>none
 | .K7 o i j=>match m o with|some (.arr _ _ _)=>some (.K7 o i (j+off))|some (.raw (.own _ _ _ _))=>some (.K7 o i (j+off))|_=>none
 | .d (.ptr r)=>if off≤r.length then some (.d (.ptr (r.drop off)))else none
 |_=>none
theorem tyField_run {P:Program} {s:TypeId} {f off:Nat} {b:Bool} {n:Nat} (h:Xk P s f=some (off,b,n)):∃fs x,P.underlying s=some (.struct fs)∧fs[f]? =some x∧Ux P x.type=some (b,n)∧n≠0∧x.offset=off:=by
 unfold Xk at h;split at h
 ·rename_i fs hu;split at h
  ·rename_i x hx;split at h
   ·rename_i g n' hg;split at h
    ·cases h
    ·simp at h;obtain⟨rfl,rfl,rfl⟩:=h;exact⟨fs,x,hu,hx,hg,by assumption,rfl⟩
   ·cases h
  ·cases h
 ·cases h
theorem fldAddr_ok {P:Program} {C:Cx} {w:World} {ok:Nat→Prop} {g:Gh} {m:Me} (hM:MS C w ok g m) {s:TypeId} {f off n:Nat} {b:Bool} (hf:Xk P s f=some (off,b,n)) {c c':AV} (h:Vx m off c=some c') {v:Value} (hv:VR w ok g m c v):
  ∃v',(Instr.fieldAt s v f).run P w= .ok v' w∧VR w ok g m c' v':=by
 obtain⟨fs,x,hu,hx,ha,hn,rfl⟩:=tyField_run hf;have go:∀bb k,(Instr.fieldAt s (.pointer (some ⟨bb,k,none⟩)) f).run P w= .ok (.pointer (some ⟨bb,k+x.offset,none⟩)) w:=fun bb k=>by
  simp[Instr.fieldAt,run_underlying hu,hx,Instr.sureAddr,fieldPlace_run ha hn]
 unfold Vx at h;split at h
 ·rename_i o k;split at h
  ·rename_i t cs hm;simp at h;subst h;obtain⟨bb,hb,rfl⟩:=hv.ptr_inv hm;exact⟨_,go bb k,.ptr _ _ _ rfl fun x hx=>⟨bb,hb,rfl⟩⟩
  ·cases h
 ·rename_i o i j;split at h
  ·rename_i e sz rows hm;simp at h;subst h;obtain⟨bb,hb,rfl⟩:=hv.eptr_inv hm;refine⟨_,go bb _,.K7 _ _ _ _ rfl fun x sz' L hx hs=>?_⟩;rw[hm]at hx;cases hx;cases hs;exact⟨bb,hb,by rw[Nat.add_assoc]⟩
  ·rename_i ty sz rows lk hm;simp at h;subst h;obtain⟨bb,hb,rfl⟩:=hv.eptr_invS hm rfl;refine⟨_,go bb _,.K7 _ _ _ _ rfl fun x sz' L hx hs=>?_⟩;rw[hm]at hx;cases hx;cases hs;exact⟨bb,hb,by rw[Nat.add_assoc]⟩
  ·cases h
 ·rename_i r;split at h
  ·rename_i hle;simp at h;subst h;have hR:=hv.Z6;cases hR with
   |ptr row bb k V hok hcell hrep=>
    refine⟨_,go bb k,.d _ _ (.ptr _ bb _ (fun j=>V (x.offset+j)) hok (fun j hj=>?_) (fun j d hd=>?_))⟩
    ·rw[Nat.add_assoc];simp at hj;exact hcell _ (by omega)
    ·rw[List.getElem?_drop]at hd;exact hrep _ d hd
  ·cases h
 ·cases h
def U3 (m:Me) (sz:Nat):AV→Int→Option (AV×Prop)
 | .d (.sl rows),n=>match rows[n.toNat]? with
  |some r=>some (.d (.ptr r),0≤n∧r.length=sz)
  |none=>none
 | .arr o lo k,n=>match m o with
  |some (.arr _ sz' _)=>if sz'=sz then some (.K7 o (lo+n.toNat) 0,0≤n∧n<k)else none
  |some (.raw (.own _ sz' _ _))=>if sz'=sz then some (.K7 o (lo+n.toNat) 0,0≤n∧n<k)else none
  |_=>none
 |_,_=>none
theorem idxAddr_ok {P:Program} {C:Cx} {w:World} {ok:Nat→Prop} {g:Gh} {m:Me} (hM:MS C w ok g m) {t e:TypeId} {sz:Nat} (hf:V3 P t=some (e,sz)) {c c':AV} {n:Int} {p:Prop} (h:U3 m sz c n=some (c',p)) (hp:p) {v:Value} (hv:VR w ok g m c v):
  ∃v',(Instr.indexAt t v (.int .i64 n)).run P w= .ok v' w∧VR w ok g m c' v':=by
 unfold V3 at hf;split at hf
 ·rename_i e' hu;split at hf
  ·rename_i i hi;simp at hf;obtain⟨rfl,rfl⟩:=hf;have go:∀(bb k len cap:Nat),0≤n→n<(len:Int)→(Instr.indexAt t (.slice (some ⟨bb,k,none⟩) len cap) (.int .i64 n)).run P w= .ok (.pointer (some ⟨bb,k+n.toNat * i.size,none⟩)) w:=fun bb k len cap h0 h1=>by
    simp[Instr.indexAt,asIntOf,run_underlying hu,h0,h1,sizeOf,typeInfo,hi,Addr.add_lit]
   unfold U3 at h;split at h
   ·rename_i rows;split at h
    ·rename_i r hr;simp only[Option.some.injEq,Prod.mk.injEq]at h;obtain⟨rfl,rfl⟩:=h;obtain⟨h0,hsz⟩:=hp;have hR:=hv.Z6;have hlt:n.toNat<rows.length:=(List.getElem?_eq_some_iff.1 hr).1;cases hR with
     |empty a cc ha hcc=>simp at hlt
     |sl rows size bb o cc V hne hlen hcc hsz' hok hcell hrep=>
      have:size=i.size:=(hsz' _ r hr).symm.trans hsz;subst this;refine⟨_,go bb o _ cc h0 (by omega),.d _ _ (.ptr r bb _ (fun j=>V n.toNat j) hok (fun j hj=>?_) (fun j d hd=>hrep _ j r d hr hd))⟩;rw[Nat.add_assoc];exact hcell _ _ hlt (by omega)
    ·cases h
   ·rename_i o lo k;split at h
    ·rename_i e2 sz' rows hm;split at h
     ·rename_i hsz;subst hsz;simp only[Option.some.injEq,Prod.mk.injEq]at h;obtain⟨rfl,rfl⟩:=h;obtain⟨h0,h1⟩:=hp;obtain⟨h2,h3⟩:=hv.arr_inv hm;rcases h3 with⟨_,_,_,h4⟩|⟨bb,hb,rfl⟩|⟨_,h4,_⟩
      ·omega
      ·refine⟨_,go bb _ k _ h0 h1,.K7 _ _ _ _ rfl fun x sz' L hx hs=>?_⟩;rw[hm]at hx;cases hx;cases hs;exact⟨bb,hb,by rw[Nat.add_mul,Nat.add_zero]⟩
      ·omega
     ·cases h
    ·rename_i ty' sz' rows lk hm;split at h
     ·rename_i hsz;subst hsz;simp only[Option.some.injEq,Prod.mk.injEq]at h;obtain⟨rfl,rfl⟩:=h;obtain⟨h0,h1⟩:=hp;obtain⟨h2,h3⟩:=hv.arr_invS hm rfl;rcases h3 with⟨_,_,_,h4⟩|⟨bb,hb,rfl⟩|⟨_,h4,_⟩
      ·omega
      ·refine⟨_,go bb _ k _ h0 h1,.K7 _ _ _ _ rfl fun x sz' L hx hs=>?_⟩;rw[hm]at hx;cases hx;cases hs;exact⟨bb,hb,by rw[Nat.add_mul,Nat.add_zero]⟩
      ·omega
     ·cases h
    ·cases h
   ·cases h
  ·cases hf
 ·cases hf
end Go.Proofs.YtlbcipohiepjmaaDoor
namespace Go.Proofs.YtlbcipohiepjmaaDoor
open Go.RowKit
def U9:AV→Option Int→Option Int→Option (AV×Prop)
 | .d (.sl rows),lo,hi=>
  let l:=lo.getD 0
  let h:=hi.getD rows.length
  some (.d (.sl ((rows.drop l.toNat).take (h.toNat-l.toNat))),0≤l∧l≤h∧h≤rows.length)
 | .arr o k n,lo,hi=>
  let l:=lo.getD 0
  let h:=hi.getD n
  some (.arr o (k+l.toNat) (h.toNat-l.toNat),0≤l∧l≤h∧h≤n)
 | .lit (.slice none 0 0),lo,hi=>some (.lit (.slice none 0 0),lo.getD 0=0∧hi.getD 0=0)
 |_,_,_=>none
def O0 (f:Operand→AV):Option Operand→Option (Option Int)
 |none=>some none
 |some x=>match f x with
  | .d (.int n)=>some (some n)
  |_=>none
def F5 (off:Nat) (b:Bool) (n:Nat):AV→Option AV
 | .agg cs=>if off+n≤cs.length then Hq b ((cs.drop off).take n)else none
 |_=>none
def Xz (P:Program) (m:Me) (f:Operand→AV):Op→Option (AV×Prop)
 | .move x=>some (f x,True)
 | .assign x=>some (f x,True)
 | .pick c a b=>match f c with
  | .d (.bool true)=>some (f a,True)
  | .d (.bool false)=>some (f b,True)
  |_=>none
 | .build t parts=>match Av P t (parts.toList.map fun x=>(x.1,f x.2))with
  |some c=>some (c,True)
  |none=>none
 | .fieldAddr s x k=>match Xk P s k with
  |some (off,_,_)=>match Vx m off (f x)with
   |some c=>some (c,True)
   |none=>none
  |none=>none
 | .field s x k=>match Xk P s k with
  |some (off,b,n)=>match F5 off b n (f x)with
   |some c=>some (c,True)
   |none=>none
  |none=>none
 | .indexAddr t x i=>match V3 P t,f i with
  |some (_,sz),.d (.int n)=>U3 m sz (f x) n
  |_,_=>none
 | .extract x i=>match f x with
  | .tuple cs=>match cs[i]? with
   |some c=>some (c,True)
   |none=>none
  |_=>none
 | .binOp op t x y _=>Aw P t op (f x) (f y)
 | .unOp .not _ x=>match f x with
  | .d (.bool b)=>some (.d (.bool (!b)),True)
  |_=>none
 | .makeFunc (.func k) first cap=>if first.size=0 then some (.clo k (cap.toList.map f),True)else none
 | .load t x=>match Ux P t with
  |some (b,n)=>match Jv m (f x) n with
   |some cs=>match Hq b cs with
    |some c=>some (c,True)
    |none=>none
   |none=>none
  |none=>none
 | .slice t x lo hi none=>match V3 P t,O0 f lo,O0 f hi with
  |some (_,sz),some l,some h=>match f x with
   | .d (.sl rows)=>match U9 (.d (.sl rows)) l h with
    |some (c,p)=>some (c,p∧∀(i:Nat) (r:List D),rows[i]? =some r→r.length=sz)
    |none=>none
   | .arr o k n=>match m o with
    |some (.arr _ sz' _)=>if sz'=sz then U9 (.arr o k n) l h else none
    |_=>none
   |x=>U9 x l h
  |_,_,_=>none
 | .call c=>match c.callee,c.args.toList,c.argTypes.toList with
  | .builtin .len,[x],[t]=>match P.underlying t with
   |some (.slice _)=>match f x with
    | .d (.sl rows)=>some (.d (.int rows.length),True)
    | .d (.ln n)=>some (.d (.int n),n≤9223372036854775807)
    | .arr o _ n=>match m o with
     |some (.arr _ _ _)=>some (.d (.int n),True)
     |some (.raw (.own _ _ _ _))=>some (.d (.int n),True)
     |_=>none
    | .lit (.slice none 0 0)=>some (.d (.int 0),True)
    |_=>none
   |some .string=>match f x with
    | .d (.str s)=>some (.d (.int s.size),True)
    |_=>none
   |_=>none
  |_,_,_=>none
 |_=>none
theorem maxLen_eq:maxLen=9223372036854775807:=rfl
section
variable {P:Program} {C:Cx} {w:World} {ok:Nat→Prop} {g:Gh} {m:Me}
theorem run_sliceBounds (P:Program) (w:World) (len cap:Nat) (lo hi:Option Int) (h0:0≤lo.getD 0) (h1:lo.getD 0≤hi.getD len) (h2:hi.getD len≤cap):
  (Instr.sliceBounds true len cap (lo.map (Value.int .i64)) (hi.map (Value.int .i64)) none).run P w= .ok ((lo.getD 0).toNat,(hi.getD len).toNat,cap) w:=by
 have sb:∀(n:Int) (y:Nat) (code:BoundsCode),0≤n→n≤(y:Int)→(Instr.sliceBound (.int .i64 n) y code).run P w= .ok n.toNat w:=fun n y code a b=>by
  unfold Instr.sliceBound;simp only[asIntOf,Sem.run_bind,Sem.run_pure,Result.andThen_ok];rw[if_pos ⟨a,b⟩];rfl
 rcases lo with _|l<;> rcases hi with _|h<;> simp only[Option.getD_none,Option.getD_some,Option.map_none,Option.map_some]at * <;> simp only[Instr.sliceBounds,Sem.run_bind,Sem.run_pure,Result.andThen_ok,Option.isSome_none]
 ·simp
 ·rw[sb h cap _ (by omega) (by omega)];simp
 ·have:=sb l len (if False then .slice3C else .sliceB) (by omega) (by omega);simp at this;simp[this]
 ·rw[sb h cap _ (by omega) (by omega)];have:=sb l h.toNat .sliceB (by omega) (by omega);simp[this]
theorem sliceAV_ok (hM:MS C w ok g m) {t e:TypeId} (hu:P.underlying t=some (.slice e)) {sz:Nat} (hsz:(sizeOf e).run P w= .ok sz w) {c c':AV} {lo hi:Option Int} {p:Prop} (h:U9 c lo hi=some (c',p)) (hp:p) {v:Value} (hv:VR w ok g m c v)
  (hms:∀o k n,c= .arr o k n→∃e rows,m o=some (.arr e sz rows)) (hrs:∀rows,c= .d (.sl rows)→∀(i:Nat) (r:List D),rows[i]? =some r→r.length=sz):
  ∃v',(Instr.sliceAt t v (lo.map (Value.int .i64)) (hi.map (Value.int .i64)) none).run P w= .ok v' w∧VR w ok g m c' v':=by
 have go:∀(a:Option Addr) (len cap:Nat),0≤lo.getD 0→lo.getD 0≤hi.getD len→hi.getD len≤cap→(Instr.sliceAt t (.slice a len cap) (lo.map (Value.int .i64)) (hi.map (Value.int .i64)) none).run P w=
   .ok (.slice (if cap=(lo.getD 0).toNat then a else a.map (·.add ((lo.getD 0).toNat * sz))) ((hi.getD len).toNat-(lo.getD 0).toNat) (cap-(lo.getD 0).toNat)) w:=fun a len cap h0 h1 h2=>by
  simp[Instr.sliceAt,Instr.slice,run_underlying hu,run_sliceBounds P w len cap lo hi h0 h1 h2,hsz]
 unfold U9 at h;split at h
 ·rename_i rows;simp only[Option.some.injEq,Prod.mk.injEq]at h;obtain⟨rfl,rfl⟩:=h;obtain⟨h0,h1,h2⟩:=hp;have hR:=hv.Z6;cases hR with
  |empty a cc ha hcc=>
   simp at h0 h1 h2;have hl:lo.getD 0=0:=by omega
   have hh:hi.getD 0=0:=by omega
   refine⟨_,go a 0 cc (by omega) (by simp;omega) (by simp;omega),?_⟩;rw[hl];simp[hh];refine .d _ _ (.empty _ cc ?_ hcc);intro ha';split at ha'
   ·exact ha ha'
   ·exact ha (by simpa using ha')
  |sl rows size b o cc V hne hlen hcc hsz' hok hcell hrep=>
   refine⟨_,go _ rows.length cc (by omega) (by omega) (by omega),?_⟩;generalize hl:lo.getD 0=l at *;generalize hh:hi.getD (rows.length:Int)=h at *;have hlen':((rows.drop l.toNat).take (h.toNat-l.toNat)).length=h.toNat-l.toNat:=by simp;omega
   rcases Nat.eq_zero_or_pos (h.toNat-l.toNat)with hz|hz
   ·rw[hz,List.take_zero];refine .d _ _ (.empty _ _ ?_ (by omega));split<;> simp
   ·have hc0:¬cc=l.toNat:=by omega
    rw[if_neg hc0];have hsize:size=sz:=by
     rcases rows with _|⟨r,rs⟩
     ·exact absurd rfl hne
     ·exact(hsz' 0 r rfl).symm.trans (hrs _ rfl 0 r rfl)
    subst hsize;have hx:=Rep.sl (w:=w) (ok:=ok) ((rows.drop l.toNat).take (h.toNat-l.toNat)) size b (o+l.toNat * size) (cc-l.toNat) (fun i j=>V (l.toNat+i) j) (fun e=>by rw[e]at hlen';simp at hlen';omega)
     (by rw[hlen'];omega) (by omega) (fun i r hr=>?_) hok (fun i j hi hj=>?_) (fun i j r d hr hd=>?_)
    ·rw[hlen']at hx;simpa[Addr.add_lit]using VR.d _ _ hx
    ·rw[List.getElem?_take]at hr;split at hr
     ·rw[List.getElem?_drop]at hr;exact hsz' _ r hr
     ·cases hr
    ·rw[hlen']at hi;have:=hcell (l.toNat+i) j (by omega) hj;rw[←this,Nat.add_mul];congr 2;omega
    ·rw[List.getElem?_take]at hr;split at hr
     ·rw[List.getElem?_drop]at hr;exact hrep _ j r d hr hd
     ·cases hr
 ·rename_i o k n;simp only[Option.some.injEq,Prod.mk.injEq]at h;obtain⟨rfl,rfl⟩:=h;obtain⟨h0,h1,h2⟩:=hp;obtain⟨e,rows,hm⟩:=hms o k n rfl;obtain⟨h3,h4⟩:=hv.arr_inv hm;have hO:=hM.obj o _ hm;rcases h4 with⟨hb,rfl,rfl,rfl⟩|⟨b,hb,rfl⟩|⟨hk,rfl,a,cc,rfl,hcc,hac⟩
  ·simp at h0 h1 h2;have hl:lo.getD 0=0:=by omega
   have hh:hi.getD 0=0:=by omega
   refine⟨_,go none 0 0 (by omega) (by simp;omega) (by simp;omega),?_⟩;rw[hl];simp[hh];refine .arr _ _ _ _ rfl fun x sz' L hx hs=>?_
   rw[hm]at hx;cases hx;cases hs;exact⟨by simp,.inl ⟨hb,rfl,rfl,rfl⟩⟩
  ·obtain⟨hs0,hs1,hs2⟩:=hO;rcases hs2 with⟨hs2,_⟩|⟨b',cur,hs2,hs3,hs4,hs5,_⟩
   ·rw[hb]at hs2;cases hs2
   ·refine⟨_,go _ n (g.cp o-k) (by omega) (by omega) (by omega),?_⟩;generalize hl:lo.getD 0=l at *;generalize hh:hi.getD (n:Int)=h at *;refine .arr _ _ _ _ (by rfl) fun x sz' L hx hs=>?_
    rw[hm]at hx;cases hx;cases hs;refine⟨by omega,?_⟩;by_cases hc0:g.cp o-k=l.toNat
    ·rw[if_pos hc0];rcases Nat.eq_zero_or_pos (k+l.toNat)with hz|hz
     ·right;left;refine⟨b,hb,?_⟩;have hk0:k=0:=by omega
      have hl0:l.toNat=0:=by omega
      subst hk0;rw[hl0];simp
     ·right;right;have hn0:h.toNat-l.toNat=0:=by omega
      refine⟨hz,hn0,_,_,by rw[hn0],by omega,by simp⟩
    ·rw[if_neg hc0];right;left;refine⟨b,hb,?_⟩;simp[Addr.add_lit,Nat.add_mul];omega
  ·simp at h0 h1 h2;have hl:lo.getD 0=0:=by omega
   have hh:hi.getD 0=0:=by omega
   refine⟨_,go a 0 cc (by omega) (by simp;omega) (by simp;omega),?_⟩;rw[hl];simp[hh];refine .arr _ _ _ _ (by rfl) fun x sz' L hx hs=>?_
   rw[hm]at hx;cases hx;cases hs;refine⟨by simpa using h3,.inr (.inr ⟨hk,rfl,_,cc,rfl,hcc,?_⟩)⟩;intro ha';split at ha'
   ·exact hac ha'
   ·exact hac (by simpa using ha')
 ·simp only[Option.some.injEq,Prod.mk.injEq]at h;obtain⟨rfl,rfl⟩:=h;obtain⟨hl,hh⟩:=hp;obtain⟨rfl,_⟩:=hv.Vz;refine⟨_,go none 0 0 (by omega) (by simp;omega) (by simp;omega),?_⟩;rw[hl];simp[hh];exact .lit _ rfl
 ·cases h
end
end Go.Proofs.YtlbcipohiepjmaaDoor
namespace Go.Proofs.YtlbcipohiepjmaaDoor
open Go.RowKit
theorem Gx {P:Program} {t e:TypeId} {sz:Nat} (h:V3 P t=some (e,sz)):P.underlying t=some (.slice e)∧∃i,P.info? e=some i∧i.size=sz:=by
 unfold V3 at h;split at h
 ·rename_i e' hu;split at h
  ·rename_i i hi;simp at h;obtain⟨rfl,rfl⟩:=h;exact⟨hu,i,hi,rfl⟩
  ·cases h
 ·cases h
section
variable {P:Program} {C:Cx} {w:World} {ok:Nat→Prop} {g:Gh} {m:Me}
theorem VR.map {f:Operand→AV} {ρ:Operand→Value} (hf:∀x,VR w ok g m (f x) (ρ x)) (l:Array Operand):(l.toList.map f).length=(l.map ρ).size∧∀(i:Nat) (c:AV) (v:Value),(l.toList.map f)[i]? =some c→(l.map ρ)[i]? =some v→VR w ok g m c v:=by
 refine⟨by simp,fun i c v hc hv=>?_⟩;rw[List.getElem?_map]at hc;rw[Array.getElem?_map]at hv;obtain⟨x,hx,rfl⟩:=Option.map_eq_some_iff.1 hc;obtain⟨y,hy,rfl⟩:=Option.map_eq_some_iff.1 hv;rw[Array.getElem?_toList,hy]at hx;obtain rfl:=Option.some.inj hx;exact hf y
theorem optI_ok {f:Operand→AV} {ρ:Operand→Value} (hf:∀x,VR w ok g m (f x) (ρ x)) {x:Option Operand} {n:Option Int} (h:O0 f x=some n):x.map ρ=n.map (Value.int .i64):=by
 unfold O0 at h;split at h
 ·simp at h;subst h;rfl
 ·rename_i y;split at h
  ·rename_i k hk;simp at h;subst h;have:=hf y;rw[hk]at this;simp[this.Z6.Xv.1]
  ·cases h
theorem partAV_ok {s:TypeId} {k off n:Nat} {b:Bool} (hf:Xk P s k=some (off,b,n)) {c c':AV} (h:F5 off b n c=some c') {v:Value} (hv:VR w ok g m c v):
  ∃v',(Instr.field s v k).run P w= .ok v' w∧VR w ok g m c' v':=by
 obtain⟨fs,x,hu,hx,ha,hn,rfl⟩:=tyField_run hf;unfold F5 at h;split at h
 ·rename_i cs;split at h
  ·rename_i hle;obtain⟨vs,rfl,hl,h1,h2⟩:=hv.Qa;have hvs:VRs w ok g m cs vs.toList:=⟨by simpa using hl,fun i c v hc hv=>h1 i c v hc (by simpa using hv),fun v hv=>by
    obtain⟨i,hi⟩:=List.mem_iff_getElem?.1 hv;exact h2 i v (by simpa using hi)⟩
   obtain⟨k1,k2⟩:=mkVal_ok h (hvs.seg x.offset n);obtain⟨r1,r2⟩:=run_isAgg ha w;cases b
   ·obtain⟨v,hv',hr⟩:=k2 rfl;have hat:vs[x.offset]? =some v:=by
     have h0:((vs.toList.drop x.offset).take n)[0]? =some v:=by rw[hv'];rfl
     rw[List.getElem?_take]at h0;split at h0
     ·simpa using h0
     ·cases h0
    refine⟨v,?_,hr⟩;simp[Instr.field,run_underlying hu,hx,asAgg,part,r1,hat]
   ·refine⟨_,?_,k1 rfl⟩;simp only[Instr.field,Sem.run_bind,run_underlying hu,Result.andThen_ok,hx,asAgg,Sem.run_pure,part,r1,r2,if_true,Result.ok.injEq,and_true];congr 1;apply Array.ext';simp[List.take_drop,Nat.add_comm]
  ·cases h
 ·cases h
theorem pureOp_ok (hM:MS C w ok g m) {f:Operand→AV} {ρ:Operand→Value} (hf:∀x,VR w ok g m (f x) (ρ x)) {o:Oper} {c:AV} {p:Prop} (h:Xz P m f o.op=some (c,p)) (hp:p):
  ∃v,(execOp ρ o).run P w= .ok (.value v) w∧VR w ok g m c v:=by
 have val:∀{s:Sem Value} {v:Value},s.run P w= .ok v w→(do pure (Next.value (←s)):Sem Next).run P w= .ok (.value v) w:=fun {s v} hs=>by simp[hs]
 obtain⟨dst,op,ty,pos,after,guard⟩:=o;dsimp only at h;unfold Xz at h;split at h
 ·rename_i x;simp only[Option.some.injEq,Prod.mk.injEq]at h;obtain⟨rfl,_⟩:=h;exact⟨ρ x,rfl,hf x⟩
 ·rename_i x;simp only[Option.some.injEq,Prod.mk.injEq]at h;obtain⟨rfl,_⟩:=h;exact⟨ρ x,rfl,hf x⟩
 ·rename_i x y z;have hx:=hf x;split at h
  ·rename_i e;rw[e]at hx;have:=hx.Z6.E8;simp only[Option.some.injEq,Prod.mk.injEq]at h;obtain⟨rfl,_⟩:=h;exact⟨ρ y,by simp[execOp,this,asBool],hf y⟩
  ·rename_i e;rw[e]at hx;have:=hx.Z6.E8;simp only[Option.some.injEq,Prod.mk.injEq]at h;obtain⟨rfl,_⟩:=h;exact⟨ρ z,by simp[execOp,this,asBool],hf z⟩
  ·cases h
 ·rename_i t parts;split at h
  ·rename_i c' hc;simp only[Option.some.injEq,Prod.mk.injEq]at h;obtain⟨rfl,_⟩:=h;obtain⟨v,hv,hr⟩:=bldAV_ok (w:=w) (ok:=ok) (g:=g) (m:=m) (ps:=parts.map fun(i,x)=>(i,ρ x)) hc (by simp) (fun i p q hpi hqi=>by
    rw[List.getElem?_map]at hpi;rw[Array.getElem?_map]at hqi;obtain⟨a,ha,rfl⟩:=Option.map_eq_some_iff.1 hpi;obtain⟨b,hb,rfl⟩:=Option.map_eq_some_iff.1 hqi;rw[Array.getElem?_toList,hb]at ha;obtain rfl:=Option.some.inj ha;exact⟨rfl,hf _⟩)
   exact⟨v,val hv,hr⟩
  ·cases h
 ·rename_i s x k;split at h
  ·rename_i off b n hty;split at h
   ·rename_i c' hc;simp only[Option.some.injEq,Prod.mk.injEq]at h;obtain⟨rfl,_⟩:=h;obtain⟨v,hv,hr⟩:=fldAddr_ok hM hty hc (hf x);exact⟨v,val hv,hr⟩
   ·cases h
  ·cases h
 ·rename_i s x k;split at h
  ·rename_i off b n hty;split at h
   ·rename_i c' hc;simp only[Option.some.injEq,Prod.mk.injEq]at h;obtain⟨rfl,_⟩:=h;obtain⟨v,hv,hr⟩:=partAV_ok hty hc (hf x);exact⟨v,val hv,hr⟩
   ·cases h
  ·cases h
 ·rename_i t x i;split at h
  ·rename_i e sz n hty hi;have hi':=hf i;rw[hi]at hi';have hi2:=hi'.Z6.Xv.1;obtain⟨v,hv,hr⟩:=idxAddr_ok hM hty h hp (hf x);exact⟨v,val (by rw[hi2];exact hv),hr⟩
  ·cases h
 ·rename_i x i;have hx:=hf x;split at h
  ·rename_i cs e;rw[e]at hx;obtain⟨vs,hvs,hl,h1⟩:=hx.tuple_inv;split at h
   ·rename_i c' hc;simp only[Option.some.injEq,Prod.mk.injEq]at h;obtain⟨rfl,_⟩:=h;have hlt:i<vs.size:=by have:=(List.getElem?_eq_some_iff.1 hc).1;omega
    refine⟨vs[i],val (by simp[Instr.extract,hvs,hlt]),h1 i _ _ hc (Array.getElem?_eq_getElem hlt)⟩
   ·cases h
  ·cases h
 ·rename_i op t x y t2;have hx:=hf x;have hy:=hf y;obtain⟨v,hv,hr⟩:=binAV_ok (P:=P) (w:=w) (ok:=ok) (g:=g) (m:=m) h hp hx hy x y;exact⟨v,val hv,hr⟩
 ·rename_i t x;have hx:=hf x;split at h
  ·rename_i b e;rw[e]at hx;simp only[Option.some.injEq,Prod.mk.injEq]at h;obtain⟨rfl,_⟩:=h;exact⟨.bool (!b),val (by rw[hx.Z6.E8];rfl),.d _ _ (.bool _)⟩
  ·cases h
 ·rename_i k first cap;split at h
  ·rename_i h0;simp only[Option.some.injEq,Prod.mk.injEq]at h;obtain⟨rfl,_⟩:=h;have hfirst:first= #[]:=Array.eq_empty_of_size_eq_zero h0;subst hfirst;obtain⟨hl,h1⟩:=VR.map hf cap;exact⟨.func (.func k) #[] (cap.map ρ),val (by simp[Instr.makeFunc]),.clo _ _ _ hl h1⟩
  ·cases h
 ·rename_i t x;split at h
  ·rename_i b n hty;split at h
   ·rename_i cs hcs;split at h
    ·rename_i c' hc;simp only[Option.some.injEq,Prod.mk.injEq]at h;obtain⟨rfl,_⟩:=h;obtain⟨bb,off,vs,hv,hl,hcell,hvs⟩:=hM.rd (hf x) hcs;obtain⟨k1,k2⟩:=mkVal_ok hc hvs;obtain⟨l1,l2⟩:=run_loadVar_at (P:=P) hty hl hcell;cases b
     ·obtain⟨v,hv1,hr⟩:=k2 rfl;exact⟨v,val (by simp only[Instr.loadAt,hv,Instr.sureAddr,Sem.run_bind,Sem.run_pure,Result.andThen_ok];exact l2 rfl v hv1),hr⟩
     ·exact⟨_,val (by simp only[Instr.loadAt,hv,Instr.sureAddr,Sem.run_bind,Sem.run_pure,Result.andThen_ok];exact l1 rfl),k1 rfl⟩
    ·cases h
   ·cases h
  ·cases h
 ·rename_i t x lo hi;split at h
  ·rename_i e sz l hh hty hl hh';obtain⟨hu,i,hi2,rfl⟩:=Gx hty;have hsz:(sizeOf e).run P w= .ok i.size w:=by simp[sizeOf,typeInfo,hi2]
   have hx:=hf x;have e1:=optI_ok hf hl;have e2:=optI_ok hf hh';split at h
   ·rename_i rows ex;rw[ex]at hx;split at h
    ·rename_i c' p' hs;simp only[Option.some.injEq,Prod.mk.injEq]at h;obtain⟨rfl,rfl⟩:=h;obtain⟨v,hv,hr⟩:=sliceAV_ok hM hu hsz hs hp.1 hx (fun o k n e=>by cases e) (fun rows' e=>by cases e;exact hp.2);exact⟨v,val (by rw[e1,e2];exact hv),hr⟩
    ·cases h
   ·rename_i o k n ex;rw[ex]at hx;split at h
    ·rename_i e' sz' rows hm;split at h
     ·rename_i hse;obtain⟨v,hv,hr⟩:=sliceAV_ok hM hu hsz h hp hx (fun o k n e=>by cases e;exact⟨_,_,by rw[←hse];exact hm⟩) (fun rows' e=>by cases e);exact⟨v,val (by rw[e1,e2];exact hv),hr⟩
     ·cases h
    ·cases h
   ·rename_i n1 n2;obtain⟨v,hv,hr⟩:=sliceAV_ok hM hu hsz h hp hx (fun o k n e=>absurd e (n2 o k n)) (fun rows' e=>absurd e (n1 rows'));exact⟨v,val (by rw[e1,e2];exact hv),hr⟩
  ·cases h
 ·rename_i c';obtain⟨callee,args,argTypes⟩:=c';split at h
  ·rename_i x t hcal hargs htys;dsimp only at hcal hargs htys;subst hcal;have ha:args= #[x]:=by rw[←Array.toArray_toList (xs:=args),hargs]
   have hty:argTypes= #[t]:=by rw[←Array.toArray_toList (xs:=argTypes),htys]
   subst ha hty;have hx:=hf x;have go:∀k:Int,(Builtin.len_ #[t] ty #[ρ x]).run P w= .ok (.int .i64 k) w→(execOp ρ ⟨dst,.call ⟨.builtin .len,#[x],#[t]⟩,ty,pos,after,guard⟩).run P w= .ok (.value (.int .i64 k)) w:=fun k hk=>by
    simp[execOp,resolve,invoke,builtin,hk]
   split at h
   ·rename_i e hu;split at h
    ·rename_i rows ex;rw[ex]at hx;simp only[Option.some.injEq,Prod.mk.injEq]at h;obtain⟨rfl,_⟩:=h;obtain⟨a,cc,hv,hle,hcm,_⟩:=hx.Z6.sl_inv;exact⟨_,go rows.length (by simp[Builtin.len_,run_underlying hu,hv,goInt]),.d _ _ (.int _ (by omega) (by rw[maxLen_eq]at hcm;omega))⟩
    ·rename_i n ex;rw[ex]at hx;simp only[Option.some.injEq,Prod.mk.injEq]at h;obtain⟨rfl,rfl⟩:=h;obtain⟨a,cc,hv⟩:∃a cc,ρ x= .slice a n cc:=by
      have hR:=hx.Z6;generalize ρ x=u at hR⊢;cases hR with
      |ln n a c=>exact⟨a,c,rfl⟩
     exact⟨_,go n (by simp[Builtin.len_,run_underlying hu,hv,goInt]),.d _ _ (.int _ (by omega) (by omega))⟩
    ·rename_i o k n ex;rw[ex]at hx;have own:∀ty sz rows lk,m o=some (.raw (.own ty sz rows lk))→n≤maxLen∧∃a cc,ρ x= .slice a n cc:=fun ty sz rows lk hm=>by
      obtain⟨h1,h2⟩:=hx.arr_invS hm rfl;have hO:=hM.obj o _ hm;refine⟨?_,?_⟩
      ·rcases hO.2.2.1 with⟨_,h3⟩|⟨_,_,_,_,_,_,_,h3,h4,_⟩
       ·rw[h3]at h1;simp at h1;omega
       ·omega
      ·rcases h2 with⟨_,h3,_,h4⟩|⟨b,_,h3⟩|⟨_,h4,a,cc,h3,_⟩
       ·exact⟨none,0,by rw[h4];exact h3⟩
       ·exact⟨_,_,h3⟩
       ·exact⟨a,cc,by rw[h4];exact h3⟩
     split at h
     ·rename_i e' sz rows hm;simp only[Option.some.injEq,Prod.mk.injEq]at h;obtain⟨rfl,_⟩:=h;obtain⟨h1,h2⟩:=hx.arr_inv hm;have hO:=hM.obj o _ hm;have hn:n≤maxLen:=by
       rcases hO.2.2 with⟨_,h3⟩|⟨_,_,_,_,h3,h4,_⟩
       ·rw[h3]at h1;simp at h1;omega
       ·omega
      have hv:∃a cc,ρ x= .slice a n cc:=by
       rcases h2 with⟨_,h3,_,h4⟩|⟨b,_,h3⟩|⟨_,h4,a,cc,h3,_⟩
       ·exact⟨none,0,by rw[h4];exact h3⟩
       ·exact⟨_,_,h3⟩
       ·exact⟨a,cc,by rw[h4];exact h3⟩
      obtain⟨a,cc,hv⟩:=hv;exact⟨_,go n (by simp[Builtin.len_,run_underlying hu,hv,goInt]),.d _ _ (.int _ (by omega) (by rw[maxLen_eq]at hn;omega))⟩
     ·rename_i ty sz rows lk hm;simp only[Option.some.injEq,Prod.mk.injEq]at h;obtain⟨rfl,_⟩:=h;obtain⟨hn,a,cc,hv⟩:=own _ _ _ _ hm;exact⟨_,go n (by simp[Builtin.len_,run_underlying hu,hv,goInt]),.d _ _ (.int _ (by omega) (by rw[maxLen_eq]at hn;omega))⟩
     ·cases h
    ·rename_i ex;rw[ex]at hx;simp only[Option.some.injEq,Prod.mk.injEq]at h;obtain⟨rfl,_⟩:=h;exact⟨_,go 0 (by simp[Builtin.len_,run_underlying hu,hx.Vz.1,goInt]),.d _ _ (.int _ (by omega) (by omega))⟩
    ·cases h
   ·rename_i hu;split at h
    ·rename_i s ex;rw[ex]at hx;simp only[Option.some.injEq,Prod.mk.injEq]at h;obtain⟨rfl,_⟩:=h;obtain⟨hv,hs⟩:=hx.Z6.D5;exact⟨_,go s.size (by simp[Builtin.len_,run_underlying hu,hv,goInt]),.d _ _ (.int _ (by omega) (by rw[maxLen_eq]at hs;omega))⟩
    ·cases h
   ·cases h
  ·cases h
 ·cases h
end
end Go.Proofs.YtlbcipohiepjmaaDoor
namespace Go.Proofs.YtlbcipohiepjmaaDoor
open Go.RowKit
section
variable {P:Program} {C:Cx} {w:World} {ok:Nat→Prop} {g:Gh} {m:Me}
theorem Xq (d i:Nat):Qj [d] i=(d==i):=by simp[Qj]
theorem Qk (d:Nat) (x:Option Q6) (i:Nat):X6 [(d,x)] i=(d==i):=by simp[X6]
theorem MS.new (hM:MS C w ok g m) (d:Nat) (hd:kept d=false) (t:TypeId) (vs:Array Value) (x:Q6) (cp:Nat)
  (hx : match x with
   | .blk t' cs=>t'=t∧VRs w ok g m cs vs.toList∧AV.Yj (Qj [d]) cs=false
   | .arr e sz rows=>e=t∧0<sz∧(∀(i:Nat) (r:List D),rows[i]? =some r→r.length=sz)∧rows.length≤cp∧cp≤maxLen∧vs.size=cp * sz∧
     ∀(i j:Nat) (r:List D) (c:D) (v:Value),rows[i]? =some r→r[j]? =some c→vs[i * sz+j]? =some v→Rep w ok c v
   | .map _ _ _ _=>False
   | .raw _=>False):
  ∃g',g'.bl d=some w.heap.size∧g'.cp d=cp∧MS C (w.alloc (.cells vs t)) ok g' (Zq m (X6 [(d,some x)]) (Qj [d]) (Q5 [(d,some x)]))∧
   ∀c v,c.has (Qj [d])=false→VR w ok g m c v→VR (w.alloc (.cells vs t)) ok g' (Zq m (X6 [(d,some x)]) (Qj [d]) (Q5 [(d,some x)])) c v:=by
 have hcell:∀p:Addr,ok p.block→(w.alloc (.cells vs t)).cell? p=w.cell? p:=fun p hp=>World.cell?_alloc_lt w _ p (hM.okb _ hp).1
 refine⟨⟨fun i=>if d==i then some w.heap.size else g.bl i,fun i=>if d==i then cp else g.cp i,g.pv⟩,by simp,by simp,?_⟩;have hm:∀o x',Qj [d] o=false→(Zq m (X6 [(d,some x)]) (Qj [d]) (Q5 [(d,some x)])) o=some x'→∃x,m o=some x∧x.like x'∧(if d==o then some w.heap.size else g.bl o)=g.bl o∧(if d==o then cp else g.cp o)=g.cp o:=by
  intro o x' ho hx';rw[Xq]at ho;simp only[Zq,Qk,ho]at hx';obtain⟨x,hx,rfl⟩:=Option.map_eq_some_iff.1 hx';exact⟨x,hx,Q6.F9 _ x,by simp[ho],by simp[ho]⟩
 refine MS.eff hM _ _ _ ?_ ?_ ?_ ?_ ?_ ?_ ?_ ?_ ?_ ?_ ?_ ?_ rfl rfl rfl
 ·intro i hi;rwa [Xq,←Qk d (some x)]at hi
 ·intro i x' hU hN;rw[Qk]at hU;have hdi:d=i:=by simpa using hU
  subst hdi;simp[Q5]at hN;subst hN;cases x with
  |blk t' cs=>
   obtain⟨rfl,h1,h2⟩:=hx;exact⟨w.heap.size,vs,by simp,heap_alloc_new w _,h1.mono _ h2 hcell (fun _ h=>h) hm⟩
  |arr e sz rows=>
   obtain⟨rfl,h1,h2,h3,h4,h5,h6⟩:=hx;exact⟨h1,h2,.inr ⟨w.heap.size,vs,by simp,heap_alloc_new w _,by simpa using h3,by simpa using h4,by simpa using h5,fun i j r c v a b e=>(h6 i j r c v a b e).keep hcell⟩⟩
  |map ks ag n ents=>exact hx.elim
  |raw r=>exact hx.elim
 ·intro i hi;rw[Xq]at hi;simp[hi]
 ·intro i x' hU hq;rw[Qk]at hU;rw[Xq]at hq;rw[hU]at hq;cases hq
 ·intro i y b hU hy hb;exact Below.heap_alloc w _ b (hM.own i y b hy hb).2.1
 ·intro b hb;exact Below.heap_alloc w _ b (hM.okb b hb).1
 ·exact fun b hb=>hb
 ·exact fun b hb=>.inl hb
 ·intro i y b hU hN hb;rw[Qk]at hU;have e0:d=i:=by simpa using hU
  have e1:x=y:=by subst e0;simpa[Q5]using hN
  subst e1;have hb:=(by cases x with
   |blk t' cs=>exact Q6.at_blk.1 hb
   |arr e sz rows=>exact Q6.at_arr.1 hb
   |map ks ag n ents=>exact hx.elim
   |raw r=>exact hx.elim:(if d==i then some w.heap.size else g.bl i)=some b)
  simp only[hU,if_true,Option.some.injEq]at hb;subst hb;refine⟨fun h=>by have:=(hM.okb _ h).1;omega,by simp,.inl hM.size,fun j xj hUj hj hb=>?_,fun j xj hUj _ _=>?_⟩
  ·have:=(hM.own j xj _ hj hb).2.1;omega
  ·rw[Qk]at hUj;have e1:d=i:=by simpa using hU
   have e2:d=j:=by simpa using hUj
   rw[←e1,←e2]
 ·intro i hi;rw[Xq]at hi;have e1:d=i:=by simpa using hi
  rw[←e1];exact hd
 ·simp
 ·intro b hb _;exact Below.heap_alloc w _ b (by have:=hM.size;omega)
theorem MS.put (hM:MS C w ok g m) (o:Nat) {b:Nat} (hb:g.bl o=some b) {x x':Q6} (hx:m o=some x) (hl:x.like x') (cs:Array Value) (hx':OR (w.setRow b cs) ok g m o x'):
  MS C (w.setRow b cs) ok g (Zq m (X6 [(o,some x')]) (Qj []) (Q5 [(o,some x')]))∧
   ∀c v,c.has (Qj [])=false→VR w ok g m c v→VR (w.setRow b cs) ok g (Zq m (X6 [(o,some x')]) (Qj []) (Q5 [(o,some x')])) c v:=by
 have hown:=hM.own o x b hx (.inl hb);have hq:∀i,Qj [] i=false:=fun _=>rfl
 have hm:∀i y',(Zq m (X6 [(o,some x')]) (Qj []) (Q5 [(o,some x')])) i=some y'→∃y,m i=some y∧y.like y':=by
  intro i y' hy';simp only[Zq,Qk]at hy';split at hy'
  ·rename_i h;have e:o=i:=by simpa using h
   subst e;simp[Q5]at hy';subst hy';exact⟨x,hx,hl⟩
  ·obtain⟨y,hy,rfl⟩:=Option.map_eq_some_iff.1 hy';exact⟨y,hy,Q6.F9 _ y⟩
 refine MS.eff hM _ _ _ ?_ ?_ ?_ ?_ ?_ ?_ ?_ ?_ ?_ ?_ ?_ ?_ rfl rfl rfl
 ·intro i hi;rw[hq i]at hi;cases hi
 ·intro i y' hU hN;rw[Qk]at hU;have e:o=i:=by simpa using hU
  subst e;simp[Q5]at hN;subst hN;have hk:∀p:Addr,ok p.block→(w.setRow b cs).cell? p=(w.setRow b cs).cell? p:=fun _ _=>rfl
  refine OR.mono hx' (fun _=>false) (Q6.Fz (fun _=>rfl) x') (fun b h=>rfl) rfl rfl hk (fun _ h=>h) (fun i y' _ hy'=>?_)
  ·obtain⟨y,hy,hl⟩:=hm i y' hy';exact⟨y,hy,hl,rfl,rfl⟩
 ·exact fun i _=>⟨rfl,rfl⟩
 ·intro i y' hU _ hN;rw[Qk]at hU;have e:o=i:=by simpa using hU
  subst e;simp[Q5]at hN;subst hN;exact⟨x,hx,hl⟩
 ·intro i y b' hU hy hb';refine setRow_other w b b' cs fun e=>?_
  subst e;rw[Qk]at hU;exact absurd (hM.inj i o y x b' hy hx hb' (.inl hb)) (fun e=>by subst e;simp at hU)
 ·intro b' hb';exact setRow_other w b b' cs fun e=>by subst e;exact hown.1 hb'
 ·exact fun _ h=>h
 ·exact fun _ h=>.inl h
 ·intro i y b' hU hN hb';rw[Qk]at hU;have e:o=i:=by simpa using hU
  subst e;have hN':x'=y:=by simpa[Q5]using hN
  subst hN';have hb2:=(Q6.like_at hl).1 hb';have hown':=hM.own o x b' hx hb2;refine⟨hown'.1,by simpa[World.setRow]using hown'.2.1,hown'.2.2,fun j xj hUj hj hbj=>?_,fun j xj hUj _ _=>by rw[Qk]at hUj;simpa using hUj⟩;rw[Qk]at hUj;exact absurd (hM.inj j o xj x b' hj hx hbj hb2) (fun e=>by subst e;simp at hUj)
 ·intro i hi;rw[hq i]at hi;cases hi
 ·simp[World.setRow]
 ·intro b' hb' hT;refine setRow_other w b b' cs fun e=>?_
  subst e;rcases hown.2.2 with h|h
  ·omega
  ·exact hT h.1
def toD1:AV→Option D
 | .d d=>some d
 | .lit (.slice none 0 0)=>some (.sl [])
 |_=>none
def Ez:List AV→Option (List D)
 |[]=>some []
 |c::cs=>match toD1 c,Ez cs with
  |some d,some ds=>some (d::ds)
  |_,_=>none
theorem toD1_ok {c:AV} {d:D} (h:toD1 c=some d) {v:Value} (hv:VR w ok g m c v):Rep w ok d v:=by
 unfold toD1 at h;split at h
 ·simp at h;subst h;exact hv.Z6
 ·simp at h;subst h;rw[hv.Vz.1];exact .empty none 0 (fun _=>rfl) (Nat.zero_le _)
 ·cases h
theorem toDs_ok {cs:List AV} {ds:List D} (h:Ez cs=some ds):cs.length=ds.length∧∀(i:Nat) (c:AV) (d:D),cs[i]? =some c→ds[i]? =some d→toD1 c=some d:=by
 induction cs generalizing ds with
 |nil=>simp[Ez]at h;subst h;simp
 |cons c cs ih=>
  unfold Ez at h;split at h
  ·rename_i d ds' h1 h2;simp at h;subst h;obtain⟨k1,k2⟩:=ih h2;refine⟨by simpa using k1,fun i c d hc hd=>?_⟩;rcases i with _|i
   ·simp at hc hd;subst hc hd;exact h1
   ·exact k2 i c d hc hd
  ·cases h
theorem setAt_get {α:Type} (l xs:List α) (off k:Nat) (h:off+xs.length≤l.length):(setAt l off xs)[k]? =if off≤k∧k<off+xs.length then xs[k-off]? else l[k]?:=by
 rw[Uj xs l off h,List.getElem?_append,List.getElem?_append];simp only[List.length_append,List.length_take];rw[Nat.min_eq_left (by omega)];rcases Nat.lt_or_ge k off with h1|h1
 ·rw[if_pos (by omega),if_pos h1,List.getElem?_take,if_pos h1,if_neg (by omega)]
 ·rcases Nat.lt_or_ge k (off+xs.length)with h2|h2
  ·rw[if_pos h2,if_neg (by omega),if_pos ⟨h1,h2⟩]
  ·rw[if_neg (by omega),if_neg (by omega),List.getElem?_drop];congr 1;omega
theorem idx_in {i j i' j' n sz:Nat} (hj:j+n≤sz) (hj':j'<sz):(i * sz+j≤i' * sz+j'∧i' * sz+j'<i * sz+j+n)↔(i=i'∧j≤j'∧j'<j+n):=by
 constructor
 ·rintro⟨h1,h2⟩;have e:i=i':=by
   rcases Nat.lt_trichotomy i i' with h|h|h
   ·have:(i+1) * sz≤i' * sz:=Nat.mul_le_mul_right _ h;rw[Nat.add_mul]at this;omega
   ·exact h
   ·have:(i'+1) * sz≤i * sz:=Nat.mul_le_mul_right _ h;rw[Nat.add_mul]at this;omega
  subst e;exact⟨rfl,by omega,by omega⟩
 ·rintro⟨rfl,h1,h2⟩;omega
@[simp] def toOd:AV→Option OD
 | .d d=>some (.d d)
 | .lit (.slice none 0 0)=>some .nil
 | .arr _ 0 _=>some .hole
 |_=>none
@[simp] def toOds:List AV→Option (List OD)
 |[]=>some []
 |c::cs=>match toOd c,toOds cs with
  |some d,some ds=>some (d::ds)
  |_,_=>none
@[simp] def odLks (i:Nat):Nat→List AV→List (Nat×Nat×Nat×Nat)
 |_,[]=>[]
 |j,.arr o 0 n::cs=>(i,j,o,n)::odLks i (j+1) cs
 |j,_::cs=>odLks i (j+1) cs
@[simp] def lkDrop (i j n:Nat):List (Nat×Nat×Nat×Nat)→List (Nat×Nat×Nat×Nat)
 |[]=>[]
 |(a,b,o,k)::r=>if a=i∧j≤b∧b<j+n then lkDrop i j n r else (a,b,o,k)::lkDrop i j n r
theorem toOds_ok {cs:List AV} {ds:List OD} (h:toOds cs=some ds):cs.length=ds.length∧∀(i:Nat) (c:AV) (d:OD),cs[i]? =some c→ds[i]? =some d→toOd c=some d:=by
 induction cs generalizing ds with
 |nil=>simp at h;subst h;simp
 |cons c cs ih=>
  unfold toOds at h;split at h
  ·rename_i d ds' h1 h2;simp only[Option.some.injEq]at h;subst h;obtain⟨k1,k2⟩:=ih h2;refine⟨by simpa using k1,fun i c d hc hd=>?_⟩;rcases i with _|i
   ·simp at hc hd;subst hc hd;exact h1
   ·exact k2 i c d hc hd
  ·cases h
theorem lkDrop_mem {i j n a b o k:Nat}:∀{l:List (Nat×Nat×Nat×Nat)},(a,b,o,k)∈lkDrop i j n l→(a,b,o,k)∈l∧¬(a=i∧j≤b∧b<j+n)
 |(a',b',o',k')::r,h=>by
  unfold lkDrop at h;split at h
  ·obtain⟨h1,h2⟩:=lkDrop_mem h;exact⟨List.mem_cons_of_mem _ h1,h2⟩
  ·rename_i hne;rcases List.mem_cons.1 h with h|h
   ·cases h;exact⟨List.mem_cons_self ..,hne⟩
   ·obtain⟨h1,h2⟩:=lkDrop_mem h;exact⟨List.mem_cons_of_mem _ h1,h2⟩
theorem odLks_mem {i a b o k:Nat}:∀{j:Nat} {cs:List AV},(a,b,o,k)∈odLks i j cs→a=i∧j≤b∧cs[b-j]? =some (.arr o 0 k)
 |j,[],h=>by simp at h
 |j,c::cs,h=>by
  have rest:(a,b,o,k)∈odLks i (j+1) cs→a=i∧j≤b∧(c::cs)[b-j]? =some (.arr o 0 k):=fun h=>by
   obtain⟨h1,h2,h3⟩:=odLks_mem h;refine⟨h1,by omega,?_⟩;rw[show b-j=(b-(j+1))+1 from by omega];simpa using h3
  unfold odLks at h;split at h
  ·rename_i h1;cases h1
  ·rename_i o' n' cs' e;obtain⟨rfl,rfl⟩:=List.cons.inj e;rcases List.mem_cons.1 h with h|h
   ·cases h;exact⟨rfl,Nat.le_refl _,by simp⟩
   ·exact rest h
  ·rename_i e;obtain⟨rfl,rfl⟩:=List.cons.inj e;exact rest h
theorem toOd_ok {c:AV} {d:OD} (h:toOd c=some d) {v:Value} (hv:VR w ok g m c v) (h1:v.oneCell'=true) (Q:Nat→Prop):G9 w ok Q d v:=by
 unfold toOd at h;split at h
 ·simp only[Option.some.injEq]at h;subst h;exact .d _ _ _ hv.Z6
 ·simp only[Option.some.injEq]at h;subst h;rw[hv.Vz.1];exact .nl _
 ·simp only[Option.some.injEq]at h;subst h;exact .hole _ _ h1
 ·cases h
def Y5 (m:Me) (p:AV) (cs:List AV):Option (Nat×Q6):=
 match p with
 | .ptr o off=>match m o with
  |some (.blk t old)=>if off+cs.length≤old.length then some (o,.blk t (setAt old off cs))else none
  |_=>none
 | .K7 o i j=>match m o with
  |some (.arr e sz rows)=>match rows[i]?,Ez cs with
   |some r,some ds=>if j+ds.length≤r.length then some (o,.arr e sz (rows.set i (setAt r j ds)))else none
   |_,_=>none
  |some (.raw (.own ty sz rows lk))=>match rows[i]?,toOds cs with
   |some r,some ds=>if j+ds.length≤r.length then some (o,.raw (.own ty sz (rows.set i (setAt r j ds)) (odLks i j cs++lkDrop i j ds.length lk)))else none
   |_,_=>none
  |_=>none
 |_=>none
theorem MS.wr (hM:MS C w ok g m) {p:AV} {cs:List AV} {o:Nat} {x':Q6} (h:Y5 m p cs=some (o,x')) {v:Value} (hp:VR w ok g m p v) {vs:List Value} (hvs:VRs w ok g m cs vs):
  ∃b off w',v= .pointer (some ⟨b,off,none⟩)∧(storeCells ⟨b,off,none⟩ vs).run P w= .ok () w'∧
   MS C w' ok g (Zq m (X6 [(o,some x')]) (Qj []) (Q5 [(o,some x')]))∧∀c v,c.has (Qj [])=false→VR w ok g m c v→VR w' ok g (Zq m (X6 [(o,some x')]) (Qj []) (Q5 [(o,some x')])) c v:=by
 have hqL:∀l:List AV,AV.Yj (fun _=>false) l=false:=fun l=>by
  induction l with
  |nil=>rfl
  |cons c r ih=>simp only[AV.Yj,ih,AV.V6 (fun _=>rfl) c,Bool.or_self]
 unfold Y5 at h;split at h
 ·rename_i o' off;split at h
  ·rename_i t old hm;split at h
   ·rename_i hle;simp only[Option.some.injEq,Prod.mk.injEq]at h;obtain⟨rfl,rfl⟩:=h;obtain⟨b,hb,rfl⟩:=hp.ptr_inv hm;obtain⟨b',cur,hb',hw,hcur⟩:=hM.obj o' _ hm;rw[hb]at hb';obtain rfl:=Option.some.inj hb';have h1:=hcur.1;have h2:=hvs.1;simp at h1;have hst:=run_storeCells_at P b off t vs 0 cur w hw (by omega) (fun v hv=>hvs.2.2 v hv);refine⟨b,off,_,rfl,hst,MS.put hM o' hb hm (by simp[Q6.like]) _ ?_⟩;refine⟨b,_,hb,setRow_heap w b cur _ t _ hw,?_⟩;simp only[Nat.add_zero];rw[←Uj vs cur.toList off (by simp;omega)];have hk:∀p:Addr,ok p.block→(w.setRow b (setAt cur.toList off vs).toArray).cell? p=w.cell? p:=fun p hp=>World.Yw (setRow_other w b _ _ fun e=>(hM.own o' _ b hm (.inl hb)).1 (e▸hp))
    exact(VRs.setAt cs vs old cur.toList off hcur hvs).mono (fun _=>false) (hqL _) hk (fun _ h=>h) (fun i y _ hy=>⟨y,hy,Q6.Wq y,rfl,rfl⟩)
   ·cases h
  ·cases h
 ·rename_i o' i j;split at h
  ·rename_i e sz rows hm;split at h
   ·rename_i r ds hr hds;split at h
    ·rename_i hle;simp only[Option.some.injEq,Prod.mk.injEq]at h;obtain⟨rfl,rfl⟩:=h;obtain⟨b,hb,rfl⟩:=hp.eptr_inv hm;obtain⟨h0,h1,h2⟩:=hM.obj o' _ hm;rcases h2 with⟨_,h3⟩|⟨b',cur,h2,h3,h4,h5,h6,h7⟩
     ·subst h3;simp at hr
     ·rw[hb]at h2;obtain rfl:=Option.some.inj h2;obtain⟨k1,k2⟩:=toDs_ok hds;have hrl:=h1 i r hr;have hi:i<rows.length:=(List.getElem?_eq_some_iff.1 hr).1;have hlt:i * sz+sz≤cur.size:=by
       rw[h6];have:(i+1) * sz≤g.cp o' * sz:=Nat.mul_le_mul_right _ (by omega);rw[Nat.add_mul]at this;omega
      have hvl:=hvs.1;have hst:=run_storeCells_at P b (i * sz+j) e vs 0 cur w h3 (by omega) (fun v hv=>hvs.2.2 v hv);refine⟨b,i * sz+j,_,rfl,hst,MS.put hM o' hb hm (by simp[Q6.like]) _ ?_⟩;simp only[Nat.add_zero];rw[←Uj vs cur.toList (i * sz+j) (by simp;omega)];have hk:∀p:Addr,ok p.block→(w.setRow b (setAt cur.toList (i * sz+j) vs).toArray).cell? p=w.cell? p:=fun p hp=>World.Yw (setRow_other w b _ _ fun e=>(hM.own o' _ b hm (.inl hb)).1 (e▸hp))
      refine⟨h0,fun i' r' hr'=>?_,.inr ⟨b,_,hb,setRow_heap w b cur _ e _ h3,by simpa using h4,h5,by simpa[Vq]using h6,fun i' j' r' c v hr' hc hv=>?_⟩⟩
      ·rw[List.getElem?_set]at hr';split at hr'
       ·obtain rfl:=Option.some.inj hr';rw[Vq];exact hrl
       ·exact h1 i' r' hr'
      ·refine Rep.keep ?_ hk;have hv2:(setAt cur.toList (i * sz+j) vs)[i' * sz+j']? =some v:=by simpa using hv
       rw[Uj vs cur.toList _ (by simp;omega),List.getElem?_append,List.getElem?_append]at hv2;simp only[List.length_append,List.length_take,Array.length_toList]at hv2;rw[Nat.min_eq_left (by omega)]at hv2;have hj':j'<sz:=by
        have:r'.length=sz:=by
         rw[List.getElem?_set]at hr';split at hr'
         ·obtain rfl:=Option.some.inj hr';rw[Vq];exact hrl
         ·exact h1 i' r' hr'
        have:=(List.getElem?_eq_some_iff.1 hc).1;omega
       rw[List.getElem?_set]at hr';rcases Nat.decEq i i' with hne|he
       ·rw[if_neg hne]at hr';have hout:i' * sz+j'<i * sz+j∨i * sz+j+vs.length≤i' * sz+j':=by
         rcases Nat.lt_or_gt_of_ne hne with hlt'|hlt'
         ·right;have:(i+1) * sz≤i' * sz:=Nat.mul_le_mul_right _ (by omega);rw[Nat.add_mul]at this;omega
         ·left;have:(i'+1) * sz≤i * sz:=Nat.mul_le_mul_right _ (by omega);rw[Nat.add_mul]at this;omega
        rcases hout with ho|ho
        ·rw[if_pos (by omega),if_pos ho,List.getElem?_take,if_pos ho]at hv2;exact h7 i' j' r' c v hr' hc (by simpa using hv2)
        ·rw[if_neg (by omega),List.getElem?_drop]at hv2;rw[show i * sz+j+vs.length+(i' * sz+j'-(i * sz+j+vs.length))=i' * sz+j' from by omega]at hv2;exact h7 i' j' r' c v hr' hc (by simpa using hv2)
       ·subst he;rw[if_pos rfl,if_pos hi]at hr';simp at hr';subst hr';rw[Uj ds r j hle,List.getElem?_append,List.getElem?_append]at hc;simp only[List.length_append,List.length_take]at hc;rw[Nat.min_eq_left (by omega)]at hc;rcases Nat.lt_or_ge j' j with hj1|hj1
        ·rw[if_pos (by omega),if_pos hj1,List.getElem?_take,if_pos hj1]at hc;rw[if_pos (by omega),if_pos (by omega),List.getElem?_take,if_pos (by omega)]at hv2;exact h7 i j' r c v hr hc (by simpa using hv2)
        ·rcases Nat.lt_or_ge j' (j+ds.length)with hj2|hj2
         ·rw[if_pos hj2,if_neg (by omega)]at hc;rw[if_pos (by omega),if_neg (by omega)]at hv2;rw[show i * sz+j'-(i * sz+j)=j'-j from by omega]at hv2;have hjl:j'-j<cs.length:=by omega
          have hcs:cs[j'-j]? =some cs[j'-j]:=List.getElem?_eq_getElem hjl;exact toD1_ok (k2 _ _ _ hcs hc) (hvs.2.1 _ _ _ hcs hv2)
         ·rw[if_neg (by omega),List.getElem?_drop]at hc;rw[if_neg (by omega),List.getElem?_drop]at hv2;rw[show j+ds.length+(j'-(j+ds.length))=j' from by omega]at hc;rw[show i * sz+j+vs.length+(i * sz+j'-(i * sz+j+vs.length))=i * sz+j' from by omega]at hv2;exact h7 i j' r c v hr hc (by simpa using hv2)
    ·cases h
   ·cases h
  ·rename_i ty sz rows lk hm;split at h
   ·rename_i r ds hr hds;split at h
    ·rename_i hle;simp only[Option.some.injEq,Prod.mk.injEq]at h;obtain⟨rfl,rfl⟩:=h;obtain⟨b,hb,rfl⟩:=hp.eptr_invS hm rfl;obtain⟨h0,h1,h2,hlk⟩:=hM.obj o' _ hm;rcases h2 with⟨_,h3⟩|⟨b',cur,S,h2,hpv,h3,h4,h5,h6,h7,h8,h9⟩
     ·subst h3;simp at hr
     ·rw[hb]at h2;obtain rfl:=Option.some.inj h2;obtain⟨k1,k2⟩:=toOds_ok hds;have hrl:=h1 i r hr;have hi:i<rows.length:=(List.getElem?_eq_some_iff.1 hr).1;have hlt:∀i,i<rows.length→i * sz+sz≤cur.size:=fun i hi=>by
       rw[h6];have:(i+1) * sz≤g.cp o' * sz:=Nat.mul_le_mul_right _ (by omega);rw[Nat.add_mul]at this;omega
      have hlt0:=hlt i hi;have hvl:=hvs.1;have hst:=run_storeCells_at P b (i * sz+j) ty vs 0 cur w h3 (by omega) (fun v hv=>hvs.2.2 v hv);refine⟨b,i * sz+j,_,rfl,hst,MS.put hM o' hb hm (by simp[Q6.like]) _ ?_⟩;simp only[Nat.add_zero];rw[←Uj vs cur.toList (i * sz+j) (by simp;omega)];have hk:∀p:Addr,ok p.block→(w.setRow b (setAt cur.toList (i * sz+j) vs).toArray).cell? p=w.cell? p:=fun p hp=>World.Yw (setRow_other w b _ _ fun e=>(hM.own o' _ b hm (.inl hb)).1 (e▸hp))
      have hvr:∀{c:AV} {v:Value},VR w ok g m c v→VR (w.setRow b (setAt cur.toList (i * sz+j) vs).toArray) ok g m c v:=fun {c v} h=>h.mono (fun _=>false) (AV.V6 (fun _=>rfl) c) hk (fun _ h=>h) (fun o y _ hy=>⟨y,hy,Q6.Wq y,rfl,rfl⟩)
      have hrow:w.setRow b (setAt cur.toList (i * sz+j) vs).toArray=w.setRow b (setAt cur.toList (i * sz+j) vs).toArray:=rfl;have hcell:∀i' j',i'<rows.length→j'<sz→(setAt cur.toList (i * sz+j) vs)[i' * sz+j']? =if i=i'∧j≤j'∧j'<j+vs.length then vs[j'-j]? else cur[i' * sz+j']?:=fun i' j' hi' hj'=>by
       rw[setAt_get _ _ _ _ (by simp;omega)];have hx:=idx_in (i:=i) (i':=i') (n:=vs.length) (sz:=sz) (j:=j) (j':=j') (by omega) hj';by_cases hc:i=i'∧j≤j'∧j'<j+vs.length
       ·rw[if_pos (hx.2 hc),if_pos hc];congr 1;obtain⟨rfl,_⟩:=hc;omega
       ·rw[if_neg fun h=>hc (hx.1 h),if_neg hc];simp
      have hset:∀(i':Nat) (r':List OD),(rows.set i (setAt r j ds))[i']? =some r'→i'<rows.length∧r'.length=sz∧((i=i'∧r'=setAt r j ds)∨(i≠i'∧rows[i']? =some r')):=fun i' r' hr'=>by
       by_cases e:i=i'
       ·subst e;rw[List.getElem?_set_self hi]at hr';obtain rfl:=Option.some.inj hr';exact⟨hi,by rw[Vq];exact hrl,.inl ⟨rfl,rfl⟩⟩
       ·rw[List.getElem?_set_ne e]at hr';exact⟨(List.getElem?_eq_some_iff.1 hr').1,h1 i' r' hr',.inr ⟨e,hr'⟩⟩
      refine⟨h0,fun i' r' hr'=>(hset i' r' hr').2.1,.inr ⟨b,_,S,hb,hpv,setRow_heap w b cur _ ty _ h3,by simpa using h4,h5,by simpa[Vq]using h6,h7,h8,fun i' j' r' c v hr' hc hv=>?_⟩,fun i' j' o2 n hmem=>?_⟩
      ·obtain⟨q1,q2,q3⟩:=hset i' r' hr';have hj':j'<sz:=by have:=(List.getElem?_eq_some_iff.1 hc).1;omega
       have hv2:(setAt cur.toList (i * sz+j) vs)[i' * sz+j']? =some v:=by simpa using hv
       rw[hcell i' j' q1 hj']at hv2;have far:∀(r0:List OD),rows[i']? =some r0→r0[j']? =some c→cur[i' * sz+j']? =some v→G9 (w.setRow b (setAt cur.toList (i * sz+j) vs).toArray) ok (S i' j') c v:=fun r0 a1 a2 a3=>
        (h9 i' j' r0 c v a1 a2 a3).keep hk (fun _ h=>h) (fun x hx=>setRow_other w b x _ fun e=>by subst e;exact hpv (h7 i' j' _ hx)) fun _ h=>h
       by_cases hc0:i=i'∧j≤j'∧j'<j+vs.length
       ·rw[if_pos hc0]at hv2;obtain⟨rfl,hj1,hj2⟩:=hc0;rcases q3 with⟨_,rfl⟩|⟨hne,_⟩
        ·rw[setAt_get _ _ _ _ (by omega),if_pos (by omega)]at hc;have hjl:j'-j<cs.length:=by omega
         have hcs:cs[j'-j]? =some cs[j'-j]:=List.getElem?_eq_getElem hjl;exact toOd_ok (k2 _ _ _ hcs hc) (hvr (hvs.2.1 _ _ _ hcs hv2)) (hvs.2.2 v (List.mem_iff_getElem?.2 ⟨_,hv2⟩)) _
        ·exact absurd rfl hne
       ·rw[if_neg hc0]at hv2;rcases q3 with⟨rfl,rfl⟩|⟨hne,q3⟩
        ·rw[setAt_get _ _ _ _ (by omega),if_neg (by omega)]at hc;exact far r hr hc hv2
        ·exact far r' q3 hc hv2
      ·have hset2:∀(a:Nat) (r0:List OD),rows[a]? =some r0→∃r1,(rows.set i (setAt r j ds))[a]? =some r1:=fun a r0 h=>by
        have ha:a<(rows.set i (setAt r j ds)).length:=by rw[List.length_set];exact(List.getElem?_eq_some_iff.1 h).1
        exact⟨_,List.getElem?_eq_getElem ha⟩
       have hcl:∀(a c:Nat),a<rows.length→c<sz→(w.setRow b (setAt cur.toList (i * sz+j) vs).toArray).cell? ⟨b,a * sz+c,none⟩=if i=a∧j≤c∧c<j+vs.length then vs[c-j]? else cur[a * sz+c]?:=fun a c h1 h2=>by
        rw[cell_of_row _ b _ _ ty (0,0) (setRow_heap w b cur _ ty _ h3)];have:=hcell a c h1 h2;simpa using this
       rcases List.mem_append.1 hmem with hmem|hmem
       ·obtain⟨rfl,a2,a3⟩:=odLks_mem hmem;have hj2:j'-j<cs.length:=(List.getElem?_eq_some_iff.1 a3).1;have hv:vs[j'-j]? =some (vs[j'-j]'(by omega)):=List.getElem?_eq_getElem (by omega);obtain⟨r1,hr1⟩:=hset2 i' r hr;refine⟨r1,b,_,hr1,by omega,hb,?_,hvr (hvs.2.1 _ _ _ a3 hv)⟩;rw[hcl i' j' hi (by omega),if_pos ⟨rfl,a2,by omega⟩];exact hv
       ·obtain⟨a1,a2⟩:=lkDrop_mem hmem;obtain⟨r0,b2,v,q1,q2,q3,q4,q5⟩:=hlk _ _ _ _ a1;rw[hb]at q3;obtain rfl:=Option.some.inj q3;obtain⟨r1,hr1⟩:=hset2 i' r0 q1;refine⟨r1,b,v,hr1,q2,hb,?_,hvr q5⟩;rw[hcl i' j' (List.getElem?_eq_some_iff.1 q1).1 q2,if_neg (fun hh=>a2 ⟨hh.1.symm,hh.2.1,by omega⟩)];rw[cell_of_row w b _ cur ty (0,0) h3]at q4;exact q4
    ·cases h
   ·cases h
  ·cases h
 ·cases h
end
end Go.Proofs.YtlbcipohiepjmaaDoor
namespace Go.Proofs.YtlbcipohiepjmaaDoor
open Go.RowKit
def U2 (m:Me) (sz:Nat):AV→Option (List (List D)×Prop)
 | .d (.sl rows)=>some (rows,∀(i:Nat) (r:List D),rows[i]? =some r→r.length=sz)
 | .arr o lo n=>match m o with
  |some (.arr _ sz' rows)=>if sz'=sz then some ((rows.drop lo).take n,True)else none
  |_=>none
 | .lit (.slice none 0 0)=>some ([],True)
 |_=>none
section
variable {P:Program} {C:Cx} {w:World} {ok:Nat→Prop} {g:Gh} {m:Me}
theorem srcRows_ok (hM:MS C w ok g m) {sz:Nat} {c:AV} {rows:List (List D)} {p:Prop} (h:U2 m sz c=some (rows,p)) (hp:p) {v:Value} (hv:VR w ok g m c v):
  (∀(i:Nat) (r:List D),rows[i]? =some r→r.length=sz)∧∃(A:Option Addr) (cc:Nat) (news:List Value),v= .slice A rows.length cc∧news.length=rows.length * sz∧
   (∀j u,news[j]? =some u→∃ad,A=some ad∧w.cell? (ad.add j)=some u)∧(∀u∈news,u.oneCell'=true)∧
   ∀(i j:Nat) (r:List D) (d:D) (u:Value),rows[i]? =some r→r[j]? =some d→news[i * sz+j]? =some u→Rep w ok d u:=by
 unfold U2 at h;split at h
 ·rename_i rows';simp only[Option.some.injEq,Prod.mk.injEq]at h;obtain⟨rfl,rfl⟩:=h;refine⟨hp,?_⟩;have hR:=hv.Z6;obtain⟨A,cc,rfl,_⟩:=hR.sl_inv;obtain⟨news,h1,h2,h3,h4⟩:=hR.news hp;exact⟨A,cc,news,rfl,h1,h2,h3,h4⟩
 ·rename_i o lo n;split at h
  ·rename_i e sz' rows' hm;split at h
   ·rename_i hsz;subst hsz;simp only[Option.some.injEq,Prod.mk.injEq]at h;obtain⟨rfl,_⟩:=h;obtain⟨h0,h1,h2⟩:=hM.obj o _ hm;obtain⟨h3,h4⟩:=hv.arr_inv hm;have hlen:((rows'.drop lo).take n).length=n:=by simp;omega
    refine⟨fun i r hr=>?_,?_⟩
    ·rw[List.getElem?_take]at hr;split at hr
     ·rw[List.getElem?_drop]at hr;exact h1 _ r hr
     ·cases hr
    ·rw[hlen];have nil:n=0→∀a cc,v= .slice a 0 cc→∃(A:Option Addr) (cc:Nat) (news:List Value),v= .slice A n cc∧news.length=n * sz'∧
       (∀j u,news[j]? =some u→∃ad,A=some ad∧w.cell? (ad.add j)=some u)∧(∀u∈news,u.oneCell'=true)∧
       ∀(i j:Nat) (r:List D) (d:D) (u:Value),((rows'.drop lo).take n)[i]? =some r→r[j]? =some d→news[i * sz'+j]? =some u→Rep w ok d u:=fun hn a cc hvv=>by
      subst hn;exact⟨a,cc,[],hvv,by simp,by simp,by simp,by simp⟩
     rcases h4 with⟨_,hvv,rfl,rfl⟩|⟨b,hb,hvv⟩|⟨_,rfl,a,cc,hvv,_⟩
     ·exact nil rfl _ _ hvv
     ·rcases h2 with⟨hb',_⟩|⟨b',cur,hb',hw,hc1,hc2,hc3,hc4⟩
      ·rw[hb]at hb';cases hb'
      ·rw[hb]at hb';obtain rfl:=Option.some.inj hb';have hsz:(lo+n) * sz'≤cur.size:=by rw[hc3];exact Nat.mul_le_mul_right _ (by omega)
       rw[Nat.add_mul]at hsz;refine⟨_,_,(cur.toList.drop (lo * sz')).take (n * sz'),hvv,by simp;omega,fun j u hu=>⟨_,rfl,?_⟩,fun u hu=>?_,fun i j r d u hr hd hu=>?_⟩
       ·rw[List.getElem?_take]at hu;split at hu
        ·rw[List.getElem?_drop]at hu;rw[Addr.add_lit,cell_of_row w b _ cur e (0,0) hw];simpa using hu
        ·cases hu
       ·obtain⟨k,hk⟩:=List.mem_iff_getElem?.1 hu;rw[List.getElem?_take]at hk;split at hk
        ·rename_i hkn;rw[List.getElem?_drop]at hk;have hk1:k / sz'<n:=(Nat.div_lt_iff_lt_mul h0).2 hkn;have hk2:k % sz'<sz':=Nat.mod_lt _ h0;have hk3:k / sz' * sz'+k % sz'=k:=by rw[Nat.mul_comm];exact Nat.div_add_mod k sz'
         have hr:rows'[lo+k / sz']? =some rows'[lo+k / sz']:=List.getElem?_eq_getElem (by omega);have hrl:=h1 _ _ hr;have hd:(rows'[lo+k / sz'])[k % sz']? =some (rows'[lo+k / sz'])[k % sz']:=List.getElem?_eq_getElem (by omega);refine(hc4 (lo+k / sz') (k % sz') _ _ u hr hd ?_).oneCell;rw[Nat.add_mul,Nat.add_assoc,hk3];simpa using hk
        ·cases hk
       ·have hi:i<n:=by have:=(List.getElem?_eq_some_iff.1 hr).1;omega
        rw[List.getElem?_take,if_pos hi,List.getElem?_drop]at hr;have hj:j<sz':=by have:=h1 _ r hr;have:=(List.getElem?_eq_some_iff.1 hd).1;omega
        rw[List.getElem?_take]at hu;split at hu
        ·rw[List.getElem?_drop]at hu;refine hc4 (lo+i) j r d u hr hd ?_;rw[Nat.add_mul,Nat.add_assoc];simpa using hu
        ·cases hu
     ·exact nil rfl _ _ hvv
   ·cases h
  ·cases h
 ·simp only[Option.some.injEq,Prod.mk.injEq]at h;obtain⟨rfl,_⟩:=h;refine⟨by simp,none,0,[],hv.Vz.1,by simp,by simp,by simp,by simp⟩
 ·cases h
def capOf:Value→Nat
 | .slice _ _ c=>c
 |_=>0
theorem MS.app0 (hM:MS C w ok g m) (t:Nat) (ht:kept t=false) {ty e tr:TypeId} {i:TypeInfo} {z:Value} (hu:P.underlying ty=some (.slice e)) (hi:P.info? e=some i) (hz:i.zero=some z) (hzs:z.cells.size=i.size) (hsz:0<i.size)
  {v:Value} {n:Nat} {xs:List Value} {ob:Option Nat} (hlx:xs.length=n * i.size) (hvb:∀b,ob=some b→g.bl t=some b∧∃x,m t=some x)
  {rows:List (List D)} (hn:rows.length=n) (hrl:∀(k:Nat) (r:List D),rows[k]? =some r→r.length=i.size)
  (hxr:∀(k j:Nat) (r:List D) (d:D) (u:Value),rows[k]? =some r→r[j]? =some d→xs[k * i.size+j]? =some u→Rep w ok d u)
  {A:Option Addr} {cc:Nat} {news:List Value} {rows2:List (List D)} (hrl2:∀(k:Nat) (r:List D),rows2[k]? =some r→r.length=i.size) (hnl:news.length=rows2.length * i.size)
  (hnc:∀j u,news[j]? =some u→∃ad,A=some ad∧w.cell? (ad.add j)=some u) (hn1:∀u∈news,u.oneCell'=true)
  (hnr:∀(k j:Nat) (r:List D) (d:D) (u:Value),rows2[k]? =some r→r[j]? =some d→news[k * i.size+j]? =some u→Rep w ok d u)
  (hr0:∃v' w',(Builtin.append_ #[ty,ty] tr #[v,.slice A rows2.length cc]).run P w= .ok v' w'∧w'.ownsRow 0 e i.size v' (n+rows2.length) (xs++news)∧w.grownBy w' ob∧(v'.ownBlock=ob∨v'.ownBlock=some w.heap.size)):
  ∃v' w' g',(Builtin.append_ #[ty,ty] tr #[v,.slice A rows2.length cc]).run P w= .ok v' w'∧
   MS C w' ok g' (Zq m (X6 [(t,some (.arr e i.size (rows++rows2)))]) (Qj [t]) (Q5 [(t,some (.arr e i.size (rows++rows2)))]))∧
   (∀c v,c.has (Qj [t])=false→VR w ok g m c v→VR w' ok g' (Zq m (X6 [(t,some (.arr e i.size (rows++rows2)))]) (Qj [t]) (Q5 [(t,some (.arr e i.size (rows++rows2)))])) c v)∧
   VR w' ok g' (Zq m (X6 [(t,some (.arr e i.size (rows++rows2)))]) (Qj [t]) (Q5 [(t,some (.arr e i.size (rows++rows2)))])) (.arr t 0 (rows.length+rows2.length)) v':=by
 subst hn;obtain⟨v',w',hrun,h2,h3,h4⟩:=hr0;have hvown:∀b,ob=some b→¬ok b∧b<w.heap.size∧(C.w.heap.size≤b∨(C.T b∧500≤t))∧∀j xj,j≠t→m j=some xj→¬xj.at_ g j b:=fun b hb=>by
  obtain⟨k1,x,k2⟩:=hvb b hb;obtain⟨a1,a2,a3⟩:=hM.own t x b k2 (.inl k1);exact⟨a1,a2,a3,fun j xj hj hmj hbj=>hj (hM.inj j t xj x b hmj k2 hbj (.inl k1))⟩
 have hokc:∀b,ok b→w'.heap[b]? =w.heap[b]?:=fun b hb=>h3.block b (hM.okb b hb).1 fun e=>(hvown b e.symm).1 hb
 have hk:∀p:Addr,ok p.block→w'.cell? p=w.cell? p:=fun p hp=>World.Yw (hokc _ hp)
 have hblk:∀b,v'.ownBlock=some b→¬ok b∧b<w'.heap.size∧(C.w.heap.size≤b∨(C.T b∧500≤t))∧∀j xj,j≠t→m j=some xj→¬xj.at_ g j b:=fun b hb=>by
  have hlt:=(h2.lt b hb).2;rcases h4 with h4|h4
  ·rw[h4]at hb;obtain⟨a1,a2,a3,a4⟩:=hvown b hb;exact⟨a1,hlt,a3,a4⟩
  ·rw[h4]at hb;obtain rfl:=Option.some.inj hb;exact⟨fun h=>by have:=(hM.okb _ h).1;omega,hlt,.inl hM.size,fun j xj _ hmj hbj=>by have:=(hM.own j xj _ hmj hbj).2.1;omega⟩
 have hrows:∀(k:Nat) (r:List D),(rows++rows2)[k]? =some r→r.length=i.size:=fun k r hr=>by
  rw[List.getElem?_append]at hr;split at hr
  ·exact hrl k r hr
  ·exact hrl2 _ r hr
 have hcells:∀(k j:Nat) (r:List D) (d:D) (u:Value),(rows++rows2)[k]? =some r→r[j]? =some d→(xs++news)[k * i.size+j]? =some u→Rep w' ok d u:=fun k j r d u hr hd hu=>by
  have hj:j<i.size:=by have:=hrows k r hr;have:=(List.getElem?_eq_some_iff.1 hd).1;omega
  rw[List.getElem?_append]at hr;split at hr
  ·rename_i hk1;have:(k+1) * i.size≤rows.length * i.size:=Nat.mul_le_mul_right _ hk1;rw[Nat.add_mul]at this;rw[List.getElem?_append_left (by omega)]at hu;exact(hxr k j r d u hr hd hu).keep hk
  ·rename_i hk1;have:rows.length * i.size≤k * i.size:=Nat.mul_le_mul_right _ (by omega);rw[List.getElem?_append_right (by omega)]at hu;refine(hnr (k-rows.length) j r d u hr hd ?_).keep hk;rw[←hu,hlx,Nat.sub_mul];congr 1;omega
 let cap:Nat:=capOf v'
 let g':Gh:=⟨fun k=>if t==k then v'.ownBlock else g.bl k,fun k=>if t==k then cap else g.cp k,g.pv⟩
 have hOR:∀M',OR w' ok g' M' t (.arr e i.size (rows++rows2)):=fun M'=>by
  refine⟨hsz,hrows,?_⟩;rcases h2.2 with⟨hv',h0⟩|⟨gg,cap',cur,hv',_,hg,hle,hcm,hcs,htk⟩
  ·left;refine⟨by simp[g',hv',Value.ownBlock],List.eq_nil_of_length_eq_zero (by simpa using h0)⟩
  ·right;have hc:cap=cap':=by
    show capOf v'=cap';rw[hv'];rfl
   refine⟨gg,cur,by simp[g',hv',Value.ownBlock],hg,by simp[g',hc];omega,by simp[g',hc];exact hcm,by simp[g',hc];exact hcs,fun k j r c u hr hcc hu=>?_⟩;refine hcells k j r c u hr hcc ?_;rw[←htk,List.getElem?_take];have hk1:k<rows.length+rows2.length:=by have:=(List.getElem?_eq_some_iff.1 hr).1;simpa using this
   have hj:j<i.size:=by have:=hrows k r hr;have:=(List.getElem?_eq_some_iff.1 hcc).1;omega
   have:(k+1) * i.size≤(rows.length+rows2.length) * i.size:=Nat.mul_le_mul_right _ hk1;rw[Nat.add_mul]at this;rw[if_pos (by omega)];simpa using hu
 have hMS:=MS.eff (w':=w') (ok':=ok) (g':=g') hM (X6 [(t,some (.arr e i.size (rows++rows2)))]) (Qj [t]) (Q5 [(t,some (.arr e i.size (rows++rows2)))])
  (fun k hk=>by rwa [Xq,←Qk t (some (.arr e i.size (rows++rows2)))]at hk)
  (fun k x hU hN=>by
   rw[Qk]at hU;have e1:t=k:=by simpa using hU
   subst e1;simp[Q5]at hN;subst hN;exact hOR _)
  (fun k hk=>by rw[Xq]at hk;simp[g',hk])
  (fun k x hU hq=>by rw[Qk]at hU;rw[Xq]at hq;rw[hU]at hq;cases hq)
  (fun k x b hU hx hb=>by
   rw[Qk]at hU;refine h3.block b (hM.own k x b hx hb).2.1 fun e=>?_
   exact(hvown b e.symm).2.2.2 k x (fun e=>by subst e;simp at hU) hx hb)
  hokc (fun _ h=>h) (fun _ h=>.inl h)
  (fun k x b hU hN hb=>by
   rw[Qk]at hU;have e0:t=k:=by simpa using hU
   have e1:Q6.arr e i.size (rows++rows2)=x:=by subst e0;simpa[Q5]using hN
   subst e1;have hb:=Q6.at_arr.1 hb;have hb':v'.ownBlock=some b:=by simpa[g',hU]using hb
   obtain⟨a1,a2,a3,a4⟩:=hblk b hb'
   refine ⟨a1, a2, by have e1 : t = k := by simpa using hU
                      rw[←e1]; exact a3, fun j xj hUj hj hbj=> ?_, fun j xj hUj _ _=> ?_⟩
   ·rw[Qk]at hUj;exact a4 j xj (fun e=>by subst e;simp at hUj) hj hbj
   ·rw[Qk]at hUj;have e1:t=k:=by simpa using hU
    have e2:t=j:=by simpa using hUj
    rw[←e1,←e2])
  (fun k hk => by rw [Xq] at hk; have e1 : t = k := by simpa using hk
                  rw[←e1]; exact ht)
  h3.size
  (fun b hb hT=>h3.block b (by have:=hM.size;omega) fun e=>by
   rcases(hvown b e.symm).2.2.1 with h|h
   ·omega
   ·exact hT h.1)
  h3.os h3.tape h3.output
 refine⟨v',w',g',hrun,hMS.1,hMS.2,.arr _ _ _ _ ?_ fun x sz' L hx hs=>?_⟩
 ·rcases h2.2 with⟨hv',_⟩|⟨gg,cap',cur,hv',_⟩<;> rw[hv']<;> rfl
 ·simp only[Zq,Qk,beq_self_eq_true,if_true,Q5]at hx;cases hx;cases hs;refine⟨by simp,?_⟩;rcases h2.2 with⟨hv',h0⟩|⟨gg,cap',cur,hv',_⟩
  ·left;exact⟨by simp[g',hv',Value.ownBlock],hv',rfl,by simpa using h0⟩
  ·right;left;have hc:cap=cap':=by
    show capOf v'=cap';rw[hv'];rfl
   refine⟨gg,by simp[g',hv',Value.ownBlock],?_⟩;have e1:g'.cp t=cap':=by simp[g',hc]
   rw[e1,hv'];simp
theorem MS.app (hM:MS C w ok g m) (t:Nat) (ht:kept t=false) {ty e tr:TypeId} {i:TypeInfo} {z:Value} (hu:P.underlying ty=some (.slice e)) (hi:P.info? e=some i) (hz:i.zero=some z) (hzs:z.cells.size=i.size) (hsz:0<i.size)
  {v:Value} {n:Nat} {xs:List Value} (hown:w.ownsRow 0 e i.size v n xs) (hvb:∀b,v.ownBlock=some b→g.bl t=some b∧∃x,m t=some x)
  {rows:List (List D)} (hn:rows.length=n) (hrl:∀(k:Nat) (r:List D),rows[k]? =some r→r.length=i.size)
  (hxr:∀(k j:Nat) (r:List D) (d:D) (u:Value),rows[k]? =some r→r[j]? =some d→xs[k * i.size+j]? =some u→Rep w ok d u)
  {A:Option Addr} {cc:Nat} {news:List Value} {rows2:List (List D)} (hrl2:∀(k:Nat) (r:List D),rows2[k]? =some r→r.length=i.size) (hnl:news.length=rows2.length * i.size)
  (hnc:∀j u,news[j]? =some u→∃ad,A=some ad∧w.cell? (ad.add j)=some u) (hn1:∀u∈news,u.oneCell'=true)
  (hnr:∀(k j:Nat) (r:List D) (d:D) (u:Value),rows2[k]? =some r→r[j]? =some d→news[k * i.size+j]? =some u→Rep w ok d u)
  (h63:rows.length+rows2.length≤maxLen) (hbytes:(rows.length+rows2.length) * i.bytes≤140737488355328):
  ∃v' w' g',(Builtin.append_ #[ty,ty] tr #[v,.slice A rows2.length cc]).run P w= .ok v' w'∧
   MS C w' ok g' (Zq m (X6 [(t,some (.arr e i.size (rows++rows2)))]) (Qj [t]) (Q5 [(t,some (.arr e i.size (rows++rows2)))]))∧
   (∀c v,c.has (Qj [t])=false→VR w ok g m c v→VR w' ok g' (Zq m (X6 [(t,some (.arr e i.size (rows++rows2)))]) (Qj [t]) (Q5 [(t,some (.arr e i.size (rows++rows2)))])) c v)∧
   VR w' ok g' (Zq m (X6 [(t,some (.arr e i.size (rows++rows2)))]) (Qj [t]) (Q5 [(t,some (.arr e i.size (rows++rows2)))])) (.arr t 0 (rows.length+rows2.length)) v':=by
 subst hn;exact MS.app0 hM t ht hu hi hz hzs hsz hown.1 hvb rfl hrl hxr hrl2 hnl hnc hn1 hnr (run_append_news (P:=P) w 0 ty tr e i z i.size i.bytes hu hi hz rfl rfl hzs hsz v rows.length xs hown A rows2.length cc news hnl hnc hn1 h63 hbytes (Nat.zero_le _))
theorem MS.growO (hM:MS C w ok g m) (t:Nat) (ht:kept t=false) {e:TypeId} {sz:Nat} (hsz:0<sz) {rows:List (List OD)} {lk:List (Nat×Nat×Nat×Nat)} {xs:List Value} {v':Value} {w':World} {ob:Option Nat} (S:Nat→Nat→Nat→Prop)
  (h2:w'.ownsRow 0 e sz v' rows.length xs) (h3:w.grownBy w' ob) (h4:v'.ownBlock=ob∨v'.ownBlock=some w.heap.size) (hvb:∀b,ob=some b→∃x,m t=some x∧g.bl t=some b)
  (hS:∀k j x,S k j x→ob≠some x∧∃y,m t=some y∧y.at_ g t x) (hSd:∀i j i' j' x,S i j x→S i' j' x→i=i'∧j=j')
  (hrl:∀(k:Nat) (r:List OD),rows[k]? =some r→r.length=sz)
  (hcell:∀(k j:Nat) (r:List OD) (c:OD) (u:Value),rows[k]? =some r→r[j]? =some c→xs[k * sz+j]? =some u→G9 w ok (S k j) c u)
  (hlk:∀i j o n,(i,j,o,n)∈lk→(t==o)=false∧∃(r:List OD) (v:Value),rows[i]? =some r∧j<sz∧xs[i * sz+j]? =some v∧VR w ok g m (.arr o 0 n) v):
  ∃g',MS C w' ok g' (Zq m (X6 [(t,some (.raw (.own e sz rows lk)))]) (Qj [t]) (Q5 [(t,some (.raw (.own e sz rows lk)))]))∧
   (∀c v,c.has (Qj [t])=false→VR w ok g m c v→VR w' ok g' (Zq m (X6 [(t,some (.raw (.own e sz rows lk)))]) (Qj [t]) (Q5 [(t,some (.raw (.own e sz rows lk)))])) c v)∧
   VR w' ok g' (Zq m (X6 [(t,some (.raw (.own e sz rows lk)))]) (Qj [t]) (Q5 [(t,some (.raw (.own e sz rows lk)))])) (.arr t 0 rows.length) v':=by
 have hvown:∀b,ob=some b→¬ok b∧b<w.heap.size∧(C.w.heap.size≤b∨(C.T b∧500≤t))∧∀j xj,j≠t→m j=some xj→¬xj.at_ g j b:=fun b hb=>by
  obtain⟨x,k2,k1⟩:=hvb b hb;obtain⟨a1,a2,a3⟩:=hM.own t x b k2 (.inl k1);exact⟨a1,a2,a3,fun j xj hj hmj hbj=>hj (hM.inj j t xj x b hmj k2 hbj (.inl k1))⟩
 have hSown:∀k j b,S k j b→¬ok b∧b<w.heap.size∧(C.w.heap.size≤b∨(C.T b∧500≤t))∧∀j xj,j≠t→m j=some xj→¬xj.at_ g j b:=fun k j b hb=>by
  obtain⟨_,y,k2,k1⟩:=hS k j b hb;obtain⟨a1,a2,a3⟩:=hM.own t y b k2 k1;exact⟨a1,a2,a3,fun j xj hj hmj hbj=>hj (hM.inj j t xj y b hmj k2 hbj k1)⟩
 have hokc:∀b,ok b→w'.heap[b]? =w.heap[b]?:=fun b hb=>h3.block b (hM.okb b hb).1 fun e=>(hvown b e.symm).1 hb
 have hk:∀p:Addr,ok p.block→w'.cell? p=w.cell? p:=fun p hp=>World.Yw (hokc _ hp)
 let cap:Nat:=capOf v'
 let g':Gh:=⟨fun k=>if t==k then v'.ownBlock else g.bl k,fun k=>if t==k then cap else g.cp k,fun k=>if t==k then (fun x=>∃a b,S a b x)else g.pv k⟩
 let X:Q6:=.raw (.own e sz rows lk)
 have hq:∀k,Qj [t] k=(t==k):=fun k=>Xq t k
 have hat:∀b,X.at_ g' t b→¬ok b∧b<w'.heap.size∧(C.w.heap.size≤b∨(C.T b∧500≤t))∧∀j xj,j≠t→m j=some xj→¬xj.at_ g j b:=fun b hb=>by
  have fromOld:¬ok b∧b<w.heap.size∧(C.w.heap.size≤b∨(C.T b∧500≤t))∧(∀j xj,j≠t→m j=some xj→¬xj.at_ g j b)→¬ok b∧b<w'.heap.size∧(C.w.heap.size≤b∨(C.T b∧500≤t))∧∀j xj,j≠t→m j=some xj→¬xj.at_ g j b:=fun⟨a1,a2,a3,a4⟩=>⟨a1,by have:=h3.size;omega,a3,a4⟩
  rcases hb with hb|hb
  ·have hb:v'.ownBlock=some b:=by simpa[g']using hb
   have hlt:=(h2.lt b hb).2;rcases h4 with h4|h4
   ·rw[h4]at hb;exact fromOld (hvown b hb)
   ·rw[h4]at hb;obtain rfl:=Option.some.inj hb;exact⟨fun h=>by have:=(hM.okb _ h).1;omega,hlt,.inl hM.size,fun j xj _ hmj hbj=>by have:=(hM.own j xj _ hmj hbj).2.1;omega⟩
  ·have hb:∃a c,S a c b:=by simpa[g']using hb
   obtain⟨a,c,hb⟩:=hb;exact fromOld (hSown a c b hb)
 have hmm:∀k x',Qj [t] k=false→(Zq m (X6 [(t,some X)]) (Qj [t]) (Q5 [(t,some X)])) k=some x'→∃x,m k=some x∧x.like x'∧g'.bl k=g.bl k∧g'.cp k=g.cp k:=fun k x' hk hx'=>by
  rw[hq]at hk;simp only[Zq,Qk,hk]at hx';obtain⟨x,hx,rfl⟩:=Option.map_eq_some_iff.1 hx';exact⟨x,hx,Q6.F9 _ x,by simp[g',hk],by simp[g',hk]⟩
 have hOR:RawR w' ok g' (Zq m (X6 [(t,some X)]) (Qj [t]) (Q5 [(t,some X)])) t (.own e sz rows lk):=by
  have hblk:∀gg cap' cur,v'= .slice (some ⟨gg,0,none⟩) rows.length cap'→w'.heap[gg]? =some (.cells cur e (0,0))→g'.bl t=some gg∧g'.cp t=cap':=fun gg cap' cur hv' _=>by
   refine⟨by simp[g',hv',Value.ownBlock],?_⟩;have hc:cap=cap':=by
    show capOf v'=cap';rw[hv'];rfl
   simp[g',hc]
  refine⟨hsz,hrl,?_,fun i j o n hmem=>?_⟩
  ·rcases h2.2 with⟨hv',h0⟩|⟨gg,cap',cur,hv',_,hg,hle,hcm,hcs,htk⟩
   ·left;exact⟨by simp[g',hv',Value.ownBlock],List.eq_nil_of_length_eq_zero (by simpa using h0)⟩
   ·right;obtain⟨e1,e2⟩:=hblk gg cap' cur hv' hg;refine⟨gg,cur,S,e1,?_,hg,by rw[e2];exact hle,by rw[e2];exact hcm,by rw[e2];exact hcs,fun i j x hx=>?_,hSd,fun k j r c u hr hcc hu=>?_⟩
    ·simp only[g',beq_self_eq_true,if_true];rintro⟨a,c,hs⟩;have hb:v'.ownBlock=some gg:=by rw[hv'];rfl
     obtain⟨n1,y,hy,hya⟩:=hS a c gg hs;rcases h4 with h4|h4
     ·rw[h4]at hb;exact n1 hb
     ·rw[h4]at hb;obtain rfl:=Option.some.inj hb;have:=(hSown a c _ hs).2.1;omega
    ·simp only[g',beq_self_eq_true,if_true];exact⟨i,j,hx⟩
    ·have hk1:k<rows.length:=(List.getElem?_eq_some_iff.1 hr).1;have hj:j<sz:=by have:=hrl k r hr;have:=(List.getElem?_eq_some_iff.1 hcc).1;omega
     have:(k+1) * sz≤rows.length * sz:=Nat.mul_le_mul_right _ hk1;rw[Nat.add_mul]at this;have hu':xs[k * sz+j]? =some u:=by
      rw[←htk,List.getElem?_take,if_pos (by omega)];simpa using hu
     exact(hcell k j r c u hr hcc hu').keep hk (fun _ h=>h) (fun x hx=>h3.block x (hSown k j x hx).2.1 fun e=>(hS k j x hx).1 e.symm) fun _ h=>h
  ·obtain⟨hto,r,v,t1,t2,t3,t4⟩:=hlk i j o n hmem;have hk1:i<rows.length:=(List.getElem?_eq_some_iff.1 t1).1;have:(i+1) * sz≤rows.length * sz:=Nat.mul_le_mul_right _ hk1;rw[Nat.add_mul]at this;rcases h2.2 with⟨hv',h0⟩|⟨gg,cap',cur,hv',_,hg,hle,hcm,hcs,htk⟩
   ·have h0':rows.length=0:=by simpa using h0
    omega
   ·obtain⟨e1,e2⟩:=hblk gg cap' cur hv' hg;refine⟨r,gg,v,t1,t2,e1,?_,t4.mono (Qj [t]) (by rw[AV.has,hq];exact hto) hk (fun _ h=>h) hmm⟩;rw[cell_of_row w' gg _ cur e (0,0) hg];rw[←htk,List.getElem?_take,if_pos (by omega)]at t3;simpa using t3
 have hMS:=MS.eff (w':=w') (ok':=ok) (g':=g') hM (X6 [(t,some X)]) (Qj [t]) (Q5 [(t,some X)])
  (fun k hk=>by rwa [Xq,←Qk t (some X)]at hk)
  (fun k x hU hN=>by
   rw[Qk]at hU;have e1:t=k:=by simpa using hU
   subst e1;simp[Q5]at hN;subst hN;exact hOR)
  (fun k hk=>by rw[Xq]at hk;simp[g',hk])
  (fun k x hU hq=>by rw[Qk]at hU;rw[Xq]at hq;rw[hU]at hq;cases hq)
  (fun k x b hU hx hb=>by
   rw[Qk]at hU;refine h3.block b (hM.own k x b hx hb).2.1 fun e=>?_
   exact(hvown b e.symm).2.2.2 k x (fun e=>by subst e;simp at hU) hx hb)
  hokc (fun _ h=>h) (fun _ h=>.inl h)
  (fun k x b hU hN hb=>by
   rw[Qk]at hU;have e0:t=k:=by simpa using hU
   subst e0;have e1:X=x:=by simpa[Q5]using hN
   subst e1;obtain⟨a1,a2,a3,a4⟩:=hat b hb;refine⟨a1,a2,a3,fun j xj hUj hj hbj=>?_,fun j xj hUj _ _=>?_⟩
   ·rw[Qk]at hUj;exact a4 j xj (fun e=>by subst e;simp at hUj) hj hbj
   ·rw[Qk]at hUj;simpa using hUj)
  (fun k hk => by rw [Xq] at hk; have e1 : t = k := by simpa using hk
                  rw[←e1]; exact ht)
  h3.size
  (fun b hb hT=>h3.block b (by have:=hM.size;omega) fun e=>by
   rcases(hvown b e.symm).2.2.1 with h|h
   ·omega
   ·exact hT h.1)
  h3.os h3.tape h3.output
  (fun k hk=>by rw[Qk]at hk;simp[g',hk])
 refine⟨g',hMS.1,hMS.2,.arr _ _ _ _ ?_ fun x sz' L hx hs=>?_⟩
 ·rcases h2.2 with⟨hv',_⟩|⟨gg,cap',cur,hv',_⟩<;> rw[hv']<;> rfl
 ·simp only[Zq,Qk,beq_self_eq_true,if_true,Q5]at hx;cases hx;cases hs;refine⟨by simp,?_⟩;rcases h2.2 with⟨hv',h0⟩|⟨gg,cap',cur,hv',_⟩
  ·left;exact⟨by simp[g',hv',Value.ownBlock],hv',rfl,by simpa using h0⟩
  ·right;left;have hc:cap=cap':=by
    show capOf v'=cap';rw[hv'];rfl
   refine⟨gg,by simp[g',hv',Value.ownBlock],?_⟩;have e1:g'.cp t=cap':=by simp[g',hc]
   rw[e1,hv'];simp
theorem run_append_full (w:World) (t ty e:TypeId) (i:TypeInfo) (z:Value) (ht:P.underlying t=some (.slice e)) (hi:P.info? e=some i) (hz:i.zero=some z) (hzs:z.cells.size=i.size) (hsz:0<i.size)
  (A0:Option Addr) (n:Nat) (xs:List Value) (hxl:xs.length=n * i.size) (hxc:∀j u,xs[j]? =some u→∃ad,A0=some ad∧w.cell? (ad.add j)=some u)
  (A:Option Addr) (m c:Nat) (news:List Value) (hl:news.length=m * i.size) (hc:∀j u,news[j]? =some u→∃ad,A=some ad∧w.cell? (ad.add j)=some u) (h1:∀u∈news,u.oneCell'=true)
  (hm:0<m) (h63:n+m≤maxLen) (hbytes:(n+m) * i.bytes≤140737488355328):
  ∃v' w',(Builtin.append_ #[t,t] ty #[.slice A0 n n,.slice A m c]).run P w= .ok v' w'∧w'.ownsRow 0 e i.size v' (n+m) (xs++news)∧w.grownBy w' none∧
   (v'.ownBlock=none∨v'.ownBlock=some w.heap.size):=by
 have hpos:=Nat.mul_pos hm hsz;obtain⟨ad,rfl⟩:∃ad,A=some ad:=by
  rcases news with _|⟨u,us⟩
  ·simp at hl;omega
  ·obtain⟨ad,h,_⟩:=hc 0 u rfl;exact⟨ad,h⟩
 have hcells:∀j u,news[j]? =some u→w.cell? (ad.add j)=some u:=fun j u hu=>by
  obtain⟨ad',h,hcc⟩:=hc j u hu;injection h with h;subst h;exact hcc
 have hlen:(xs++news).length=(n+m) * i.size:=by rw[List.length_append,hxl,hl,Nat.add_mul]
 have hcm:grownCap w (n+m) n e≤maxLen:=grownCap_le_maxLen w (n+m) n e h63;have hge:=grownCap_ge w (n+m) n e;have hsmall:n+m≤9223372036854775807:=by simp only[maxLen]at h63;omega
 have hown:(w.drew.alloc (.cells (xs.toArray++news.toArray++Builtin.zeroCells z.cells (grownCap w (n+m) n e-(n+m))) e)).ownsRow 0 e i.size
    (.slice (some ⟨w.heap.size,0,none⟩) (n+m) (grownCap w (n+m) n e)) (n+m) (xs++news)∧
   w.grownBy (w.drew.alloc (.cells (xs.toArray++news.toArray++Builtin.zeroCells z.cells (grownCap w (n+m) n e-(n+m))) e)) none:=by
  refine⟨⟨hlen,.inr ⟨w.heap.size,_,_,rfl,Nat.zero_le _,heap_alloc_new w.drew _,hge,hcm,?_,?_⟩⟩,⟨rfl,rfl,rfl,by simp,fun k hk _=>heap_alloc_old w.drew _ hk⟩⟩
  ·simp only[Array.size_append,List.size_toArray,size_zeroCells,hzs,hxl,hl,←Nat.add_mul];congr 1;omega
  ·simp only[Array.toList_append,List.append_assoc];rw[←List.append_assoc,←hlen];exact List.take_left
 rcases A0 with _|a0
 ·have hx0:xs=[]:=by
   rcases xs with _|⟨u,us⟩
   ·rfl
   ·obtain⟨_,h,_⟩:=hxc 0 u rfl;cases h
  subst hx0;have hn0:n=0:=by
   rcases Nat.eq_zero_or_pos n with h|h
   ·exact h
   ·have:=Nat.mul_pos h hsz;simp at hxl;omega
  subst hn0;have hr:=run_append_nil (P:=P) w t ty e i z ht hi hz ad m c news hl hcells (by omega) (by omega) (by have hb:=hbytes;simp only[Nat.zero_add]at hb;omega);simp only[Nat.zero_add,List.nil_append,Array.empty_append]at hown⊢;exact⟨_,_,hr,hown.1,hown.2,.inr rfl⟩
 ·have holds:∀j u,xs[j]? =some u→w.cell? (a0.add j)=some u:=fun j u hu=>by
   obtain⟨ad',h,hcc⟩:=hxc j u hu;injection h with h;subst h;exact hcc
  have hr:=run_append_grow (P:=P) w t ty e i z ht hi hz a0 n n xs hxl holds ad m c news hl hcells (by omega) (by omega) (growslice_fits (by omega) hbytes);exact⟨_,_,hr,hown.1,hown.2,.inr rfl⟩
end
end Go.Proofs.YtlbcipohiepjmaaDoor
namespace Go.Proofs.YtlbcipohiepjmaaDoor
open Go.RowKit
mutual
def OD.toD:OD→Option D
 | .d d=>some d
 | .own _ _ rows=>match Vv rows with
  |some ds=>some (.sl ds)
  |none=>none
 | .hole=>none
 | .nil=>some (.sl [])
def odRow:List OD→Option (List D)
 |[]=>some []
 |c::r=>match OD.toD c,odRow r with
  |some d,some ds=>some (d::ds)
  |_,_=>none
def Vv:List (List OD)→Option (List (List D))
 |[]=>some []
 |c::r=>match odRow c,Vv r with
  |some d,some ds=>some (d::ds)
  |_,_=>none
end
theorem odRow_get {l:List OD} {ds:List D} (h:odRow l=some ds):l.length=ds.length∧∀(i:Nat) (d:D),ds[i]? =some d→∃c,l[i]? =some c∧c.toD=some d:=by
 induction l generalizing ds with
 |nil=>simp[odRow]at h;subst h;simp
 |cons c l ih=>
  unfold odRow at h;split at h
  ·rename_i d ds' h1 h2;simp at h;subst h;obtain⟨k1,k2⟩:=ih h2;refine⟨by simpa using k1,fun i d hd=>?_⟩;rcases i with _|i
   ·simp at hd;subst hd;exact⟨c,rfl,h1⟩
   ·exact k2 i d hd
  ·cases h
theorem odRows_get {l:List (List OD)} {ds:List (List D)} (h:Vv l=some ds):l.length=ds.length∧∀(i:Nat) (d:List D),ds[i]? =some d→∃c,l[i]? =some c∧odRow c=some d:=by
 induction l generalizing ds with
 |nil=>simp[Vv]at h;subst h;simp
 |cons c l ih=>
  unfold Vv at h;split at h
  ·rename_i d ds' h1 h2;simp at h;subst h;obtain⟨k1,k2⟩:=ih h2;refine⟨by simpa using k1,fun i d hd=>?_⟩;rcases i with _|i
   ·simp at hd;subst hd;exact⟨c,rfl,h1⟩
   ·exact k2 i d hd
  ·cases h
theorem odRows_rep {w:World} {R:Nat→Prop} {sz b c:Nat} {cur:Array Value} {e:TypeId} {rows:List (List OD)} {ds:List (List D)} (h:Vv rows=some ds)
  (hsz:∀(i:Nat) (r:List OD),rows[i]? =some r→r.length=sz) (hb:w.heap[b]? =some (.cells cur e (0,0))) (hlen:rows.length≤c) (hc:c≤maxLen) (hcs:cur.size=c * sz) (hQ:R b)
  (hcell:∀(i j:Nat) (r:List OD) (o:OD) (v:Value) (d:D),rows[i]? =some r→r[j]? =some o→cur[i * sz+j]? =some v→o.toD=some d→Rep w R d v):Rep w R (.sl ds) (.slice (some ⟨b,0,none⟩) rows.length c):=by
 obtain⟨k1,k2⟩:=odRows_get h;rcases Nat.eq_zero_or_pos rows.length with h0|h0
 ·have e1:ds=[]:=List.eq_nil_of_length_eq_zero (by omega);subst e1;rw[h0];exact .empty _ c (by simp) hc
 ·rw[k1];have hlt:∀i j,i<ds.length→j<sz→i * sz+j<cur.size:=fun i j hi hj=>by
   have:(i+1) * sz≤c * sz:=Nat.mul_le_mul_right _ (by omega);rw[Nat.add_mul]at this;omega
  have hlen':∀(i:Nat) (r:List D),ds[i]? =some r→r.length=sz:=fun i r hr=>by
   obtain⟨r',hr',hd⟩:=k2 i r hr;rw[←(odRow_get hd).1];exact hsz i r' hr'
  refine .sl ds sz b 0 c (fun i j=>cur[i * sz+j]?.getD undef) (fun e=>by rw[e,List.length_nil]at k1;omega) (by omega) hc hlen' hQ (fun i j hi hj=>?_) (fun i j r d hr hd=>?_)
  ·rw[Nat.zero_add,cell_of_row w b _ cur e (0,0) hb,Array.getElem?_eq_getElem (hlt i j hi hj)];rfl
  ·obtain⟨r',hr',hrd⟩:=k2 i r hr;obtain⟨o,ho,hod⟩:=(odRow_get hrd).2 j d hd;have hi:i<ds.length:=(List.getElem?_eq_some_iff.1 hr).1;have hj:j<sz:=by have:=hlen' i r hr;have:=(List.getElem?_eq_some_iff.1 hd).1;omega
   have hv:cur[i * sz+j]? =some (cur[i * sz+j]'(hlt i j hi hj)):=Array.getElem?_eq_getElem _;rw[hv,Option.getD_some];exact hcell i j r' o _ d hr' ho hv hod
theorem G9.rep {w:World} {ok Q:Nat→Prop} {o:OD} {v:Value} (h:G9 w ok Q o v) {R:Nat→Prop} (hok:∀b,ok b→R b) (hQ:∀b,Q b→R b) {d:D} (hd:o.toD=some d):Rep w R d v:=by
 induction h generalizing d with
 |d Q d' v h=>simp[OD.toD]at hd;subst hd;exact h.weak hok
 |hole Q v h=>simp[OD.toD]at hd
 |nil Q ty sz h0=>simp[OD.toD,Vv]at hd;subst hd;exact .empty Option.none 0 (fun _=>rfl) (Nat.zero_le _)
 |nl Q=>simp[OD.toD]at hd;subst hd;exact .empty Option.none 0 (fun _=>rfl) (Nat.zero_le _)
 |own Q ty sz rows b c cur S h0 hsz hb hlen hc hcs hQb hS hdj hcell ih=>
  unfold OD.toD at hd;split at hd
  ·rename_i ds hds;simp at hd;subst hd;exact odRows_rep hds hsz hb hlen hc hcs (hQ b hQb) fun i j r o v d hr ho hv hod=>ih i j r o v hr ho hv (fun b hb=>hQ b (hS i j b hb).1) hod
  ·cases hd
def Px (o:Nat) (x:Q6):AV→AV
 | .arr o' lo n=>if o'==o then (match x with| .arr _ _ rows=>.d (.sl ((rows.drop lo).take n))| .raw (.own _ _ rows [])=>(match Vv rows with|some ds=>if lo=0∧n=ds.length then .d (.sl ds)else .any|none=>.any)|_=>.any)else .arr o' lo n
 | .K7 o' i j=>if o'==o then (match x with| .arr _ _ rows=>(match rows[i]? with|some r=>if j≤r.length then .d (.ptr (r.drop j))else .any|none=>.any)|_=>.any)else .K7 o' i j
 | .ptr o' off=>if o'==o then (match x with| .blk _ cs=>(match Ez cs with|some ds=>if off≤ds.length then .d (.ptr (ds.drop off))else .any|none=>.any)|_=>.any)else .ptr o' off
 | .mp o'=>if o'==o then .any else .mp o'
 |v=>v
mutual
def AV.frz (o:Nat) (x:Q6):AV→AV
 | .agg cs=>.agg (Ox o x cs)
 | .tuple cs=>.tuple (Ox o x cs)
 | .clo f cs=>.clo f (Ox o x cs)
 | .any=>.any
 | .d d=>.d d
 | .lit v=>.lit v
 | .fl r=>.fl r
 | .ptr o' k=>Px o x (.ptr o' k)
 | .arr o' l n=>Px o x (.arr o' l n)
 | .K7 o' i j=>Px o x (.K7 o' i j)
 | .mp o'=>Px o x (.mp o')
def Ox (o:Nat) (x:Q6):List AV→List AV
 |[]=>[]
 |c::cs=>AV.frz o x c::Ox o x cs
end
theorem Oz (o:Nat) (x:Q6) (cs:List AV):Ox o x cs=cs.map (AV.frz o x):=by
 induction cs with
 |nil=>rfl
 |cons c cs ih=>simp only[Ox,List.map_cons,ih]
def Q6.frz (o:Nat) (x:Q6):Q6→Q6
 | .blk t cs=>.blk t (Ox o x cs)
 | .arr e sz rows=>.arr e sz rows
 | .map ks ag n ents=>.map ks ag n ents
 | .raw r=>.raw (r.kill fun i=>i==o)
def C8 (o:Nat) (x:Q6):List (Nat×AV)→List (Nat×AV)
 |[]=>[]
 |(t,v)::r=>(t,v.frz o x)::C8 o x r
def G7 (o:Nat) (x:Q6):List (Nat×Option Q6)→List (Nat×Option Q6)
 |[]=>[]
 |(t,v)::r=>(t,if t==o then none else v.map (Q6.frz o x))::G7 o x r
theorem frGet_frz (o:Nat) (x:Q6) (f:List (Nat×AV)) (t:Nat):Z9 (C8 o x f) t=(Z9 f t).frz o x:=by
 induction f with
 |nil=>rfl
 |cons y r ih=>obtain⟨u,v⟩:=y;simp only[C8,Z9,ih];split<;> rfl
theorem memGet_frz (o:Nat) (x:Q6) (f:List (Nat×Option Q6)) (t:Nat):Q5 (G7 o x f) t=if t==o then none else (Q5 f t).map (Q6.frz o x):=by
 induction f with
 |nil=>simp[G7,Q5]
 |cons y r ih=>
  obtain⟨u,v⟩:=y;simp only[G7,Q5];by_cases h:(u==t)=true
  ·have:u=t:=by simpa using h
   subst this;simp
  ·simp only[Bool.not_eq_true]at h;simp only[h];exact ih
theorem Q6.frz_shape {o:Nat} {y x:Q6}:(Q6.frz o y x).shape=x.shape:=by
 rcases x with _|_|_|r
 ·rfl
 ·rfl
 ·rfl
 ·cases r<;> rfl
theorem Q6.frz_at {o:Nat} {y x:Q6} {g:Gh} {i b:Nat}:(Q6.frz o y x).at_ g i b↔x.at_ g i b:=by
 rcases x with _|_|_|r
 ·exact Iff.rfl
 ·exact Iff.rfl
 ·exact Iff.rfl
 ·cases r<;> exact Iff.rfl
section
variable {w:World} {ok:Nat→Prop} {g:Gh} {m:Me}
theorem VR.frz {C:Cx} (hM:MS C w ok g m) {o:Nat} {x:Q6} (hx:m o=some x) {c:AV} {v:Value} (h:VR w ok g m c v):
  VR w (fun b=>ok b∨x.at_ g o b) g (fun i=>if i==o then none else (m i).map (Q6.frz o x)) (c.frz o x) v:=by
 have weak:∀{d:D} {v:Value},Rep w ok d v→Rep w (fun b=>ok b∨x.at_ g o b) d v:=fun h=>h.weak fun b hb=>.inl hb
 have oth:∀{o':Nat} {y:Q6},(o'==o)=false→(if (o'==o)=true then none else (m o').map (Q6.frz o x))=some y→∃z,m o'=some z∧y=Q6.frz o x z:=fun hne hy=>by
  rw[if_neg (by simp[hne])]at hy;obtain⟨z,hz,rfl⟩:=Option.map_eq_some_iff.1 hy;exact⟨z,hz,rfl⟩
 induction h with
 |any v=>exact .any v
 |d d v h=>exact .d d v (weak h)
 |lit v h=>exact .lit v h
 |fl rows v h hr=>exact .fl rows v h (weak hr)
 |ptr o' off v hv h=>
  simp only[AV.frz,Px];rcases ho:o'==o
  ·simp only[Bool.false_eq_true,if_false];refine .ptr o' off v hv fun y hy=>?_
   obtain⟨z,hz,_⟩:=oth ho hy;exact h z hz
  ·simp only[if_true];have e:o'=o:=by simpa using ho
   subst e;split
   ·rename_i t cs;split
    ·rename_i ds hds;split
     ·rename_i hoff;obtain⟨b,hb,rfl⟩:=h _ hx;obtain⟨b',vs,hb',hw,hvs⟩:=hM.obj o' _ hx;rw[hb]at hb';obtain rfl:=Option.some.inj hb';obtain⟨k1,k2⟩:=toDs_ok hds;have hl:=hvs.1;simp at hl;refine .d _ _ (.ptr _ b off (fun j=>vs[off+j]?.getD undef) (.inr (Q6.at_blk.2 hb)) (fun j hj=>?_) (fun j d hd=>?_))
      ·simp at hj;rw[cell_of_row w b _ vs t (0,0) hw,Array.getElem?_eq_getElem (by omega)];rfl
      ·rw[List.getElem?_drop]at hd;have hj:off+j<ds.length:=(List.getElem?_eq_some_iff.1 hd).1;have hc:cs[off+j]? =some cs[off+j]:=List.getElem?_eq_getElem (by omega);have hv':vs[off+j]? =some (vs[off+j]'(by omega)):=Array.getElem?_eq_getElem (by omega);rw[hv',Option.getD_some];exact weak (toD1_ok (k2 _ _ _ hc hd) (hvs.2.1 _ _ _ hc (by rw[Array.getElem?_toList];exact hv')))
     ·exact .any _
    ·exact .any _
   ·exact .any _
 |arr o' lo n v hv h=>
  simp only[AV.frz,Px];rcases ho:o'==o
  ·simp only[Bool.false_eq_true,if_false];refine .arr o' lo n v hv fun y sz L hy hs=>?_
   obtain⟨z,hz,rfl⟩:=oth ho hy;exact h z sz L hz (by rwa [Q6.frz_shape]at hs)
  ·simp only[if_true];have e:o'=o:=by simpa using ho
   subst e;split
   ·rename_i e sz rows;obtain⟨h1,h2⟩:=h _ sz _ hx rfl;obtain⟨k0,k1,k2⟩:=hM.obj o' _ hx;have hlen:((rows.drop lo).take n).length=n:=by simp;omega
    have nil:n=0→∀a cc,v= .slice a 0 cc→cc≤maxLen→(a=none→cc=0)→VR w (fun b=>ok b∨(Q6.arr e sz rows).at_ g o' b) g (fun i=>if i==o' then none else (m i).map (Q6.frz o' (.arr e sz rows))) (.d (.sl ((rows.drop lo).take n))) v:=fun hn a cc hvv g1 g2=>by
     subst hn;rw[hvv,List.take_zero];exact .d _ _ (.empty a cc g2 g1)
    rcases h2 with⟨_,rfl,rfl,rfl⟩|⟨b,hb,rfl⟩|⟨_,rfl,a,cc,rfl,h3,h4⟩
    ·exact nil rfl _ _ rfl (Nat.zero_le _) (fun _=>rfl)
    ·rcases k2 with⟨k2,_⟩|⟨b',cur,k2,k3,k4,k5,k6,k7⟩
     ·rw[hb]at k2;cases k2
     ·rw[hb]at k2;obtain rfl:=Option.some.inj k2;rcases Nat.eq_zero_or_pos n with hn|hn
      ·subst hn;exact nil rfl _ _ rfl (by omega) (by simp)
      ·have hx:=Rep.sl (w:=w) (ok:=fun b=>ok b∨(Q6.arr e sz rows).at_ g o' b) ((rows.drop lo).take n) sz b (lo * sz) (g.cp o'-lo) (fun i j=>cur[(lo+i) * sz+j]?.getD undef) (fun e=>by rw[e]at hlen;simp at hlen;omega) (by omega) (by omega)
        (fun i r hr=>?_) (.inr (Q6.at_arr.2 hb)) (fun i j hi hj=>?_) (fun i j r d hr hd=>?_)
       ·rw[hlen]at hx;exact .d _ _ hx
       ·rw[List.getElem?_take]at hr;split at hr
        ·rw[List.getElem?_drop]at hr;exact k1 _ r hr
        ·cases hr
       ·rw[hlen]at hi;have:(lo+i+1) * sz≤g.cp o' * sz:=Nat.mul_le_mul_right _ (by omega);rw[Nat.add_mul]at this;rw[cell_of_row w b _ cur e (0,0) k3,←Nat.add_assoc,←Nat.add_mul,Array.getElem?_eq_getElem (by omega)];rfl
       ·have hi:i<n:=by have:=(List.getElem?_eq_some_iff.1 hr).1;omega
        rw[List.getElem?_take,if_pos hi,List.getElem?_drop]at hr;have hj:j<sz:=by have:=k1 _ r hr;have:=(List.getElem?_eq_some_iff.1 hd).1;omega
        have:(lo+i+1) * sz≤g.cp o' * sz:=Nat.mul_le_mul_right _ (by omega);rw[Nat.add_mul]at this;have hc:cur[(lo+i) * sz+j]? =some (cur[(lo+i) * sz+j]'(by omega)):=Array.getElem?_eq_getElem _;rw[hc,Option.getD_some];exact weak (k7 _ j r d _ hr hd hc)
    ·exact nil rfl a cc rfl h3 h4
   ·rename_i ty sz rows;split
    ·rename_i ds hds;split
     ·rename_i hln;obtain⟨rfl,rfl⟩:=hln;have hlen:=(odRows_get hds).1;obtain⟨h1,h2⟩:=h _ sz _ hx rfl;obtain⟨k0,k1,k2,_⟩:=hM.obj o' _ hx;have nil:ds.length=0→v= .slice none 0 0→VR w (fun b=>ok b∨(Q6.raw (.own ty sz rows [])).at_ g o' b) g (fun i=>if i==o' then none else (m i).map (Q6.frz o' (.raw (.own ty sz rows [])))) (.d (.sl ds)) v:=fun hn hvv=>by
       have:ds=[]:=List.eq_nil_of_length_eq_zero hn;subst this hvv;exact .d _ _ (.empty none 0 (fun _=>rfl) (Nat.zero_le _))
      rcases h2 with⟨_,hv',_,hn⟩|⟨b,hb,hv'⟩|⟨h0,_⟩
      ·exact nil hn hv'
      ·rcases k2 with⟨k2,k3⟩|⟨b',cur,S,k2,k3,k4,k5,k6,k7,k8,k9,k10⟩
       ·rw[hb]at k2;cases k2
       ·rw[hb]at k2;obtain rfl:=Option.some.inj k2;have hr:=odRows_rep (w:=w) (R:=fun b=>ok b∨(Q6.raw (.own ty sz rows [])).at_ g o' b) hds k1 k4 k5 k6 k7 (.inr (.inl hb)) fun i j r o v d hr ho hv hod=>
         (k10 i j r o v hr ho hv).rep (fun b hb=>.inl hb) (fun b hb=>.inr (.inr (k8 i j b hb))) hod
        rw[hv',←hlen,Nat.zero_mul,Nat.sub_zero];exact .d _ _ hr
      ·omega
     ·exact .any _
    ·exact .any _
   ·exact .any _
 |K7 o' i j v hv h=>
  simp only[AV.frz,Px];rcases ho:o'==o
  ·simp only[Bool.false_eq_true,if_false];refine .K7 o' i j v hv fun y sz L hy hs=>?_
   obtain⟨z,hz,rfl⟩:=oth ho hy;exact h z sz L hz (by rwa [Q6.frz_shape]at hs)
  ·simp only[if_true];have e:o'=o:=by simpa using ho
   subst e;split
   ·rename_i e sz rows;split
    ·rename_i r hr;split
     ·rename_i hj0;obtain⟨b,hb,rfl⟩:=h _ sz _ hx rfl;obtain⟨k0,k1,k2⟩:=hM.obj o' _ hx;rcases k2 with⟨k2,_⟩|⟨b',cur,k2,k3,k4,k5,k6,k7⟩
      ·rw[hb]at k2;cases k2
      ·rw[hb]at k2;obtain rfl:=Option.some.inj k2;have hi:i<rows.length:=(List.getElem?_eq_some_iff.1 hr).1;have hrl:=k1 i r hr;have hlt:i * sz+sz≤cur.size:=by
        rw[k6];have:(i+1) * sz≤g.cp o' * sz:=Nat.mul_le_mul_right _ (by omega);rw[Nat.add_mul]at this;omega
       refine .d _ _ (.ptr _ b _ (fun k=>cur[i * sz+j+k]?.getD undef) (.inr (Q6.at_arr.2 hb)) (fun k hk=>?_) (fun k d hd=>?_))
       ·simp at hk;rw[cell_of_row w b _ cur e (0,0) k3,Array.getElem?_eq_getElem (by omega)];rfl
       ·rw[List.getElem?_drop]at hd;have hk:j+k<r.length:=(List.getElem?_eq_some_iff.1 hd).1;have hc:cur[i * sz+j+k]? =some (cur[i * sz+j+k]'(by omega)):=Array.getElem?_eq_getElem _;rw[hc,Option.getD_some];exact weak (k7 i (j+k) r d _ hr hd (by rw[←Nat.add_assoc];exact hc))
     ·exact .any _
    ·exact .any _
   ·exact .any _
 |mp o' v hv h=>
  simp only[AV.frz,Px];rcases ho:o'==o
  ·simp only[Bool.false_eq_true,if_false];refine .mp o' v hv fun y hy=>?_
   obtain⟨z,hz,_⟩:=oth ho hy;exact h z hz
  ·simp only[if_true];exact .any _
 |agg cs vs hl h h1 ih=>
  simp only[AV.frz,Oz];refine .agg _ _ (by simpa using hl) (fun i c v hc hv=>?_) h1;rw[List.getElem?_map]at hc;obtain⟨c',hc',rfl⟩:=Option.map_eq_some_iff.1 hc;exact ih i c' v hc' hv
 |tuple cs vs hl h ih=>
  simp only[AV.frz,Oz];refine .tuple _ _ (by simpa using hl) (fun i c v hc hv=>?_);rw[List.getElem?_map]at hc;obtain⟨c',hc',rfl⟩:=Option.map_eq_some_iff.1 hc;exact ih i c' v hc' hv
 |clo f cs vs hl h ih=>
  simp only[AV.frz,Oz];refine .clo f _ _ (by simpa using hl) (fun i c v hc hv=>?_);rw[List.getElem?_map]at hc;obtain⟨c',hc',rfl⟩:=Option.map_eq_some_iff.1 hc;exact ih i c' v hc' hv
theorem MS.frz {C:Cx} (hM:MS C w ok g m) {o:Nat} {x:Q6} (hx:m o=some x) (ho:Nat.ble 500 o=false):
  MS C w (fun b=>ok b∨x.at_ g o b) g (fun i=>if i==o then none else (m i).map (Q6.frz o x)):=by
 have oth:∀{i:Nat} {y:Q6},(if (i==o)=true then none else (m i).map (Q6.frz o x))=some y→i≠o∧∃z,m i=some z∧y=Q6.frz o x z:=fun {i y} hy=>by
  by_cases h:i=o
  ·subst h;simp at hy
  ·rw[if_neg (by simpa using h)]at hy;obtain⟨z,hz,rfl⟩:=Option.map_eq_some_iff.1 hy;exact⟨h,z,hz,rfl⟩
 have ho':o<500:=by
  rcases Nat.lt_or_ge o 500 with h|h
  ·exact h
  ·rw[Nat.ble_eq_true_of_le h]at ho;cases ho
 refine⟨fun i y hy=>?_,fun i j xi xj b hi hj hbi hbj=>?_,fun i y b hy hb=>?_,fun b hb=>?_,fun b hb=>.inl (hM.okk b hb),hM.size,hM.heap,hM.keep,hM.os,hM.tape,hM.output,hM.gi,hM.gb⟩
 ·obtain⟨hne,z,hz,rfl⟩:=oth hy;have hO:=hM.obj i z hz;cases z with
  |blk t cs=>
   obtain⟨b,vs,h1,h2,h3⟩:=hO;refine⟨b,vs,h1,h2,by rw[Oz];simpa using h3.1,fun k c v hc hv=>?_,h3.2.2⟩;rw[Oz,List.getElem?_map]at hc;obtain⟨c',hc',rfl⟩:=Option.map_eq_some_iff.1 hc;exact(h3.2.1 k c' v hc' hv).frz hM hx
  |arr e sz rows=>
   obtain⟨h1,h2,h3⟩:=hO;refine⟨h1,h2,?_⟩;rcases h3 with h3|⟨b,cur,k1,k2,k3,k4,k5,k6⟩
   ·exact .inl h3
   ·exact .inr ⟨b,cur,k1,k2,k3,k4,k5,fun a b c d e f g h=>(k6 a b c d e f g h).weak fun b hb=>.inl hb⟩
  |map ks ag n ents=>
   obtain⟨b,es,clock,h1,h2,h3⟩:=hO;exact⟨b,es,clock,h1,h2,h3.keep (fun _ _=>rfl) fun b hb=>.inl hb⟩
  |raw r=>
   cases r with
   |own ty sz rows lk=>
    obtain⟨k1,k2,k3,k4⟩:=hO;refine⟨k1,k2,?_,fun i' j' o' n hmem=>?_⟩
    ·rcases k3 with k3|⟨b,cur,S,q1,q2,q3,q4,q5,q6,q7,q8,q9⟩
     ·exact .inl k3
     ·exact .inr ⟨b,cur,S,q1,q2,q3,q4,q5,q6,q7,q8,fun i j r c v a b d=>(q9 i j r c v a b d).keep (fun _ _=>rfl) (fun _ h=>.inl h) (fun _ _=>rfl) fun _ h=>h⟩
    ·obtain⟨r,b,v,q1,q2,q3,q4,q5⟩:=k4 i' j' o' n (Sj hmem);have hne:=F7 (Sk _ _) hmem;have:=q5.frz hM hx;simp only[AV.frz,Px,hne]at this;exact⟨r,b,v,q1,q2,q3,q4,this⟩
   |births b ks ag n clock ents=>
    obtain⟨h1,es,h2,h3⟩:=hO;exact⟨h1,es,h2,h3.st,h3.keys,h3.nodup,h3.size,fun i e p a c=>⟨(h3.at' i e p a c).1,(h3.at' i e p a c).2.1.weak fun b hb=>.inl hb,(h3.at' i e p a c).2.2.weak fun b hb=>.inl hb⟩⟩
   |iter b clock seen=>exact hO
 ·obtain⟨_,zi,hzi,rfl⟩:=oth hi;obtain⟨_,zj,hzj,rfl⟩:=oth hj;exact hM.inj i j zi zj b hzi hzj (Q6.frz_at.1 hbi) (Q6.frz_at.1 hbj)
 ·obtain⟨hne,z,hz,rfl⟩:=oth hy;have hb:=Q6.frz_at.1 hb;obtain⟨h1,h2,h3⟩:=hM.own i z b hz hb;refine⟨fun h=>?_,h2,h3⟩;rcases h with h|h
  ·exact h1 h
  ·exact hne (hM.inj i o z x b hz hx hb h)
 ·rcases hb with hb|hb
  ·exact hM.okb b hb
  ·obtain⟨_,h2,h3⟩:=hM.own o x b hx hb;refine⟨h2,?_⟩;rcases h3 with h3|h3
   ·exact .inr h3
   ·omega
end
def AS.frz (s:AS) (o:Nat):AS:=
 match Q5 s.mem o with
 |some x=>{ s with fr:=C8 o x s.fr,mem:=G7 o x s.mem }
 |none=>s
theorem St.frz {C:Cx} {s:AS} {a:Act} {w:World} (h:St C s a w) (o:Nat) (ho:Nat.ble 500 o=false):St C (s.frz o) a w:=by
 unfold AS.frz;split
 ·rename_i x hx;obtain⟨ok,g,hM,h1,h2,h3⟩:=h;have e:(fun t=>Q5 (G7 o x s.mem) t)=fun i=>if i==o then none else (Q5 s.mem i).map (Q6.frz o x):=funext fun i=>memGet_frz o x s.mem i
  refine⟨fun b=>ok b∨x.at_ g o b,g,?_,h1,h2,fun t=>?_⟩
  ·have:=hM.frz hx ho;rw[←e]at this;exact this
  ·have:=(h3 t).frz hM hx;rw[←e]at this;dsimp only;rw[frGet_frz];exact this
 ·exact h
theorem St.weak {C:Cx} {s s':AS} {a:Act} {w:World} (h:St C s a w) (hn:s'.n=s.n) (hf:∀t,Z9 s'.fr t= .any∨Z9 s'.fr t=Z9 s.fr t) (hm:∀o x,Q5 s'.mem o=some x→Q5 s.mem o=some x):St C s' a w:=by
 obtain⟨ok,g,hM,h1,h2,h3⟩:=h;have mono:∀c v,VR w ok g (Q5 s.mem) c v→VR w ok g (Q5 s'.mem) c v:=fun c v hv=>
  hv.mono (fun _=>false) (AV.V6 (fun _=>rfl) c) (fun _ _=>rfl) (fun _ h=>h) fun o x' _ hx'=>⟨x',hm o x' hx',Q6.Wq x',rfl,rfl⟩
 refine⟨ok,g,⟨fun o x hx=>?_,fun i j xi xj b hi hj=>hM.inj i j xi xj b (hm i xi hi) (hm j xj hj),fun i x b hi=>hM.own i x b (hm i x hi),hM.okb,hM.okk,hM.size,hM.heap,hM.keep,hM.os,hM.tape,hM.output,hM.gi,hM.gb⟩,by rw[hn];exact h1,h2,fun t=>?_⟩
 ·exact(hM.obj o x (hm o x hx)).mono (fun _=>false) (Q6.Fz (fun _=>rfl) x) (fun _ _=>rfl) rfl rfl (fun _ _=>rfl) (fun _ h=>h) fun o x' _ hx'=>⟨x',hm o x' hx',Q6.Wq x',rfl,rfl⟩
 ·rcases hf t with h|h
  ·rw[h];exact .any _
  ·rw[h];exact mono _ _ (h3 t)
end Go.Proofs.YtlbcipohiepjmaaDoor
