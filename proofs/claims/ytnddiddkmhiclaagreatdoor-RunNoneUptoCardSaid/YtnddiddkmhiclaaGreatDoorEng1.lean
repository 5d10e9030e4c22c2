import Derived.Test.YtnddiddkmhiclaaGreatDoorProg
import Derived.Lib.LaidTab
import Derived.Lib.ItoaNum
import Derived.WalkKit
import Derived.ProofKit
import Derived.OpenShut
import Derived.Deep.AppendLies
import Derived.Deep.Draws
import Derived.Maps.AppendAt
import Derived.RegionTactic
import Derived.OwnWalk
import Derived.LoopN
import Derived.WalkSpells
import Derived.WalkLawsBesides
import Derived.Deep.QuietTactic
import Derived.BigQuiet
import Derived.Deep.LoopGhost
import Derived.Lib.Hide
import Derived.MapKept
import Derived.IntWalk
import Derived.Laws.Strings
import Derived.Laws.StructEq
set_option maxHeartbeats 1000000
set_option linter.unusedVariables false
set_option linter.unusedSimpArgs false
namespace Go.Proofs.YtnddiddkmhiclaaGreatDoor
section
abbrev Qj6:String:= "internal/strconv.uint64pow10"
abbrev Qq4:String:= "strconv.ErrSyntax"
abbrev Qx4:String:= "strconv.ErrRange"
def GB(b:Nat):Prop:=Tryz.prog.globalNamed Qj6=some b\/Tryz.prog.globalNamed Qq4=some b\/Tryz.prog.globalNamed Qx4=some b
structure GI (w:World):Prop where
 pow:Lib.TabIs Tryz.prog w Qj6 .u64 Lib.pow10Tab
 syn:∃tp p,w.var? Tryz.prog Qq4=some #[.iface tp p]
 rng:∃tp p,w.var? Tryz.prog Qx4=some #[.iface tp p]
theorem Gu{w w':World}{name:String}(f:∀b,Tryz.prog.globalNamed name=some b->w'.heap[b]? =w.heap[b]?):w'.var? Tryz.prog name=w.var? Tryz.prog name:=by
 unfold World.var?;cases hg:Tryz.prog.globalNamed name with
 |none=>rfl
 |some g=>simp only[Option.bind_some];rw[f g hg]
theorem Li{w:World}{name:String}{x:Array Value}{b:Nat}(h:w.var? Tryz.prog name=some x)(f:Tryz.prog.globalNamed name=some b):b<w.heap.size:=by
 unfold World.var? at h;rw[f]at h;simp only[Option.bind_some]at h;rcases hh:w.heap[b]? with _|o
 ·rw[hh]at h;cases h
 ·exact(Array.getElem?_eq_some_iff.1 hh).1
theorem GI.keep{w w':World}(h:GI w)(g:∀b,GB b->w'.heap[b]? =w.heap[b]?):GI w':=by
 obtain⟨i,⟨j,l,o⟩,r,t,C⟩:=h;exact⟨(Gu λb f=>g b (.inl f)).trans i,⟨j,l,(Gu λb f=>g b (.inr (.inl f))).trans o⟩,r,t,(Gu λb f=>g b (.inr (.inr f))).trans C⟩
theorem GI.lt{w:World}(h:GI w){b:Nat}(f:GB b):b<w.heap.size:=by
 obtain⟨g,⟨l,o,i⟩,r,t,j⟩:=h;rcases f with f|f|f
 ·exact Li g f
 ·exact Li i f
 ·exact Li j f
end
section
open Go.RowKit
inductive D where
 |int (n:Int)
 |bool (b:Bool)
 |str (s:ByteArray)
 |sl (rows:List (List D))
 |num (k:IntKind) (n:Int)
 |nil
 |ptr (row:List D)
 |fn (f:Nat)
 |ub
inductive Xk (w:World) (ok:Nat->Prop):D->Value->Prop where
 |int (n:Int) (lo: -9223372036854775808<=n) (hi:n<=9223372036854775807):Xk w ok (.int n) (.int .i64 n)
 |bool (b:Bool):Xk w ok (.bool b) (.bool b)
 |str (s:ByteArray) (hs:s.size<=maxLen):Xk w ok (.str s) (.string s)
 |empty (a:Option Addr) (c:Nat) (ha:a=none->c=0) (hc:c<=maxLen):Xk w ok (.sl []) (.slice a 0 c)
 |sl (rows:List (List D)) (size b o c:Nat) (V:Nat->Nat->Value) (hne:rows≠[]) (hlen:rows.length<=c) (hc:c<=maxLen)
   (hsz:∀(i:Nat) (r:List D),rows[i]? =some r->r.length=size) (hok:ok b)
   (hcell:∀i j,i<rows.length->j<size->w.cell? ⟨b,o+(i * size+j),none⟩=some (V i j))
   (hrep:∀(i j:Nat) (r:List D) (d:D),rows[i]? =some r->r[j]? =some d->Xk w ok d (V i j)):Xk w ok (.sl rows) (.slice (some ⟨b,o,none⟩) rows.length c)
 |num (k:IntKind) (n:Int) (lo:k.min<=n) (hi:n<=k.max):Xk w ok (.num k n) (.int k n)
 |nil:Xk w ok .nil (.pointer none)
 |fn (f:Nat):Xk w ok (.fn f) (.func (.func f) #[] #[])
 |ub (b:Bool):Xk w ok .ub (.bool b)
 |ptr (row:List D) (b o:Nat) (V:Nat->Value) (hok:ok b) (hcell:∀j,j<row.length->w.cell? ⟨b,o+j,none⟩=some (V j))
   (hrep:∀(j:Nat) (d:D),row[j]? =some d->Xk w ok d (V j)):Xk w ok (.ptr row) (.pointer (some ⟨b,o,none⟩))
section
variable {w w':World} {ok ok':Nat->Prop} {d:D} {v:Value} {rows:List (List D)}
theorem Xk.keep(h:Xk w ok d v)(hk:∀p:Addr,ok p.block->w'.cell? p=w.cell? p):Xk w' ok d v:=by
 induction h with
 |int n J t=>exact .int n J t
 |bool b=>exact .bool b
 |str s hs=>exact .str s hs
 |empty a c ha P=>exact .empty a c ha P
 |sl rows size b o c V T C P U l g I ih=>
  exact .sl rows size b o c V T C P U l (λi j t hj=>(hk _ l).trans (g i j t hj)) (λi j r d hr hd=>ih i j r d hr hd)
 |num k n J t=>exact .num k n J t
 |nil=>exact .nil
 |fn f=>exact .fn f
 |ub b=>exact .ub b
 |ptr row b o V l g I ih=>exact .ptr row b o V l (λj hj=>(hk _ l).trans (g j hj)) ih
theorem Xk.weak(h:Xk w ok d v)(hk:∀b,ok b->ok' b):Xk w ok' d v:=by
 induction h with
 |int n I J=>exact .int n I J
 |bool b=>exact .bool b
 |str s hs=>exact .str s hs
 |empty a c ha P=>exact .empty a c ha P
 |sl rows size b o c V T t P U l g C ih=>
  exact .sl rows size b o c V T t P U (hk _ l) g (λi j r d hr hd=>ih i j r d hr hd)
 |num k n I J=>exact .num k n I J
 |nil=>exact .nil
 |fn f=>exact .fn f
 |ub b=>exact .ub b
 |ptr row b o V l g C ih=>exact .ptr row b o V (hk _ l) g ih
theorem Xk.under{B:Nat}(h:Xk w ok d v)(g:Below B w w')(f:∀b,ok b->b<B):Xk w' ok d v:=h.keep λ_ hp=>g.cell (f _ hp)
theorem Xk.alloc(h:Xk w ok d v)(o:Obj)(f:∀b,ok b->b<w.heap.size):Xk (w.alloc o) ok d v:=h.keep λp hp=>World.cell?_alloc_lt w o p (f _ hp)
theorem Xk.setCell(h:Xk w ok d v){p:Addr}(u:Value)(f:∀b,ok b->b≠p.block):Xk (w.setCell p u) ok d v:=
 h.keep λq g=>World.cell?_setCell_other w p q u (λe=>by subst e;exact f _ g rfl)
theorem Xk.drew(h:Xk w ok d v):Xk w.drew ok d v:=h.keep λ_ _=>rfl
theorem Xk.X5{n:Int}(h:Xk w ok (.int n) v):v= .int .i64 n∧-9223372036854775808<=n/\n<=9223372036854775807:=by cases h;exact⟨rfl,by assumption,by assumption⟩
theorem Xk.ZL{b:Bool}(h:Xk w ok (.bool b) v):v= .bool b:=by cases h;rfl
theorem Xk.P9{s:ByteArray}(h:Xk w ok (.str s) v):v= .string s/\s.size<=maxLen:=by cases h;exact⟨rfl,by assumption⟩
theorem Xk.Ik(h:Xk w ok (.sl rows) v):∃a c,v= .slice a rows.length c/\rows.length<=c/\c<=maxLen/\(a=none->c=0):=by
 cases h with
 |empty a c l g=>exact⟨a,c,rfl,Nat.zero_le _,g,l⟩
 |sl _ size b o c V r f g t C i j=>exact⟨_,c,rfl,f,g,by simp⟩
theorem Xk.SQ{n c:Nat}(h:Xk w ok (.sl rows) (.slice none n c)):rows=[]/\n=0/\c=0:=by
 cases h with
 |empty a c f g=>exact⟨rfl,rfl,f rfl⟩
theorem Xk.D7{a:Option Addr}{n c:Nat}(h:Xk w ok (.sl rows) (.slice a n c)):n=rows.length/\n<=c/\c<=maxLen:=by
 cases h with
 |empty a c C g=>exact⟨rfl,Nat.zero_le _,g⟩
 |sl _ size b o c V l f g r t i j=>exact⟨rfl,f,g⟩
theorem Xk.at_{a:Option Addr}{n c:Nat}(h:Xk w ok (.sl rows) (.slice a n c)){i:Nat}(l:i<n):
  ∃(b o size:Nat) (V:Nat->Value) (r:List D),rows[i]? =some r/\r.length=size/\a=some ⟨b,o,none⟩/\ok b/\(∀j,j<size->w.cell? ⟨b,o+(i * size+j),none⟩=some (V j))/\
   ∀(j:Nat) (d:D),r[j]? =some d->Xk w ok d (V j):=by
 cases h with
 |empty a c ha J=>omega
 |sl _ size b o c V P I J t C f g=>
  refine⟨b,o,size,V i,rows[i],List.getElem?_eq_getElem l,t i _ (List.getElem?_eq_getElem l),rfl,C,λj T=>f i j l T,λj d U=>g i j _ d (List.getElem?_eq_getElem l) U⟩
def D.flat:D->Prop
 | .sl _=>False
 | .ptr _=>False
 |_=>True
theorem Xk.flat(h:Xk w ok d v)(g:d.flat):Xk w' ok' d v:=by
 cases h with
 |int n i j=>exact .int n i j
 |bool b=>exact .bool b
 |str s l=>exact .str s l
 |empty a c o r=>exact g.elim
 |sl=>exact g.elim
 |num k n i j=>exact .num k n i j
 |nil=>exact .nil
 |fn f=>exact .fn f
 |ub b=>exact .ub b
 |ptr=>exact g.elim
theorem Xk.oneCell(h:Xk w ok d v):v.oneCell'=true:=by cases h<;> rfl
end
def Xm(w:World)(ok:Nat->Prop)(r:List D)(vs:List Value):Prop:=r.length=vs.length/\∀(j:Nat) (d:D) (v:Value),r[j]? =some d->vs[j]? =some v->Xk w ok d v
def U8(w:World)(g:Nat)(t:TypeId)(cs:Array Value):Prop:=w.heap[g]? =some (.cells cs t (0,0))
section
variable {w w':World} {g:Nat} {t:TypeId} {cs:Array Value}
theorem U8.lt(h:U8 w g t cs):g<w.heap.size:=(Array.getElem?_eq_some_iff.1 h).1
theorem U8.cell(h:U8 w g t cs)(i:Nat):w.cell? ⟨g,i,none⟩=cs[i]?:=cell_of_row w g i cs t (0,0) h
theorem U8.frozen(h:U8 w g t cs)(i:Nat):w.frozen? ⟨g,i,none⟩=false:=by
 unfold U8 at h;simp[World.frozen?,h]
theorem U8.new(w:World)(t:TypeId)(cs:Array Value):U8 (w.alloc (.cells cs t)) w.heap.size t cs:=heap_alloc_new w _
theorem U8.new'(w:World)(t:TypeId)(cs:Array Value)(g:Nat)(f:g=w.heap.size):U8 (w.alloc (.cells cs t)) g t cs:=by subst f;exact heap_alloc_new w _
theorem U8.alloc(h:U8 w g t cs)(o:Obj):U8 (w.alloc o) g t cs:=(Below.heap_alloc w o g h.lt).trans h
theorem U8.FM(h:U8 w g t cs)(i:Nat)(u:Value):U8 (w.setCell ⟨g,i,none⟩ u) g t (cs.setIfInBounds i u):=by
 unfold U8 at h⊢;simp[World.setCell,Array.getElem?_modify,h]
theorem U8.far(h:U8 w g t cs){p:Addr}(hp:g≠p.block)(u:Value):U8 (w.setCell p u) g t cs:=(Below.heap_setCell w p u g hp).trans h
theorem U8.under{B:Nat}(h:U8 w g t cs)(f:Below B w w')(i:g<B):U8 w' g t cs:=(f.block g i).trans h
theorem U8.grown{row:Option Nat}(h:U8 w g t cs)(f:w.grownBy w' row)(i:some g≠row):U8 w' g t cs:=(f.block g h.lt i).trans h
end
theorem DI{size i j:Nat}(f:j<size):(i * size+j) / size=i/\(i * size+j) % size=j:=by
 have g:0<size:=by omega
 refine⟨?_,?_⟩
 ·rw[Nat.mul_comm,Nat.mul_add_div g,Nat.div_eq_of_lt f,Nat.add_zero]
 ·rw[Nat.mul_comm,Nat.mul_add_mod,Nat.mod_eq_of_lt f]
def U5(w:World)(base:Nat)(e:TypeId)(size:Nat)(ok:Nat->Prop)(v:Value)(rows:List (List D)):Prop:=
 ∃xs,w.ownsRow base e size v rows.length xs/\(∀(i:Nat) (r:List D),rows[i]? =some r->r.length=size)/\
  ∀(i j:Nat) (r:List D) (d:D) (u:Value),rows[i]? =some r->r[j]? =some d->xs[i * size+j]? =some u->Xk w (λb=>ok b/\v.ownBlock≠some b) d u
section
variable {w w':World} {ok ok':Nat->Prop} {base size:Nat} {e:TypeId} {v:Value} {rows:List (List D)}
theorem U5.nil(w:World)(base:Nat)(e:TypeId)(size:Nat)(ok:Nat->Prop):U5 w base e size ok (.slice none 0 0) []:=
 ⟨[],World.ownsRow_nil _ _ _ _,by simp,by simp⟩
theorem U5.made(w:World)(base:Nat)(e:TypeId)(size:Nat)(ok:Nat->Prop)(f:base<=w.heap.size):U5 (w.alloc (.cells #[] e)) base e size ok (.slice (some ⟨w.heap.size,0,none⟩) 0 0) []:=
 ⟨[],World.ownsRow_made w #[] 0 f (Nat.zero_le _) (by simp),by simp,by simp⟩
theorem U5.alloc(h:U5 w base e size ok v rows)(o:Obj)(f:∀b,ok b->b<w.heap.size):U5 (w.alloc o) base e size ok v rows:=by
 obtain⟨xs,g,l,t⟩:=h;exact⟨xs,g.alloc o,l,λi j r d u a b c=>(t i j r d u a b c).alloc o λb C=>f b C.1⟩
theorem U5.weak(h:U5 w base e size ok v rows)(f:∀b,ok b->ok' b):U5 w base e size ok' v rows:=by
 obtain⟨xs,l,o,t⟩:=h;exact⟨xs,l,o,λi j r d u a b c=>(t i j r d u a b c).weak λb g=>⟨f b g.1,g.2⟩⟩
theorem U5.under{B:Nat}(h:U5 w base e size ok v rows)(l:Below B w w')(hB:w.heap.size<=B)(o:∀b,ok b->b<B):U5 w' base e size ok v rows:=by
 obtain⟨xs,I,P,T⟩:=h;refine⟨xs,⟨I.1,?_⟩,P,λi j r d u a b c=>(T i j r d u a b c).under l λb l=>o b l.1⟩;rcases I.2 with U|⟨g,cap,t,rfl,C,J,f⟩
 ·exact .inl U
 ·refine .inr ⟨g,cap,t,rfl,C,?_,f⟩;rw[l.block g (by have:=(Array.getElem?_eq_some_iff.1 J).1;omega)];exact J
theorem U5.grown{row:Option Nat}(h:U5 w base e size ok v rows)(l:w.grownBy w' row)(g:v.ownBlock=none\/v.ownBlock≠row)(f:∀b,ok b->b<w.heap.size/\row≠some b):U5 w' base e size ok v rows:=by
 obtain⟨xs,o,t,C⟩:=h;exact⟨xs,o.kept l g,t,λi j r d u a b c=>(C i j r d u a b c).keep λp hp=>World.cell?_of_block (l.block p.block (f _ hp.1).1 λe=>(f _ hp.1).2 e.symm)⟩
theorem U5.setCell(h:U5 w base e size ok v rows){p:Addr}(u:Value)(I:v.ownBlock≠some p.block)(l:∀b,ok b->b≠p.block):U5 (w.setCell p u) base e size ok v rows:=by
 obtain⟨xs,C,J,P⟩:=h;refine⟨xs,⟨C.1,?_⟩,J,λi j r d u a b c=>(P i j r d u a b c).setCell _ λb T=>l b T.1⟩;rcases C.2 with U|⟨g,cap,o,rfl,t,hg,f⟩
 ·exact .inl U
 ·refine .inr ⟨g,cap,o,rfl,t,?_,f⟩;rw[Below.heap_setCell _ _ _ _ (λe=>I (by simp[Value.ownBlock,e]))];exact hg
theorem U5.Jk9{f:Nat}(h:U5 w base e size ok v rows)(I:f<=base):U5 w f e size ok v rows:=by
 obtain⟨xs,l,o,r⟩:=h;refine⟨xs,⟨l.1,?_⟩,o,r⟩;rcases l.2 with t|⟨g,cap,j,C,J,i⟩
 ·exact .inl t
 ·exact .inr ⟨g,cap,j,C,by omega,i⟩
theorem U5.shape(h:U5 w base e size ok v rows):∃a c,v= .slice a rows.length c:=by
 obtain⟨xs,f,_⟩:=h;rcases f.2 with⟨rfl,i⟩|⟨g,cap,j,rfl,_⟩
 ·exact⟨none,0,by rw[i]⟩
 ·exact⟨_,cap,rfl⟩
theorem U5.own(h:U5 w base e size ok v rows):∀g,v.ownBlock=some g->base<=g/\g<w.heap.size:=by
 obtain⟨xs,f,_⟩:=h;exact f.lt
def Zn(ok:Nat->Prop)(B:Nat)(w':World)(b:Nat):Prop:=ok b\/(B<=b/\b<w'.heap.size)
theorem U5.get{i j:Nat}{r:List D}{d:D}(h:U5 w base e size ok v rows)(hr:rows[i]? =some r)(J:r[j]? =some d):
  ∃g c u,v= .slice (some ⟨g,0,none⟩) rows.length c/\base<=g/\g<w.heap.size/\w.cell? ⟨g,i * size+j,none⟩=some u/\(∀o,w.frozen? ⟨g,o,none⟩=false)/\Xk w (λb=>ok b/\b≠g) d u:=by
 obtain⟨xs,l,U,h3⟩:=h;have hi:i<rows.length:=(List.getElem?_eq_some_iff.1 hr).1;have hj:j<size:=by have:=U i r hr;have:=(List.getElem?_eq_some_iff.1 J).1;omega
 have t:i * size+j<xs.length:=by
  rw[l.1];have:(i+1) * size<=rows.length * size:=Nat.mul_le_mul_right _ hi;rw[Nat.add_mul]at this;omega
 have P:xs[i * size+j]? =some xs[i * size+j]:=List.getElem?_eq_getElem t;have f:=l.lt;have C:=λg=>l.cells (g:=g)
 rcases l.2 with⟨_,hn⟩|⟨g,cap,a1,rfl,I,hg,a2,a3,a4,a5⟩
 ·omega
 ·refine⟨g,cap,_,rfl,I,(f g rfl).2,?_,λo=>?_,(h3 i j r d _ hr J P).weak λb T=>⟨T.1,λe=>T.2 (by rw[e];rfl)⟩⟩
  ·have:=C g rfl _ _ P;rw[Addr.add_lit,Nat.zero_add]at this;exact this
  ·simp[World.frozen?,hg]
theorem U5.Xz9{i j g:Nat}{r:List D}{d:D}{u:Value}(h:U5 w base e size ok v rows)(U:v.ownBlock=some g)(hr:rows[i]? =some r)(hj:j<size)(hu:Xk w (λb=>ok b/\b≠g) d u):
  U5 (w.setCell ⟨g,i * size+j,none⟩ u) base e size ok v (rows.set i (r.set j d)):=by
 obtain⟨xs,h1,I,h3⟩:=h;have hi:i<rows.length:=(List.getElem?_eq_some_iff.1 hr).1;have a2:i * size+j<rows.length * size:=by
  have:(i+1) * size<=rows.length * size:=Nat.mul_le_mul_right _ hi;rw[Nat.add_mul]at this;omega
 have keep:∀(d:D) (x:Value),Xk w (λb=>ok b/\v.ownBlock≠some b) d x->Xk (w.setCell ⟨g,i * size+j,none⟩ u) (λb=>ok b/\v.ownBlock≠some b) d x:=λd x hx=>
  hx.setCell _ λb hb e=>hb.2 (by rw[U,e])
 refine⟨xs.set (i * size+j) u,⟨by rw[List.length_set,List.length_set];exact h1.1,?_⟩,λC r' f=>?_,λC J r' d' u' f l o=>?_⟩
 ·rw[List.length_set];rcases h1.2 with⟨_,hn⟩|⟨g',cap,a3,rfl,a4,hg,a5,a6,a7,a8⟩
  ·omega
  ·simp[Value.ownBlock]at U;subst U;refine .inr ⟨g',cap,a3.setIfInBounds (i * size+j) u,rfl,a4,?_,a5,a6,by simpa using a7,?_⟩
   ·simp[World.setCell,Array.getElem?_modify,hg]
   ·rw[<-a8];simp only[Array.toList_setIfInBounds];rw[List.take_set]
 ·rcases Nat.decEq i C with t|he
  ·rw[List.getElem?_set_ne t]at f;exact I C r' f
  ·subst he;rw[List.getElem?_set_self hi]at f;obtain rfl:=Option.some.inj f;rw[List.length_set];exact I i r hr
 ·have b2:∀(a:Nat) (q:List D),rows[a]? =some q->q.length=size:=I;rcases Nat.decEq i C with t|he
  ·rw[List.getElem?_set_ne t]at f;have P:J<size:=by have:=I C r' f;have:=(List.getElem?_eq_some_iff.1 l).1;omega
   have T:i * size+j≠C * size+J:=λe=>by
    have a1:=(DI (i:=i) hj).1;rw[e,(DI (i:=C) P).1]at a1;exact t a1.symm
   rw[List.getElem?_set_ne T]at o;exact keep _ _ (h3 C J r' d' u' f l o)
  ·subst he;rw[List.getElem?_set_self hi]at f;obtain rfl:=Option.some.inj f;have P:J<size:=by have:=I i r hr;have:=(List.getElem?_eq_some_iff.1 l).1;rw[List.length_set]at this;omega
   rcases Nat.decEq j J with a9|b0
   ·rw[List.getElem?_set_ne a9]at l;rw[List.getElem?_set_ne (by omega)]at o;exact keep _ _ (h3 i J r d' u' hr l o)
   ·subst b0;have b1:j<r.length:=by have:=I i r hr;omega
    rw[List.getElem?_set_self b1]at l;rw[List.getElem?_set_self (by rw[h1.1];exact a2)]at o;obtain rfl:=Option.some.inj l;obtain rfl:=Option.some.inj o;exact keep _ _ (hu.weak λb hb=>⟨hb.1,by rw[U];intro e;exact hb.2 (Option.some.inj e).symm⟩)
theorem U5.Ty(h:U5 w base e size ok v rows)(T:∀b,base<=b->b<w.heap.size->ok' b)(l:∀b,ok b->ok' b):Xk w ok' (.sl rows) v:=by
 obtain⟨xs,J,h2,h3⟩:=h;have U:=J.lt;rcases J.2 with⟨rfl,hn⟩|⟨g,cap,a3,rfl,a1,hg,a2,o,a4,a5⟩
 ·have:rows=[]:=List.eq_nil_of_length_eq_zero hn;subst this;exact .empty none 0 (λ_=>rfl) (Nat.zero_le _)
 ·rcases Nat.eq_zero_or_pos rows.length with h0|h0
  ·have:rows=[]:=List.eq_nil_of_length_eq_zero h0;subst this;exact .empty _ cap (by simp) o
  ·have f:=J.cells (g:=g) rfl;have hl:=J.1;have t:∀i j,i<rows.length->j<size->i * size+j<xs.length:=λi j C P=>by
    rw[hl];have:(i+1) * size<=rows.length * size:=Nat.mul_le_mul_right _ C;rw[Nat.add_mul]at this;omega
   refine .sl rows size g 0 cap (λi j=>xs[i * size+j]?.getD (.bool false)) (by rintro rfl;simp at h0) a2 o h2 (T g a1 (U g rfl).2) (λi j C P=>?_) (λi j r d hr hd=>?_)
   ·have I:xs[i * size+j]? =some (xs[i * size+j]'(t i j C P)):=List.getElem?_eq_getElem _;have:=f _ _ I;rw[I,Option.getD_some,Nat.zero_add];rw[Addr.add_lit,Nat.zero_add]at this;exact this
   ·have C:i<rows.length:=(List.getElem?_eq_some_iff.1 hr).1;have P:j<size:=by have:=h2 i r hr;have:=(List.getElem?_eq_some_iff.1 hd).1;omega
    have I:xs[i * size+j]? =some (xs[i * size+j]'(t i j C P)):=List.getElem?_eq_getElem _;show Xk w ok' d (xs[i * size+j]?.getD (.bool false));rw[I,Option.getD_some];exact(h3 i j r d _ hr hd I).weak λb hb=>l b hb.1
end
end
section
open Go.RowKit
section
variable {w:World} {ok:Nat->Prop} {rows:List (List D)}
theorem Zw7{size i j:Nat}(f:j<size):(i * size+j) / size=i/\(i * size+j) % size=j:=by
 have g:0<size:=by omega
 refine⟨?_,?_⟩
 ·rw[Nat.mul_comm,Nat.mul_add_div g,Nat.div_eq_of_lt f,Nat.add_zero]
 ·rw[Nat.mul_comm,Nat.mul_add_mod,Nat.mod_eq_of_lt f]
theorem Xk.news{a:Option Addr}{n c size:Nat}(h:Xk w ok (.sl rows) (.slice a n c))(J:∀(i:Nat) (r:List D),rows[i]? =some r->r.length=size):
  ∃news:List Value,news.length=n * size/\(∀j u,news[j]? =some u->∃ad,a=some ad/\w.cell? (ad.add j)=some u)/\(∀u∈news,u.oneCell'=true)/\
   ∀(i j:Nat) (r:List D) (d:D) (u:Value),rows[i]? =some r->r[j]? =some d->news[i * size+j]? =some u->Xk w ok d u:=by
 cases h with
 |empty a c ha hc=>exact⟨[],by simp,by simp,by simp,by simp⟩
 |sl _ f b o c V P a1 hc T a2 l g=>
  have U:f=size:=by
   rcases rows with _|⟨r,rs⟩
   ·exact absurd rfl P
   ·exact(T 0 r rfl).symm.trans (J 0 r rfl)
  subst U;have key:∀k,k<rows.length * f->k / f<rows.length/\k % f<f/\k / f * f+k % f=k:=λk hk=>by
   have h0:0<f:=by
    rcases Nat.eq_zero_or_pos f with h|h
    ·subst h;omega
    ·exact h
   exact⟨(Nat.div_lt_iff_lt_mul h0).2 hk,Nat.mod_lt _ h0,by rw[Nat.mul_comm];exact Nat.div_add_mod k f⟩
  refine⟨(List.range (rows.length * f)).map λk=>V (k / f) (k % f),by simp,λj u t=>?_,λu t=>?_,λi j r d u hr hd t=>?_⟩
  ·have I:j<rows.length * f:=by have:=(List.getElem?_eq_some_iff.1 t).1;simpa using this
   obtain⟨h1,h2,h3⟩:=key j I;refine⟨_,rfl,?_⟩;rw[Addr.add_lit];have:=l _ _ h1 h2;rw[h3]at this;rw[this];simp[I]at t;rw[t]
  ·obtain⟨k,hk,rfl⟩:=List.mem_map.1 t;obtain⟨h1,h2,h3⟩:=key k (by simpa using hk);have hr:rows[k / f]? =some rows[k / f]:=List.getElem?_eq_getElem h1;have hl:=J _ _ hr;exact(g (k / f) (k % f) _ _ hr (List.getElem?_eq_getElem (by omega))).oneCell
  ·have hi:i<rows.length:=(List.getElem?_eq_some_iff.1 hr).1;have I:j<f:=by have:=J i r hr;have:=(List.getElem?_eq_some_iff.1 hd).1;omega
   obtain⟨e1,e2⟩:=Zw7 (i:=i) I;have:=g i j r d hr hd;have C:=(List.getElem?_eq_some_iff.1 t).2;simp[e1,e2]at C;rw[<-C];exact this
end
section
variable {P:Program} (w:World)
theorem RP(base:Nat)(t r e:TypeId)(i:TypeInfo)(size:Nat)(l:P.underlying t=some (.slice e))(o:P.info? e=some i)
  (v:Value) (n:Nat) (xs:List Value) (f:w.ownsRow base e size v n xs) (c:Nat):(Builtin.append_ #[t,t] r #[v,.slice none 0 c]).run P w= .ok v w:=by
 rcases f.2 with⟨rfl,rfl⟩|⟨g,cap,C,rfl,_,_,j,_⟩
 ·simp[Builtin.append_,run_underlying l,sizeOf,typeInfo,o,Builtin.lenOf,Builtin.firstCells]
 ·simp[Builtin.append_,run_underlying l,sizeOf,typeInfo,o,Builtin.lenOf,Builtin.firstCells,j,storeCells]
theorem Qn(base:Nat)(t U e:TypeId)(i:TypeInfo)(z:Value)(size bytes:Nat)(ht:P.underlying t=some (.slice e))(hi:P.info? e=some i)(hz:i.zero=some z)
  (o:i.size=size) (a1:i.bytes=bytes) (a2:z.cells.size=size) (J:0<size)
  (v:Value) (n:Nat) (xs:List Value) (f:w.ownsRow base e size v n xs)
  (A:Option Addr) (m c:Nat) (news:List Value) (hl:news.length=m * size) (hc:∀j u,news[j]? =some u->∃C,A=some C/\w.cell? (C.add j)=some u) (h1:∀u∈news,u.oneCell'=true)
  (a3:n+m<=maxLen) (g:(n+m) * bytes<=140737488355328) (r:base<=w.heap.size):
  ∃I w',(Builtin.append_ #[t,t] U #[v,.slice A m c]).run P w= .ok I w'/\w'.ownsRow base e size I (n+m) (xs++news)/\w.grownBy w' v.ownBlock/\
   (I.ownBlock=v.ownBlock\/I.ownBlock=some w.heap.size):=by
 rcases A with _|C
 ·have hn:news=[]:=by
   rcases news with _|⟨u,us⟩
   ·rfl
   ·obtain⟨C,h,_⟩:=hc 0 u rfl;cases h
  subst hn;have hm:m=0:=by
   rcases Nat.eq_zero_or_pos m with h0|h0
   ·exact h0
   ·have:=Nat.mul_pos h0 J;simp at hl;omega
  subst hm;exact⟨v,w,RP w base t U e i size ht hi v n xs f c,by simpa using f,World.grownBy.refl w _,.inl rfl⟩
 ·have l:∀j u,news[j]? =some u->w.cell? (C.add j)=some u:=by
   intro j u hu;obtain⟨a5,h,a4⟩:=hc j u hu;injection h with h;subst h;exact a4
  obtain⟨I,w',T,h2,h3,_,h5⟩:=run_append_own_at (P:=P) w base t U e i z size bytes ht hi hz o a1 a2 J v n xs f C m c news hl l h1 a3 g r;exact⟨I,w',T,h2,h3,h5⟩
theorem Fh{w w':World}{base size:Nat}{e:TypeId}{ok:Nat→Prop}{v v':Value}{rows rows2:List (List D)}(hA:U5 w base e size ok v rows){news xs:List Value}(hx:w.ownsRow base e size v rows.length xs)
  (hxr:∀(i j:Nat) (r:List D) (d:D) (u:Value),rows[i]? =some r→r[j]? =some d→xs[i * size+j]? =some u→Xk w (fun b=>ok b∧v.ownBlock≠some b) d u)
  (hs2:∀(i:Nat) (r:List D),rows2[i]? =some r→r.length=size)
  (hnr:∀(i j:Nat) (r:List D) (d:D) (u:Value),rows2[i]? =some r→r[j]? =some d→news[i * size+j]? =some u→Xk w (fun b=>ok b∧v.ownBlock≠some b) d u)
  (hok:∀b,ok b→b<w.heap.size) (h2:w'.ownsRow base e size v' (rows.length+rows2.length) (xs++news)) (h3:w.grownBy w' v.ownBlock) (h4:v'.ownBlock=v.ownBlock∨v'.ownBlock=some w.heap.size):
  U5 w' base e size ok v' (rows++rows2):=by
 obtain⟨_,_,hs1,_⟩:=hA;have conv:∀(d:D) (u:Value),Xk w (fun b=>ok b∧v.ownBlock≠some b) d u→Xk w' (fun b=>ok b∧v'.ownBlock≠some b) d u:=fun d u h=>
  (h.keep fun p hp=>World.cell?_of_block (h3.block p.block (hok _ hp.1) (fun e=>hp.2 e.symm))).weak fun b hb=>
   ⟨hb.1, by rcases h4 with h4 | h4 <;> rw [h4]
             ·exact hb.2
             ·intro e; have:=hok b hb.1; simp at e; omega⟩
 have hlx:=hx.1;refine⟨xs++news,by simpa using h2,fun i r hr=>?_,fun i j r d u hr hd hu=>?_⟩
 ·rcases Nat.lt_or_ge i rows.length with hi|hi
  ·rw[List.getElem?_append_left hi]at hr;exact hs1 i r hr
  ·rw[List.getElem?_append_right hi]at hr;exact hs2 _ r hr
 ·rcases Nat.lt_or_ge i rows.length with hi|hi
  ·rw[List.getElem?_append_left hi]at hr;have hj:j<size:=by have:=hs1 i r hr;have:=(List.getElem?_eq_some_iff.1 hd).1;omega
   have hlt:i * size+j<xs.length:=by
    rw[hlx];have:(i+1) * size≤rows.length * size:=Nat.mul_le_mul_right _ hi;rw[Nat.add_mul]at this;omega
   rw[List.getElem?_append_left hlt]at hu;exact conv _ _ (hxr i j r d u hr hd hu)
  ·rw[List.getElem?_append_right hi]at hr;have hge:xs.length≤i * size+j:=by
    rw[hlx];have:rows.length * size≤i * size:=Nat.mul_le_mul_right _ hi;omega
   rw[List.getElem?_append_right hge]at hu;refine conv _ _ (hnr (i-rows.length) j r d u hr hd ?_);rw[←hu,hlx,Nat.sub_mul];have:rows.length * size≤i * size:=Nat.mul_le_mul_right _ hi;congr 1;omega
theorem GQ(base:Nat)(t ty e:TypeId)(i:TypeInfo)(z:Value)(size bytes:Nat)(ht:P.underlying t=some (.slice e))(hi:P.info? e=some i)(hz:i.zero=some z)
  (g:i.size=size) (T:i.bytes=bytes) (U:z.cells.size=size) (a1:0<size)
  (ok:Nat->Prop) (v:Value) (rows:List (List D)) (hA:U5 w base e size ok v rows)
  (A:Option Addr) (c:Nat) (rows2:List (List D)) (C:Nat->Prop) (hR:Xk w C (.sl rows2) (.slice A rows2.length c)) (a2:∀(i j:Nat) (r:List D) (d:D) (u:Value),rows2[i]? =some r->r[j]? =some d->Xk w C d u->Xk w (λb=>ok b/\v.ownBlock≠some b) d u) (I:∀(i:Nat) (r:List D),rows2[i]? =some r->r.length=size)
  (a3:rows.length+rows2.length<=maxLen) (f:(rows.length+rows2.length) * bytes<=140737488355328) (a4:∀b,ok b->b<w.heap.size) (l:base<=w.heap.size):
  ∃o w',(Builtin.append_ #[t,t] ty #[v,.slice A rows2.length c]).run P w= .ok o w'/\U5 w' base e size ok o (rows++rows2)/\w.grownBy w' v.ownBlock/\
   (o.ownBlock=v.ownBlock\/o.ownBlock=some w.heap.size):=by
 have a5:=hA;obtain⟨xs,hx,b1,a6⟩:=hA;obtain⟨news,a7,a8,a9,b0⟩:=hR.news I;obtain⟨o,w',J,h2,h3,h4⟩:=Qn (P:=P) w base t ty e i z size bytes ht hi hz g T U a1 v rows.length xs hx A rows2.length c news a7 a8 a9 a3 f l;exact⟨o,w',J,Fh a5 hx a6 I (λi j r d u a b c=>a2 i j r d u a b (b0 i j r d u a b c)) a4 h2 h3 h4,h3,h4⟩
theorem FE{o:Oper}{a:Act}{K:Act->World->Prop}{Q:Exit->Act->World->Prop}(s x:Operand)(t:TypeId)
  (ho:o.op= .call { callee:=.builtin .append,args:=#[s,x],argTypes:=#[t,t] })
  (base:Nat) (e:TypeId) (i:TypeInfo) (z:Value) (size bytes:Nat) (ht:P.underlying t=some (.slice e)) (hi:P.info? e=some i) (hz:i.zero=some z)
  (g:i.size=size) (T:i.bytes=bytes) (U:z.cells.size=size) (a1:0<size)
  (ok:Nat->Prop) (v:Value) (rows:List (List D)) (hs:a.eval s=v) (hA:U5 w base e size ok v rows)
  (A:Option Addr) (m c:Nat) (rows2:List (List D)) (hm:m=rows2.length) (hx:a.eval x= .slice A m c) (l:Nat->Prop) (hR:Xk w l (.sl rows2) (.slice A m c)) (a2:∀(i j:Nat) (r:List D) (d:D) (u:Value),rows2[i]? =some r->r[j]? =some d->Xk w l d u->Xk w (λb=>ok b/\v.ownBlock≠some b) d u) (a3:∀(i:Nat) (r:List D),rows2[i]? =some r->r.length=size)
  (a4:rows.length+rows2.length<=maxLen) (f:(rows.length+rows2.length) * bytes<=140737488355328) (a5:∀b,ok b->b<w.heap.size) (C:base<=w.heap.size)
  (h:∀I w',U5 w' base e size ok I (rows++rows2)->w.grownBy w' v.ownBlock->(I.ownBlock=v.ownBlock\/I.ownBlock=some w.heap.size)->K (a.put o.dst I) w'):o.wp P a w K Q:=by
 subst hm;obtain⟨I,w',J,h2,h3,h4⟩:=GQ (P:=P) w base t o.type e i z size bytes ht hi hz g T U a1 ok v rows hA A c rows2 l hR a2 a3 a4 f a5 C;unfold Oper.wp execOp;simp only[ho,resolve,invoke,builtin,Sem.run_bind,Sem.run_pure,Result.andThen_ok,List.map_toArray,List.map_cons,List.map_nil,hs,hx,J];exact h I w' h2 h3 h4
theorem ZY{ops:Array Oper}{g:List Oper}{o:Oper}{a:Act}{Q:Exit->Act->World->Prop}(T:o.guard=none)(s x:Operand)(t:TypeId)
  (ho:o.op= .call { callee:=.builtin .append,args:=#[s,x],argTypes:=#[t,t] })
  (base:Nat) (e:TypeId) (i:TypeInfo) (z:Value) (size bytes:Nat) (ht:P.underlying t=some (.slice e)) (hi:P.info? e=some i) (hz:i.zero=some z)
  (l:i.size=size) (U:i.bytes=bytes) (a1:z.cells.size=size) (a2:0<size)
  (ok:Nat->Prop) (v:Value) (rows:List (List D)) (hs:a.eval s=v) (hA:U5 w base e size ok v rows)
  (A:Option Addr) (m c:Nat) (rows2:List (List D)) (hm:m=rows2.length) (hx:a.eval x= .slice A m c) (C:Nat->Prop) (hR:Xk w C (.sl rows2) (.slice A m c)) (a3:∀(i j:Nat) (r:List D) (d:D) (u:Value),rows2[i]? =some r->r[j]? =some d->Xk w C d u->Xk w (λb=>ok b/\v.ownBlock≠some b) d u) (a4:∀(i:Nat) (r:List D),rows2[i]? =some r->r.length=size)
  (a5:rows.length+rows2.length<=maxLen) (f:(rows.length+rows2.length) * bytes<=140737488355328) (a6:∀b,ok b->b<w.heap.size) (I:base<=w.heap.size)
  (h:∀J w',U5 w' base e size ok J (rows++rows2)->w.grownBy w' v.ownBlock->(J.ownBlock=v.ownBlock\/J.ownBlock=some w.heap.size)->wpList P ops Q g (a.put o.dst J) w'):wpList P ops Q (o::g) a w:=
 wpList_plain T λ_ hK=>FE w s x t ho base e i z size bytes ht hi hz l U a1 a2 ok v rows hs hA A m c rows2 hm hx C hR a3 a4 a5 f a6 I λJ w' h2 h3 h4=>hK _ _ (h J w' h2 h3 h4)
theorem Xk.of_block{w:World}{ok:Nat->Prop}{b:Nat}{cs:Array Value}{t:TypeId}{fr:Nat×Nat}(C:w.heap[b]? =some (.cells cs t fr))(r:List D)(hr:Xm w ok r cs.toList)(f:ok b):
  Xk w ok (.sl [r]) (.slice (some ⟨b,0,none⟩) 1 1):=by
 refine .sl [r] r.length b 0 1 (λ_ j=>cs[j]?.getD (.bool false)) (by simp) (Nat.le_refl _) (by simp[maxLen]) (λi I h=>?_) f (λi j J P=>?_) (λi j I d h o=>?_)
 ·match i,h with
  |0,h=>simp at h;rw[h]
 ·obtain rfl:i=0:=by simp at J;omega
  have g:=hr.1;simp at g;have l:cs[j]? =some cs[j]:=Array.getElem?_eq_getElem (by omega);rw[Nat.zero_mul,Nat.zero_add,Nat.zero_add,cell_of_row w b j cs t fr C,l,Option.getD_some]
 ·match i,h with
  |0,h=>
   simp at h;subst h;have g:=hr.1;have P:=(List.getElem?_eq_some_iff.1 o).1;simp at g;have l:cs[j]? =some cs[j]:=Array.getElem?_eq_getElem (by omega);rw[l,Option.getD_some];exact hr.2 j d _ o (by simp)
theorem TF{o:Oper}{a:Act}{K:Act→World→Prop}{Q:Exit→Act→World→Prop}(s x:Operand)(t:TypeId)
  (ho:o.op= .call { callee:=.builtin .append,args:=#[s,x],argTypes:=#[t,t] })
  (base:Nat) (e:TypeId) (i:TypeInfo) (z:Value) (size bytes:Nat) (ht:P.underlying t=some (.slice e)) (hi:P.info? e=some i) (hz:i.zero=some z)
  (hsize:i.size=size) (hby:i.bytes=bytes) (hzs:z.cells.size=size) (hsz:0<size)
  (ok:Nat→Prop) (v:Value) (rows:List (List D)) (hs:a.eval s=v) (cs:Array Value) (te:TypeId) (hA:U5 w base e size ok v rows)
  (H:Nat) (hx:a.eval x= .slice (some ⟨H,0,none⟩) 1 1) (hH:w.heap.size=H) (r:List D) (hrl:r.length=size) (hr:Xm w (fun b=>ok b∧v.ownBlock≠some b) r cs.toList)
  (h63:rows.length+1≤maxLen) (hbytes:(rows.length+1) * bytes≤140737488355328) (hok:∀b,ok b→b<w.heap.size) (hbase:base≤w.heap.size)
  (h : ∀ g cap w',U5 w' base e size ok (.slice (some ⟨g,0,none⟩) (rows.length + 1) cap) (rows ++ [r])→(w.alloc (.cells cs te)).grownBy w' v.ownBlock→(v.ownBlock = some g∨g = H + 1)→g < w'.heap.size →
   K (a.put o.dst (.slice (some ⟨g,0,none⟩) (rows.length+1) cap)) w'):o.wp P a (w.alloc (.cells cs te)) K Q:=by
 subst hH;have hA1:=hA.alloc (.cells cs te) hok;have hlt:v.ownBlock≠some w.heap.size:=fun e=>by
  obtain⟨xs,hown,_⟩:=hA;have:=(hown.lt _ e).2;omega
 have hA2:U5 (w.alloc (.cells cs te)) base e size (fun b=>ok b∨b=w.heap.size) v rows:=hA1.weak fun b hb=>.inl hb
 have hr':Xm (w.alloc (.cells cs te)) (fun b=>(ok b∨b=w.heap.size)∧v.ownBlock≠some b) r cs.toList:=
  ⟨hr.1,fun j d u hd hu=>((hr.2 j d u hd hu).alloc _ fun b hb=>hok b hb.1).weak fun b hb=>⟨.inl hb.1,hb.2⟩⟩
 have hR:=Xk.of_block (heap_alloc_new w (.cells cs te)) r hr' ⟨.inr rfl,hlt⟩;obtain⟨xs,hxo,hs1,hxr⟩:=hA1;obtain⟨news,hn1,hn2,hn3,hn4⟩:=hR.news (size:=size) (fun i r' h=>by
  match i,h with
  |0,h=>simp at h;rw[←h];exact hrl)
 obtain⟨v',w',hrun,h2,h3,h4⟩:=Qn (P:=P) (w.alloc (.cells cs te)) base t o.type e i z size bytes ht hi hz hsize hby hzs hsz v rows.length xs hxo _ 1 1 news hn1 hn2 hn3 h63 hbytes (by simp;omega);have hnr:∀(i j:Nat) (r':List D) (d:D) (u:Value),[r][i]? =some r'→r'[j]? =some d→news[i * size+j]? =some u→Xk (w.alloc (.cells cs te)) (fun b=>ok b∧v.ownBlock≠some b) d u:=by
  intro i j r' d u hr1 hd hu;match i,hr1 with
  |0,hr1=>
   simp at hr1;subst hr1;have hjl:j<r.length:=(List.getElem?_eq_some_iff.1 hd).1;have hcl:=hr.1;simp at hcl;have hc:cs.toList[j]? =some cs[j]:=by simp[show j<cs.size by omega]
   obtain⟨ad,had,hcell⟩:=hn2 _ u hu;simp at had;subst had;rw[Addr.add_lit,Nat.zero_mul,Nat.zero_add,Nat.zero_add,World.cell?_alloc_new]at hcell;have:cs[j]=u:=by
    have h':cs[j]? =some cs[j]:=Array.getElem?_eq_getElem (by omega);rw[h']at hcell;exact Option.some.inj hcell
   subst this;exact(hr.2 j d _ hd hc).alloc _ fun b hb=>hok b hb.1
 have hj:=Fh (rows2:=[r]) ⟨xs,hxo,hs1,hxr⟩ hxo hxr (fun i r' h=>by
  match i,h with
  |0,h=>simp at h;rw[←h];exact hrl) hnr (fun b hb=>by have:=hok b hb;simp;omega) h2 h3 h4
 unfold Oper.wp execOp;simp only[ho,resolve,invoke,builtin,Sem.run_bind,Sem.run_pure,Result.andThen_ok,List.map_toArray,List.map_cons,List.map_nil,hs,hx,hrun];have h2':=h2;rcases h2.2 with⟨_,hn⟩|⟨g,cap,cur,rfl,hbg,hg,rest'⟩
 ·omega
 ·refine h g cap w' hj h3 ?_ (Array.getElem?_eq_some_iff.1 hg).1;rcases h4 with h4|h4
  ·exact .inl (by rw[←h4];rfl)
  ·right;simpa[Value.ownBlock]using h4
theorem JC{ops:Array Oper}{rest:List Oper}{o:Oper}{a:Act}{Q:Exit→Act→World→Prop}(hgd:o.guard=none)(s x:Operand)(t:TypeId)
  (ho:o.op= .call { callee:=.builtin .append,args:=#[s,x],argTypes:=#[t,t] })
  (base:Nat) (e:TypeId) (i:TypeInfo) (z:Value) (size bytes:Nat) (ht:P.underlying t=some (.slice e)) (hi:P.info? e=some i) (hz:i.zero=some z)
  (hsize:i.size=size) (hby:i.bytes=bytes) (hzs:z.cells.size=size) (hsz:0<size)
  (ok:Nat→Prop) (v:Value) (rows:List (List D)) (hs:a.eval s=v) (cs:Array Value) (te:TypeId) (hA:U5 w base e size ok v rows)
  (H:Nat) (hx:a.eval x= .slice (some ⟨H,0,none⟩) 1 1) (hH:w.heap.size=H) (r:List D) (hrl:r.length=size) (hr:Xm w (fun b=>ok b∧v.ownBlock≠some b) r cs.toList)
  (h63:rows.length+1≤maxLen) (hbytes:(rows.length+1) * bytes≤140737488355328) (hok:∀b,ok b→b<w.heap.size) (hbase:base≤w.heap.size)
  (h : ∀ g cap w',U5 w' base e size ok (.slice (some ⟨g,0,none⟩) (rows.length + 1) cap) (rows ++ [r])→(w.alloc (.cells cs te)).grownBy w' v.ownBlock→(v.ownBlock = some g∨g = H + 1)→g < w'.heap.size →
   wpList P ops Q rest (a.put o.dst (.slice (some ⟨g,0,none⟩) (rows.length+1) cap)) w'):wpList P ops Q (o::rest) a (w.alloc (.cells cs te)):=
 wpList_plain hgd fun _ hK=>TF w s x t ho base e i z size bytes ht hi hz hsize hby hzs hsz ok v rows hs cs te hA H hx hH r hrl hr h63 hbytes hok hbase fun g cap w' h1 h2 h3 h4=>hK _ _ (h g cap w' h1 h2 h3 h4)
end
end
section
open Go.RowKit
inductive AV where
 |any
 |d (d:D)
 |lit (v:Value)
 |fl (rows:List (List D))
 |ptr (o off:Nat)
 |arr (o lo n:Nat)
 |Rx (o i j:Nat)
 |mp (o:Nat)
 |agg (cs:List AV)
 |tuple (vs:List AV)
 |clo (f:Nat) (cap:List AV)
inductive Raw where
 |births (b:Nat) (ks ag:Bool) (n clock:Nat) (ents:List (Nat×D×List D))
 |iter (b clock:Nat) (seen:List Nat)
inductive Q9 where
 |blk (t:TypeId) (cs:List AV)
 |arr (e:TypeId) (sz:Nat) (rows:List (List D))
 |map (ks ag:Bool) (n:Nat) (ents:List (D×List D))
 |raw (r:Raw)
structure Gh where
 bl:Nat->Option Nat
 cp:Nat->Nat
abbrev Me:=Nat->Option Q9
mutual
def AV.has(q:Nat->Bool):AV->Bool
 | .ptr o _=>q o
 | .arr o _ _=>q o
 | .Rx o _ _=>q o
 | .mp o=>q o
 | .agg cs=>AV.Uv q cs
 | .tuple vs=>AV.Uv q vs
 | .clo _ cap=>AV.Uv q cap
 |_=>false
def AV.Uv(q:Nat->Bool):List AV->Bool
 |[]=>false
 |x::r=>AV.has q x||AV.Uv q r
end
theorem AV.Jn{q:Nat->Bool}{l:List AV}(h:AV.Uv q l=false)(i:Nat)(c:AV)(f:l[i]? =some c):c.has q=false:=by
 induction l generalizing i with
 |nil=>simp at f
 |cons x r g=>
  simp only[AV.Uv,Bool.or_eq_false_iff]at h;rcases i with _|i
  ·simp at f;subst f;exact h.1
  ·simp at f;exact g h.2 i f
inductive VR (w:World) (ok:Nat->Prop) (g:Gh) (m:Me):AV->Value->Prop where
 |any (v:Value):VR w ok g m .any v
 |d (d:D) (v:Value) (h:Xk w ok d v):VR w ok g m (.d d) v
 |lit (v:Value) (h:v.oneCell'=true):VR w ok g m (.lit v) v
 |fl (rows:List (List D)) (v:Value) (h:∃a,v= .slice a rows.length rows.length) (hr:Xk w ok (.sl rows) v):VR w ok g m (.fl rows) v
 |ptr (o off:Nat) (v:Value) (hv:v.oneCell'=true) (h:∀x,m o=some x->∃b,g.bl o=some b/\v= .pointer (some ⟨b,off,none⟩)):VR w ok g m (.ptr o off) v
 |arr (o lo n:Nat) (v:Value) (hv:v.oneCell'=true) (h:∀e sz rows,m o=some (.arr e sz rows)->lo+n<=rows.length/\
   ((g.bl o=none/\v= .slice none 0 0/\lo=0/\n=0)\/(∃b,g.bl o=some b/\v= .slice (some ⟨b,lo * sz,none⟩) n (g.cp o-lo))\/(0<lo/\n=0/\∃a c,v= .slice a 0 c/\c<=maxLen/\(a=none->c=0)))):VR w ok g m (.arr o lo n) v
 |Rx (o i j:Nat) (v:Value) (hv:v.oneCell'=true) (h:∀e sz rows,m o=some (.arr e sz rows)->∃b,g.bl o=some b/\v= .pointer (some ⟨b,i * sz+j,none⟩)):VR w ok g m (.Rx o i j) v
 |mp (o:Nat) (v:Value) (hv:v.oneCell'=true) (h:∀x,m o=some x->∃b,g.bl o=some b/\v= .map (some b)):VR w ok g m (.mp o) v
 |agg (cs:List AV) (vs:Array Value) (hl:cs.length=vs.size) (h:∀(i:Nat) (c:AV) (v:Value),cs[i]? =some c->vs[i]? =some v->VR w ok g m c v) (h1:∀(i:Nat) (v:Value),vs[i]? =some v->v.oneCell'=true):VR w ok g m (.agg cs) (.agg vs)
 |tuple (cs:List AV) (vs:Array Value) (hl:cs.length=vs.size) (h:∀(i:Nat) (c:AV) (v:Value),cs[i]? =some c->vs[i]? =some v->VR w ok g m c v):VR w ok g m (.tuple cs) (.tuple vs)
 |clo (f:Nat) (cs:List AV) (vs:Array Value) (hl:cs.length=vs.size) (h:∀(i:Nat) (c:AV) (v:Value),cs[i]? =some c->vs[i]? =some v->VR w ok g m c v):VR w ok g m (.clo f cs) (.func (.func f) #[] vs)
def Q9.like:Q9->Q9->Prop
 | .blk _ _,.blk _ _=>True
 | .arr _ sz rows,.arr _ g f=>sz=g/\rows.length<=f.length
 | .map l o n _,.map i j r _=>l=i/\o=j/\n=r
 | .raw _,.raw _=>True
 | .map _ _ _ _,.raw _=>True
 | .raw _,.map _ _ _ _=>True
 |_,_=>False
theorem Q9.O6(x:Q9):x.like x:=by cases x<;> simp[Q9.like]
section
variable {w w':World} {ok ok':Nat->Prop} {g g':Gh} {m m':Me}
theorem VR.mono{c:AV}{v:Value}(h:VR w ok g m c v)(q:Nat->Bool)(J:c.has q=false)(hk:∀p:Addr,ok p.block->w'.cell? p=w.cell? p)(a2:∀b,ok b->ok' b)
  (hm:∀o x',q o=false->m' o=some x'->∃x,m o=some x/\x.like x'/\g'.bl o=g.bl o/\g'.cp o=g.cp o):VR w' ok' g' m' c v:=by
 induction h with
 |any v=>exact .any v
 |d d v h=>exact .d d v ((h.keep hk).weak a2)
 |lit v h=>exact .lit v h
 |fl rows v h hr=>exact .fl rows v h ((hr.keep hk).weak a2)
 |ptr o a3 v C h=>
  refine .ptr o a3 v C λx' l=>?_
  obtain⟨x,P,_,T,_⟩:=hm o x' J l;rw[T];exact h x P
 |arr o lo n v C h=>
  refine .arr o lo n v C λe sz rows l=>?_
  obtain⟨x,P,r,T,I⟩:=hm o _ J l;rcases x with⟨t,cs⟩|⟨e0,a4,U⟩|⟨_,_,_,_⟩|⟨_⟩
  ·exact r.elim
  ·obtain⟨a1,a5⟩:=r;subst a1;obtain⟨h1,h2⟩:=h _ _ _ P;rw[T,I];exact⟨by omega,h2⟩
  ·exact r.elim
  ·exact r.elim
 |Rx o i j v C h=>
  refine .Rx o i j v C λe sz rows l=>?_
  obtain⟨x,P,r,T,I⟩:=hm o _ J l;rcases x with⟨t,cs⟩|⟨e0,a4,U⟩|⟨_,_,_,_⟩|⟨_⟩
  ·exact r.elim
  ·obtain⟨a1,a5⟩:=r;subst a1;rw[T];exact h _ _ _ P
  ·exact r.elim
  ·exact r.elim
 |mp o v C h=>
  refine .mp o v C λx' l=>?_
  obtain⟨x,P,_,T,_⟩:=hm o x' J l;rw[T];exact h x P
 |agg cs vs r h h1 ih=>exact .agg cs vs r (λi c v I C=>ih i c v I C (AV.Jn J i c I)) h1
 |tuple cs vs r h ih=>exact .tuple cs vs r (λi c v I C=>ih i c v I C (AV.Jn J i c I))
 |clo f cs vs r h ih=>exact .clo f cs vs r (λi c v I C=>ih i c v I C (AV.Jn J i c I))
theorem VR.Ju{cs:List AV}{v:Value}(h:VR w ok g m (.agg cs) v):∃vs:Array Value,v= .agg vs/\cs.length=vs.size/\(∀(i:Nat) (c:AV) (v:Value),cs[i]? =some c->vs[i]? =some v->VR w ok g m c v)/\∀(i:Nat) (v:Value),vs[i]? =some v->v.oneCell'=true:=by
 cases h;exact⟨_,rfl,by assumption,by assumption,by assumption⟩
theorem VR.Wp{cs:List AV}{v:Value}(h:VR w ok g m (.tuple cs) v):∃vs:Array Value,v= .tuple vs/\cs.length=vs.size/\∀(i:Nat) (c:AV) (v:Value),cs[i]? =some c->vs[i]? =some v->VR w ok g m c v:=by
 cases h;exact⟨_,rfl,by assumption,by assumption⟩
theorem VR.Gr{f:Nat}{cs:List AV}{v:Value}(h:VR w ok g m (.clo f cs) v):∃vs:Array Value,v= .func (.func f) #[] vs/\cs.length=vs.size/\∀(i:Nat) (c:AV) (v:Value),cs[i]? =some c->vs[i]? =some v->VR w ok g m c v:=by
 cases h;exact⟨_,rfl,by assumption,by assumption⟩
theorem VR.Zj{d:D}{v:Value}(h:VR w ok g m (.d d) v):Xk w ok d v:=by cases h;assumption
theorem VR.CG{rows:List (List D)}{v:Value}(h:VR w ok g m (.fl rows) v):(∃a,v= .slice a rows.length rows.length)/\Xk w ok (.sl rows) v:=by cases h;exact⟨by assumption,by assumption⟩
theorem VR.Fw{u v:Value}(h:VR w ok g m (.lit u) v):v=u/\u.oneCell'=true:=by cases h;exact⟨rfl,by assumption⟩
theorem VR.Ga{o f:Nat}{v:Value}(h:VR w ok g m (.ptr o f) v){x:Q9}(i:m o=some x):∃b,g.bl o=some b/\v= .pointer (some ⟨b,f,none⟩):=by
 cases h with
 |ptr o f v j h=>exact h x i
theorem VR.Cb{o:Nat}{v:Value}(h:VR w ok g m (.mp o) v){x:Q9}(f:m o=some x):∃b,g.bl o=some b/\v= .map (some b):=by
 cases h with
 |mp o v i h=>exact h x f
theorem VR.UR{o f n:Nat}{v:Value}(h:VR w ok g m (.arr o f n) v){e:TypeId}{sz:Nat}{rows:List (List D)}(i:m o=some (.arr e sz rows)):
  f+n<=rows.length/\((g.bl o=none/\v= .slice none 0 0/\f=0/\n=0)\/(∃b,g.bl o=some b/\v= .slice (some ⟨b,f * sz,none⟩) n (g.cp o-f))\/(0<f/\n=0/\∃a c,v= .slice a 0 c/\c<=maxLen/\(a=none->c=0))):=by
 cases h with
 |arr o f n v j h=>exact h e sz rows i
end
theorem VR.UD{w:World}{ok:Nat->Prop}{g:Gh}{m:Me}{o i j:Nat}{v:Value}(h:VR w ok g m (.Rx o i j) v){e:TypeId}{sz:Nat}{rows:List (List D)}(f:m o=some (.arr e sz rows)):
  ∃b,g.bl o=some b/\v= .pointer (some ⟨b,i * sz+j,none⟩):=by
 cases h with
 |Rx o i j v l h=>exact h e sz rows f
def AV.cells:AV->Option (List AV)
 | .any=>none
 | .agg cs=>some cs
 | .tuple _=>none
 |v=>some [v]
def KF(w:World)(ok:Nat->Prop)(g:Gh)(m:Me)(cs:List AV)(vs:List Value):Prop:=
 cs.length=vs.length/\(∀(i:Nat) (c:AV) (v:Value),cs[i]? =some c->vs[i]? =some v->VR w ok g m c v)/\∀v∈vs,v.oneCell'=true
theorem VR.cells{w:World}{ok:Nat->Prop}{g:Gh}{m:Me}{c:AV}{v:Value}{cs:List AV}(h:VR w ok g m c v)(l:c.cells=some cs):KF w ok g m cs v.cells.toList:=by
 have one:∀{c:AV},VR w ok g m c v->v.oneCell'=true->KF w ok g m [c] v.cells.toList:=λ{c} h r=>by
  have:v.cells= #[v]:=by cases v<;> first|rfl|simp[Value.oneCell']at r
  rw[this];refine⟨rfl,λi c' v' l C=>?_,by simpa using r⟩;rcases i with _|i
  ·simp at l C;subst l C;exact h
  ·simp at l
 cases h with
 |any v=>simp[AV.cells]at l
 |d d v h=>simp[AV.cells]at l;subst l;exact one (.d d v h) h.oneCell
 |lit v h=>simp[AV.cells]at l;subst l;exact one (.lit v h) h
 |fl rows v h hr=>simp[AV.cells]at l;subst l;exact one (.fl rows v h hr) hr.oneCell
 |ptr o J v r h=>simp[AV.cells]at l;subst l;exact one (.ptr o J v r h) r
 |arr o P n v r h=>simp[AV.cells]at l;subst l;exact one (.arr o P n v r h) r
 |Rx o i j v r h=>simp[AV.cells]at l;subst l;exact one (.Rx o i j v r h) r
 |mp o v r h=>simp[AV.cells]at l;subst l;exact one (.mp o v r h) r
 |agg t vs I h T=>
  simp[AV.cells]at l;subst l;refine⟨by simpa[Value.cells]using I,λi c v l r=>h i c v l (by simpa[Value.cells]using r),λv r=>?_⟩;obtain⟨i,U⟩:=List.mem_iff_getElem?.1 r;exact T i v (by simpa[Value.cells]using U)
 |tuple t vs I h=>simp[AV.cells]at l
 |clo f t vs I h=>simp[AV.cells]at l;subst l;exact one (.clo f t vs I h) rfl
theorem KF.mono{w w':World}{ok ok':Nat->Prop}{g g':Gh}{m m':Me}{cs:List AV}{vs:List Value}(h:KF w ok g m cs vs)(q:Nat->Bool)(r:AV.Uv q cs=false)(t:∀p:Addr,ok p.block->w'.cell? p=w.cell? p)(f:∀b,ok b->ok' b)
  (C:∀o j,q o=false->m' o=some j->∃x,m o=some x/\x.like j/\g'.bl o=g.bl o/\g'.cp o=g.cp o):KF w' ok' g' m' cs vs:=
 ⟨h.1,λi c v l I=>(h.2.1 i c v l I).mono q (AV.Jn r i c l) t f C,h.2.2⟩
def D.U7:Bool->D->Bool
 |true,.str _=>true
 |false,.int _=>true
 |_,_=>false
def D.Ut:D->D->Bool
 | .str a,.str b=>decide (a=b)
 | .int a,.int b=>decide (a=b)
 |_,_=>false
def Qu(w:World)(ok:Nat->Prop)(f:Bool)(r:List D)(v:Value):Prop:=
 if f=true then∃vs:Array Value,v= .agg vs/\vs.size=r.length/\∀(i:Nat) (d:D) (u:Value),r[i]? =some d->vs[i]? =some u->Xk w ok d u
 else∃d,r=[d]/\Xk w ok d v
theorem Qu.keep{w w':World}{ok:Nat->Prop}{l:Bool}{r:List D}{v:Value}(h:Qu w ok l r v)(o:∀p:Addr,ok p.block->w'.cell? p=w.cell? p):Qu w' ok l r v:=by
 unfold Qu at h⊢;split
 ·rename_i f;rw[if_pos f]at h;obtain⟨vs,g,j,t⟩:=h;exact⟨vs,g,j,λi d u a b=>(t i d u a b).keep o⟩
 ·rename_i f;rw[if_neg f]at h;obtain⟨d,g,j⟩:=h;exact⟨d,g,j.keep o⟩
theorem Qu.weak{w:World}{ok ok':Nat->Prop}{l:Bool}{r:List D}{v:Value}(h:Qu w ok l r v)(o:∀b,ok b->ok' b):Qu w ok' l r v:=by
 unfold Qu at h⊢;split
 ·rename_i f;rw[if_pos f]at h;obtain⟨vs,g,j,t⟩:=h;exact⟨vs,g,j,λi d u a b=>(t i d u a b).weak o⟩
 ·rename_i f;rw[if_neg f]at h;obtain⟨d,g,j⟩:=h;exact⟨d,g,j.weak o⟩
structure I6 (w:World) (ok:Nat->Prop) (ks ag:Bool) (n:Nat) (ents:List (D×List D)) (es:Array MapEntry) (clock:Nat):Prop where
 st:MapKept.Stamped es clock
 keys:∀p∈ents,D.U7 ks p.1=true/\p.2.length=n
 nodup:ents.Pairwise λp q=>D.Ut p.1 q.1=false
 perm:∃l:List (D×List D),l.Perm ents/\l.length=es.size/\∀(i:Nat) (e:MapEntry) (p:D×List D),es[i]? =some e->l[i]? =some p->Xk w ok p.1 e.key/\Qu w ok ag p.2 e.val
theorem I6.keep{w w':World}{ok ok':Nat->Prop}{j o:Bool}{n:Nat}{f:List (D×List D)}{r:Array MapEntry}{clock:Nat}(h:I6 w ok j o n f r clock)(t:∀p:Addr,ok p.block->w'.cell? p=w.cell? p)(g:∀b,ok b->ok' b):I6 w' ok' j o n f r clock:=by
 obtain⟨l,I,J,C⟩:=h.perm;exact⟨h.st,h.keys,h.nodup,l,I,J,λi e p a b=>⟨((C i e p a b).1.keep t).weak g,((C i e p a b).2.keep t).weak g⟩⟩
theorem D.Yh(a b:D):D.Ut a b=D.Ut b a:=by
 cases a<;> cases b<;> simp[D.Ut,eq_comm]
theorem I6.reorder{w:World}{ok:Nat->Prop}{j o:Bool}{n:Nat}{g f:List (D×List D)}{r:Array MapEntry}{clock:Nat}(h:I6 w ok j o n g r clock)(hp:g.Perm f):I6 w ok j o n f r clock:=by
 obtain⟨l,t,C,I⟩:=h.perm;exact⟨h.st,λp J=>h.keys p (hp.mem_iff.2 J),(hp.pairwise_iff λ{a b} i=>by rw[D.Yh];exact i).1 h.nodup,l,t.trans hp,C,I⟩
structure Tt (w:World) (ok:Nat->Prop) (ks ag:Bool) (n:Nat) (ents:List (Nat×D×List D)) (es:Array MapEntry) (clock:Nat):Prop where
 st:MapKept.Stamped es clock
 keys:∀p∈ents,D.U7 ks p.2.1=true/\p.2.2.length=n
 nodup:ents.Pairwise λp q=>D.Ut p.2.1 q.2.1=false
 size:ents.length=es.size
 at':∀(i:Nat) (e:MapEntry) (p:Nat×D×List D),es[i]? =some e->ents[i]? =some p->p.1=e.born/\Xk w ok p.2.1 e.key/\Qu w ok ag p.2.2 e.val
def RV(w:World)(ok:Nat->Prop)(g:Gh)(o:Nat):Raw->Prop
 | .births b j l n clock f=>g.bl o=some b/\∃i,w.heap[b]? =some (.map i clock)/\Tt w ok j l n f i clock
 | .iter b clock seen=>∃bi,g.bl o=some bi/\w.heap[bi]? =some (.mapIter (some b) clock seen.toArray clock)
theorem RV.mono{w w':World}{ok ok':Nat->Prop}{g g':Gh}{o:Nat}{r:Raw}(h:RV w ok g o r)(C:∀b,g.bl o=some b->w'.heap[b]? =w.heap[b]?)(I:g'.bl o=g.bl o)(J:∀p:Addr,ok p.block->w'.cell? p=w.cell? p)(j:∀b,ok b->ok' b):RV w' ok' g' o r:=by
 cases r with
 |births b U ag n clock P=>
  obtain⟨l,T,t,f⟩:=h;exact⟨I.trans l,T,(C b l).trans t,f.st,f.keys,f.nodup,f.size,λi e p a c=>⟨(f.at' i e p a c).1,((f.at' i e p a c).2.1.keep J).weak j,((f.at' i e p a c).2.2.keep J).weak j⟩⟩
 |iter b clock seen=>
  obtain⟨bi,l,t⟩:=h;exact⟨bi,I.trans l,(C bi l).trans t⟩
theorem RV.at'{w:World}{ok:Nat->Prop}{g g':Gh}{o f:Nat}{r:Raw}(h:RV w ok g o r)(i:g'.bl f=g.bl o):RV w ok g' f r:=by
 cases r with
 |births b C I n clock j=>exact⟨i.trans h.1,h.2⟩
 |iter b clock seen=>
  obtain⟨bi,l,t⟩:=h;exact⟨bi,i.trans l,t⟩
def OR(w:World)(ok:Nat→Prop)(g:Gh)(m:Me)(o:Nat):Q9→Prop
 | .blk t cs=>∃b vs,g.bl o=some b∧w.heap[b]? =some (.cells vs t (0,0))∧KF w ok g m cs vs.toList
 | .arr e sz rows=>0<sz∧(∀(i:Nat) (r:List D),rows[i]? =some r→r.length=sz)∧
   ((g.bl o = none∧rows = [])∨∃ b cur,g.bl o = some b∧w.heap[b]? = some (.cells cur e (0,0))∧rows.length≤g.cp o∧g.cp o≤maxLen∧cur.size = g.cp o * sz ∧
    ∀(i j:Nat) (r:List D) (c:D) (v:Value),rows[i]? =some r→r[j]? =some c→cur[i * sz+j]? =some v→Xk w ok c v)
 | .map ks ag n ents=>∃b es clock,g.bl o=some b∧w.heap[b]? =some (.map es clock)∧I6 w ok ks ag n ents es clock
 | .raw r=>RV w ok g o r
structure Cx where
 w:World
 ok:Nat->Prop
 T:Nat->Prop
 g:Gh
def kept(i:Nat):Bool:=Nat.ble 1000 i
structure MS (C:Cx) (w:World) (ok:Nat->Prop) (g:Gh) (m:Me):Prop where
 obj:∀o x,m o=some x->OR w ok g m o x
 inj:∀i j xi xj b,m i=some xi->m j=some xj->g.bl i=some b->g.bl j=some b->i=j
 own:∀i x b,m i=some x->g.bl i=some b->¬ok b/\b<w.heap.size/\(C.w.heap.size<=b\/(C.T b/\500<=i))
 okb:∀b,ok b->b<w.heap.size/\(C.ok b\/C.w.heap.size<=b)
 okk:∀b,C.ok b->ok b
 size:C.w.heap.size<=w.heap.size
 heap:∀b,b<C.w.heap.size->¬C.T b->w.heap[b]? =C.w.heap[b]?
 keep:∀i,kept i=true->g.bl i=C.g.bl i/\g.cp i=C.g.cp i
 os:w.os=C.w.os
 tape:w.tape=C.w.tape
 output:w.output=C.w.output
 gi:GI C.w
 gb:∀b,GB b->¬C.T b
theorem MS.giw{C:Cx}{w:World}{ok:Nat->Prop}{g:Gh}{m:Me}(h:MS C w ok g m):GI w:=h.gi.keep λb f=>h.heap b (h.gi.lt f) (h.gb b f)
theorem World.ZI{w w':World}{p:Addr}(h:w'.heap[p.block]? =w.heap[p.block]?):w'.cell? p=w.cell? p:=World.cell?_of_block h
theorem OR.mono{w w':World}{ok ok':Nat->Prop}{g g':Gh}{m m':Me}{o:Nat}{x:Q9}(h:OR w ok g m o x)(q:Nat->Bool)
  (hx:match x with| .blk _ cs=>AV.Uv q cs=false|_=>True)
  (P:∀b,g.bl o=some b->w'.heap[b]? =w.heap[b]?) (J:g'.bl o=g.bl o) (U:g'.cp o=g.cp o) (T:∀p:Addr,ok p.block->w'.cell? p=w.cell? p) (l:∀b,ok b->ok' b)
  (hm:∀o x',q o=false->m' o=some x'->∃x,m o=some x/\x.like x'/\g'.bl o=g.bl o/\g'.cp o=g.cp o):OR w' ok' g' m' o x:=by
 cases x with
 |blk t cs=>
  obtain⟨b,vs,C,f,I⟩:=h;exact⟨b,vs,J.trans C,(P b C).trans f,I.mono q hx T l hm⟩
 |arr e sz rows=>
  obtain⟨h0,C,f⟩:=h;refine⟨h0,C,?_⟩;rcases f with⟨f,I⟩|⟨b,a1,f,I,h4,h5,h6,h7⟩
  ·exact .inl ⟨J.trans f,I⟩
  ·exact .inr ⟨b,a1,J.trans f,(P b f).trans I,by rw[U];exact h4,by rw[U];exact h5,by rw[U];exact h6,λi j r c v a b d=>((h7 i j r c v a b d).keep T).weak l⟩
 |map ks ag n a2=>
  obtain⟨b,es,clock,C,f,I⟩:=h;exact⟨b,es,clock,J.trans C,(P b C).trans f,I.keep T l⟩
 |raw r=>exact RV.mono h P J T l
end
section
open Go.RowKit
def AV.kill(q:Nat->Bool)(c:AV):AV:=if c.has q then .any else c
def Q9.kill(q:Nat->Bool):Q9->Q9
 | .blk t cs=>.blk t (cs.map (AV.kill q))
 | .arr e sz rows=>.arr e sz rows
 | .map g i n f=>.map g i n f
 | .raw r=>.raw r
theorem AV.Ep(q:Nat->Bool)(c:AV):(c.kill q).has q=false:=by
 unfold AV.kill;by_cases h:c.has q=true
 ·rw[if_pos h];rfl
 ·rw[if_neg h];simpa using h
theorem AV.IB(q:Nat->Bool)(l:List AV):AV.Uv q (l.map (AV.kill q))=false:=by
 induction l with
 |nil=>rfl
 |cons x r f=>simp only[List.map_cons,AV.Uv,AV.Ep,f,Bool.or_self]
section
variable {w w':World} {ok ok':Nat->Prop} {g g':Gh} {m m':Me}
theorem VR.kill{c:AV}{v:Value}(h:VR w ok g m c v)(q:Nat->Bool):VR w ok g m (c.kill q) v:=by
 unfold AV.kill;split
 ·exact .any v
 ·exact h
theorem KF.kill{cs:List AV}{vs:List Value}(h:KF w ok g m cs vs)(q:Nat->Bool):KF w ok g m (cs.map (AV.kill q)) vs:=by
 refine⟨by simpa using h.1,λi c v j l=>?_,h.2.2⟩;rw[List.getElem?_map]at j;obtain⟨o,f,rfl⟩:=Option.map_eq_some_iff.1 j;exact(h.2.1 i o v f l).kill q
theorem OR.kill{o:Nat}{x:Q9}(h:OR w ok g m o x)(q:Nat->Bool):OR w ok g m o (x.kill q):=by
 cases x with
 |blk t cs=>
  obtain⟨b,vs,i,j,l⟩:=h;exact⟨b,vs,i,j,l.kill q⟩
 |arr e sz rows=>exact h
 |map C I n f=>exact h
 |raw r=>exact h
theorem Q9.WR(q:Nat->Bool)(x:Q9):x.like (x.kill q):=by cases x<;> simp[Q9.like,Q9.kill]
def J7(m:Me)(U:Nat->Bool)(q:Nat->Bool)(N:Me):Me:=λi=>if U i then N i else (m i).map (Q9.kill q)
theorem MS.Zg7{C:Cx}(h:MS C w ok g m)(U q:Nat->Bool)(N:Me)(b0:∀i,q i=true->U i=true)
  (hN:∀i x,U i=true->N i=some x->OR w' ok' g' (J7 m U q N) i x)
  (hg:∀i,q i=false->g'.bl i=g.bl i/\g'.cp i=g.cp i)
  (hl:∀i J,U i=true->q i=false->N i=some J->∃x,m i=some x/\x.like J)
  (hh:∀i x b,U i=false->m i=some x->g.bl i=some b->w'.heap[b]? =w.heap[b]?)
  (a8:∀b,ok b->w'.heap[b]? =w.heap[b]?) (a3:∀b,ok b->ok' b) (a2:∀b,ok' b->ok b\/(b<w'.heap.size/\C.w.heap.size<=b/\∀i x,U i=false->m i=some x->g.bl i≠some b))
  (P:∀i x b,U i=true->N i=some x->g'.bl i=some b->¬ok' b/\b<w'.heap.size/\(C.w.heap.size<=b\/(C.T b/\500<=i))/\(∀j xj,U j=false->m j=some xj->g.bl j≠some b)/\∀j xj,U j=true->N j=some xj->g'.bl j=some b->i=j)
  (hK:∀i,q i=true->kept i=false) (b1:w.heap.size<=w'.heap.size)
  (a4:∀b,b<C.w.heap.size->¬C.T b->w'.heap[b]? =w.heap[b]?) (b2:w'.os=w.os) (a5:w'.tape=w.tape) (a9:w'.output=w.output):
  MS C w' ok' g' (J7 m U q N)/\∀c v,c.has q=false->VR w ok g m c v->VR w' ok' g' (J7 m U q N) c v:=by
 have hk:∀p:Addr,ok p.block->w'.cell? p=w.cell? p:=λp hp=>World.ZI (a8 _ hp)
 have hm:∀o J,q o=false->(J7 m U q N) o=some J->∃x,m o=some x/\x.like J/\g'.bl o=g.bl o/\g'.cp o=g.cp o:=by
  intro o J hq f;unfold J7 at f;by_cases hU:U o=true
  ·rw[if_pos hU]at f;obtain⟨x,hx,hl⟩:=hl o J hU hq f;exact⟨x,hx,hl,hg o hq⟩
  ·rw[if_neg hU]at f;obtain⟨x,hx,rfl⟩:=Option.map_eq_some_iff.1 f;exact⟨x,hx,Q9.WR q x,hg o hq⟩
 have hold:∀o J,U o=false->(J7 m U q N) o=some J->q o=false/\∃x,m o=some x/\J=x.kill q:=by
  intro o J hU f;unfold J7 at f;rw[if_neg (by simp[hU])]at f;obtain⟨x,hx,rfl⟩:=Option.map_eq_some_iff.1 f;refine⟨?_,x,hx,rfl⟩;rcases hq:q o
  ·rfl
  ·rw[b0 o hq]at hU;cases hU
 have I:∀o J,U o=true->(J7 m U q N) o=some J->N o=some J:=λo J hU f=>by unfold J7 at f;rwa [if_pos hU]at f
 refine⟨⟨λo J f=>?_,λi j xi xj b hi hj l a1=>?_,λi x b hi l=>?_,λb hb=>?_,λb hb=>a3 b (h.okk b hb),Nat.le_trans h.size b1,λb hb hT=>(a4 b hb hT).trans (h.heap b hb hT),
  λi hi=>?_,b2.trans h.os,a5.trans h.tape,a9.trans h.output,h.gi,h.gb⟩,λc v hc hv=>hv.mono q hc hk a3 hm⟩
 ·rcases hU:U o
  ·obtain⟨hq,x,hx,rfl⟩:=hold o J hU f;refine((h.obj o x hx).kill q).mono q ?_ (λb hb=>hh o x b hU hx hb) (hg o hq).1 (hg o hq).2 hk a3 hm;cases x with
   |blk t cs=>exact AV.IB q cs
   |arr e sz rows=>trivial
   |map ks ag n b3=>trivial
   |raw r=>trivial
  ·exact hN o J hU (I o J hU f)
 ·rcases hUi:U i
  ·obtain⟨a6,x,hx,rfl⟩:=hold i xi hUi hi;rw[(hg i a6).1]at l;rcases hUj:U j
   ·obtain⟨a7,y,hy,rfl⟩:=hold j xj hUj hj;rw[(hg j a7).1]at a1;exact h.inj i j x y b hx hy l a1
   ·exact absurd l ((P j xj b hUj (I j xj hUj hj) a1).2.2.2.1 i x hUi hx)
  ·rcases hUj:U j
   ·obtain⟨a7,y,hy,rfl⟩:=hold j xj hUj hj;rw[(hg j a7).1]at a1;exact absurd a1 ((P i xi b hUi (I i xi hUi hi) l).2.2.2.1 j y hUj hy)
   ·exact(P i xi b hUi (I i xi hUi hi) l).2.2.2.2 j xj hUj (I j xj hUj hj) a1
 ·rcases hUi:U i
  ·obtain⟨a6,y,hy,rfl⟩:=hold i x hUi hi;rw[(hg i a6).1]at l;obtain⟨h1,h2,h3⟩:=h.own i y b hy l;refine⟨λhb=>?_,by omega,h3⟩;rcases a2 b hb with h4|⟨_,_,h4⟩
   ·exact h1 h4
   ·exact h4 i y hUi hy l
  ·obtain⟨h1,h2,h3,_⟩:=P i x b hUi (I i x hUi hi) l;exact⟨h1,h2,h3⟩
 ·rcases a2 b hb with h1|⟨h1,h2,_⟩
  ·have:=h.okb b h1;exact⟨by omega,this.2⟩
  ·exact⟨h1,.inr h2⟩
 ·have h1:=h.keep i hi;have hq:q i=false:=by
   rcases hq:q i
   ·rfl
   ·rw[hK i hq]at hi;cases hi
  obtain⟨h2,h3⟩:=hg i hq;exact⟨h2.trans h1.1,h3.trans h1.2⟩
end
structure AS where
 n:Nat
 fr:List (Nat×AV)
 mem:List (Nat×Option Q9)
def X4:List (Nat×AV)->Nat->AV
 |[],_=>.any
 |(t,v)::r,u=>if t==u then v else X4 r u
def Q4:List (Nat×Option Q9)->Nat->Option Q9
 |[],_=>none
 |(t,v)::r,u=>if t==u then v else Q4 r u
def L6(q:Nat->Bool):List (Nat×AV)->List (Nat×AV)
 |[]=>[]
 |(t,v)::r=>(t,v.kill q)::L6 q r
def M6(q:Nat->Bool):List (Nat×Option Q9)->List (Nat×Option Q9)
 |[]=>[]
 |(t,v)::r=>(t,v.map (Q9.kill q))::M6 q r
theorem CE(q:Nat->Bool)(f:List (Nat×AV))(t:Nat):X4 (L6 q f) t=(X4 f t).kill q:=by
 induction f with
 |nil=>rfl
 |cons x r g=>obtain⟨u,v⟩:=x;simp only[L6,X4,g];split<;> rfl
theorem Ed(q:Nat->Bool)(f:List (Nat×Option Q9))(t:Nat):Q4 (M6 q f) t=(Q4 f t).map (Q9.kill q):=by
 induction f with
 |nil=>rfl
 |cons x r g=>obtain⟨u,v⟩:=x;simp only[M6,Q4,g];split<;> rfl
def Z5(l:List Nat)(i:Nat):Bool:=l.any (· ==i)
def Kz(l:List (Nat×Option Q9))(i:Nat):Bool:=l.any (·.1==i)
theorem FR(l r:List (Nat×Option Q9))(i:Nat):Q4 (l++r) i=if Kz l i then Q4 l i else Q4 r i:=by
 induction l with
 |nil=>rfl
 |cons x l f=>
  obtain⟨t,v⟩:=x;simp only[List.cons_append,Q4,f,Kz,List.any_cons];by_cases h:(t==i)=true
  ·simp[h]
  ·rw[Bool.not_eq_true]at h;simp only[h,Bool.false_or,Bool.false_eq_true,if_false];rfl
def St(C:Cx)(s:AS)(a:Act)(w:World):Prop:=
 ∃ok g,MS C w ok g (Q4 s.mem)/\a.tmps.size=s.n/\a.defers=[]/\∀t,VR w ok g (Q4 s.mem) (X4 s.fr t) (a.tmps.getD t undef)
structure Eff where
 q:List Nat
 ws:List (Nat×Option Q9)
def AS.after(s:AS)(f:Option Nat)(v:AV)(e:Eff):AS:=
 let q:=Z5 e.q
 let fr:=match e.q with|[]=>s.fr|_=>L6 q s.fr
 let mem:=match e.q with|[]=>s.mem|_=>M6 q s.mem
 { n:=s.n,fr:=match f with|some d=>(d,v)::fr|none=>fr,mem:=e.ws++mem }
theorem Q9.QS{q:Nat->Bool}(f:∀i,q i=false)(x:Q9):x.kill q=x:=by
 have g:∀c:AV,c.kill q=c:=λc=>by
  unfold AV.kill;rw[if_neg];have:∀c:AV,c.has q=false:=λc=>AV.rec (motive_1:=λc=>c.has q=false) (motive_2:=λl=>AV.Uv q l=false) (by rfl) (λ_=>rfl) (λ_=>rfl) (λ_=>rfl) (λo _=>f o) (λo _ _=>f o) (λo _ _=>f o) (λo=>f o)
   (λcs h=>h) (λcs h=>h) (λ_ cs h=>h) rfl (λx r g j=>by simp only[AV.Uv,g,j,Bool.or_self]) c
  simp[this c]
 have j:AV.kill q=id:=funext g;cases x<;> simp[Q9.kill,j]
theorem AV.Gq{q:Nat->Bool}(f:∀i,q i=false)(c:AV):c.has q=false:=
 AV.rec (motive_1:=λc=>c.has q=false) (motive_2:=λl=>AV.Uv q l=false) (by rfl) (λ_=>rfl) (λ_=>rfl) (λ_=>rfl) (λo _=>f o) (λo _ _=>f o) (λo _ _=>f o) (λo=>f o)
   (λcs h=>h) (λcs h=>h) (λ_ cs h=>h) rfl (λx r g j=>by simp only[AV.Uv,g,j,Bool.or_self]) c
theorem AS.V7(s:AS)(f:Option Nat)(v:AV)(e:Eff):Q4 (s.after f v e).mem=J7 (Q4 s.mem) (Kz e.ws) (Z5 e.q) (Q4 e.ws):=by
 funext i;simp only[AS.after,J7,FR];split
 ·rfl
 ·rcases hq:e.q with _|⟨a,b⟩
  ·have:(Q9.kill (Z5 ([]:List Nat)))=id:=funext λx=>Q9.QS (λ_=>rfl) x
   simp[this]
  ·simp only[Ed]
theorem AS.Y9(s:AS)(f:Option Nat)(v:AV)(e:Eff)(t:Nat):X4 (s.after f v e).fr t=if f=some t then v else (X4 s.fr t).kill (Z5 e.q):=by
 have j:X4 (match e.q with|[]=>s.fr|_=>L6 (Z5 e.q) s.fr) t=(X4 s.fr t).kill (Z5 e.q):=by
  rcases hq:e.q with _|⟨a,b⟩
  ·simp only[AV.kill,AV.Gq (λ_=>rfl:∀i,Z5 ([]:List Nat) i=false)];rfl
  ·simp only[CE]
 simp only[AS.after];cases f with
 |none=>simpa using j
 |some d=>
  simp only[X4,Option.some.injEq];by_cases g:d=t
  ·simp[g]
  ·simp only[g,if_false];rw[if_neg (by simpa using g)];exact j
theorem St.after{C:Cx}{s:AS}{a:Act}{w w':World}{ok ok':Nat->Prop}{g g':Gh}(o:a.tmps.size=s.n)(I:a.defers=[])(J:∀t,VR w ok g (Q4 s.mem) (X4 s.fr t) (a.tmps.getD t undef))
  (f:Option Nat) (j:∀d,f=some d->d<s.n) (c:AV) (v:Value) (e:Eff)
  (r:MS C w' ok' g' (J7 (Q4 s.mem) (Kz e.ws) (Z5 e.q) (Q4 e.ws))/\∀c v,c.has (Z5 e.q)=false->VR w ok g (Q4 s.mem) c v->VR w' ok' g' (J7 (Q4 s.mem) (Kz e.ws) (Z5 e.q) (Q4 e.ws)) c v)
  (P:f≠none->VR w' ok' g' (J7 (Q4 s.mem) (Kz e.ws) (Z5 e.q) (Q4 e.ws)) c v):St C (s.after f c e) (a.put f v) w':=by
 refine⟨ok',g',by rw[AS.V7];exact r.1,?_,?_,λt=>?_⟩
 ·cases f<;> simpa[Act.put,AS.after]using o
 ·cases f<;> simpa[Act.put]using I
 ·rw[AS.V7,AS.Y9];have hold:VR w' ok' g' (J7 (Q4 s.mem) (Kz e.ws) (Z5 e.q) (Q4 e.ws)) ((X4 s.fr t).kill (Z5 e.q)) (a.tmps.getD t undef):=
   r.2 _ _ (AV.Ep _ _) ((J t).kill _)
  cases f with
  |none=>simpa[Act.put]using hold
  |some d=>
   have l:=j d rfl;by_cases i:d=t
   ·subst i;simp only[if_true,Act.put];have:(a.tmps.setIfInBounds d v).getD d undef=v:=by simp[o,l]
    rw[this];exact P (by simp)
   ·have:(a.tmps.setIfInBounds d v).getD t undef=a.tmps.getD t undef:=by simp[Array.getElem?_setIfInBounds_ne i]
    simp only[Act.put,this,Option.some.injEq,i,if_false];exact hold
end
section
open Go.RowKit
def O1:Value->AV
 | .int .i64 n=>if -9223372036854775808<=n/\n<=9223372036854775807 then .d (.int n)else .any
 | .int k n=>if k.min<=n/\n<=k.max then .d (.num k n)else .any
 | .bool b=>.d (.bool b)
 | .string s=>if s.size<=maxLen then .d (.str s)else .any
 | .pointer none=>.d .nil
 | .slice none 0 0=>.lit (.slice none 0 0)
 | .nilFunc=>.lit .nilFunc
 | .map none=>.lit (.map none)
 |_=>.any
def Gj:Value->AV
 | .int .i64 n=>if -9223372036854775808<=n/\n<=9223372036854775807 then .d (.int n)else .any
 | .int k n=>if k.min<=n/\n<=k.max then .d (.num k n)else .any
 | .bool b=>.d (.bool b)
 | .string s=>if s.size<=maxLen then .d (.str s)else .any
 | .pointer none=>.d .nil
 | .slice none 0 0=>.lit (.slice none 0 0)
 | .nilFunc=>.lit .nilFunc
 | .map none=>.lit (.map none)
 | .agg vs=>if vs.toList.all (·.oneCell')then .agg (vs.toList.map O1)else .any
 |_=>.any
def V5(f:List (Nat×AV)):Operand->AV
 | .tmp t=>X4 f t
 | .const v=>Gj v
 | .global _=>.any
 | .func f=>.d (.fn f)
section
variable {w:World} {ok:Nat->Prop} {g:Gh} {m:Me}
theorem AX(v:Value):VR w ok g m (O1 v) v:=by
 unfold O1;split
 ·split
  ·rename_i n h;exact .d _ _ (.int n h.1 h.2)
  ·exact .any _
 ·split
  ·rename_i n _ h;exact .d _ _ (.num _ n h.1 h.2)
  ·exact .any _
 ·exact .d _ _ (.bool _)
 ·split
  ·rename_i n h;exact .d _ _ (.str _ h)
  ·exact .any _
 ·exact .d _ _ .nil
 ·exact .lit _ rfl
 ·exact .lit _ rfl
 ·exact .lit _ rfl
 ·exact .any _
theorem Vm(v:Value):VR w ok g m (Gj v) v:=by
 unfold Gj;split
 ·split
  ·rename_i n h;exact .d _ _ (.int n h.1 h.2)
  ·exact .any _
 ·split
  ·rename_i n _ h;exact .d _ _ (.num _ n h.1 h.2)
  ·exact .any _
 ·exact .d _ _ (.bool _)
 ·split
  ·rename_i n h;exact .d _ _ (.str _ h)
  ·exact .any _
 ·exact .d _ _ .nil
 ·exact .lit _ rfl
 ·exact .lit _ rfl
 ·exact .lit _ rfl
 ·split
  ·rename_i vs h;refine .agg _ _ (by simp) (λi c v f j=>?_) (λi v j=>?_)
   ·rw[List.getElem?_map,Array.getElem?_toList,j]at f;simp only[Option.map_some,Option.some.injEq]at f;subst f;exact AX v
   ·exact List.all_eq_true.1 h v (by
     have:=Array.mem_of_getElem? j;simpa using this)
  ·exact .any _
 ·exact .any _
theorem WT{f:List (Nat×AV)}{a:Act}(i:∀t,VR w ok g m (X4 f t) (a.tmps.getD t undef))(x:Operand):VR w ok g m (V5 f x) (a.eval x):=by
 cases x with
 |tmp t=>exact i t
 |const v=>exact Vm v
 |global b=>exact .any _
 |func f=>exact .d _ _ (.fn f)
end
def Vw(P:Program)(t:TypeId):Option (Bool×Nat):=
 match P.underlying t,P.info? t with
 |some d,some i=>some (match d with| .struct _| .array _ _=>true|_=>false,i.size)
 |_,_=>none
def Zk(P:Program)(t:TypeId)(f:Nat):Option (Nat×Bool×Nat):=
 match P.underlying t with
 |some (.struct i)=>match i[f]? with
  |some x=>match Vw P x.type with
   |some (g,n)=>if n=0 then none else some (x.offset,g,n)
   |none=>none
  |none=>none
 |_=>none
def H7(P:Program)(t:TypeId):Option (TypeId×Nat):=
 match P.underlying t with
 |some (.slice e)=>match P.info? e with
  |some i=>some (e,i.size)
  |none=>none
 |_=>none
theorem YN{P:Program}{t:TypeId}{b:Bool}{n:Nat}(h:Vw P t=some (b,n))(w:World):(isAgg t).run P w= .ok b w/\(sizeOf t).run P w= .ok n w:=by
 unfold Vw at h;rcases hu:P.underlying t with _|d
 ·rw[hu]at h;simp at h
 ·rcases hi:P.info? t with _|i
  ·rw[hu,hi]at h;simp at h
  ·rw[hu,hi]at h;simp only[Option.some.injEq,Prod.mk.injEq]at h;obtain⟨rfl,rfl⟩:=h;refine⟨?_,by simp[sizeOf,typeInfo,hi]⟩;simp only[isAgg,Sem.run_bind,run_underlying hu,Result.andThen_ok];cases d<;> rfl
def Lx(b:Bool)(cs:List AV):Option AV:=if b then some (.agg cs)else match cs with|[c]=>some c|_=>none
theorem De{w:World}{ok:Nat->Prop}{g:Gh}{m:Me}{b:Bool}{cs:List AV}{c:AV}(h:Lx b cs=some c){vs:List Value}(j:KF w ok g m cs vs):
  (b=true->VR w ok g m c (.agg vs.toArray))/\(b=false->∃v,vs=[v]/\VR w ok g m c v):=by
 unfold Lx at h;cases b
 ·refine⟨by simp,λ_=>?_⟩;match cs,h with
  |[t],h=>
   simp at h;subst h;obtain⟨l,o,_⟩:=j;match vs,l with
   |[v],_=>exact⟨v,rfl,o 0 _ _ rfl rfl⟩
 ·refine⟨λ_=>?_,by simp⟩;simp at h;subst h;refine .agg cs _ (by simpa using j.1) (λi c v r f=>j.2.1 i c v r (by simpa using f)) (λi v f=>j.2.2 v (List.mem_iff_getElem?.2 ⟨i,by simpa using f⟩))
def Kk(m:Me)(p:AV)(n:Nat):Option (List AV):=
 match p with
 | .ptr o f=>match m o with
  |some (.blk _ cs)=>if f+n<=cs.length then some ((cs.drop f).take n)else none
  |_=>none
 | .Rx o i j=>match m o with
  |some (.arr _ _ rows)=>match rows[i]? with
   |some r=>if j+n<=r.length then some (((r.drop j).take n).map AV.d)else none
   |none=>none
  |_=>none
 | .d (.ptr r)=>if n<=r.length then some ((r.take n).map AV.d)else none
 |_=>none
theorem KF.seg{w:World}{ok:Nat->Prop}{g:Gh}{m:Me}{cs:List AV}{vs:List Value}(h:KF w ok g m cs vs)(o n:Nat):KF w ok g m ((cs.drop o).take n) ((vs.drop o).take n):=by
 refine⟨by simp[h.1],λi c v j f=>?_,λv f=>h.2.2 v (List.drop_subset _ _ (List.take_subset _ _ f))⟩;rw[List.getElem?_take]at j f;split at j
 ·rw[if_pos (by assumption)]at f;rw[List.getElem?_drop]at j f;exact h.2.1 _ c v j f
 ·cases j
theorem MS.rd{C:Cx}{w:World}{ok:Nat->Prop}{g:Gh}{m:Me}(hM:MS C w ok g m){p:AV}{v:Value}(hp:VR w ok g m p v){n:Nat}{cs:List AV}(h:Kk m p n=some cs):
  ∃b l vs,v= .pointer (some ⟨b,l,none⟩)/\vs.length=n/\(∀j u,vs[j]? =some u->w.cell? ⟨b,l+j,none⟩=some u)/\KF w ok g m cs vs:=by
 unfold Kk at h;split at h
 ·rename_i o l;split at h
  ·rename_i t a4 hm;split at h
   ·rename_i a1;simp at h;subst h;obtain⟨b,hb,rfl⟩:=hp.Ga hm;obtain⟨b',vs,a2,hw,a3⟩:=hM.obj o _ hm;rw[hb]at a2;obtain rfl:=Option.some.inj a2;refine⟨b,l,(vs.toList.drop l).take n,rfl,by have:=a3.1;simp at this;simp;omega,λj u f=>?_,a3.seg l n⟩;rw[List.getElem?_take]at f;split at f
    ·rw[List.getElem?_drop]at f;rw[cell_of_row w b _ vs t (0,0) hw];simpa using f
    ·cases f
   ·cases h
  ·cases h
 ·rename_i o i j;split at h
  ·rename_i e sz rows hm;split at h
   ·rename_i r hr;split at h
    ·rename_i a1;simp at h;subst h;obtain⟨b,hb,rfl⟩:=hp.UD hm;obtain⟨h0,h1,h2⟩:=hM.obj o _ hm;rcases h2 with⟨_,h3⟩|⟨b',J,h2,h3,h4,h5,h6,h7⟩
     ·subst h3;simp at hr
     ·rw[hb]at h2;obtain rfl:=Option.some.inj h2;have a5:=h1 i r hr;have hi:i<rows.length:=(List.getElem?_eq_some_iff.1 hr).1;have a6:i * sz+sz<=J.size:=by
       rw[h6];have:(i+1) * sz<=g.cp o * sz:=Nat.mul_le_mul_right _ (by omega);rw[Nat.add_mul]at this;omega
      refine⟨b,i * sz+j,(J.toList.drop (i * sz+j)).take n,rfl,by simp;omega,λk u f=>?_,?_,λk c v hc P=>?_,λv P=>?_⟩
      ·rw[List.getElem?_take]at f;split at f
       ·rw[List.getElem?_drop]at f;rw[cell_of_row w b _ J e (0,0) h3];simpa using f
       ·cases f
      ·simp;omega
      ·rw[List.getElem?_take]at P;split at P
       ·rename_i T;rw[List.getElem?_drop]at P;rw[List.getElem?_take,if_pos T,List.getElem?_drop,List.getElem?_map]at hc;obtain⟨d,hd,rfl⟩:=Option.map_eq_some_iff.1 hc;exact .d _ _ (h7 i (j+k) r d v hr hd (by rw[<-Nat.add_assoc];simpa using P))
       ·cases P
      ·obtain⟨k,T⟩:=List.mem_iff_getElem?.1 P;rw[List.getElem?_take]at T;split at T
       ·rename_i a7;rw[List.getElem?_drop]at T;have hd:r[j+k]? =some r[j+k]:=List.getElem?_eq_getElem (by omega);exact(h7 i (j+k) r _ v hr hd (by rw[<-Nat.add_assoc];simpa using T)).oneCell
       ·cases T
    ·cases h
   ·cases h
  ·cases h
 ·rename_i r;split at h
  ·rename_i a1;simp at h;subst h;have hR:=hp.Zj;cases hR with
   |ptr row b o V a8 U I=>
    refine⟨b,o,(List.range n).map V,rfl,by simp,λj u f=>?_,by simp;omega,λj c u hc f=>?_,λu f=>?_⟩
    ·have hj:j<n:=by have:=(List.getElem?_eq_some_iff.1 f).1;simpa using this
     rw[U j (by omega)];simpa[hj]using f
    ·have hj:j<n:=by have:=(List.getElem?_eq_some_iff.1 f).1;simpa using this
     rw[List.getElem?_take,if_pos hj,List.getElem?_map]at hc;obtain⟨d,hd,rfl⟩:=Option.map_eq_some_iff.1 hc;have:=I j d hd;simp[hj]at f;subst f;exact .d _ _ this
    ·obtain⟨j,hj,rfl⟩:=List.mem_map.1 f;have a9:j<n:=by simpa using hj
     exact(I j _ (List.getElem?_eq_getElem (by omega))).oneCell
  ·cases h
 ·cases h
theorem JU{P:Program}{w:World}{t:TypeId}{b:Bool}{n:Nat}(I:Vw P t=some (b,n)){g f:Nat}{vs:List Value}(J:vs.length=n)(o:∀j u,vs[j]? =some u->w.cell? ⟨g,f+j,none⟩=some u):
  (b=true->(loadVar t ⟨g,f,none⟩).run P w= .ok (.agg vs.toArray) w)/\(b=false->∀v,vs=[v]->(loadVar t ⟨g,f,none⟩).run P w= .ok v w):=by
 obtain⟨r,T⟩:=YN I w;refine⟨λi=>?_,λi v l=>?_⟩
 ·subst i;have C:=run_loadCells_list (P:=P) w ⟨g,f,none⟩ vs (λj v l=>by rw[Addr.add_lit];exact o j v l);rw[J]at C;simp[loadVar,r,T,C]
 ·subst i l;have:=o 0 v rfl;simp only[Nat.add_zero]at this;simp[loadVar,r,this]
end
section
open Go.RowKit
def setAt{f:Type}:List f->Nat->List f->List f
 |l,_,[]=>l
 |[],_,_::_=>[]
 |_::l,0,c::cs=>c::setAt l 0 cs
 |x::l,n+1,c::cs=>x::setAt l n (c::cs)
theorem Iw{f:Type}(c:f)(cs:List f):∀(l:List f) (n:Nat),setAt l n (c::cs)=setAt (l.set n c) (n+1) cs
 |[],n=>by cases cs<;> simp[setAt]
 |x::l,0=>by
  cases cs with
  |nil=>simp[setAt]
  |cons d g=>simp[setAt]
 |x::l,n+1=>by
  have:=Iw c cs l n;cases cs with
  |nil=>simp[setAt]at this⊢;exact this
  |cons d g=>simp[setAt]at this⊢;exact this
theorem Zh{f:Type}:∀(cs l:List f) (n:Nat),n+cs.length<=l.length->setAt l n cs=l.take n++cs++l.drop (n+cs.length)
 |[],l,n,_=>by simp[setAt]
 |c::cs,l,n,h=>by
  simp at h;rw[Iw,Zh cs (l.set n c) (n+1) (by simp;omega)];apply List.ext_getElem?;intro k;simp only[List.getElem?_append,List.length_take,List.length_append,List.length_cons,List.getElem?_take,List.getElem?_drop,List.getElem?_set,List.length_set,List.getElem?_cons]
  grind
theorem Ck{f:Type}:∀(cs l:List f) (n:Nat),(setAt l n cs).length=l.length
 |[],l,n=>by simp[setAt]
 |c::cs,l,n=>by rw[Iw,Ck cs];simp
section
variable {w:World} {ok:Nat->Prop} {g:Gh} {m:Me}
theorem KF.set{cs:List AV}{vs:List Value}(h:KF w ok g m cs vs)(i:Nat){c:AV}{v:Value}(r:VR w ok g m c v)(t:v.oneCell'=true):KF w ok g m (cs.set i c) (vs.set i v):=by
 refine⟨by simpa using h.1,λj C o l f=>?_,λo f=>?_⟩
 ·rw[List.getElem?_set]at l f;split at l
  ·rw[if_pos (by assumption)]at f;split at l
   ·rw[if_pos (by have:=h.1;omega)]at f;obtain rfl:=Option.some.inj l;obtain rfl:=Option.some.inj f;exact r
   ·cases l
  ·rw[if_neg (by assumption)]at f;exact h.2.1 j C o l f
 ·rcases List.mem_or_eq_of_mem_set f with I|rfl
  ·exact h.2.2 o I
  ·exact t
theorem KF.setAt:∀(ds:List AV) (j:List Value) (cs:List AV) (vs:List Value) (n:Nat),KF w ok g m cs vs->KF w ok g m ds j->KF w ok g m (setAt cs n ds) (setAt vs n j)
 |[],[],cs,vs,n,h,_=>by cases cs<;> cases vs<;> simpa[Proofs.YtnddiddkmhiclaaGreatDoor.setAt]using h
 |d::ds,u::j,cs,vs,n,h,f=>by
  rw[Iw,Iw];exact KF.setAt ds j _ _ _ (h.set n (f.2.1 0 d u rfl rfl) (f.2.2 u (by simp))) ⟨by simpa using f.1,λi c v o l=>f.2.1 (i+1) c v o l,λv l=>f.2.2 v (by simp[l])⟩
 |[],u::j,cs,vs,n,h,f=>by have:=f.1;simp at this
 |d::ds,[],cs,vs,n,h,f=>by have:=f.1;simp at this
end
theorem Yo(f:Nat):∀(vs:List Value) (k:Nat) (cs:Array Value),((vs.zipIdx k).foldl (λcs (x:Value×Nat)=>cs.setIfInBounds (f+x.2) x.1) cs).toList=setAt cs.toList (f+k) vs
 |[],k,cs=>by cases h:cs.toList<;> simp[setAt,h]
 |v::vs,k,cs=>by
  rw[List.zipIdx_cons,List.foldl_cons,Yo f vs (k+1),Iw];simp[Nat.add_assoc]
theorem foldl_set(f:Nat)(vs cs:Array Value):(vs.zipIdx.foldl (λcs (x:Value×Nat)=>cs.setIfInBounds (f+x.2) x.1) cs).toList=setAt cs.toList f vs.toList:=by
 rw[<-Array.foldl_toList,Array.toList_zipIdx];simpa using Yo f vs.toList 0 cs
def L8(place:Nat->Option (Nat×Nat))(zero:List AV):List (Nat×AV)->Option (List AV)
 |[]=>some zero
 |(i,c)::f=>match place i,c.cells with
  |some (g,n),some cs=>if cs.length=n/\g+n<=zero.length then L8 place (setAt zero g cs) f else none
  |_,_=>none
theorem NV{w:World}{ok:Nat->Prop}{g:Gh}{m:Me}(place:Nat->Option (Nat×Nat)):∀(f:List (Nat×AV)) (zero:List AV) (ps:List (Nat×Value)) (l:Array Value) (cs:List AV),L8 place zero f=some cs->KF w ok g m zero l.toList->
  f.length=ps.length->(∀(i:Nat) (p:Nat×AV) (q:Nat×Value),f[i]? =some p->ps[i]? =some q->p.1=q.1/\VR w ok g m p.2 q.2)->∃vs,Instr.fill place l ps=some vs/\KF w ok g m cs vs.toList
 |[],zero,[],l,cs,h,o,_,_=>by simp[L8]at h;subst h;exact⟨l,rfl,o⟩
 |p::f,zero,[],l,cs,h,o,r,_=>by simp at r
 |[],zero,q::ps,l,cs,h,o,r,_=>by simp at r
 |(i,c)::f,zero,(j,v)::ps,l,cs,h,o,r,hp=>by
  obtain⟨h1,h2⟩:=hp 0 _ _ rfl rfl;dsimp only at h1 h2;subst h1;unfold L8 at h;split at h
  ·rename_i t n C I J;split at h
   ·rename_i P;obtain⟨a1,a2⟩:=P;have hv:=h2.cells J;have T:KF w ok g m (setAt zero t C) (v.cells.zipIdx.foldl (λcs (x:Value×Nat)=>cs.setIfInBounds (t+x.2) x.1) l).toList:=by
     rw[foldl_set];exact KF.setAt _ _ _ _ _ o hv
    obtain⟨vs,hf,U⟩:=NV place f _ ps _ cs h T (by simpa using r) (λk p q a b=>hp (k+1) p q a b);refine⟨vs,?_,U⟩;have e1:=hv.1;have e2:=o.1;simp at e1 e2;simp only[Instr.fill,I];rw[if_neg (by simp;omega)];exact hf
   ·cases h
  ·cases h
def Uz(P:Program)(t:TypeId):Option (List AV):=
 match P.info? t with
 |some i=>match i.zero with
  |some z=>if z.cells.toList.all (·.oneCell')then some (z.cells.toList.map Gj)else none
  |none=>none
 |none=>none
theorem RH{w:World}{ok:Nat->Prop}{g:Gh}{m:Me}(vs:List Value)(h:∀v∈vs,v.oneCell'=true):KF w ok g m (vs.map Gj) vs:=by
 refine⟨by simp,λi c v f j=>?_,h⟩;rw[List.getElem?_map,j]at f;simp at f;subst f;exact Vm v
theorem Wm{P:Program}{t:TypeId}{cs:List AV}(h:Uz P t=some cs)(j:World):∃z,(zeroValue t).run P j= .ok z j/\∀w ok g m,KF w ok g m cs z.cells.toList:=by
 unfold Uz at h;split at h
 ·rename_i i l;split at h
  ·rename_i z f;split at h
   ·rename_i o;simp at h;subst h;refine⟨z,by simp[zeroValue,typeInfo,l,f],λw ok g m=>RH _ λv r=>?_⟩;exact List.all_eq_true.1 o v r
   ·cases h
  ·cases h
 ·cases h
def Vx(P:Program)(t:TypeId):Option (List (Nat×Nat)):=
 match P.underlying t with
 |some (.struct g)=>g.toList.mapM λf=>(P.info? f.type).map λi=>(f.offset,i.size)
 |_=>none
theorem Ku{P:Program}{g i:Type}(f:g->Sem i)(h:g->Option i)(o:∀a b,h a=some b->∀w,(f a).run P w= .ok b w):∀(l:List g) (r:List i),l.mapM h=some r->∀w,(l.mapM f).run P w= .ok r w
 |[],r,hr,w=>by simp at hr;subst hr;rfl
 |a::l,r,hr,w=>by
  rw[List.mapM_cons]at hr;obtain⟨b,t,hr⟩:=Option.bind_eq_some_iff.1 hr;obtain⟨C,j,hr⟩:=Option.bind_eq_some_iff.1 hr;simp at hr;subst hr;rw[List.mapM_cons];simp[o a b t,Ku f h o l C j]
theorem GN{P:Program}{g i:Type}(f:g->Sem i)(h:g->Option i)(j:∀a b,h a=some b->∀w,(f a).run P w= .ok b w)(l:Array g)(r:List i)(hr:l.toList.mapM h=some r)(w:World):(l.mapM f).run P w= .ok r.toArray w:=by
 rw[<-Array.toArray_toList (xs:=l),List.mapM_toArray];simp[Ku f h j _ r hr]
def XT(P:Program)(t:TypeId)(f:List (Nat×AV)):Option AV:=
 match Uz P t,Vx P t with
 |some z,some pl=>match L8 (λi=>pl[i]?) z f with
  |some cs=>some (.agg cs)
  |none=>none
 |_,_=>none
theorem Zq6{P:Program}{w:World}{ok:Nat->Prop}{g:Gh}{m:Me}{t:TypeId}{j:List (Nat×AV)}{c:AV}(h:XT P t j=some c){ps:Array (Nat×Value)}
  (hl:j.length=ps.size) (hp:∀(i:Nat) (p:Nat×AV) (q:Nat×Value),j[i]? =some p->ps[i]? =some q->p.1=q.1/\VR w ok g m p.2 q.2):∃v,(Instr.build t ps).run P w= .ok v w/\VR w ok g m c v:=by
 unfold XT at h;split at h
 ·rename_i z pl hz l;split at h
  ·rename_i cs r;simp at h;subst h;obtain⟨U,C,I⟩:=Wm hz w;unfold Vx at l;split at l
   ·rename_i fs hu;have hm:=GN (P:=P) (λf:Field=>do pure (f.offset,<-sizeOf f.type)) _ (λf b hb w=>by
     obtain⟨i,hi,rfl⟩:=Option.map_eq_some_iff.1 hb;simp[sizeOf,typeInfo,hi]) fs pl l w
    obtain⟨vs,hf,o⟩:=NV (λi=>pl[i]?) j z ps.toList U.cells cs r (I w ok g m) (by simpa using hl) (λi p q a b=>hp i p q a (by simpa using b));refine⟨.agg vs,?_,.agg cs vs (by simpa using o.1) (λi c v hc J=>o.2.1 i c v hc (by simpa using J)) (λi v J=>o.2.2 v (List.mem_iff_getElem?.2 ⟨i,by simpa using J⟩))⟩;have T:Instr.fill (λi=>pl.toArray[i]?) U.cells ps.toList=some vs:=by simpa using hf
    simp only[Instr.build,Sem.run_bind,C,Result.andThen_ok,run_underlying hu,hm,T,Sem.run_pure]
   ·cases l
  ·cases h
 ·cases h
end
section
open Go.RowKit
def P7(n:Int):Prop:=-9223372036854775808<=n/\n<=9223372036854775807
def WY(f:BinOp)(a b:Int):Option (AV×Prop):=
 match f with
 | .add=>some (.d (.int (a+b)),P7 (a+b))
 | .sub=>some (.d (.int (a-b)),P7 (a-b))
 | .mul=>some (.d (.int (a * b)),P7 (a * b))
 | .quo=>some (.d (.int (a.tdiv b)),b≠0/\P7 (a.tdiv b))
 | .rem=>some (.d (.int (a.tmod b)),b≠0/\P7 (a.tmod b))
 | .eql=>some (.d (.bool (decide (a=b))),True)
 | .neq=>some (.d (.bool (decide (a≠b))),True)
 | .lss=>some (.d (.bool (decide (a<b))),True)
 | .leq=>some (.d (.bool (decide (a<=b))),True)
 | .gtr=>some (.d (.bool (decide (b<a))),True)
 | .geq=>some (.d (.bool (decide (b<=a))),True)
 |_=>none
theorem Ve:maxLen=9223372036854775807:=rfl
theorem Za{n:Int}(h:P7 n):IntKind.i64.wrap n=n:=by
 have g:=h.1;have i:=h.2;simp only[IntKind.wrap,IntKind.signed,IntKind.bits];simp only[Bool.true_and];split<;> rename_i f<;> simp at f<;> omega
theorem Zh1{P:Program}{w:World}{ok:Nat->Prop}{g:Gh}{m:Me}{f:BinOp}{a b:Int}{c:AV}{p:Prop}(h:WY f a b=some (c,p))(hp:p)(t j:TypeId)(x y:Operand):
  ∃v,(do eqGuard f t x y (.int .i64 a) (.int .i64 b);binOp f t (.int .i64 a) (.int .i64 b)).run P w= .ok v w/\VR w ok g m c v:=by
 have i:(eqGuard f t x y (.int .i64 a) (.int .i64 b)).run P w= .ok () w:=by
  unfold eqGuard;cases f<;> rfl
 rw[Sem.run_bind,i,Result.andThen_ok];cases f<;> simp only[WY,Option.some.injEq,Prod.mk.injEq,reduceCtorEq]at h
 case add=>obtain⟨rfl,rfl⟩:=h;exact⟨.int .i64 (a+b),by simp[binOp,Op.intArith,Za hp],.d _ _ (.int _ hp.1 hp.2)⟩
 case sub=>obtain⟨rfl,rfl⟩:=h;exact⟨.int .i64 (a-b),by simp[binOp,Op.intArith,Za hp],.d _ _ (.int _ hp.1 hp.2)⟩
 case mul=>obtain⟨rfl,rfl⟩:=h;exact⟨.int .i64 (a * b),by simp[binOp,Op.intArith,Za hp],.d _ _ (.int _ hp.1 hp.2)⟩
 case quo=>obtain⟨rfl,rfl⟩:=h;exact⟨.int .i64 (a.tdiv b),by simp[binOp,Op.intDiv,hp.1,Za hp.2],.d _ _ (.int _ hp.2.1 hp.2.2)⟩
 case rem=>obtain⟨rfl,rfl⟩:=h;exact⟨.int .i64 (a.tmod b),by simp[binOp,Op.intDiv,hp.1],.d _ _ (.int _ hp.2.1 hp.2.2)⟩
 case eql=>obtain⟨rfl,rfl⟩:=h;exact⟨.bool (decide (a=b)),by simp[binOp,Op.intCmp,BEq.beq],.d _ _ (.bool _)⟩
 case neq=>obtain⟨rfl,rfl⟩:=h;exact⟨.bool (decide (a≠b)),by simp[binOp,Op.intCmp,bne,BEq.beq],.d _ _ (.bool _)⟩
 case lss=>obtain⟨rfl,rfl⟩:=h;exact⟨.bool (decide (a<b)),by simp[binOp,Op.intCmp],.d _ _ (.bool _)⟩
 case leq=>obtain⟨rfl,rfl⟩:=h;exact⟨.bool (decide (a<=b)),by simp[binOp,Op.intCmp],.d _ _ (.bool _)⟩
 case gtr=>obtain⟨rfl,rfl⟩:=h;exact⟨.bool (decide (b<a)),by simp[binOp,Op.intCmp],.d _ _ (.bool _)⟩
 case geq=>obtain⟨rfl,rfl⟩:=h;exact⟨.bool (decide (b<=a)),by simp[binOp,Op.intCmp],.d _ _ (.bool _)⟩
def Zz5(P:Program)(t:TypeId):Prop:=∀(a b c d:Int) (w:World),(Op.equalIn 10000 t (.agg #[.int .i64 a,.int .i64 b]) (.agg #[.int .i64 c,.int .i64 d])).run P w= .ok (decide (a=c) && decide (b=d)) w/\
 ∀(f:BinOp) (x y:Operand),(eqGuard f t x y (.agg #[.int .i64 a,.int .i64 b]) (.agg #[.int .i64 c,.int .i64 d])).run P w= .ok () w
def XU(P:Program)(t:TypeId)(f:BinOp):AV->AV->Option (AV×Prop)
 | .d (.int a),.d (.int b)=>WY f a b
 | .d (.bool a),.d (.bool b)=>match f with
  | .eql=>some (.d (.bool (a==b)),P.underlying t=some .bool)
  | .neq=>some (.d (.bool (!(a==b))),P.underlying t=some .bool)
  |_=>none
 | .d (.str a),.d (.str b)=>match f with
  | .eql=>some (.d (.bool (decide (a=b))),True)
  | .neq=>some (.d (.bool (!(decide (a=b)))),True)
  | .add=>some (.d (.str (a++b)),a.size+b.size<=maxLen)
  |_=>none
 | .d (.num k a),.d (.num g b)=>if k=g then match f with
  | .eql=>some (.d (.bool (decide (a=b))),True)
  | .neq=>some (.d (.bool (!(decide (a=b)))),True)
  | .lss=>some (.d (.bool (decide (a<b))),True)
  | .leq=>some (.d (.bool (decide (a<=b))),True)
  | .gtr=>some (.d (.bool (decide (b<a))),True)
  | .geq=>some (.d (.bool (decide (b<=a))),True)
  | .add=>some (.d (.num k (a+b)),k.min<=a+b/\a+b<=k.max/\k.wrap (a+b)=a+b)
  | .sub=>some (.d (.num k (a-b)),k.min<=a-b/\a-b<=k.max/\k.wrap (a-b)=a-b)
  |_=>none else none
 | .agg [.d (.int a),.d (.int b)],.agg [.d (.int c),.d (.int d)]=>match f with
  | .eql=>some (.d (.bool (decide (a=c) && decide (b=d))),Zz5 P t)
  | .neq=>some (.d (.bool (!(decide (a=c) && decide (b=d)))),Zz5 P t)
  |_=>none
 |_,_=>none
theorem VR.pair{w:World}{ok:Nat->Prop}{g:Gh}{m:Me}{a b:Int}{v:Value}(h:VR w ok g m (.agg [.d (.int a),.d (.int b)]) v):v= .agg #[.int .i64 a,.int .i64 b]:=by
 obtain⟨vs,rfl,l,f,_⟩:=h.Ju;simp at l;have o:vs[0]? =some (vs[0]'(by omega)):=Array.getElem?_eq_getElem _;have r:vs[1]? =some (vs[1]'(by omega)):=Array.getElem?_eq_getElem _;have t:=(f 0 _ _ rfl o).Zj.X5.1;have C:=(f 1 _ _ rfl r).Zj.X5.1;congr 1;apply Array.ext
 ·simp;omega
 ·intro i j _;match i,j with
  |0,_=>simpa using t
  |1,_=>simpa using C
  |i+2,j=>omega
theorem ByteArray.Vy(a b:ByteArray):(a.toList==b.toList)=decide (a=b):=by
 rw[ByteArray.toList_eq,ByteArray.toList_eq];by_cases h:a=b
 ·subst h;simp
 ·have:a.data.toList≠b.data.toList:=λe=>h (by
   have:=Array.toList_inj.1 e;cases a;cases b;simpa using this)
  have f:¬a.data=b.data:=λe=>this (by rw[e])
  simp[h,f]
theorem run_equalIn_bool{P:Program}{t:TypeId}(f:P.underlying t=some .bool)(w:World)(a b:Bool)(d:Nat):(Op.equalIn (d+1) t (.bool a) (.bool b)).run P w= .ok (a==b) w:=by
 simp only[Op.equalIn,Sem.run_bind,run_underlying f,Result.andThen_ok];rfl
theorem run_equal_bool{P:Program}{t:TypeId}(f:P.underlying t=some .bool)(w:World)(a b:Bool):(Op.equal t (.bool a) (.bool b)).run P w= .ok (a==b) w:=run_equalIn_bool f w a b 9999
theorem Zq7{P:Program}{w:World}{ok:Nat->Prop}{g:Gh}{m:Me}{j:BinOp}{t:TypeId}{C I:AV}{c:AV}{p:Prop}(h:XU P t j C I=some (c,p))(hp:p){a b:Value}(l:VR w ok g m C a)(o:VR w ok g m I b)(x y:Operand):
  ∃v,(do eqGuard j t x y a b;binOp j t a b).run P w= .ok v w/\VR w ok g m c v:=by
 unfold XU at h;split at h
 ·rw[l.Zj.X5.1,o.Zj.X5.1];exact Zh1 h hp t t x y
 ·rename_i f i;rw[l.Zj.ZL,o.Zj.ZL];have r:(eqGuard j t x y (.bool f) (.bool i)).run P w= .ok () w:=by
   unfold eqGuard;cases j<;> rfl
  rw[Sem.run_bind,r,Result.andThen_ok];split at h
  ·simp only[Option.some.injEq,Prod.mk.injEq]at h;obtain⟨rfl,rfl⟩:=h;exact⟨.bool (f==i),by simp only[binOp,Sem.run_bind,run_equal_bool hp,Result.andThen_ok];rfl,.d _ _ (.bool _)⟩
  ·simp only[Option.some.injEq,Prod.mk.injEq]at h;obtain⟨rfl,rfl⟩:=h;exact⟨.bool (!(f==i)),by simp only[binOp,Sem.run_bind,run_equal_bool hp,Result.andThen_ok];rfl,.d _ _ (.bool _)⟩
  ·cases h
 ·rename_i f i;obtain⟨rfl,T⟩:=l.Zj.P9;obtain⟨rfl,U⟩:=o.Zj.P9;have r:(eqGuard j t x y (.string f) (.string i)).run P w= .ok () w:=by
   unfold eqGuard;cases j<;> rfl
  rw[Sem.run_bind,r,Result.andThen_ok];split at h
  ·simp only[Option.some.injEq,Prod.mk.injEq]at h;obtain⟨rfl,rfl⟩:=h;exact⟨.bool (decide (f=i)),by simp[binOp,Op.stringOp,ByteArray.Vy],.d _ _ (.bool _)⟩
  ·simp only[Option.some.injEq,Prod.mk.injEq]at h;obtain⟨rfl,rfl⟩:=h;exact⟨.bool (!(decide (f=i))),by simp[binOp,Op.stringOp,ByteArray.Vy],.d _ _ (.bool _)⟩
  ·simp only[Option.some.injEq,Prod.mk.injEq]at h;obtain⟨rfl,rfl⟩:=h;refine⟨.string (f++i),?_,.d _ _ (.str _ (by simpa using hp))⟩;simp only[binOp,Op.stringOp];rw[if_neg (by rw[Ve]at hp;simp[IntKind.max,IntKind.signed,IntKind.bits];omega)];rfl
  ·cases h
 ·rename_i k f k' i;split at h
  ·rename_i hk;subst hk;cases l.Zj with
   |num _ _ l1 u1=>
   cases o.Zj with
   |num _ _ l2 u2=>
   have r:(eqGuard j t x y (.int k f) (.int k i)).run P w= .ok () w:=by
    unfold eqGuard;cases j<;> rfl
   rw[Sem.run_bind,r,Result.andThen_ok];split at h<;> simp only[Option.some.injEq,Prod.mk.injEq,reduceCtorEq]at h
   all_goals obtain⟨rfl,rfl⟩:=h
   ·exact⟨.bool (decide (f=i)),by simp[binOp,Op.intCmp,BEq.beq],.d _ _ (.bool _)⟩
   ·exact⟨.bool (!(decide (f=i))),by simp[binOp,Op.intCmp,bne,BEq.beq],.d _ _ (.bool _)⟩
   ·exact⟨.bool (decide (f<i)),by simp[binOp,Op.intCmp],.d _ _ (.bool _)⟩
   ·exact⟨.bool (decide (f<=i)),by simp[binOp,Op.intCmp],.d _ _ (.bool _)⟩
   ·exact⟨.bool (decide (i<f)),by simp[binOp,Op.intCmp],.d _ _ (.bool _)⟩
   ·exact⟨.bool (decide (i<=f)),by simp[binOp,Op.intCmp],.d _ _ (.bool _)⟩
   ·exact⟨.int k (f+i),by simp[binOp,Op.intArith,hp.2.2],.d _ _ (.num _ _ hp.1 hp.2.1)⟩
   ·exact⟨.int k (f-i),by simp[binOp,Op.intArith,hp.2.2],.d _ _ (.num _ _ hp.1 hp.2.1)⟩
  ·cases h
 ·rename_i f i c' d';rw[l.pair,o.pair];split at h<;> simp only[Option.some.injEq,Prod.mk.injEq,reduceCtorEq]at h
  all_goals
   obtain⟨rfl,rfl⟩:=h;obtain⟨J,h2⟩:=hp f i c' d' w;rw[Sem.run_bind,h2,Result.andThen_ok]
  ·exact⟨_,by rw[run_eql_struct,J,Result.andThen_ok],.d _ _ (.bool _)⟩
  ·exact⟨_,by rw[run_neq_struct,J,Result.andThen_ok],.d _ _ (.bool _)⟩
 ·cases h
theorem DU{P:Program}{w:World}{f:Field}{b:Bool}{n:Nat}(h:Vw P f.type=some (b,n))(j:n≠0)(i g:Nat):(fieldPlace ⟨i,g,none⟩ f).run P w= .ok ⟨i,g+f.offset,none⟩ w:=by
 simp[fieldPlace,(YN h w).2,j,Addr.add_lit]
def Gz(m:Me)(f:Nat):AV->Option AV
 | .ptr o k=>match m o with|some (.blk _ _)=>some (.ptr o (k+f))|_=>none
 | .Rx o i j=>match m o with|some (.arr _ _ _)=>some (.Rx o i (j+f))|_=>none
 | .d (.ptr r)=>if f<=r.length then some (.d (.ptr (r.drop f)))else none
 |_=>none
theorem Rh{P:Program}{s:TypeId}{f i:Nat}{b:Bool}{n:Nat}(h:Zk P s f=some (i,b,n)):∃j x,P.underlying s=some (.struct j)/\j[f]? =some x/\Vw P x.type=some (b,n)/\n≠0/\x.offset=i:=by
 unfold Zk at h;split at h
 ·rename_i j l;split at h
  ·rename_i x o;split at h
   ·rename_i g t r;split at h
    ·cases h
    ·simp at h;obtain⟨rfl,rfl,rfl⟩:=h;exact⟨j,x,l,o,r,by assumption,rfl⟩
   ·cases h
  ·cases h
 ·cases h
theorem CF{P:Program}{C:Cx}{w:World}{ok:Nat->Prop}{g:Gh}{m:Me}(hM:MS C w ok g m){s:TypeId}{f J n:Nat}{b:Bool}(hf:Zk P s f=some (J,b,n)){c c':AV}(h:Gz m J c=some c'){v:Value}(hv:VR w ok g m c v):
  ∃v',(Instr.fieldAt s v f).run P w= .ok v' w/\VR w ok g m c' v':=by
 obtain⟨fs,x,hu,T,ha,hn,rfl⟩:=Rh hf;have go:∀l k,(Instr.fieldAt s (.pointer (some ⟨l,k,none⟩)) f).run P w= .ok (.pointer (some ⟨l,k+x.offset,none⟩)) w:=λl k=>by
  simp[Instr.fieldAt,run_underlying hu,T,Instr.sureAddr,DU ha hn]
 unfold Gz at h;split at h
 ·rename_i o k;split at h
  ·rename_i t cs hm;simp at h;subst h;obtain⟨l,hb,rfl⟩:=hv.Ga hm;exact⟨_,go l k,.ptr _ _ _ rfl λx T=>⟨l,hb,rfl⟩⟩
  ·cases h
 ·rename_i o i j;split at h
  ·rename_i e sz rows hm;simp at h;subst h;obtain⟨l,hb,rfl⟩:=hv.UD hm;refine⟨_,go l _,.Rx _ _ _ _ rfl λe' a3 a1 T=>?_⟩;rw[hm]at T;cases T;exact⟨l,hb,by rw[Nat.add_assoc]⟩
  ·cases h
 ·rename_i r;split at h
  ·rename_i a4;simp at h;subst h;have hR:=hv.Zj;cases hR with
   |ptr row l k V a2 I U=>
    refine⟨_,go l k,.d _ _ (.ptr _ l _ (λj=>V (x.offset+j)) a2 (λj hj=>?_) (λj d hd=>?_))⟩
    ·rw[Nat.add_assoc];simp at hj;exact I _ (by omega)
    ·rw[List.getElem?_drop]at hd;exact U _ d hd
  ·cases h
 ·cases h
def D8(m:Me)(sz:Nat):AV->Int->Option (AV×Prop)
 | .d (.sl rows),n=>match rows[n.toNat]? with
  |some r=>some (.d (.ptr r),0<=n/\r.length=sz)
  |none=>none
 | .arr o g k,n=>match m o with
  |some (.arr _ f _)=>if f=sz then some (.Rx o (g+n.toNat) 0,0<=n/\n<k)else none
  |_=>none
 |_,_=>none
theorem Cm{P:Program}{C:Cx}{w:World}{ok:Nat->Prop}{g:Gh}{m:Me}(hM:MS C w ok g m){t e:TypeId}{sz:Nat}(l:H7 P t=some (e,sz)){c c':AV}{n:Int}{p:Prop}(h:D8 m sz c n=some (c',p))(hp:p){v:Value}(hv:VR w ok g m c v):
  ∃v',(Instr.indexAt t v (.int .i64 n)).run P w= .ok v' w/\VR w ok g m c' v':=by
 unfold H7 at l;split at l
 ·rename_i e' hu;split at l
  ·rename_i i hi;simp at l;obtain⟨rfl,rfl⟩:=l;have go:∀(f k len cap:Nat),0<=n->n<(len:Int)->(Instr.indexAt t (.slice (some ⟨f,k,none⟩) len cap) (.int .i64 n)).run P w= .ok (.pointer (some ⟨f,k+n.toNat * i.size,none⟩)) w:=λf k len cap T h1=>by
    simp[Instr.indexAt,asIntOf,run_underlying hu,T,h1,sizeOf,typeInfo,hi,Addr.add_lit]
   unfold D8 at h;split at h
   ·rename_i rows;split at h
    ·rename_i r hr;simp only[Option.some.injEq,Prod.mk.injEq]at h;obtain⟨rfl,rfl⟩:=h;obtain⟨T,I⟩:=hp;have hR:=hv.Zj;have U:n.toNat<rows.length:=(List.getElem?_eq_some_iff.1 hr).1;cases hR with
     |empty a cc ha a3=>simp at U
     |sl rows size f o cc V a8 a7 a3 a1 a4 J a2=>
      have:size=i.size:=(a1 _ r hr).symm.trans I;subst this;refine⟨_,go f o _ cc T (by omega),.d _ _ (.ptr r f _ (λj=>V n.toNat j) a4 (λj hj=>?_) (λj d hd=>a2 _ j r d hr hd))⟩;rw[Nat.add_assoc];exact J _ _ U (by omega)
    ·cases h
   ·rename_i o lo k;split at h
    ·rename_i e2 a5 rows hm;split at h
     ·rename_i I;subst I;simp only[Option.some.injEq,Prod.mk.injEq]at h;obtain⟨rfl,rfl⟩:=h;obtain⟨T,h1⟩:=hp;obtain⟨h2,h3⟩:=hv.UR hm;rcases h3 with⟨_,_,_,h4⟩|⟨f,hb,rfl⟩|⟨_,h4,_⟩
      ·omega
      ·refine⟨_,go f _ k _ T h1,.Rx _ _ _ _ rfl λe' a5 a6 hx=>?_⟩;rw[hm]at hx;cases hx;exact⟨f,hb,by rw[Nat.add_mul,Nat.add_zero]⟩
      ·omega
     ·cases h
    ·cases h
   ·cases h
  ·cases l
 ·cases l
end
section
open Go.RowKit
def Fz:AV->Option Int->Option Int->Option (AV×Prop)
 | .d (.sl rows),f,g=>
  let l:=f.getD 0
  let h:=g.getD rows.length
  some (.d (.sl ((rows.drop l.toNat).take (h.toNat-l.toNat))),0<=l/\l<=h/\h<=rows.length)
 | .arr o k n,f,g=>
  let l:=f.getD 0
  let h:=g.getD n
  some (.arr o (k+l.toNat) (h.toNat-l.toNat),0<=l/\l<=h/\h<=n)
 | .lit (.slice none 0 0),f,g=>some (.lit (.slice none 0 0),f.getD 0=0/\g.getD 0=0)
 |_,_,_=>none
def Je(f:Operand->AV):Option Operand->Option (Option Int)
 |none=>some none
 |some x=>match f x with
  | .d (.int n)=>some (some n)
  |_=>none
def O4(f:Nat)(b:Bool)(n:Nat):AV->Option AV
 | .agg cs=>if f+n<=cs.length then Lx b ((cs.drop f).take n)else none
 |_=>none
def Y4(P:Program)(m:Me)(f:Operand->AV):Op->Option (AV×Prop)
 | .move x=>some (f x,True)
 | .assign x=>some (f x,True)
 | .pick c a b=>match f c with
  | .d (.bool true)=>some (f a,True)
  | .d (.bool false)=>some (f b,True)
  |_=>none
 | .build t g=>match XT P t (g.toList.map λx=>(x.1,f x.2))with
  |some c=>some (c,True)
  |none=>none
 | .fieldAddr s x k=>match Zk P s k with
  |some (j,_,_)=>match Gz m j (f x)with
   |some c=>some (c,True)
   |none=>none
  |none=>none
 | .field s x k=>match Zk P s k with
  |some (j,b,n)=>match O4 j b n (f x)with
   |some c=>some (c,True)
   |none=>none
  |none=>none
 | .indexAddr t x i=>match H7 P t,f i with
  |some (_,sz),.d (.int n)=>D8 m sz (f x) n
  |_,_=>none
 | .extract x i=>match f x with
  | .tuple cs=>match cs[i]? with
   |some c=>some (c,True)
   |none=>none
  |_=>none
 | .binOp I t x y _=>XU P t I (f x) (f y)
 | .unOp .not _ x=>match f x with
  | .d (.bool b)=>some (.d (.bool (!b)),True)
  |_=>none
 | .makeFunc (.func k) first cap=>if first.size=0 then some (.clo k (cap.toList.map f),True)else none
 | .load t x=>match Vw P t with
  |some (b,n)=>match Kk m (f x) n with
   |some cs=>match Lx b cs with
    |some c=>some (c,True)
    |none=>none
   |none=>none
  |none=>none
 | .slice t x J T none=>match H7 P t,Je f J,Je f T with
  |some (_,sz),some l,some h=>match f x with
   | .d (.sl rows)=>match Fz (.d (.sl rows)) l h with
    |some (c,p)=>some (c,p/\∀(i:Nat) (r:List D),rows[i]? =some r->r.length=sz)
    |none=>none
   | .arr o k n=>match m o with
    |some (.arr _ C _)=>if C=sz then Fz (.arr o k n) l h else none
    |_=>none
   |x=>Fz x l h
  |_,_,_=>none
 | .call c=>match c.callee,c.args.toList,c.argTypes.toList with
  | .builtin .len,[x],[t]=>match P.underlying t with
   |some (.slice _)=>match f x with
    | .d (.sl rows)=>some (.d (.int rows.length),True)
    | .arr o _ n=>match m o with
     |some (.arr _ _ _)=>some (.d (.int n),True)
     |_=>none
    | .lit (.slice none 0 0)=>some (.d (.int 0),True)
    |_=>none
   |some .string=>match f x with
    | .d (.str s)=>some (.d (.int s.size),True)
    |_=>none
   |_=>none
  |_,_,_=>none
 |_=>none
theorem WN:maxLen=9223372036854775807:=rfl
section
variable {P:Program} {C:Cx} {w:World} {ok:Nat->Prop} {g:Gh} {m:Me}
theorem RO(P:Program)(w:World)(len cap:Nat)(f g:Option Int)(j:0<=f.getD 0)(o:f.getD 0<=g.getD len)(r:g.getD len<=cap):
  (Instr.sliceBounds true len cap (f.map (Value.int .i64)) (g.map (Value.int .i64)) none).run P w= .ok ((f.getD 0).toNat,(g.getD len).toNat,cap) w:=by
 have i:∀(n:Int) (y:Nat) (code:BoundsCode),0<=n->n<=(y:Int)->(Instr.sliceBound (.int .i64 n) y code).run P w= .ok n.toNat w:=λn y code a b=>by
  unfold Instr.sliceBound;simp only[asIntOf,Sem.run_bind,Sem.run_pure,Result.andThen_ok];rw[if_pos ⟨a,b⟩];rfl
 rcases f with _|l<;> rcases g with _|h<;> simp only[Option.getD_none,Option.getD_some,Option.map_none,Option.map_some]at * <;> simp only[Instr.sliceBounds,Sem.run_bind,Sem.run_pure,Result.andThen_ok,Option.isSome_none]
 ·simp
 ·rw[i h cap _ (by omega) (by omega)];simp
 ·have:=i l len (if False then .slice3C else .sliceB) (by omega) (by omega);simp at this;simp[this]
 ·rw[i h cap _ (by omega) (by omega)];have:=i l h.toNat .sliceB (by omega) (by omega);simp[this]
theorem KR(hM:MS C w ok g m){t e:TypeId}(hu:P.underlying t=some (.slice e)){sz:Nat}(b2:(sizeOf e).run P w= .ok sz w){c c':AV}{I T:Option Int}{p:Prop}(h:Fz c I T=some (c',p))(hp:p){v:Value}(hv:VR w ok g m c v)
  (b3:∀o k n,c= .arr o k n->∃e rows,m o=some (.arr e sz rows)) (b4:∀rows,c= .d (.sl rows)->∀(i:Nat) (r:List D),rows[i]? =some r->r.length=sz):
  ∃v',(Instr.sliceAt t v (I.map (Value.int .i64)) (T.map (Value.int .i64)) none).run P w= .ok v' w/\VR w ok g m c' v':=by
 have go:∀(a:Option Addr) (len cap:Nat),0<=I.getD 0->I.getD 0<=T.getD len->T.getD len<=cap->(Instr.sliceAt t (.slice a len cap) (I.map (Value.int .i64)) (T.map (Value.int .i64)) none).run P w=
   .ok (.slice (if cap=(I.getD 0).toNat then a else a.map (·.add ((I.getD 0).toNat * sz))) ((T.getD len).toNat-(I.getD 0).toNat) (cap-(I.getD 0).toNat)) w:=λa len cap h0 h1 h2=>by
  simp[Instr.sliceAt,Instr.slice,run_underlying hu,RO P w len cap I T h0 h1 h2,b2]
 unfold Fz at h;split at h
 ·rename_i rows;simp only[Option.some.injEq,Prod.mk.injEq]at h;obtain⟨rfl,rfl⟩:=h;obtain⟨h0,h1,h2⟩:=hp;have hR:=hv.Zj;cases hR with
  |empty a cc ha a3=>
   simp at h0 h1 h2;have hl:I.getD 0=0:=by omega
   have hh:T.getD 0=0:=by omega
   refine⟨_,go a 0 cc (by omega) (by simp;omega) (by simp;omega),?_⟩;rw[hl];simp[hh];refine .d _ _ (.empty _ cc ?_ a3);intro J;split at J
   ·exact ha J
   ·exact ha (by simpa using J)
  |sl rows size b o cc V b5 b9 a3 a5 b6 a6 a8=>
   refine⟨_,go _ rows.length cc (by omega) (by omega) (by omega),?_⟩;generalize hl:I.getD 0=l at *;generalize hh:T.getD (rows.length:Int)=h at *;have f:((rows.drop l.toNat).take (h.toNat-l.toNat)).length=h.toNat-l.toNat:=by simp;omega
   rcases Nat.eq_zero_or_pos (h.toNat-l.toNat)with hz|hz
   ·rw[hz,List.take_zero];refine .d _ _ (.empty _ _ ?_ (by omega));split<;> simp
   ·have a4:¬cc=l.toNat:=by omega
    rw[if_neg a4];have a7:size=sz:=by
     rcases rows with _|⟨r,rs⟩
     ·exact absurd rfl b5
     ·exact(a5 0 r rfl).symm.trans (b4 _ rfl 0 r rfl)
    subst a7;have U:=Xk.sl (w:=w) (ok:=ok) ((rows.drop l.toNat).take (h.toNat-l.toNat)) size b (o+l.toNat * size) (cc-l.toNat) (λi j=>V (l.toNat+i) j) (λe=>by rw[e]at f;simp at f;omega)
     (by rw[f];omega) (by omega) (λi r hr=>?_) b6 (λi j T hj=>?_) (λi j r d hr hd=>?_)
    ·rw[f]at U;simpa[Addr.add_lit]using VR.d _ _ U
    ·rw[List.getElem?_take]at hr;split at hr
     ·rw[List.getElem?_drop]at hr;exact a5 _ r hr
     ·cases hr
    ·rw[f]at T;have:=a6 (l.toNat+i) j (by omega) hj;rw[<-this,Nat.add_mul];congr 2;omega
    ·rw[List.getElem?_take]at hr;split at hr
     ·rw[List.getElem?_drop]at hr;exact a8 _ j r d hr hd
     ·cases hr
 ·rename_i o k n;simp only[Option.some.injEq,Prod.mk.injEq]at h;obtain⟨rfl,rfl⟩:=h;obtain⟨h0,h1,h2⟩:=hp;obtain⟨e,rows,hm⟩:=b3 o k n rfl;obtain⟨h3,h4⟩:=hv.UR hm;have hO:=hM.obj o _ hm;rcases h4 with⟨hb,rfl,rfl,rfl⟩|⟨b,hb,rfl⟩|⟨hk,rfl,a,cc,rfl,a3,a9⟩
  ·simp at h0 h1 h2;have hl:I.getD 0=0:=by omega
   have hh:T.getD 0=0:=by omega
   refine⟨_,go none 0 0 (by omega) (by simp;omega) (by simp;omega),?_⟩;rw[hl];simp[hh];refine .arr _ _ _ _ rfl λe' b0 a1 U=>?_
   rw[hm]at U;cases U;exact⟨by simp,.inl ⟨hb,rfl,rfl,rfl⟩⟩
  ·obtain⟨c0,c1,a2⟩:=hO;rcases a2 with⟨a2,_⟩|⟨b',c2,a2,c3,c4,c5,_⟩
   ·rw[hb]at a2;cases a2
   ·refine⟨_,go _ n (g.cp o-k) (by omega) (by omega) (by omega),?_⟩;generalize hl:I.getD 0=l at *;generalize hh:T.getD (n:Int)=h at *;refine .arr _ _ _ _ (by rfl) λe' b0 a1 U=>?_
    rw[hm]at U;cases U;refine⟨by omega,?_⟩;by_cases a4:g.cp o-k=l.toNat
    ·rw[if_pos a4];rcases Nat.eq_zero_or_pos (k+l.toNat)with hz|hz
     ·right;left;refine⟨b,hb,?_⟩;have b7:k=0:=by omega
      have b8:l.toNat=0:=by omega
      subst b7;rw[b8];simp
     ·right;right;have b1:h.toNat-l.toNat=0:=by omega
      refine⟨hz,b1,_,_,by rw[b1],by omega,by simp⟩
    ·rw[if_neg a4];right;left;refine⟨b,hb,?_⟩;simp[Addr.add_lit,Nat.add_mul];omega
  ·simp at h0 h1 h2;have hl:I.getD 0=0:=by omega
   have hh:T.getD 0=0:=by omega
   refine⟨_,go a 0 cc (by omega) (by simp;omega) (by simp;omega),?_⟩;rw[hl];simp[hh];refine .arr _ _ _ _ (by rfl) λe' b0 a1 U=>?_
   rw[hm]at U;cases U;refine⟨by simpa using h3,.inr (.inr ⟨hk,rfl,_,cc,rfl,a3,?_⟩)⟩;intro J;split at J
   ·exact a9 J
   ·exact a9 (by simpa using J)
 ·simp only[Option.some.injEq,Prod.mk.injEq]at h;obtain⟨rfl,rfl⟩:=h;obtain⟨hl,hh⟩:=hp;obtain⟨rfl,_⟩:=hv.Fw;refine⟨_,go none 0 0 (by omega) (by simp;omega) (by simp;omega),?_⟩;rw[hl];simp[hh];exact .lit _ rfl
 ·cases h
end
end
section
open Go.RowKit
theorem Ze{P:Program}{t e:TypeId}{sz:Nat}(h:H7 P t=some (e,sz)):P.underlying t=some (.slice e)/\∃i,P.info? e=some i/\i.size=sz:=by
 unfold H7 at h;split at h
 ·rename_i j f;split at h
  ·rename_i i g;simp at h;obtain⟨rfl,rfl⟩:=h;exact⟨f,i,g,rfl⟩
  ·cases h
 ·cases h
section
variable {P:Program} {C:Cx} {w:World} {ok:Nat->Prop} {g:Gh} {m:Me}
theorem VR.map{f:Operand->AV}{j:Operand->Value}(C:∀x,VR w ok g m (f x) (j x))(l:Array Operand):(l.toList.map f).length=(l.map j).size/\∀(i:Nat) (c:AV) (v:Value),(l.toList.map f)[i]? =some c->(l.map j)[i]? =some v->VR w ok g m c v:=by
 refine⟨by simp,λi c v o r=>?_⟩;rw[List.getElem?_map]at o;rw[Array.getElem?_map]at r;obtain⟨x,t,rfl⟩:=Option.map_eq_some_iff.1 o;obtain⟨y,I,rfl⟩:=Option.map_eq_some_iff.1 r;rw[Array.getElem?_toList,I]at t;obtain rfl:=Option.some.inj t;exact C y
theorem Gi{f:Operand->AV}{i:Operand->Value}(j:∀x,VR w ok g m (f x) (i x)){x:Option Operand}{n:Option Int}(h:Je f x=some n):x.map i=n.map (Value.int .i64):=by
 unfold Je at h;split at h
 ·simp at h;subst h;rfl
 ·rename_i y;split at h
  ·rename_i k l;simp at h;subst h;have:=j y;rw[l]at this;simp[this.Zj.X5.1]
  ·cases h
theorem Ie{s:TypeId}{k f n:Nat}{b:Bool}(hf:Zk P s k=some (f,b,n)){c C:AV}(h:O4 f b n c=some C){v:Value}(j:VR w ok g m c v):
  ∃I,(Instr.field s v k).run P w= .ok I w/\VR w ok g m C I:=by
 obtain⟨fs,x,J,T,ha,hn,rfl⟩:=Rh hf;unfold O4 at h;split at h
 ·rename_i cs;split at h
  ·rename_i a1;obtain⟨vs,rfl,hl,h1,h2⟩:=j.Ju;have o:KF w ok g m cs vs.toList:=⟨by simpa using hl,λi c v hc j=>h1 i c v hc (by simpa using j),λv j=>by
    obtain⟨i,hi⟩:=List.mem_iff_getElem?.1 j;exact h2 i v (by simpa using hi)⟩
   obtain⟨k1,k2⟩:=De h (o.seg x.offset n);obtain⟨U,r2⟩:=YN ha w;cases b
   ·obtain⟨v,r,hr⟩:=k2 rfl;have t:vs[x.offset]? =some v:=by
     have l:((vs.toList.drop x.offset).take n)[0]? =some v:=by rw[r];rfl
     rw[List.getElem?_take]at l;split at l
     ·simpa using l
     ·cases l
    refine⟨v,?_,hr⟩;simp[Instr.field,run_underlying J,T,asAgg,part,U,t]
   ·refine⟨_,?_,k1 rfl⟩;simp only[Instr.field,Sem.run_bind,run_underlying J,Result.andThen_ok,T,asAgg,Sem.run_pure,part,U,r2,if_true,Result.ok.injEq,and_true];congr 1;apply Array.ext';simp[List.take_drop,Nat.add_comm]
  ·cases h
 ·cases h
theorem Ic(hM:MS C w ok g m){f:Operand->AV}{U:Operand->Value}(J:∀x,VR w ok g m (f x) (U x)){o:Oper}{c:AV}{p:Prop}(h:Y4 P m f o.op=some (c,p))(hp:p):
  ∃v,(execOp U o).run P w= .ok (.value v) w/\VR w ok g m c v:=by
 have val:∀{s:Sem Value} {v:Value},s.run P w= .ok v w->(do pure (Next.value (<-s)):Sem Next).run P w= .ok (.value v) w:=λ{s v} hs=>by simp[hs]
 obtain⟨b5,op,ty,pos,after,guard⟩:=o;dsimp only at h;unfold Y4 at h;split at h
 ·rename_i x;simp only[Option.some.injEq,Prod.mk.injEq]at h;obtain⟨rfl,_⟩:=h;exact⟨U x,rfl,J x⟩
 ·rename_i x;simp only[Option.some.injEq,Prod.mk.injEq]at h;obtain⟨rfl,_⟩:=h;exact⟨U x,rfl,J x⟩
 ·rename_i x y z;have j:=J x;split at h
  ·rename_i e;rw[e]at j;have:=j.Zj.ZL;simp only[Option.some.injEq,Prod.mk.injEq]at h;obtain⟨rfl,_⟩:=h;exact⟨U y,by simp[execOp,this,asBool],J y⟩
  ·rename_i e;rw[e]at j;have:=j.Zj.ZL;simp only[Option.some.injEq,Prod.mk.injEq]at h;obtain⟨rfl,_⟩:=h;exact⟨U z,by simp[execOp,this,asBool],J z⟩
  ·cases h
 ·rename_i t a5;split at h
  ·rename_i c' hc;simp only[Option.some.injEq,Prod.mk.injEq]at h;obtain⟨rfl,_⟩:=h;obtain⟨v,r,hr⟩:=Zq6 (w:=w) (ok:=ok) (g:=g) (m:=m) (ps:=a5.map λ(i,x)=>(i,U x)) hc (by simp) (λi p q b0 b1=>by
    rw[List.getElem?_map]at b0;rw[Array.getElem?_map]at b1;obtain⟨a,ha,rfl⟩:=Option.map_eq_some_iff.1 b0;obtain⟨b,hb,rfl⟩:=Option.map_eq_some_iff.1 b1;rw[Array.getElem?_toList,hb]at ha;obtain rfl:=Option.some.inj ha;exact⟨rfl,J _⟩)
   exact⟨v,val r,hr⟩
  ·cases h
 ·rename_i s x k;split at h
  ·rename_i b2 b n I;split at h
   ·rename_i c' hc;simp only[Option.some.injEq,Prod.mk.injEq]at h;obtain⟨rfl,_⟩:=h;obtain⟨v,r,hr⟩:=CF hM I hc (J x);exact⟨v,val r,hr⟩
   ·cases h
  ·cases h
 ·rename_i s x k;split at h
  ·rename_i b2 b n I;split at h
   ·rename_i c' hc;simp only[Option.some.injEq,Prod.mk.injEq]at h;obtain⟨rfl,_⟩:=h;obtain⟨v,r,hr⟩:=Ie I hc (J x);exact⟨v,val r,hr⟩
   ·cases h
  ·cases h
 ·rename_i t x i;split at h
  ·rename_i e sz n I hi;have b3:=J i;rw[hi]at b3;have a6:=b3.Zj.X5.1;obtain⟨v,r,hr⟩:=Cm hM I h hp (J x);exact⟨v,val (by rw[a6];exact r),hr⟩
  ·cases h
 ·rename_i x i;have j:=J x;split at h
  ·rename_i cs e;rw[e]at j;obtain⟨vs,a7,hl,h1⟩:=j.Wp;split at h
   ·rename_i c' hc;simp only[Option.some.injEq,Prod.mk.injEq]at h;obtain⟨rfl,_⟩:=h;have b4:i<vs.size:=by have:=(List.getElem?_eq_some_iff.1 hc).1;omega
    refine⟨vs[i],val (by simp[Instr.extract,a7,b4]),h1 i _ _ hc (Array.getElem?_eq_getElem b4)⟩
   ·cases h
  ·cases h
 ·rename_i op t x y t2;have j:=J x;have hy:=J y;obtain⟨v,r,hr⟩:=Zq7 (P:=P) (w:=w) (ok:=ok) (g:=g) (m:=m) h hp j hy x y;exact⟨v,val r,hr⟩
 ·rename_i t x;have j:=J x;split at h
  ·rename_i b e;rw[e]at j;simp only[Option.some.injEq,Prod.mk.injEq]at h;obtain⟨rfl,_⟩:=h;exact⟨.bool (!b),val (by rw[j.Zj.ZL];rfl),.d _ _ (.bool _)⟩
  ·cases h
 ·rename_i k first cap;split at h
  ·rename_i h0;simp only[Option.some.injEq,Prod.mk.injEq]at h;obtain⟨rfl,_⟩:=h;have a2:first= #[]:=Array.eq_empty_of_size_eq_zero h0;subst a2;obtain⟨hl,h1⟩:=VR.map J cap;exact⟨.func (.func k) #[] (cap.map U),val (by simp[Instr.makeFunc]),.clo _ _ _ hl h1⟩
  ·cases h
 ·rename_i t x;split at h
  ·rename_i b n I;split at h
   ·rename_i cs b6;split at h
    ·rename_i c' hc;simp only[Option.some.injEq,Prod.mk.injEq]at h;obtain⟨rfl,_⟩:=h;obtain⟨bb,b2,vs,r,hl,a8,a7⟩:=hM.rd (J x) b6;obtain⟨k1,k2⟩:=De hc a7;obtain⟨l1,l2⟩:=JU (P:=P) I hl a8;cases b
     ·obtain⟨v,b7,hr⟩:=k2 rfl;exact⟨v,val (by simp only[Instr.loadAt,r,Instr.sureAddr,Sem.run_bind,Sem.run_pure,Result.andThen_ok];exact l2 rfl v b7),hr⟩
     ·exact⟨_,val (by simp only[Instr.loadAt,r,Instr.sureAddr,Sem.run_bind,Sem.run_pure,Result.andThen_ok];exact l1 rfl),k1 rfl⟩
    ·cases h
   ·cases h
  ·cases h
 ·rename_i t x lo hi;split at h
  ·rename_i e sz l hh I hl b8;obtain⟨hu,i,a6,rfl⟩:=Ze I;have a9:(sizeOf e).run P w= .ok i.size w:=by simp[sizeOf,typeInfo,a6]
   have j:=J x;have e1:=Gi J hl;have e2:=Gi J b8;split at h
   ·rename_i rows ex;rw[ex]at j;split at h
    ·rename_i c' p' hs;simp only[Option.some.injEq,Prod.mk.injEq]at h;obtain⟨rfl,rfl⟩:=h;obtain⟨v,r,hr⟩:=KR hM hu a9 hs hp.1 j (λo k n e=>by cases e) (λT e=>by cases e;exact hp.2);exact⟨v,val (by rw[e1,e2];exact r),hr⟩
    ·cases h
   ·rename_i o k n ex;rw[ex]at j;split at h
    ·rename_i e' c1 rows hm;split at h
     ·rename_i b9;obtain⟨v,r,hr⟩:=KR hM hu a9 h hp j (λo k n e=>by cases e;exact⟨_,_,by rw[<-b9];exact hm⟩) (λT e=>by cases e);exact⟨v,val (by rw[e1,e2];exact r),hr⟩
     ·cases h
    ·cases h
   ·rename_i n1 n2;obtain⟨v,r,hr⟩:=KR hM hu a9 h hp j (λo k n e=>absurd e (n2 o k n)) (λT e=>absurd e (n1 T));exact⟨v,val (by rw[e1,e2];exact r),hr⟩
  ·cases h
 ·rename_i c';obtain⟨callee,args,argTypes⟩:=c';split at h
  ·rename_i x t a3 a1 a4;dsimp only at a3 a1 a4;subst a3;have ha:args= #[x]:=by rw[<-Array.toArray_toList (xs:=args),a1]
   have I:argTypes= #[t]:=by rw[<-Array.toArray_toList (xs:=argTypes),a4]
   subst ha I;have j:=J x;have go:∀k:Int,(Builtin.len_ #[t] ty #[U x]).run P w= .ok (.int .i64 k) w->(execOp U ⟨b5,.call ⟨.builtin .len,#[x],#[t]⟩,ty,pos,after,guard⟩).run P w= .ok (.value (.int .i64 k)) w:=λk hk=>by
    simp[execOp,resolve,invoke,builtin,hk]
   split at h
   ·rename_i e hu;split at h
    ·rename_i rows ex;rw[ex]at j;simp only[Option.some.injEq,Prod.mk.injEq]at h;obtain⟨rfl,_⟩:=h;obtain⟨a,cc,r,c2,c0,_⟩:=j.Zj.Ik;exact⟨_,go rows.length (by simp[Builtin.len_,run_underlying hu,r,goInt]),.d _ _ (.int _ (by omega) (by rw[WN]at c0;omega))⟩
    ·rename_i o k n ex;rw[ex]at j;split at h
     ·rename_i e' sz rows hm;simp only[Option.some.injEq,Prod.mk.injEq]at h;obtain⟨rfl,_⟩:=h;obtain⟨h1,h2⟩:=j.UR hm;have hO:=hM.obj o _ hm;have hn:n<=maxLen:=by
       rcases hO.2.2 with⟨_,h3⟩|⟨_,_,_,_,h3,h4,_⟩
       ·rw[h3]at h1;simp at h1;omega
       ·omega
      have r:∃a cc,U x= .slice a n cc:=by
       rcases h2 with⟨_,h3,_,h4⟩|⟨b,_,h3⟩|⟨_,h4,a,cc,h3,_⟩
       ·exact⟨none,0,by rw[h4];exact h3⟩
       ·exact⟨_,_,h3⟩
       ·exact⟨a,cc,by rw[h4];exact h3⟩
      obtain⟨a,cc,r⟩:=r;exact⟨_,go n (by simp[Builtin.len_,run_underlying hu,r,goInt]),.d _ _ (.int _ (by omega) (by rw[WN]at hn;omega))⟩
     ·cases h
    ·rename_i ex;rw[ex]at j;simp only[Option.some.injEq,Prod.mk.injEq]at h;obtain⟨rfl,_⟩:=h;exact⟨_,go 0 (by simp[Builtin.len_,run_underlying hu,j.Fw.1,goInt]),.d _ _ (.int _ (by omega) (by omega))⟩
    ·cases h
   ·rename_i hu;split at h
    ·rename_i s ex;rw[ex]at j;simp only[Option.some.injEq,Prod.mk.injEq]at h;obtain⟨rfl,_⟩:=h;obtain⟨r,hs⟩:=j.Zj.P9;exact⟨_,go s.size (by simp[Builtin.len_,run_underlying hu,r,goInt]),.d _ _ (.int _ (by omega) (by rw[WN]at hs;omega))⟩
    ·cases h
   ·cases h
  ·cases h
 ·cases h
end
end
section
open Go.RowKit
section
variable {P:Program} {C:Cx} {w:World} {ok:Nat->Prop} {g:Gh} {m:Me}
theorem G9(d i:Nat):Z5 [d] i=(d==i):=by simp[Z5]
theorem Zx(d:Nat)(x:Option Q9)(i:Nat):Kz [(d,x)] i=(d==i):=by simp[Kz]
theorem MS.new(hM:MS C w ok g m)(d:Nat)(hd:kept d=false)(t:TypeId)(vs:Array Value)(x:Q9)(cp:Nat)
  (hx : match x with
   | .blk t' cs=>t'=t∧KF w ok g m cs vs.toList∧AV.Uv (Z5 [d]) cs=false
   | .arr e sz rows=>e=t∧0<sz∧(∀(i:Nat) (r:List D),rows[i]? =some r→r.length=sz)∧rows.length≤cp∧cp≤maxLen∧vs.size=cp * sz∧
     ∀(i j:Nat) (r:List D) (c:D) (v:Value),rows[i]? =some r→r[j]? =some c→vs[i * sz+j]? =some v→Xk w ok c v
   | .map _ _ _ _=>False
   | .raw _=>False):
  ∃g',g'.bl d=some w.heap.size∧g'.cp d=cp∧MS C (w.alloc (.cells vs t)) ok g' (J7 m (Kz [(d,some x)]) (Z5 [d]) (Q4 [(d,some x)]))∧
   ∀c v,c.has (Z5 [d])=false→VR w ok g m c v→VR (w.alloc (.cells vs t)) ok g' (J7 m (Kz [(d,some x)]) (Z5 [d]) (Q4 [(d,some x)])) c v:=by
 have hcell:∀p:Addr,ok p.block→(w.alloc (.cells vs t)).cell? p=w.cell? p:=fun p hp=>World.cell?_alloc_lt w _ p (hM.okb _ hp).1
 refine⟨⟨fun i=>if d==i then some w.heap.size else g.bl i,fun i=>if d==i then cp else g.cp i⟩,by simp,by simp,?_⟩;have hm:∀o x',Z5 [d] o=false→(J7 m (Kz [(d,some x)]) (Z5 [d]) (Q4 [(d,some x)])) o=some x'→∃x,m o=some x∧x.like x'∧(if d==o then some w.heap.size else g.bl o)=g.bl o∧(if d==o then cp else g.cp o)=g.cp o:=by
  intro o x' ho hx';rw[G9]at ho;simp only[J7,Zx,ho]at hx';obtain⟨x,hx,rfl⟩:=Option.map_eq_some_iff.1 hx';exact⟨x,hx,Q9.WR _ x,by simp[ho],by simp[ho]⟩
 refine MS.Zg7 hM _ _ _ ?_ ?_ ?_ ?_ ?_ ?_ ?_ ?_ ?_ ?_ ?_ ?_ rfl rfl rfl
 ·intro i hi;rwa [G9,←Zx d (some x)]at hi
 ·intro i x' hU hN;rw[Zx]at hU;have hdi:d=i:=by simpa using hU
  subst hdi;simp[Q4]at hN;subst hN;cases x with
  |blk t' cs=>
   obtain⟨rfl,h1,h2⟩:=hx;exact⟨w.heap.size,vs,by simp,heap_alloc_new w _,h1.mono _ h2 hcell (fun _ h=>h) hm⟩
  |arr e sz rows=>
   obtain⟨rfl,h1,h2,h3,h4,h5,h6⟩:=hx;exact⟨h1,h2,.inr ⟨w.heap.size,vs,by simp,heap_alloc_new w _,by simpa using h3,by simpa using h4,by simpa using h5,fun i j r c v a b e=>(h6 i j r c v a b e).keep hcell⟩⟩
  |map ks ag n ents=>exact hx.elim
  |raw r=>exact hx.elim
 ·intro i hi;rw[G9]at hi;simp[hi]
 ·intro i x' hU hq;rw[Zx]at hU;rw[G9]at hq;rw[hU]at hq;cases hq
 ·intro i y b hU hy hb;exact Below.heap_alloc w _ b (hM.own i y b hy hb).2.1
 ·intro b hb;exact Below.heap_alloc w _ b (hM.okb b hb).1
 ·exact fun b hb=>hb
 ·exact fun b hb=>.inl hb
 ·intro i y b hU hN hb;rw[Zx]at hU;simp only[hU,if_true,Option.some.injEq]at hb;subst hb;refine⟨fun h=>by have:=(hM.okb _ h).1;omega,by simp,.inl hM.size,fun j xj hUj hj hb=>?_,fun j xj hUj _ _=>?_⟩
  ·have:=(hM.own j xj _ hj hb).2.1;omega
  ·rw[Zx]at hUj;have e1:d=i:=by simpa using hU
   have e2:d=j:=by simpa using hUj
   rw[←e1,←e2]
 ·intro i hi;rw[G9]at hi;have e1:d=i:=by simpa using hi
  rw[←e1];exact hd
 ·simp
 ·intro b hb _;exact Below.heap_alloc w _ b (by have:=hM.size;omega)
theorem MS.put(hM:MS C w ok g m)(o:Nat){b:Nat}(hb:g.bl o=some b){x U:Q9}(hx:m o=some x)(hl:x.like U)(cs:Array Value)(a1:OR (w.setRow b cs) ok g m o U):
  MS C (w.setRow b cs) ok g (J7 m (Kz [(o,some U)]) (Z5 []) (Q4 [(o,some U)]))/\
   ∀c v,c.has (Z5 [])=false->VR w ok g m c v->VR (w.setRow b cs) ok g (J7 m (Kz [(o,some U)]) (Z5 []) (Q4 [(o,some U)])) c v:=by
 have f:=hM.own o x b hx hb;have hq:∀i,Z5 [] i=false:=λ_=>rfl
 have hm:∀i y',(J7 m (Kz [(o,some U)]) (Z5 []) (Q4 [(o,some U)])) i=some y'->∃y,m i=some y/\y.like y':=by
  intro i y' I;simp only[J7,Zx]at I;split at I
  ·rename_i h;have e:o=i:=by simpa using h
   subst e;simp[Q4]at I;subst I;exact⟨x,hx,hl⟩
  ·obtain⟨y,hy,rfl⟩:=Option.map_eq_some_iff.1 I;exact⟨y,hy,Q9.WR _ y⟩
 refine MS.Zg7 hM _ _ _ ?_ ?_ ?_ ?_ ?_ ?_ ?_ ?_ ?_ ?_ ?_ ?_ rfl rfl rfl
 ·intro i hi;rw[hq i]at hi;cases hi
 ·intro i y' P hN;rw[Zx]at P;have e:o=i:=by simpa using P
  subst e;simp[Q4]at hN;subst hN;have hk:∀p:Addr,ok p.block->(w.setRow b cs).cell? p=(w.setRow b cs).cell? p:=λ_ _=>rfl
  refine OR.mono a1 (λ_=>false) ?_ (λb h=>rfl) rfl rfl hk (λ_ h=>h) (λi y' _ I=>?_)
  ·cases U with
   |blk t cs=>
    have:∀l:List AV,AV.Uv (λ_=>false) l=false:=λl=>by
     induction l with
     |nil=>rfl
     |cons c r ih=>simp only[AV.Uv,ih,AV.Gq (λ_=>rfl) c,Bool.or_self]
    exact this cs
   |arr e sz rows=>trivial
   |map ks ag n a3=>trivial
   |raw r=>trivial
  ·obtain⟨y,hy,hl⟩:=hm i y' I;exact⟨y,hy,hl,rfl,rfl⟩
 ·exact λi _=>⟨rfl,rfl⟩
 ·intro i y' P _ hN;rw[Zx]at P;have e:o=i:=by simpa using P
  subst e;simp[Q4]at hN;subst hN;exact⟨x,hx,hl⟩
 ·intro i y b' P hy J;refine setRow_other w b b' cs λe=>?_
  subst e;rw[Zx]at P;exact absurd (hM.inj i o y x b' hy hx J hb) (λe=>by subst e;simp at P)
 ·intro b' J;exact setRow_other w b b' cs λe=>by subst e;exact f.1 J
 ·exact λ_ h=>h
 ·exact λ_ h=>.inl h
 ·intro i y b' P hN J;rw[Zx]at P;have e:o=i:=by simpa using P
  subst e;rw[hb]at J;obtain rfl:=Option.some.inj J;refine⟨f.1,by simpa[World.setRow]using f.2.1,f.2.2,λj xj T hj a2=>?_,λj xj T _ _=>by rw[Zx]at T;simpa using T⟩;rw[Zx]at T;exact absurd (hM.inj j o xj x b hj hx a2 hb) (λe=>by subst e;simp at T)
 ·intro i hi;rw[hq i]at hi;cases hi
 ·simp[World.setRow]
 ·intro b' J hT;refine setRow_other w b b' cs λe=>?_
  subst e;rcases f.2.2 with h|h
  ·omega
  ·exact hT h.1
def KI:AV->Option D
 | .d d=>some d
 | .lit (.slice none 0 0)=>some (.sl [])
 |_=>none
def ZQ:List AV->Option (List D)
 |[]=>some []
 |c::cs=>match KI c,ZQ cs with
  |some d,some f=>some (d::f)
  |_,_=>none
theorem VM{c:AV}{d:D}(h:KI c=some d){v:Value}(f:VR w ok g m c v):Xk w ok d v:=by
 unfold KI at h;split at h
 ·simp at h;subst h;exact f.Zj
 ·simp at h;subst h;rw[f.Fw.1];exact .empty none 0 (λ_=>rfl) (Nat.zero_le _)
 ·cases h
theorem VL{cs:List AV}{f:List D}(h:ZQ cs=some f):cs.length=f.length/\∀(i:Nat) (c:AV) (d:D),cs[i]? =some c->f[i]? =some d->KI c=some d:=by
 induction cs generalizing f with
 |nil=>simp[ZQ]at h;subst h;simp
 |cons c cs l=>
  unfold ZQ at h;split at h
  ·rename_i d o r t;simp at h;subst h;obtain⟨C,I⟩:=l t;refine⟨by simpa using C,λi c d g j=>?_⟩;rcases i with _|i
   ·simp at g j;subst g j;exact r
   ·exact I i c d g j
  ·cases h
def V9(m:Me)(p:AV)(cs:List AV):Option (Nat×Q9):=
 match p with
 | .ptr o f=>match m o with
  |some (.blk t g)=>if f+cs.length<=g.length then some (o,.blk t (setAt g f cs))else none
  |_=>none
 | .Rx o i j=>match m o with
  |some (.arr e sz rows)=>match rows[i]?,ZQ cs with
   |some r,some l=>if j+l.length<=r.length then some (o,.arr e sz (rows.set i (setAt r j l)))else none
   |_,_=>none
  |_=>none
 |_=>none
theorem MS.wr(hM:MS C w ok g m){p:AV}{cs:List AV}{o:Nat}{x':Q9}(h:V9 m p cs=some (o,x')){v:Value}(hp:VR w ok g m p v){vs:List Value}(a1:KF w ok g m cs vs):
  ∃b U w',v= .pointer (some ⟨b,U,none⟩)/\(storeCells ⟨b,U,none⟩ vs).run P w= .ok () w'/\
   MS C w' ok g (J7 m (Kz [(o,some x')]) (Z5 []) (Q4 [(o,some x')]))/\∀c v,c.has (Z5 [])=false->VR w ok g m c v->VR w' ok g (J7 m (Kz [(o,some x')]) (Z5 []) (Q4 [(o,some x')])) c v:=by
 have b3:∀l:List AV,AV.Uv (λ_=>false) l=false:=λl=>by
  induction l with
  |nil=>rfl
  |cons c r ih=>simp only[AV.Uv,ih,AV.Gq (λ_=>rfl) c,Bool.or_self]
 unfold V9 at h;split at h
 ·rename_i o' U;split at h
  ·rename_i t b4 hm;split at h
   ·rename_i a5;simp only[Option.some.injEq,Prod.mk.injEq]at h;obtain⟨rfl,rfl⟩:=h;obtain⟨b,hb,rfl⟩:=hp.Ga hm;obtain⟨b',J,a6,hw,a2⟩:=hM.obj o' _ hm;rw[hb]at a6;obtain rfl:=Option.some.inj a6;have h1:=a2.1;have h2:=a1.1;simp at h1;have a3:=run_storeCells_at P b U t vs 0 J w hw (by omega) (λv hv=>a1.2.2 v hv);refine⟨b,U,_,rfl,a3,MS.put hM o' hb hm (by simp[Q9.like]) _ ?_⟩;refine⟨b,_,hb,setRow_heap w b J _ t _ hw,?_⟩;simp only[Nat.add_zero];rw[<-Zh vs J.toList U (by simp;omega)];have hk:∀p:Addr,ok p.block->(w.setRow b (setAt J.toList U vs).toArray).cell? p=w.cell? p:=λp hp=>World.ZI (setRow_other w b _ _ λe=>(hM.own o' _ b hm hb).1 (e▸hp))
    exact(KF.setAt cs vs b4 J.toList U a2 a1).mono (λ_=>false) (b3 _) hk (λ_ h=>h) (λi y _ hy=>⟨y,hy,Q9.O6 y,rfl,rfl⟩)
   ·cases h
  ·cases h
 ·rename_i o' i j;split at h
  ·rename_i e sz rows hm;split at h
   ·rename_i r ds hr b5;split at h
    ·rename_i a5;simp only[Option.some.injEq,Prod.mk.injEq]at h;obtain⟨rfl,rfl⟩:=h;obtain⟨b,hb,rfl⟩:=hp.UD hm;obtain⟨h0,h1,h2⟩:=hM.obj o' _ hm;rcases h2 with⟨_,h3⟩|⟨b',J,h2,h3,h4,h5,h6,h7⟩
     ·subst h3;simp at hr
     ·rw[hb]at h2;obtain rfl:=Option.some.inj h2;obtain⟨k1,k2⟩:=VL b5;have a7:=h1 i r hr;have hi:i<rows.length:=(List.getElem?_eq_some_iff.1 hr).1;have b7:i * sz+sz<=J.size:=by
       rw[h6];have:(i+1) * sz<=g.cp o' * sz:=Nat.mul_le_mul_right _ (by omega);rw[Nat.add_mul]at this;omega
      have b8:=a1.1;have a3:=run_storeCells_at P b (i * sz+j) e vs 0 J w h3 (by omega) (λv hv=>a1.2.2 v hv);refine⟨b,i * sz+j,_,rfl,a3,MS.put hM o' hb hm (by simp[Q9.like]) _ ?_⟩;simp only[Nat.add_zero];rw[<-Zh vs J.toList (i * sz+j) (by simp;omega)];have hk:∀p:Addr,ok p.block->(w.setRow b (setAt J.toList (i * sz+j) vs).toArray).cell? p=w.cell? p:=λp hp=>World.ZI (setRow_other w b _ _ λe=>(hM.own o' _ b hm hb).1 (e▸hp))
      refine⟨h0,λi' r' f=>?_,.inr ⟨b,_,hb,setRow_heap w b J _ e _ h3,by simpa using h4,h5,by simpa[Ck]using h6,λi' T r' c v f hc hv=>?_⟩⟩
      ·rw[List.getElem?_set]at f;split at f
       ·obtain rfl:=Option.some.inj f;rw[Ck];exact a7
       ·exact h1 i' r' f
      ·refine Xk.keep ?_ hk;have I:(setAt J.toList (i * sz+j) vs)[i' * sz+T]? =some v:=by simpa using hv
       rw[Zh vs J.toList _ (by simp;omega),List.getElem?_append,List.getElem?_append]at I;simp only[List.length_append,List.length_take,Array.length_toList]at I;rw[Nat.min_eq_left (by omega)]at I;have b9:T<sz:=by
        have:r'.length=sz:=by
         rw[List.getElem?_set]at f;split at f
         ·obtain rfl:=Option.some.inj f;rw[Ck];exact a7
         ·exact h1 i' r' f
        have:=(List.getElem?_eq_some_iff.1 hc).1;omega
       rw[List.getElem?_set]at f;rcases Nat.decEq i i' with a8|he
       ·rw[if_neg a8]at f;have a9:i' * sz+T<i * sz+j\/i * sz+j+vs.length<=i' * sz+T:=by
         rcases Nat.lt_or_gt_of_ne a8 with b0|b0
         ·right;have:(i+1) * sz<=i' * sz:=Nat.mul_le_mul_right _ (by omega);rw[Nat.add_mul]at this;omega
         ·left;have:(i'+1) * sz<=i * sz:=Nat.mul_le_mul_right _ (by omega);rw[Nat.add_mul]at this;omega
        rcases a9 with ho|ho
        ·rw[if_pos (by omega),if_pos ho,List.getElem?_take,if_pos ho]at I;exact h7 i' T r' c v f hc (by simpa using I)
        ·rw[if_neg (by omega),List.getElem?_drop]at I;rw[show i * sz+j+vs.length+(i' * sz+T-(i * sz+j+vs.length))=i' * sz+T from by omega]at I;exact h7 i' T r' c v f hc (by simpa using I)
       ·subst he;rw[if_pos rfl,if_pos hi]at f;simp at f;subst f;rw[Zh ds r j a5,List.getElem?_append,List.getElem?_append]at hc;simp only[List.length_append,List.length_take]at hc;rw[Nat.min_eq_left (by omega)]at hc;rcases Nat.lt_or_ge T j with a4|a4
        ·rw[if_pos (by omega),if_pos a4,List.getElem?_take,if_pos a4]at hc;rw[if_pos (by omega),if_pos (by omega),List.getElem?_take,if_pos (by omega)]at I;exact h7 i T r c v hr hc (by simpa using I)
        ·rcases Nat.lt_or_ge T (j+ds.length)with b1|b1
         ·rw[if_pos b1,if_neg (by omega)]at hc;rw[if_pos (by omega),if_neg (by omega)]at I;rw[show i * sz+T-(i * sz+j)=T-j from by omega]at I;have b6:T-j<cs.length:=by omega
          have b2:cs[T-j]? =some cs[T-j]:=List.getElem?_eq_getElem b6;exact VM (k2 _ _ _ b2 hc) (a1.2.1 _ _ _ b2 I)
         ·rw[if_neg (by omega),List.getElem?_drop]at hc;rw[if_neg (by omega),List.getElem?_drop]at I;rw[show j+ds.length+(T-(j+ds.length))=T from by omega]at hc;rw[show i * sz+j+vs.length+(i * sz+T-(i * sz+j+vs.length))=i * sz+T from by omega]at I;exact h7 i T r c v hr hc (by simpa using I)
    ·cases h
   ·cases h
  ·cases h
 ·cases h
end
end
section
open Go.RowKit
def D6(m:Me)(sz:Nat):AV->Option (List (List D)×Prop)
 | .d (.sl rows)=>some (rows,∀(i:Nat) (r:List D),rows[i]? =some r->r.length=sz)
 | .arr o g n=>match m o with
  |some (.arr _ f rows)=>if f=sz then some ((rows.drop g).take n,True)else none
  |_=>none
 | .lit (.slice none 0 0)=>some ([],True)
 |_=>none
section
variable {P:Program} {C:Cx} {w:World} {ok:Nat->Prop} {g:Gh} {m:Me}
theorem KO(hM:MS C w ok g m){sz:Nat}{c:AV}{rows:List (List D)}{p:Prop}(h:D6 m sz c=some (rows,p))(hp:p){v:Value}(hv:VR w ok g m c v):
  (∀(i:Nat) (r:List D),rows[i]? =some r->r.length=sz)/\∃(A:Option Addr) (cc:Nat) (news:List Value),v= .slice A rows.length cc/\news.length=rows.length * sz/\
   (∀j u,news[j]? =some u->∃ad,A=some ad/\w.cell? (ad.add j)=some u)/\(∀u∈news,u.oneCell'=true)/\
   ∀(i j:Nat) (r:List D) (d:D) (u:Value),rows[i]? =some r->r[j]? =some d->news[i * sz+j]? =some u->Xk w ok d u:=by
 unfold D6 at h;split at h
 ·rename_i l;simp only[Option.some.injEq,Prod.mk.injEq]at h;obtain⟨rfl,rfl⟩:=h;refine⟨hp,?_⟩;have hR:=hv.Zj;obtain⟨A,cc,rfl,_⟩:=hR.Ik;obtain⟨news,h1,h2,h3,h4⟩:=hR.news hp;exact⟨A,cc,news,rfl,h1,h2,h3,h4⟩
 ·rename_i o P n;split at h
  ·rename_i e f l hm;split at h
   ·rename_i T;subst T;simp only[Option.some.injEq,Prod.mk.injEq]at h;obtain⟨rfl,_⟩:=h;obtain⟨h0,h1,h2⟩:=hM.obj o _ hm;obtain⟨h3,h4⟩:=hv.UR hm;have a1:((l.drop P).take n).length=n:=by simp;omega
    refine⟨λi r hr=>?_,?_⟩
    ·rw[List.getElem?_take]at hr;split at hr
     ·rw[List.getElem?_drop]at hr;exact h1 _ r hr
     ·cases hr
    ·rw[a1];have nil:n=0->∀a cc,v= .slice a 0 cc->∃(A:Option Addr) (cc:Nat) (news:List Value),v= .slice A n cc/\news.length=n * f/\
       (∀j u,news[j]? =some u->∃ad,A=some ad/\w.cell? (ad.add j)=some u)/\(∀u∈news,u.oneCell'=true)/\
       ∀(i j:Nat) (r:List D) (d:D) (u:Value),((l.drop P).take n)[i]? =some r->r[j]? =some d->news[i * f+j]? =some u->Xk w ok d u:=λhn a cc t=>by
      subst hn;exact⟨a,cc,[],t,by simp,by simp,by simp,by simp⟩
     rcases h4 with⟨_,t,rfl,rfl⟩|⟨b,hb,t⟩|⟨_,rfl,a,cc,t,_⟩
     ·exact nil rfl _ _ t
     ·rcases h2 with⟨J,_⟩|⟨b',U,J,hw,a6,a7,a3,a2⟩
      ·rw[hb]at J;cases J
      ·rw[hb]at J;obtain rfl:=Option.some.inj J;have T:(P+n) * f<=U.size:=by rw[a3];exact Nat.mul_le_mul_right _ (by omega)
       rw[Nat.add_mul]at T;refine⟨_,_,(U.toList.drop (P * f)).take (n * f),t,by simp;omega,λj u I=>⟨_,rfl,?_⟩,λu I=>?_,λi j r d u hr hd I=>?_⟩
       ·rw[List.getElem?_take]at I;split at I
        ·rw[List.getElem?_drop]at I;rw[Addr.add_lit,cell_of_row w b _ U e (0,0) hw];simpa using I
        ·cases I
       ·obtain⟨k,hk⟩:=List.mem_iff_getElem?.1 I;rw[List.getElem?_take]at hk;split at hk
        ·rename_i a4;rw[List.getElem?_drop]at hk;have a8:k / f<n:=(Nat.div_lt_iff_lt_mul h0).2 a4;have a9:k % f<f:=Nat.mod_lt _ h0;have a5:k / f * f+k % f=k:=by rw[Nat.mul_comm];exact Nat.div_add_mod k f
         have hr:l[P+k / f]? =some l[P+k / f]:=List.getElem?_eq_getElem (by omega);have b0:=h1 _ _ hr;have hd:(l[P+k / f])[k % f]? =some (l[P+k / f])[k % f]:=List.getElem?_eq_getElem (by omega);refine(a2 (P+k / f) (k % f) _ _ u hr hd ?_).oneCell;rw[Nat.add_mul,Nat.add_assoc,a5];simpa using hk
        ·cases hk
       ·have hi:i<n:=by have:=(List.getElem?_eq_some_iff.1 hr).1;omega
        rw[List.getElem?_take,if_pos hi,List.getElem?_drop]at hr;have hj:j<f:=by have:=h1 _ r hr;have:=(List.getElem?_eq_some_iff.1 hd).1;omega
        rw[List.getElem?_take]at I;split at I
        ·rw[List.getElem?_drop]at I;refine a2 (P+i) j r d u hr hd ?_;rw[Nat.add_mul,Nat.add_assoc];simpa using I
        ·cases I
     ·exact nil rfl _ _ t
   ·cases h
  ·cases h
 ·simp only[Option.some.injEq,Prod.mk.injEq]at h;obtain⟨rfl,_⟩:=h;refine⟨by simp,none,0,[],hv.Fw.1,by simp,by simp,by simp,by simp⟩
 ·cases h
def capOf:Value->Nat
 | .slice _ _ c=>c
 |_=>0
theorem MS.app0(hM:MS C w ok g m)(t:Nat)(ht:kept t=false){ty e tr:TypeId}{i:TypeInfo}{z:Value}(hu:P.underlying ty=some (.slice e))(hi:P.info? e=some i)(hz:i.zero=some z)(hzs:z.cells.size=i.size)(hsz:0<i.size)
  {v:Value} {n:Nat} {xs:List Value} {ob:Option Nat} (hlx:xs.length=n * i.size) (hvb:∀b,ob=some b→g.bl t=some b∧∃x,m t=some x)
  {rows:List (List D)} (hn:rows.length=n) (hrl:∀(k:Nat) (r:List D),rows[k]? =some r→r.length=i.size)
  (hxr:∀(k j:Nat) (r:List D) (d:D) (u:Value),rows[k]? =some r→r[j]? =some d→xs[k * i.size+j]? =some u→Xk w ok d u)
  {A:Option Addr} {cc:Nat} {news:List Value} {rows2:List (List D)} (hrl2:∀(k:Nat) (r:List D),rows2[k]? =some r→r.length=i.size) (hnl:news.length=rows2.length * i.size)
  (hnc:∀j u,news[j]? =some u→∃ad,A=some ad∧w.cell? (ad.add j)=some u) (hn1:∀u∈news,u.oneCell'=true)
  (hnr:∀(k j:Nat) (r:List D) (d:D) (u:Value),rows2[k]? =some r→r[j]? =some d→news[k * i.size+j]? =some u→Xk w ok d u)
  (hr0:∃v' w',(Builtin.append_ #[ty,ty] tr #[v,.slice A rows2.length cc]).run P w= .ok v' w'∧w'.ownsRow 0 e i.size v' (n+rows2.length) (xs++news)∧w.grownBy w' ob∧(v'.ownBlock=ob∨v'.ownBlock=some w.heap.size)):
  ∃v' w' g',(Builtin.append_ #[ty,ty] tr #[v,.slice A rows2.length cc]).run P w= .ok v' w'∧
   MS C w' ok g' (J7 m (Kz [(t,some (.arr e i.size (rows++rows2)))]) (Z5 [t]) (Q4 [(t,some (.arr e i.size (rows++rows2)))]))∧
   (∀c v,c.has (Z5 [t])=false→VR w ok g m c v→VR w' ok g' (J7 m (Kz [(t,some (.arr e i.size (rows++rows2)))]) (Z5 [t]) (Q4 [(t,some (.arr e i.size (rows++rows2)))])) c v)∧
   VR w' ok g' (J7 m (Kz [(t,some (.arr e i.size (rows++rows2)))]) (Z5 [t]) (Q4 [(t,some (.arr e i.size (rows++rows2)))])) (.arr t 0 (rows.length+rows2.length)) v':=by
 subst hn;obtain⟨v',w',hrun,h2,h3,h4⟩:=hr0;have hvown:∀b,ob=some b→¬ok b∧b<w.heap.size∧(C.w.heap.size≤b∨(C.T b∧500≤t))∧∀j xj,j≠t→m j=some xj→g.bl j≠some b:=fun b hb=>by
  obtain⟨k1,x,k2⟩:=hvb b hb;obtain⟨a1,a2,a3⟩:=hM.own t x b k2 k1;exact⟨a1,a2,a3,fun j xj hj hmj hbj=>hj (hM.inj j t xj x b hmj k2 hbj k1)⟩
 have hokc:∀b,ok b→w'.heap[b]? =w.heap[b]?:=fun b hb=>h3.block b (hM.okb b hb).1 fun e=>(hvown b e.symm).1 hb
 have hk:∀p:Addr,ok p.block→w'.cell? p=w.cell? p:=fun p hp=>World.ZI (hokc _ hp)
 have hblk:∀b,v'.ownBlock=some b→¬ok b∧b<w'.heap.size∧(C.w.heap.size≤b∨(C.T b∧500≤t))∧∀j xj,j≠t→m j=some xj→g.bl j≠some b:=fun b hb=>by
  have hlt:=(h2.lt b hb).2;rcases h4 with h4|h4
  ·rw[h4]at hb;obtain⟨a1,a2,a3,a4⟩:=hvown b hb;exact⟨a1,hlt,a3,a4⟩
  ·rw[h4]at hb;obtain rfl:=Option.some.inj hb;exact⟨fun h=>by have:=(hM.okb _ h).1;omega,hlt,.inl hM.size,fun j xj _ hmj hbj=>by have:=(hM.own j xj _ hmj hbj).2.1;omega⟩
 have hrows:∀(k:Nat) (r:List D),(rows++rows2)[k]? =some r→r.length=i.size:=fun k r hr=>by
  rw[List.getElem?_append]at hr;split at hr
  ·exact hrl k r hr
  ·exact hrl2 _ r hr
 have hcells:∀(k j:Nat) (r:List D) (d:D) (u:Value),(rows++rows2)[k]? =some r→r[j]? =some d→(xs++news)[k * i.size+j]? =some u→Xk w' ok d u:=fun k j r d u hr hd hu=>by
  have hj:j<i.size:=by have:=hrows k r hr;have:=(List.getElem?_eq_some_iff.1 hd).1;omega
  rw[List.getElem?_append]at hr;split at hr
  ·rename_i hk1;have:(k+1) * i.size≤rows.length * i.size:=Nat.mul_le_mul_right _ hk1;rw[Nat.add_mul]at this;rw[List.getElem?_append_left (by omega)]at hu;exact(hxr k j r d u hr hd hu).keep hk
  ·rename_i hk1;have:rows.length * i.size≤k * i.size:=Nat.mul_le_mul_right _ (by omega);rw[List.getElem?_append_right (by omega)]at hu;refine(hnr (k-rows.length) j r d u hr hd ?_).keep hk;rw[←hu,hlx,Nat.sub_mul];congr 1;omega
 let cap:Nat:=capOf v'
 let g':Gh:=⟨fun k=>if t==k then v'.ownBlock else g.bl k,fun k=>if t==k then cap else g.cp k⟩
 have hOR:∀M',OR w' ok g' M' t (.arr e i.size (rows++rows2)):=fun M'=>by
  refine⟨hsz,hrows,?_⟩;rcases h2.2 with⟨hv',h0⟩|⟨gg,cap',cur,hv',_,hg,hle,hcm,hcs,htk⟩
  ·left;refine⟨by simp[g',hv',Value.ownBlock],List.eq_nil_of_length_eq_zero (by simpa using h0)⟩
  ·right;have hc:cap=cap':=by
    show capOf v'=cap';rw[hv'];rfl
   refine⟨gg,cur,by simp[g',hv',Value.ownBlock],hg,by simp[g',hc];omega,by simp[g',hc];exact hcm,by simp[g',hc];exact hcs,fun k j r c u hr hcc hu=>?_⟩;refine hcells k j r c u hr hcc ?_;rw[←htk,List.getElem?_take];have hk1:k<rows.length+rows2.length:=by have:=(List.getElem?_eq_some_iff.1 hr).1;simpa using this
   have hj:j<i.size:=by have:=hrows k r hr;have:=(List.getElem?_eq_some_iff.1 hcc).1;omega
   have:(k+1) * i.size≤(rows.length+rows2.length) * i.size:=Nat.mul_le_mul_right _ hk1;rw[Nat.add_mul]at this;rw[if_pos (by omega)];simpa using hu
 have hMS:=MS.Zg7 (w':=w') (ok':=ok) (g':=g') hM (Kz [(t,some (.arr e i.size (rows++rows2)))]) (Z5 [t]) (Q4 [(t,some (.arr e i.size (rows++rows2)))])
  (fun k hk=>by rwa [G9,←Zx t (some (.arr e i.size (rows++rows2)))]at hk)
  (fun k x hU hN=>by
   rw[Zx]at hU;have e1:t=k:=by simpa using hU
   subst e1;simp[Q4]at hN;subst hN;exact hOR _)
  (fun k hk=>by rw[G9]at hk;simp[g',hk])
  (fun k x hU hq=>by rw[Zx]at hU;rw[G9]at hq;rw[hU]at hq;cases hq)
  (fun k x b hU hx hb=>by
   rw[Zx]at hU;refine h3.block b (hM.own k x b hx hb).2.1 fun e=>?_
   exact(hvown b e.symm).2.2.2 k x (fun e=>by subst e;simp at hU) hx hb)
  hokc (fun _ h=>h) (fun _ h=>.inl h)
  (fun k x b hU hN hb=>by
   rw[Zx]at hU;have hb':v'.ownBlock=some b:=by simpa[g',hU]using hb
   obtain⟨a1,a2,a3,a4⟩:=hblk b hb'
   refine ⟨a1, a2, by have e1 : t = k := by simpa using hU
                      rw[←e1]; exact a3, fun j xj hUj hj hbj=> ?_, fun j xj hUj _ _=> ?_⟩
   ·rw[Zx]at hUj;exact a4 j xj (fun e=>by subst e;simp at hUj) hj hbj
   ·rw[Zx]at hUj;have e1:t=k:=by simpa using hU
    have e2:t=j:=by simpa using hUj
    rw[←e1,←e2])
  (fun k hk => by rw [G9] at hk; have e1 : t = k := by simpa using hk
                  rw[←e1]; exact ht)
  h3.size
  (fun b hb hT=>h3.block b (by have:=hM.size;omega) fun e=>by
   rcases(hvown b e.symm).2.2.1 with h|h
   ·omega
   ·exact hT h.1)
  h3.os h3.tape h3.output
 refine⟨v',w',g',hrun,hMS.1,hMS.2,.arr _ _ _ _ ?_ fun e' sz' rows' hx=>?_⟩
 ·rcases h2.2 with⟨hv',_⟩|⟨gg,cap',cur,hv',_⟩<;> rw[hv']<;> rfl
 ·simp only[J7,Zx,beq_self_eq_true,if_true,Q4]at hx;cases hx;refine⟨by simp,?_⟩;rcases h2.2 with⟨hv',h0⟩|⟨gg,cap',cur,hv',_⟩
  ·left;exact⟨by simp[g',hv',Value.ownBlock],hv',rfl,by simpa using h0⟩
  ·right;left;have hc:cap=cap':=by
    show capOf v'=cap';rw[hv'];rfl
   refine⟨gg,by simp[g',hv',Value.ownBlock],?_⟩;have e1:g'.cp t=cap':=by simp[g',hc]
   rw[e1,hv'];simp
theorem MS.app(hM:MS C w ok g m)(t:Nat)(ht:kept t=false){ty e tr:TypeId}{i:TypeInfo}{z:Value}(hu:P.underlying ty=some (.slice e))(hi:P.info? e=some i)(hz:i.zero=some z)(o:z.cells.size=i.size)(I:0<i.size)
  {v:Value} {n:Nat} {xs:List Value} (l:w.ownsRow 0 e i.size v n xs) (a2:∀b,v.ownBlock=some b->g.bl t=some b/\∃x,m t=some x)
  {rows:List (List D)} (hn:rows.length=n) (a3:∀(k:Nat) (r:List D),rows[k]? =some r->r.length=i.size)
  (a4:∀(k j:Nat) (r:List D) (d:D) (u:Value),rows[k]? =some r->r[j]? =some d->xs[k * i.size+j]? =some u->Xk w ok d u)
  {A:Option Addr} {cc:Nat} {news:List Value} {rows2:List (List D)} (J:∀(k:Nat) (r:List D),rows2[k]? =some r->r.length=i.size) (T:news.length=rows2.length * i.size)
  (U:∀j u,news[j]? =some u->∃ad,A=some ad/\w.cell? (ad.add j)=some u) (a1:∀u∈news,u.oneCell'=true)
  (a5:∀(k j:Nat) (r:List D) (d:D) (u:Value),rows2[k]? =some r->r[j]? =some d->news[k * i.size+j]? =some u->Xk w ok d u)
  (a6:rows.length+rows2.length<=maxLen) (f:(rows.length+rows2.length) * i.bytes<=140737488355328):
  ∃v' w' g',(Builtin.append_ #[ty,ty] tr #[v,.slice A rows2.length cc]).run P w= .ok v' w'/\
   MS C w' ok g' (J7 m (Kz [(t,some (.arr e i.size (rows++rows2)))]) (Z5 [t]) (Q4 [(t,some (.arr e i.size (rows++rows2)))]))/\
   (∀c v,c.has (Z5 [t])=false->VR w ok g m c v->VR w' ok g' (J7 m (Kz [(t,some (.arr e i.size (rows++rows2)))]) (Z5 [t]) (Q4 [(t,some (.arr e i.size (rows++rows2)))])) c v)/\
   VR w' ok g' (J7 m (Kz [(t,some (.arr e i.size (rows++rows2)))]) (Z5 [t]) (Q4 [(t,some (.arr e i.size (rows++rows2)))])) (.arr t 0 (rows.length+rows2.length)) v':=by
 subst hn;exact MS.app0 hM t ht hu hi hz o I l.1 a2 rfl a3 a4 J T U a1 a5 (Qn (P:=P) w 0 ty tr e i z i.size i.bytes hu hi hz rfl rfl o I v rows.length xs l A rows2.length cc news T U a1 a6 f (Nat.zero_le _))
theorem RQ(w:World)(t ty e:TypeId)(i:TypeInfo)(z:Value)(ht:P.underlying t=some (.slice e))(hi:P.info? e=some i)(hz:i.zero=some z)(a3:z.cells.size=i.size)(T:0<i.size)
  (A0:Option Addr) (n:Nat) (xs:List Value) (r:xs.length=n * i.size) (U:∀j u,xs[j]? =some u->∃o,A0=some o/\w.cell? (o.add j)=some u)
  (A:Option Addr) (m c:Nat) (news:List Value) (hl:news.length=m * i.size) (hc:∀j u,news[j]? =some u->∃o,A=some o/\w.cell? (o.add j)=some u) (h1:∀u∈news,u.oneCell'=true)
  (hm:0<m) (a1:n+m<=maxLen) (g:(n+m) * i.bytes<=140737488355328):
  ∃v' w',(Builtin.append_ #[t,t] ty #[.slice A0 n n,.slice A m c]).run P w= .ok v' w'/\w'.ownsRow 0 e i.size v' (n+m) (xs++news)/\w.grownBy w' none/\
   (v'.ownBlock=none\/v'.ownBlock=some w.heap.size):=by
 have a9:=Nat.mul_pos hm T;obtain⟨o,rfl⟩:∃o,A=some o:=by
  rcases news with _|⟨u,us⟩
  ·simp at hl;omega
  ·obtain⟨o,h,_⟩:=hc 0 u rfl;exact⟨o,h⟩
 have l:∀j u,news[j]? =some u->w.cell? (o.add j)=some u:=λj u hu=>by
  obtain⟨a4,h,I⟩:=hc j u hu;injection h with h;subst h;exact I
 have C:(xs++news).length=(n+m) * i.size:=by rw[List.length_append,r,hl,Nat.add_mul]
 have a5:grownCap w (n+m) n e<=maxLen:=grownCap_le_maxLen w (n+m) n e a1;have a6:=grownCap_ge w (n+m) n e;have a2:n+m<=9223372036854775807:=by simp only[maxLen]at a1;omega
 have f:(w.drew.alloc (.cells (xs.toArray++news.toArray++Builtin.zeroCells z.cells (grownCap w (n+m) n e-(n+m))) e)).ownsRow 0 e i.size
    (.slice (some ⟨w.heap.size,0,none⟩) (n+m) (grownCap w (n+m) n e)) (n+m) (xs++news)/\
   w.grownBy (w.drew.alloc (.cells (xs.toArray++news.toArray++Builtin.zeroCells z.cells (grownCap w (n+m) n e-(n+m))) e)) none:=by
  refine⟨⟨C,.inr ⟨w.heap.size,_,_,rfl,Nat.zero_le _,heap_alloc_new w.drew _,a6,a5,?_,?_⟩⟩,⟨rfl,rfl,rfl,by simp,λk hk _=>heap_alloc_old w.drew _ hk⟩⟩
  ·simp only[Array.size_append,List.size_toArray,size_zeroCells,a3,r,hl,<-Nat.add_mul];congr 1;omega
  ·simp only[Array.toList_append,List.append_assoc];rw[<-List.append_assoc,<-C];exact List.take_left
 rcases A0 with _|a0
 ·have a7:xs=[]:=by
   rcases xs with _|⟨u,us⟩
   ·rfl
   ·obtain⟨_,h,_⟩:=U 0 u rfl;cases h
  subst a7;have a8:n=0:=by
   rcases Nat.eq_zero_or_pos n with h|h
   ·exact h
   ·have:=Nat.mul_pos h T;simp at r;omega
  subst a8;have hr:=run_append_nil (P:=P) w t ty e i z ht hi hz o m c news hl l (by omega) (by omega) (by have hb:=g;simp only[Nat.zero_add]at hb;omega);simp only[Nat.zero_add,List.nil_append,Array.empty_append]at f⊢;exact⟨_,_,hr,f.1,f.2,.inr rfl⟩
 ·have J:∀j u,xs[j]? =some u->w.cell? (a0.add j)=some u:=λj u hu=>by
   obtain⟨a4,h,I⟩:=U j u hu;injection h with h;subst h;exact I
  have hr:=run_append_grow (P:=P) w t ty e i z ht hi hz a0 n n xs r J o m c news hl l (by omega) (by omega) (growslice_fits (by omega) g);exact⟨_,_,hr,f.1,f.2,.inr rfl⟩
end
end
section
open Go.RowKit
def ZC(o:Nat)(x:Q9):AV->AV
 | .arr f l n=>if f==o then (match x with| .arr _ _ rows=>.d (.sl ((rows.drop l).take n))|_=>.any)else .arr f l n
 | .Rx f i j=>if f==o then (match x with| .arr _ _ rows=>(match rows[i]? with|some r=>if j<=r.length then .d (.ptr (r.drop j))else .any|none=>.any)|_=>.any)else .Rx f i j
 | .ptr f g=>if f==o then (match x with| .blk _ cs=>(match ZQ cs with|some t=>if g<=t.length then .d (.ptr (t.drop g))else .any|none=>.any)|_=>.any)else .ptr f g
 | .mp f=>if f==o then .any else .mp f
 |v=>v
mutual
def AV.F7(o:Nat)(x:Q9):AV->AV
 | .agg cs=>.agg (Jp o x cs)
 | .tuple cs=>.tuple (Jp o x cs)
 | .clo f cs=>.clo f (Jp o x cs)
 | .any=>.any
 | .d d=>.d d
 | .lit v=>.lit v
 | .fl r=>.fl r
 | .ptr g k=>ZC o x (.ptr g k)
 | .arr g l n=>ZC o x (.arr g l n)
 | .Rx g i j=>ZC o x (.Rx g i j)
 | .mp g=>ZC o x (.mp g)
def Jp(o:Nat)(x:Q9):List AV->List AV
 |[]=>[]
 |c::cs=>AV.F7 o x c::Jp o x cs
end
theorem Jo(o:Nat)(x:Q9)(cs:List AV):Jp o x cs=cs.map (AV.F7 o x):=by
 induction cs with
 |nil=>rfl
 |cons c cs f=>simp only[Jp,List.map_cons,f]
def Q9.F7(o:Nat)(x:Q9):Q9->Q9
 | .blk t cs=>.blk t (Jp o x cs)
 | .arr e sz rows=>.arr e sz rows
 | .map g i n f=>.map g i n f
 | .raw r=>.raw r
def Xf(o:Nat)(x:Q9):List (Nat×AV)->List (Nat×AV)
 |[]=>[]
 |(t,v)::r=>(t,v.F7 o x)::Xf o x r
def T9(o:Nat)(x:Q9):List (Nat×Option Q9)->List (Nat×Option Q9)
 |[]=>[]
 |(t,v)::r=>(t,if t==o then none else v.map (Q9.F7 o x))::T9 o x r
theorem NT(o:Nat)(x:Q9)(f:List (Nat×AV))(t:Nat):X4 (Xf o x f) t=(X4 f t).F7 o x:=by
 induction f with
 |nil=>rfl
 |cons y r g=>obtain⟨u,v⟩:=y;simp only[Xf,X4,g];split<;> rfl
theorem Dh(o:Nat)(x:Q9)(f:List (Nat×Option Q9))(t:Nat):Q4 (T9 o x f) t=if t==o then none else (Q4 f t).map (Q9.F7 o x):=by
 induction f with
 |nil=>simp[T9,Q4]
 |cons y r g=>
  obtain⟨u,v⟩:=y;simp only[T9,Q4];by_cases h:(u==t)=true
  ·have:u=t:=by simpa using h
   subst this;simp
  ·simp only[Bool.not_eq_true]at h;simp only[h];exact g
section
variable {w:World} {ok:Nat->Prop} {g:Gh} {m:Me}
theorem VR.F7{C:Cx}(hM:MS C w ok g m){o:Nat}{x:Q9}(hx:m o=some x){c:AV}{v:Value}(h:VR w ok g m c v):
  VR w (λb=>ok b\/g.bl o=some b) g (λi=>if i==o then none else (m i).map (Q9.F7 o x)) (c.F7 o x) v:=by
 have weak:∀{d:D} {v:Value},Xk w ok d v->Xk w (λb=>ok b\/g.bl o=some b) d v:=λh=>h.weak λb hb=>.inl hb
 have a3:∀{l:Nat} {y:Q9},(l==o)=false->(if (l==o)=true then none else (m l).map (Q9.F7 o x))=some y->∃z,m l=some z/\y=Q9.F7 o x z:=λa9 hy=>by
  rw[if_neg (by simp[a9])]at hy;obtain⟨z,hz,rfl⟩:=Option.map_eq_some_iff.1 hy;exact⟨z,hz,rfl⟩
 induction h with
 |any v=>exact .any v
 |d d v h=>exact .d d v (weak h)
 |lit v h=>exact .lit v h
 |fl rows v h hr=>exact .fl rows v h (weak hr)
 |ptr l P v hv h=>
  simp only[AV.F7,ZC];rcases ho:l==o
  ·simp only[Bool.false_eq_true,if_false];refine .ptr l P v hv λy hy=>?_
   obtain⟨z,hz,_⟩:=a3 ho hy;exact h z hz
  ·simp only[if_true];have e:l=o:=by simpa using ho
   subst e;split
   ·rename_i t cs;split
    ·rename_i ds b0;split
     ·rename_i b3;obtain⟨b,hb,rfl⟩:=h _ hx;obtain⟨b',vs,a5,hw,a6⟩:=hM.obj l _ hx;rw[hb]at a5;obtain rfl:=Option.some.inj a5;obtain⟨k1,T⟩:=VL b0;have hl:=a6.1;simp at hl;refine .d _ _ (.ptr _ b P (λj=>vs[P+j]?.getD undef) (.inr hb) (λj hj=>?_) (λj d hd=>?_))
      ·simp at hj;rw[cell_of_row w b _ vs t (0,0) hw,Array.getElem?_eq_getElem (by omega)];rfl
      ·rw[List.getElem?_drop]at hd;have hj:P+j<ds.length:=(List.getElem?_eq_some_iff.1 hd).1;have U:cs[P+j]? =some cs[P+j]:=List.getElem?_eq_getElem (by omega);have a7:vs[P+j]? =some (vs[P+j]'(by omega)):=Array.getElem?_eq_getElem (by omega);rw[a7,Option.getD_some];exact weak (VM (T _ _ _ U hd) (a6.2.1 _ _ _ U (by rw[Array.getElem?_toList];exact a7)))
     ·exact .any _
    ·exact .any _
   ·exact .any _
 |arr l lo n v hv h=>
  simp only[AV.F7,ZC];rcases ho:l==o
  ·simp only[Bool.false_eq_true,if_false];refine .arr l lo n v hv λe sz rows hy=>?_
   obtain⟨z,hz,J⟩:=a3 ho hy;cases z with
   |blk t cs=>cases J
   |arr e' b1 a4=>cases J;exact h _ _ _ hz
   |map ks ag n a8=>cases J
   |raw r=>cases J
  ·simp only[if_true];have e:l=o:=by simpa using ho
   subst e;split
   ·rename_i e sz rows;obtain⟨h1,h2⟩:=h _ _ _ hx;obtain⟨k0,k1,T⟩:=hM.obj l _ hx;have a1:((rows.drop lo).take n).length=n:=by simp;omega
    have nil:n=0->∀a cc,v= .slice a 0 cc->cc<=maxLen->(a=none->cc=0)->VR w (λb=>ok b\/g.bl l=some b) g (λi=>if i==l then none else (m i).map (Q9.F7 l (.arr e sz rows))) (.d (.sl ((rows.drop lo).take n))) v:=λhn a cc b2 g1 g2=>by
     subst hn;rw[b2,List.take_zero];exact .d _ _ (.empty a cc g2 g1)
    rcases h2 with⟨_,rfl,rfl,rfl⟩|⟨b,hb,rfl⟩|⟨_,rfl,a,cc,rfl,h3,h4⟩
    ·exact nil rfl _ _ rfl (Nat.zero_le _) (λ_=>rfl)
    ·rcases T with⟨T,_⟩|⟨b',I,T,k3,k4,k5,k6,k7⟩
     ·rw[hb]at T;cases T
     ·rw[hb]at T;obtain rfl:=Option.some.inj T;rcases Nat.eq_zero_or_pos n with hn|hn
      ·subst hn;exact nil rfl _ _ rfl (by omega) (by simp)
      ·have hx:=Xk.sl (w:=w) (ok:=λb=>ok b\/g.bl l=some b) ((rows.drop lo).take n) sz b (lo * sz) (g.cp l-lo) (λi j=>I[(lo+i) * sz+j]?.getD undef) (λe=>by rw[e]at a1;simp at a1;omega) (by omega) (by omega)
        (λi r hr=>?_) (.inr hb) (λi j hi hj=>?_) (λi j r d hr hd=>?_)
       ·rw[a1]at hx;exact .d _ _ hx
       ·rw[List.getElem?_take]at hr;split at hr
        ·rw[List.getElem?_drop]at hr;exact k1 _ r hr
        ·cases hr
       ·rw[a1]at hi;have:(lo+i+1) * sz<=g.cp l * sz:=Nat.mul_le_mul_right _ (by omega);rw[Nat.add_mul]at this;rw[cell_of_row w b _ I e (0,0) k3,<-Nat.add_assoc,<-Nat.add_mul,Array.getElem?_eq_getElem (by omega)];rfl
       ·have hi:i<n:=by have:=(List.getElem?_eq_some_iff.1 hr).1;omega
        rw[List.getElem?_take,if_pos hi,List.getElem?_drop]at hr;have hj:j<sz:=by have:=k1 _ r hr;have:=(List.getElem?_eq_some_iff.1 hd).1;omega
        have:(lo+i+1) * sz<=g.cp l * sz:=Nat.mul_le_mul_right _ (by omega);rw[Nat.add_mul]at this;have U:I[(lo+i) * sz+j]? =some (I[(lo+i) * sz+j]'(by omega)):=Array.getElem?_eq_getElem _;rw[U,Option.getD_some];exact weak (k7 _ j r d _ hr hd U)
    ·exact nil rfl a cc rfl h3 h4
   ·exact .any _
 |Rx l i j v hv h=>
  simp only[AV.F7,ZC];rcases ho:l==o
  ·simp only[Bool.false_eq_true,if_false];refine .Rx l i j v hv λe sz rows hy=>?_
   obtain⟨z,hz,J⟩:=a3 ho hy;cases z with
   |blk t cs=>cases J
   |arr e' b1 a4=>cases J;exact h _ _ _ hz
   |map ks ag n a8=>cases J
   |raw r=>cases J
  ·simp only[if_true];have e:l=o:=by simpa using ho
   subst e;split
   ·rename_i e sz rows;split
    ·rename_i r hr;split
     ·rename_i b4;obtain⟨b,hb,rfl⟩:=h _ _ _ hx;obtain⟨k0,k1,T⟩:=hM.obj l _ hx;rcases T with⟨T,_⟩|⟨b',I,T,k3,k4,k5,k6,k7⟩
      ·rw[hb]at T;cases T
      ·rw[hb]at T;obtain rfl:=Option.some.inj T;have hi:i<rows.length:=(List.getElem?_eq_some_iff.1 hr).1;have b5:=k1 i r hr;have b6:i * sz+sz<=I.size:=by
        rw[k6];have:(i+1) * sz<=g.cp l * sz:=Nat.mul_le_mul_right _ (by omega);rw[Nat.add_mul]at this;omega
       refine .d _ _ (.ptr _ b _ (λk=>I[i * sz+j+k]?.getD undef) (.inr hb) (λk hk=>?_) (λk d hd=>?_))
       ·simp at hk;rw[cell_of_row w b _ I e (0,0) k3,Array.getElem?_eq_getElem (by omega)];rfl
       ·rw[List.getElem?_drop]at hd;have hk:j+k<r.length:=(List.getElem?_eq_some_iff.1 hd).1;have U:I[i * sz+j+k]? =some (I[i * sz+j+k]'(by omega)):=Array.getElem?_eq_getElem _;rw[U,Option.getD_some];exact weak (k7 i (j+k) r d _ hr hd (by rw[<-Nat.add_assoc];exact U))
     ·exact .any _
    ·exact .any _
   ·exact .any _
 |mp l v hv h=>
  simp only[AV.F7,ZC];rcases ho:l==o
  ·simp only[Bool.false_eq_true,if_false];refine .mp l v hv λy hy=>?_
   obtain⟨z,hz,_⟩:=a3 ho hy;exact h z hz
  ·simp only[if_true];exact .any _
 |agg cs vs hl h h1 ih=>
  simp only[AV.F7,Jo];refine .agg _ _ (by simpa using hl) (λi c v U hv=>?_) h1;rw[List.getElem?_map]at U;obtain⟨c',a2,rfl⟩:=Option.map_eq_some_iff.1 U;exact ih i c' v a2 hv
 |tuple cs vs hl h ih=>
  simp only[AV.F7,Jo];refine .tuple _ _ (by simpa using hl) (λi c v U hv=>?_);rw[List.getElem?_map]at U;obtain⟨c',a2,rfl⟩:=Option.map_eq_some_iff.1 U;exact ih i c' v a2 hv
 |clo f cs vs hl h ih=>
  simp only[AV.F7,Jo];refine .clo f _ _ (by simpa using hl) (λi c v U hv=>?_);rw[List.getElem?_map]at U;obtain⟨c',a2,rfl⟩:=Option.map_eq_some_iff.1 U;exact ih i c' v a2 hv
theorem MS.F7{C:Cx}(l:MS C w ok g m){o:Nat}{x:Q9}(hx:m o=some x)(ho:Nat.ble 500 o=false):
  MS C w (λb=>ok b\/g.bl o=some b) g (λi=>if i==o then none else (m i).map (Q9.F7 o x)):=by
 have P:∀{i:Nat} {y:Q9},(if (i==o)=true then none else (m i).map (Q9.F7 o x))=some y->i≠o/\∃z,m i=some z/\y=Q9.F7 o x z:=λ{i y} U=>by
  by_cases h:i=o
  ·subst h;simp at U
  ·rw[if_neg (by simpa using h)]at U;obtain⟨z,hz,rfl⟩:=Option.map_eq_some_iff.1 U;exact⟨h,z,hz,rfl⟩
 have a9:o<500:=by
  rcases Nat.lt_or_ge o 500 with h|h
  ·exact h
  ·rw[Nat.ble_eq_true_of_le h]at ho;cases ho
 refine⟨λi y U=>?_,λi j xi xj b hi hj a2 a3=>?_,λi y b U I=>?_,λb I=>?_,λb I=>.inl (l.okk b I),l.size,l.heap,l.keep,l.os,l.tape,l.output,l.gi,l.gb⟩
 ·obtain⟨a1,z,hz,rfl⟩:=P U;have hO:=l.obj i z hz;cases z with
  |blk t cs=>
   obtain⟨b,vs,h1,T,J⟩:=hO;refine⟨b,vs,h1,T,by rw[Jo];simpa using J.1,λk c v hc hv=>?_,J.2.2⟩;rw[Jo,List.getElem?_map]at hc;obtain⟨c',a4,rfl⟩:=Option.map_eq_some_iff.1 hc;exact(J.2.1 k c' v a4 hv).F7 l hx
  |arr e sz rows=>
   obtain⟨h1,T,J⟩:=hO;refine⟨h1,T,?_⟩;rcases J with J|⟨b,a5,k1,k2,k3,k4,k5,k6⟩
   ·exact .inl J
   ·exact .inr ⟨b,a5,k1,k2,k3,k4,k5,λa b c d e f g h=>(k6 a b c d e f g h).weak λb I=>.inl I⟩
  |map ks ag n a8=>
   obtain⟨b,es,clock,h1,T,J⟩:=hO;exact⟨b,es,clock,h1,T,J.keep (λ_ _=>rfl) λb I=>.inl I⟩
  |raw r=>exact RV.mono hO (λ_ _=>rfl) rfl (λ_ _=>rfl) (λb I=>.inl I)
 ·obtain⟨_,zi,a6,_⟩:=P hi;obtain⟨_,zj,a7,_⟩:=P hj;exact l.inj i j zi zj b a6 a7 a2 a3
 ·obtain⟨a1,z,hz,_⟩:=P U;obtain⟨h1,T,J⟩:=l.own i z b hz I;refine⟨λh=>?_,T,J⟩;rcases h with h|h
  ·exact h1 h
  ·exact a1 (l.inj i o z x b hz hx I h)
 ·rcases I with I|I
  ·exact l.okb b I
  ·obtain⟨_,T,J⟩:=l.own o x b hx I;refine⟨T,?_⟩;rcases J with J|J
   ·exact .inr J
   ·omega
end
def AS.F7(s:AS)(o:Nat):AS:=
 match Q4 s.mem o with
 |some x=>{ s with fr:=Xf o x s.fr,mem:=T9 o x s.mem }
 |none=>s
theorem St.F7{C:Cx}{s:AS}{a:Act}{w:World}(h:St C s a w)(o:Nat)(l:Nat.ble 500 o=false):St C (s.F7 o) a w:=by
 unfold AS.F7;split
 ·rename_i x f;obtain⟨ok,g,j,r,I,J⟩:=h;have e:(λt=>Q4 (T9 o x s.mem) t)=λi=>if i==o then none else (Q4 s.mem i).map (Q9.F7 o x):=funext λi=>Dh o x s.mem i
  refine⟨λb=>ok b\/g.bl o=some b,g,?_,r,I,λt=>?_⟩
  ·have:=j.F7 f l;rw[<-e]at this;exact this
  ·have:=(J t).F7 j f;rw[<-e]at this;dsimp only;rw[NT];exact this
 ·exact h
theorem St.weak{C:Cx}{s s':AS}{a:Act}{w:World}(h:St C s a w)(hn:s'.n=s.n)(hf:∀t,X4 s'.fr t= .any\/X4 s'.fr t=X4 s.fr t)(P:∀o x,Q4 s'.mem o=some x->Q4 s.mem o=some x):St C s' a w:=by
 obtain⟨ok,g,f,h1,h2,h3⟩:=h;have mono:∀c v,VR w ok g (Q4 s.mem) c v->VR w ok g (Q4 s'.mem) c v:=λc v hv=>
  hv.mono (λ_=>false) (AV.Gq (λ_=>rfl) c) (λ_ _=>rfl) (λ_ h=>h) λo I _ J=>⟨I,P o I J,Q9.O6 I,rfl,rfl⟩
 refine⟨ok,g,⟨λo x hx=>?_,λi j U xj b T hj=>f.inj i j U xj b (P i U T) (P j xj hj),λi x b T=>f.own i x b (P i x T),f.okb,f.okk,f.size,f.heap,f.keep,f.os,f.tape,f.output,f.gi,f.gb⟩,by rw[hn];exact h1,h2,λt=>?_⟩
 ·refine(f.obj o x (P o x hx)).mono (λ_=>false) ?_ (λ_ _=>rfl) rfl rfl (λ_ _=>rfl) (λ_ h=>h) λo I _ J=>⟨I,P o I J,Q9.O6 I,rfl,rfl⟩
  cases x with
  |blk t cs=>
   have:∀l:List AV,AV.Uv (λ_=>false) l=false:=λl=>by
    induction l with
    |nil=>rfl
    |cons c r ih=>simp only[AV.Uv,ih,AV.Gq (λ_=>rfl) c,Bool.or_self]
   exact this cs
  |arr e sz rows=>trivial
  |map ks ag n a1=>trivial
  |raw r=>trivial
 ·rcases hf t with h|h
  ·rw[h];exact .any _
  ·rw[h];exact mono _ _ (h3 t)
theorem oM{p:Prop}(h:p:=by omega):p:=h
end
end Go.Proofs.YtnddiddkmhiclaaGreatDoor
