import Derived.Test.YtnddiddkmhiclaaGreatDoorEng1
import Derived.Lib.LazyBuf
set_option maxHeartbeats 2000000
set_option linter.unusedVariables false
namespace Go.Proofs.YtnddiddkmhiclaaGreatDoor
section
open Go.RowKit
def D.JI(k:D):List (D×List D)->Option (List D)
 |[]=>none
 |(a,r)::l=>if D.Ut a k then some r else D.JI k l
def D.Ti(k:D)(l:List (D×List D)):List (D×List D):=l.filter λp=>!D.Ut p.1 k
def D.Fu(k:D)(r:List D)(l:List (D×List D)):List (D×List D):=(k,r)::D.Ti k l
theorem D.Ch{a b:D}(h:D.Ut a b=true):a=b:=by
 cases a<;> cases b<;> simp_all [D.Ut]
theorem D.DC{ks:Bool}{a:D}(h:D.U7 ks a=true):D.Ut a a=true:=by
 cases ks<;> cases a<;> simp_all [D.U7,D.Ut]
theorem D.Mt{k:D}{ks:Bool}(f:D.U7 ks k=true):∀{l:List (D×List D)} {j:Nat} {r:List D},l.Pairwise (λp q=>D.Ut p.1 q.1=false)->l[j]? =some (k,r)->D.JI k l=some r
 |[],_,_,_,h=>by simp at h
 |(a,g)::l,0,r,hp,h=>by
  simp only[List.getElem?_cons_zero,Option.some.injEq,Prod.mk.injEq]at h;obtain⟨rfl,rfl⟩:=h;rw[D.JI,if_pos (D.DC f)]
 |(a,g)::l,j+1,r,hp,h=>by
  simp only[List.getElem?_cons_succ]at h;obtain⟨i,o⟩:=List.pairwise_cons.1 hp;rw[D.JI,if_neg (by rw[i _ (List.mem_of_getElem? h)];simp)];exact D.Mt f o h
theorem D.MB{k:D}:∀{l:List (D×List D)},(∀p∈l,p.1≠k)->D.JI k l=none
 |[],_=>rfl
 |(a,r)::l,h=>by
  rw[D.JI,if_neg (λe=>h (a,r) (List.mem_cons_self ..) (D.Ch e))];exact D.MB λp hp=>h p (List.mem_cons_of_mem _ hp)
theorem D.EW{k:D}{l:List (D×List D)}(h:∀p∈l,p.1≠k):D.Ti k l=l:=by
 unfold D.Ti;refine List.filter_eq_self.2 λp hp=>?_
 cases e:D.Ut p.1 k
 ·rfl
 ·exact absurd (D.Ch e) (h p hp)
theorem D.FB(k:D){l:List (D×List D)}(f:l.Pairwise λp q=>D.Ut p.1 q.1=false):(D.Ti k l).Pairwise λp q=>D.Ut p.1 q.1=false:=f.sublist List.filter_sublist
theorem D.Fp(k:D)(r:List D){l:List (D×List D)}(f:l.Pairwise λp q=>D.Ut p.1 q.1=false):(D.Fu k r l).Pairwise λp q=>D.Ut p.1 q.1=false:=by
 refine List.pairwise_cons.2 ⟨λp hp=>?_,D.FB k f⟩;rw[D.Ti,List.mem_filter]at hp;rw[D.Yh];simpa using hp.2
theorem D.Fy{k:D}{ks:Bool}(o:D.U7 ks k=true){l:List (D×List D)}{j:Nat}{r:List D}(t:l.Pairwise λp q=>D.Ut p.1 q.1=false)(f:l[j]? =some (k,r)):D.Ti k l=l.eraseIdx j:=by
 induction l generalizing j with
 |nil=>simp at f
 |cons p l C=>
  obtain⟨i,I⟩:=List.pairwise_cons.1 t;rcases j with _|j
  ·simp only[List.getElem?_cons_zero,Option.some.injEq]at f;subst f;unfold D.Ti;rw[List.filter_cons,if_neg (by simp[D.DC o]),List.eraseIdx_zero,List.tail_cons];refine List.filter_eq_self.2 λq J=>?_
   have:=i q J;rw[D.Yh]at this;simp[this]
  ·simp only[List.getElem?_cons_succ]at f;have g:D.Ut p.1 k=false:=i _ (List.mem_of_getElem? f);unfold D.Ti;rw[List.filter_cons,if_pos (by simp[g]),List.eraseIdx_cons_succ];congr 1;exact C I f
section
variable {w:World} {ok:Nat->Prop}
def R9:D->Value
 | .str s=>.string s
 | .int n=>.int .i64 n
 |_=>undef
theorem VY{ks:Bool}{k:D}{v:Value}(f:D.U7 ks k=true)(h:Xk w ok k v):v=R9 k:=by
 cases ks<;> cases k<;> simp[D.U7]at f<;> cases h<;> rfl
theorem Cg{ks:Bool}{a b:D}(f:D.U7 ks a=true)(g:D.U7 ks b=true)(h:R9 a=R9 b):a=b:=by
 cases ks<;> cases a<;> simp[D.U7]at f<;> cases b<;> simp[D.U7]at g<;> simp_all [R9]
def Ji(ks:Bool):TypeDesc:=if ks then .string else .int .i64
theorem Dv{ks:Bool}{k:D}(f:D.U7 ks k=true):MapKept.IsKey (Ji ks) (R9 k):=by
 cases ks<;> cases k<;> simp[D.U7]at f<;> simp[Ji,R9,MapKept.IsKey]
variable {ks ag:Bool} {n:Nat} {ents:List (D×List D)} {es:Array MapEntry} {clock:Nat}
theorem I6.isKey(h:I6 w ok ks ag n ents es clock):∀x∈es.toList,MapKept.IsKey (Ji ks) x.key:=by
 intro x r;obtain⟨l,t,J,C⟩:=h.perm;obtain⟨i,g⟩:=List.mem_iff_getElem?.1 r;have f:i<l.length:=by have:=(List.getElem?_eq_some_iff.1 g).1;simp at this;omega
 have j:l[i]? =some l[i]:=List.getElem?_eq_getElem f;have I:=t.mem_iff.1 (List.mem_of_getElem? j);have o:=(h.keys _ I).1;rw[VY o (C i x _ (by simpa using g) j).1];exact Dv o
theorem I6.find(h:I6 w ok ks ag n ents es clock){k:D}(C:D.U7 ks k=true):
  (Instr.findNow (Ji ks) (R9 k) es.toList 0=some none/\(∀x∈es.toList,x.key≠R9 k)/\∀p∈ents,p.1≠k)\/
  ∃(l:List (D×List D)) (j:Nat) (e:MapEntry) (r:List D),l.Perm ents/\l.length=es.size/\(∀(i:Nat) (e:MapEntry) (p:D×List D),es[i]? =some e->l[i]? =some p->Xk w ok p.1 e.key/\Qu w ok ag p.2 e.val)/\
   Instr.findNow (Ji ks) (R9 k) es.toList 0=some (some (j,e.val))/\es[j]? =some e/\e.key=R9 k/\l[j]? =some (k,r)/\Qu w ok ag r e.val:=by
 obtain⟨l,I,h2,J⟩:=h.perm;rcases MapKept.findNow_spec (Dv C) es.toList 0 h.isKey with⟨f1,o⟩|⟨j,e,f1,o,U⟩
 ·refine .inl ⟨f1,o,λp hp f=>?_⟩;obtain⟨i,hi⟩:=List.mem_iff_getElem?.1 (I.mem_iff.2 hp);have P:i<es.size:=by have:=(List.getElem?_eq_some_iff.1 hi).1;omega
  have g:es[i]? =some es[i]:=Array.getElem?_eq_getElem P;refine o es[i] (by simp) ?_;rw[<-f];exact VY (by rw[f];exact C) (J i _ p g hi).1
 ·rw[Nat.zero_add]at f1;have g:es[j]? =some e:=by simpa using o
  have T:j<l.length:=by have:=(Array.getElem?_eq_some_iff.1 g).1;omega
  have t:l[j]? =some l[j]:=List.getElem?_eq_getElem T;generalize l[j]=p at t;obtain⟨r1,r2⟩:=J j e p g t;have hm:=I.mem_iff.1 (List.mem_of_getElem? t);have f:=(h.keys _ hm).1;have:p.1=k:=Cg f C (by rw[<-VY f r1,U]);obtain⟨p1,p2⟩:=p;dsimp only at this r2;subst this;exact .inr ⟨l,j,e,p2,I,h2,J,f1,g,U,t,r2⟩
theorem I6.JI(h:I6 w ok ks ag n ents es clock){k:D}(f:D.U7 ks k=true){l:List (D×List D)}{j:Nat}{r:List D}(hp:l.Perm ents)(g:l[j]? =some (k,r)):D.JI k ents=some r:=by
 obtain⟨i,o⟩:=List.mem_iff_getElem?.1 (hp.mem_iff.1 (List.mem_of_getElem? g));exact D.Mt f h.nodup o
theorem I6.push(h:I6 w ok ks ag n ents es clock){k:D}(I:D.U7 ks k=true)(g:Xk w ok k (R9 k))(j:∀p∈ents,p.1≠k)(o:∀x∈es.toList,x.key≠R9 k){r:List D}{v:Value}(hr:r.length=n)(J:Qu w ok ag r v):
  I6 w ok ks ag n (D.Fu k r ents) (es.push { key:=R9 k,val:=v,born:=clock }) (clock+1):=by
 obtain⟨l,P,C,T⟩:=h.perm;refine⟨MapKept.stamped_push h.st o,λp hp=>?_,D.Fp k r h.nodup,l++[(k,r)],?_,by simp[C],λi e p f hp=>?_⟩
 ·rcases List.mem_cons.1 hp with rfl|hp
  ·exact⟨I,hr⟩
  ·exact h.keys p (List.mem_filter.1 hp).1
 ·rw[D.Fu,D.EW j];exact(List.perm_append_singleton (k,r) l).trans (P.cons _)
 ·by_cases U:i<es.size
  ·rw[Array.getElem?_push,if_neg (by omega)]at f;rw[List.getElem?_append_left (by omega)]at hp;exact T i e p f hp
  ·have t:i=es.size:=by have:=(Array.getElem?_eq_some_iff.1 f).1;simp at this;omega
   subst t;simp only[Array.getElem?_push_size,Option.some.injEq]at f;rw[<-C,List.getElem?_append_right (Nat.le_refl _),Nat.sub_self]at hp;simp only[List.getElem?_cons_zero,Option.some.injEq]at hp;subst f;subst hp;exact⟨g,J⟩
theorem set_perm{f:Type}(l:List f)(j:Nat)(x:f)(g:j<l.length):(l.set j x).Perm (x::l.eraseIdx j):=by
 induction l generalizing j with
 |nil=>simp at g
 |cons a l i=>
  rcases j with _|j
  ·simp
  ·simp only[List.set_cons_succ,List.eraseIdx_cons_succ];exact((i j (by simpa using g)).cons a).trans (List.Perm.swap x a _)
theorem I6.put(h:I6 w ok ks ag n ents es clock){k:D}(T:D.U7 ks k=true)(C:Xk w ok k (R9 k)){l:List (D×List D)}{j:Nat}{e:MapEntry}{r0:List D}(hp:l.Perm ents)(hl:l.length=es.size)
  (h3:∀(i:Nat) (e:MapEntry) (p:D×List D),es[i]? =some e->l[i]? =some p->Xk w ok p.1 e.key/\Qu w ok ag p.2 e.val) (U:es[j]? =some e) (I:e.key=R9 k) (o:l[j]? =some (k,r0)) {r:List D} {v:Value} (hr:r.length=n) (hv:Qu w ok ag r v):
  I6 w ok ks ag n (D.Fu k r ents) (es.modify j λe=>{ e with key:=R9 k,val:=v }) clock:=by
 have J:l.Pairwise λp q=>D.Ut p.1 q.1=false:=(hp.symm.pairwise_iff λ{a b} P=>by rw[D.Yh];exact P).1 h.nodup
 have hj:j<l.length:=(List.getElem?_eq_some_iff.1 o).1;refine⟨MapKept.stamped_modify h.st _ _ (λ_ _=>rfl) (λe' _ f=>by rw[U]at f;cases f;exact I.symm),λp hp=>?_,D.Fp k r h.nodup,l.set j (k,r),?_,by simp[hl],λi e' p f g=>?_⟩
 ·rcases List.mem_cons.1 hp with rfl|hp
  ·exact⟨T,hr⟩
  ·exact h.keys p (List.mem_filter.1 hp).1
 ·refine(set_perm l j (k,r) hj).trans ?_;rw[<-D.Fy T J o];exact(hp.filter _).cons _
 ·rw[Array.getElem?_modify]at f;rw[List.getElem?_set]at g;by_cases t:j=i
  ·subst t;rw[if_pos rfl,U]at f;rw[if_pos rfl,if_pos hj]at g;simp only[Option.map_some,Option.some.injEq]at f g;subst f;subst g;exact⟨C,hv⟩
  ·rw[if_neg t]at f g;exact h3 i e' p f g
theorem I6.del(h:I6 w ok ks ag n ents es clock){k:D}(U:D.U7 ks k=true){l:List (D×List D)}{j:Nat}{e:MapEntry}{r0:List D}(hp:l.Perm ents)(hl:l.length=es.size)
  (J:∀(i:Nat) (e:MapEntry) (p:D×List D),es[i]? =some e->l[i]? =some p->Xk w ok p.1 e.key/\Qu w ok ag p.2 e.val) (he:es[j]? =some e) (r:l[j]? =some (k,r0)):
  I6 w ok ks ag n (D.Ti k ents) (es.eraseIdxIfInBounds j) clock:=by
 have t:l.Pairwise λp q=>D.Ut p.1 q.1=false:=(hp.symm.pairwise_iff λ{a b} C=>by rw[D.Yh];exact C).1 h.nodup
 have hj:j<l.length:=(List.getElem?_eq_some_iff.1 r).1;have I:j<es.size:=by omega
 have P:(es.eraseIdxIfInBounds j).toList=es.toList.eraseIdx j:=by simp[Array.eraseIdxIfInBounds,I]
 refine⟨MapKept.stamped_erase h.st j,λp hp=>h.keys p (List.mem_filter.1 hp).1,D.FB k h.nodup,l.eraseIdx j,?_,?_,λi T p g f=>?_⟩
 ·rw[<-D.Fy U t r];exact hp.filter _
 ·have:=congrArg List.length P;simp only[Array.length_toList]at this;rw[this,List.length_eraseIdx,List.length_eraseIdx];simp[hl]
 ·rw[<-Array.getElem?_toList,P,List.getElem?_eraseIdx]at g;rw[List.getElem?_eraseIdx]at f;split at g
  ·rename_i o;rw[if_pos o]at f;exact J i T p (by simpa using g) f
  ·rename_i o;rw[if_neg o]at f;exact J (i+1) T p (by simpa using g) f
theorem I6.empty(ks ag:Bool)(n:Nat):I6 w ok ks ag n [] #[] 0:=
 ⟨MapKept.stamped_empty 0,by simp,by simp,[],List.Perm.refl _,rfl,by simp⟩
end
section
variable {P:Program} {C:Cx} {w:World} {ok:Nat->Prop} {g:Gh} {m:Me}
theorem MS.Xk0(o:MS C w ok g m)(d:Nat)(hd:kept d=false)(ks ag:Bool)(n:Nat):
  ∃g',g'.bl d=some w.heap.size/\MS C (w.alloc (.map #[] 0)) ok g' (J7 m (Kz [(d,some (.map ks ag n []))]) (Z5 [d]) (Q4 [(d,some (.map ks ag n []))]))/\
   ∀c v,c.has (Z5 [d])=false->VR w ok g m c v->VR (w.alloc (.map #[] 0)) ok g' (J7 m (Kz [(d,some (.map ks ag n []))]) (Z5 [d]) (Q4 [(d,some (.map ks ag n []))])) c v:=by
 refine⟨⟨λi=>if d==i then some w.heap.size else g.bl i,λi=>if d==i then 0 else g.cp i⟩,by simp,?_⟩;refine MS.Zg7 o _ _ _ ?_ ?_ ?_ ?_ ?_ ?_ ?_ ?_ ?_ ?_ ?_ ?_ rfl rfl rfl
 ·intro i r;rwa [G9,<-Zx d (some (.map ks ag n []))]at r
 ·intro i x' l I;rw[Zx]at l;have J:d=i:=by simpa using l
  subst J;simp[Q4]at I;subst I;exact⟨w.heap.size,#[],0,by simp,(MapKept.heap_alloc w _).1,I6.empty ks ag n⟩
 ·intro i r;rw[G9]at r;simp[r]
 ·intro i x' l P;rw[Zx]at l;rw[G9]at P;rw[l]at P;cases P
 ·intro i y b l hy f;exact Below.heap_alloc w _ b (o.own i y b hy f).2.1
 ·intro b f;exact Below.heap_alloc w _ b (o.okb b f).1
 ·exact λb f=>f
 ·exact λb f=>.inl f
 ·intro i y b l I f;rw[Zx]at l;simp only[l,if_true,Option.some.injEq]at f;subst f;refine⟨λh=>by have:=(o.okb _ h).1;omega,by simp,.inl o.size,λj U t hj f=>?_,λj U t _ _=>?_⟩
  ·have:=(o.own j U _ hj f).2.1;omega
  ·rw[Zx]at t;have T:d=i:=by simpa using l
   have e2:d=j:=by simpa using t
   rw[<-T,<-e2]
 ·intro i r;rw[G9]at r;have T:d=i:=by simpa using r
  rw[<-T];exact hd
 ·simp
 ·intro b f _;exact Below.heap_alloc w _ b (by have:=o.size;omega)
theorem Xy(w:World)(b f:Nat)(o:Obj)(h:f≠b):({ w with heap:=w.heap.setIfInBounds b o }:World).heap[f]? =w.heap[f]?:=by
 simp[Array.getElem?_setIfInBounds_ne (Ne.symm h)]
theorem MS.Qj4(hM:MS C w ok g m)(o:Nat){b:Nat}(hb:g.bl o=some b){ks ag:Bool}{n:Nat}{ents l:List (D×List D)}(hx:m o=some (.map ks ag n ents)){es I:Array MapEntry}{clock f:Nat}(hw:w.heap[b]? =some (.map es clock))
  (hr:I6 w ok ks ag n l I f):
  MS C { w with heap:=w.heap.setIfInBounds b (.map I f) } ok g (J7 m (Kz [(o,some (.map ks ag n l))]) (Z5 []) (Q4 [(o,some (.map ks ag n l))]))/\
   ∀c v,c.has (Z5 [])=false->VR w ok g m c v->VR { w with heap:=w.heap.setIfInBounds b (.map I f) } ok g (J7 m (Kz [(o,some (.map ks ag n l))]) (Z5 []) (Q4 [(o,some (.map ks ag n l))])) c v:=by
 have r:=hM.own o _ b hx hb;have hq:∀i,Z5 [] i=false:=λ_=>rfl
 have T:∀p:Addr,ok p.block->World.cell? { w with heap:=w.heap.setIfInBounds b (.map I f) } p=w.cell? p:=λp hp=>
  World.ZI (Xy w b _ _ λe=>by rw[e]at hp;exact r.1 hp)
 refine MS.Zg7 hM _ _ _ ?_ ?_ ?_ ?_ ?_ ?_ ?_ ?_ ?_ ?_ ?_ ?_ rfl rfl rfl
 ·intro i hi;rw[hq i]at hi;cases hi
 ·intro i y' J hN;rw[Zx]at J;have e:o=i:=by simpa using J
  subst e;simp[Q4]at hN;subst hN;exact⟨b,I,f,hb,(MapKept.heap_set hw).1,hr.keep T λ_ h=>h⟩
 ·exact λi _=>⟨rfl,rfl⟩
 ·intro i y' J _ hN;rw[Zx]at J;have e:o=i:=by simpa using J
  subst e;simp[Q4]at hN;subst hN;exact⟨_,hx,rfl,rfl,rfl⟩
 ·intro i y U J hy t;refine Xy w b U _ λe=>?_
  subst e;rw[Zx]at J;exact absurd (hM.inj i o y _ U hy hx t hb) (λe=>by subst e;simp at J)
 ·intro U t;exact Xy w b U _ λe=>by subst e;exact r.1 t
 ·exact λ_ h=>h
 ·exact λ_ h=>.inl h
 ·intro i y U J hN t;rw[Zx]at J;have e:o=i:=by simpa using J
  subst e;rw[hb]at t;obtain rfl:=Option.some.inj t;refine⟨r.1,by simpa using r.2.1,r.2.2,λj xj P hj a1=>?_,λj xj P _ _=>by rw[Zx]at P;simpa using P⟩;rw[Zx]at P;exact absurd (hM.inj j o xj _ b hj hx a1 hb) (λe=>by subst e;simp at P)
 ·intro i hi;rw[hq i]at hi;cases hi
 ·simp
 ·intro U t hT;refine Xy w b U _ λe=>?_
  subst e;rcases r.2.2 with h|h
  ·omega
  ·exact hT h.1
theorem MS.putRaw(hM:MS C w ok g m)(o:Nat){b:Nat}(hb:g.bl o=some b){x T:Q9}(hx:m o=some x)(hl:x.like T){ob:Obj}{w':World}(t:w'=({ w with heap:=w.heap.setIfInBounds b ob }:World))
  (a1:OR w' ok g (J7 m (Kz [(o,some T)]) (Z5 []) (Q4 [(o,some T)])) o T):
  MS C w' ok g (J7 m (Kz [(o,some T)]) (Z5 []) (Q4 [(o,some T)]))/\
   ∀c v,c.has (Z5 [])=false->VR w ok g m c v->VR w' ok g (J7 m (Kz [(o,some T)]) (Z5 []) (Q4 [(o,some T)])) c v:=by
 have f:=hM.own o _ b hx hb;have hq:∀i,Z5 [] i=false:=λ_=>rfl
 have I:∀r,r≠b->w'.heap[r]? =w.heap[r]?:=λr h=>by rw[t];exact Xy w b r _ h
 refine MS.Zg7 hM _ _ _ ?_ ?_ ?_ ?_ ?_ ?_ ?_ ?_ ?_ ?_ ?_ ?_ (by rw[t]) (by rw[t]) (by rw[t])
 ·intro i hi;rw[hq i]at hi;cases hi
 ·intro i y' J U;rw[Zx]at J;have e:o=i:=by simpa using J
  subst e;simp[Q4]at U;subst U;exact a1
 ·exact λi _=>⟨rfl,rfl⟩
 ·intro i y' J _ U;rw[Zx]at J;have e:o=i:=by simpa using J
  subst e;simp[Q4]at U;subst U;exact⟨_,hx,hl⟩
 ·intro i y r J hy l;refine I r λe=>?_
  subst e;rw[Zx]at J;exact absurd (hM.inj i o y _ r hy hx l hb) (λe=>by subst e;simp at J)
 ·intro r l;exact I r λe=>by subst e;exact f.1 l
 ·exact λ_ h=>h
 ·exact λ_ h=>.inl h
 ·intro i y r J U l;rw[Zx]at J;have e:o=i:=by simpa using J
  subst e;obtain rfl:b=r:=by rw[hb]at l;exact Option.some.inj l
  refine⟨f.1,by rw[t];simpa using f.2.1,f.2.2,λj xj P hj a2=>?_,λj xj P _ _=>?_⟩
  ·rw[Zx]at P;exact absurd (hM.inj j o xj _ b hj hx a2 hb) (λe=>by subst e;simp at P)
  ·rw[Zx]at P;have e2:o=j:=by simpa using P
   exact e2
 ·intro i hi;rw[hq i]at hi;cases hi
 ·rw[t];simp
 ·intro r l hT;refine I r λe=>?_
  subst e;rcases f.2.2 with h|⟨h,_⟩
  ·omega
  ·exact hT h
theorem Tt.isKey{ks ag:Bool}{n:Nat}{f:List (Nat×D×List D)}{es:Array MapEntry}{clock:Nat}(h:Tt w ok ks ag n f es clock):I6 w ok ks ag n (f.map (·.2)) es clock:=
 ⟨h.st,λp hp=>by obtain⟨q,g,rfl⟩:=List.mem_map.1 hp;exact h.keys q g,List.pairwise_map.2 h.nodup,f.map (·.2),List.Perm.refl _,by rw[List.length_map,h.size],λi e p j hp=>by
  rw[List.getElem?_map]at hp;obtain⟨q,g,rfl⟩:=Option.map_eq_some_iff.1 hp;exact(h.at' i e q j g).2⟩
theorem Tt.push{ks ag:Bool}{n:Nat}{f:List (Nat×D×List D)}{es:Array MapEntry}{clock:Nat}(h:Tt w ok ks ag n f es clock){k:D}(C:D.U7 ks k=true)(j:Xk w ok k (R9 k))(l:∀p∈f,D.Ut p.2.1 k=false)(o:∀x∈es.toList,x.key≠R9 k){r:List D}{v:Value}(hr:r.length=n)(I:Qu w ok ag r v):
  Tt w ok ks ag n (f++[(clock,k,r)]) (es.push { key:=R9 k,val:=v,born:=clock }) (clock+1):=by
 refine⟨MapKept.stamped_push h.st o,λp hp=>?_,?_,by simp[h.size],λi e p g hp=>?_⟩
 ·rcases List.mem_append.1 hp with hp|hp
  ·exact h.keys p hp
  ·rw[List.mem_singleton.1 hp];exact⟨C,hr⟩
 ·rw[List.pairwise_append];exact⟨h.nodup,List.pairwise_singleton ..,λp hp q J=>by rw[List.mem_singleton.1 J];exact l p hp⟩
 ·rw[Array.getElem?_push]at g;rw[List.getElem?_append]at hp;split at g
  ·rename_i t;rw[if_neg (by rw[h.size];omega)]at hp;rw[t,h.size]at hp;simp at hp g;subst hp g;exact⟨rfl,j,I⟩
  ·rename_i t;have P:i<es.size:=(Array.getElem?_eq_some_iff.1 g).1;rw[if_pos (by rw[h.size];omega)]at hp;exact h.at' i e p g hp
def Ol(c:Int)(r:List D)(f:List (Nat×D×List D)):List (Nat×D×List D):=f.map λp=>if (p.1:Int)=c then (p.1,p.2.1,r)else p
theorem Zq5(c:Int)(r:List D)(f:List (Nat×D×List D)):(Ol c r f).length=f.length:=by simp[Ol]
theorem Tt.set{ks ag:Bool}{n:Nat}{f:List (Nat×D×List D)}{es:Array MapEntry}{clock:Nat}(h:Tt w ok ks ag n f es clock){c:Int}{j:Nat}{I:MapEntry}(P:es[j]? =some I)(hc:(I.born:Int)=c){r:List D}{v:Value}(hr:r.length=n)(hv:Qu w ok ag r v):
  Tt w ok ks ag n (Ol c r f) (es.modify j λe=>{ e with val:=v }) clock:=by
 have t:∀p∈Ol c r f,∃q∈f,p.2.1=q.2.1/\(p=q\/p.2.2=r):=λp hp=>by
  obtain⟨q,g,rfl⟩:=List.mem_map.1 hp;refine⟨q,g,?_⟩;split
  ·exact⟨rfl,.inr rfl⟩
  ·exact⟨rfl,.inl rfl⟩
 refine⟨MapKept.stamped_modify h.st _ _ (λ_ _=>rfl) (λ_ _ _=>rfl),λp hp=>?_,?_,by rw[Zq5,h.size];simp,λi e p l hp=>?_⟩
 ·obtain⟨q,g,h1,T⟩:=t p hp;rcases T with rfl|T
  ·exact h.keys p g
  ·rw[h1,T];exact⟨(h.keys q g).1,hr⟩
 ·unfold Ol;rw[List.pairwise_map];refine h.nodup.imp λ{a b} U=>?_
  have J:∀q:Nat×D×List D,(if (q.1:Int)=c then (q.1,q.2.1,r)else q).2.1=q.2.1:=λq=>by split<;> rfl
  rw[J,J];exact U
 ·unfold Ol at hp;rw[List.getElem?_map]at hp;obtain⟨q,g,rfl⟩:=Option.map_eq_some_iff.1 hp;rw[Array.getElem?_modify]at l;split at l
  ·rename_i o;subst o;rw[P]at l;simp at l;subst l;obtain⟨C,k2,k3⟩:=h.at' j I q P g;rw[if_pos (by rw[C];exact hc)];exact⟨C,k2,hv⟩
  ·rename_i o;obtain⟨C,k2,k3⟩:=h.at' i e q l g;rw[if_neg ?_]
   ·exact⟨C,k2,k3⟩
   ·intro a1;have J:(es.toList.map (·.born))[i]? =some q.1:=by rw[List.getElem?_map,Array.getElem?_toList,l];simp[C]
    have e2:(es.toList.map (·.born))[j]? =some q.1:=by
     rw[List.getElem?_map,Array.getElem?_toList,P];have:I.born=q.1:=by omega
     simp[this]
    exact o ((List.getElem?_inj (List.getElem?_eq_some_iff.1 e2).1 h.st.2.1).1 (e2.trans J.symm))
def Ko(P:Program)(t:TypeId):Option (TypeId×Bool×Bool×Nat):=
 match P.underlying t with
 |some (.map k e)=>match P.underlying k,Vw P e with
  |some .string,some (b,n)=>some (e,true,b,n)
  |some (.int .i64),some (b,n)=>some (e,false,b,n)
  |_,_=>none
 |_=>none
theorem YH{t e:TypeId}{ks b:Bool}{n:Nat}(h:Ko P t=some (e,ks,b,n)):∃k,P.underlying t=some (.map k e)/\P.underlying k=some (Ji ks):=by
 unfold Ko at h;split at h
 ·rename_i k i g;split at h
  ·rename_i f _;simp only[Option.some.injEq,Prod.mk.injEq]at h;obtain⟨rfl,rfl,_⟩:=h;exact⟨k,g,f⟩
  ·rename_i f _;simp only[Option.some.injEq,Prod.mk.injEq]at h;obtain⟨rfl,rfl,_⟩:=h;exact⟨k,g,f⟩
  ·cases h
 ·cases h
def OQ(P:Program)(e:TypeId)(ag:Bool):Option AV:=
 match P.info? e with
 |some i=>match i.zero with
  |some (.agg vs)=>if ag && vs.toList.all (·.oneCell')then some (.agg (vs.toList.map Gj))else none
  |some (.tuple _)=>none
  |some v=>if ag then none else some (Gj v)
  |none=>none
 |none=>none
theorem Bg{e:TypeId}{ag:Bool}{c:AV}(h:OQ P e ag=some c)(r:World):∃z,(zeroValue e).run P r= .ok z r/\∀w ok g m,VR w ok g m c z:=by
 unfold OQ at h;split at h
 ·rename_i i I;have run:∀{z:Value},i.zero=some z->(zeroValue e).run P r= .ok z r:=λ{z} o=>by simp[zeroValue,typeInfo,I,o]
  split at h
  ·rename_i vs o;split at h
   ·rename_i C;simp only[Option.some.injEq]at h;subst h;rw[Bool.and_eq_true]at C;have f:=List.all_eq_true.1 C.2;refine⟨_,run o,λw ok g m=>.agg _ _ (by simp) (λj c v t l=>?_) (λj v l=>f v ?_)⟩
    ·have:=(RH (w:=w) (ok:=ok) (g:=g) (m:=m) vs.toList f).2.1 j c v t (by simpa using l);exact this
    ·have:=Array.mem_of_getElem? l;simpa using this
   ·cases h
  ·cases h
  ·rename_i v _ _ o;split at h
   ·cases h
   ·simp only[Option.some.injEq]at h;subst h;exact⟨_,run o,λw ok g m=>Vm _⟩
  ·cases h
 ·cases h
def Xa(ag:Bool)(r:List D):AV:=if ag then .agg (r.map .d)else match r with|[d]=>.d d|_=>.any
theorem Si{ag:Bool}{r:List D}{v:Value}(h:Qu w ok ag r v):VR w ok g m (Xa ag r) v:=by
 unfold Qu at h;unfold Xa;split at h
 ·rename_i l;rw[if_pos l];obtain⟨vs,rfl,f,o⟩:=h;refine .agg _ _ (by simp[f]) (λi c u t j=>?_) (λi u j=>?_)
  ·rw[List.getElem?_map]at t;obtain⟨d,C,rfl⟩:=Option.map_eq_some_iff.1 t;exact .d d u (o i d u C j)
  ·have I:i<r.length:=by rw[<-f];exact(Array.getElem?_eq_some_iff.1 j).1
   exact(o i r[i] u (List.getElem?_eq_getElem I) j).oneCell
 ·rename_i l;rw[if_neg l];obtain⟨d,rfl,f⟩:=h;exact .d d v f
def Ij(ag:Bool):AV->Option (List D)
 | .agg cs=>if ag then ZQ cs else none
 | .d d=>if ag then none else some [d]
 | .lit (.slice none 0 0)=>if ag then none else some [.sl []]
 |_=>none
theorem AA{ag:Bool}{c:AV}{r:List D}{v:Value}(h:Ij ag c=some r)(j:VR w ok g m c v):Qu w ok ag r v:=by
 unfold Ij at h;split at h
 ·rename_i cs;split at h
  ·rename_i f;obtain⟨vs,rfl,P,l,T⟩:=j.Ju;obtain⟨U,C⟩:=VL h;unfold Qu;rw[if_pos f];refine⟨vs,rfl,by omega,λi d u o I=>?_⟩;have J:i<cs.length:=by have:=(List.getElem?_eq_some_iff.1 o).1;omega
   have t:cs[i]? =some cs[i]:=List.getElem?_eq_getElem J;exact VM (C i _ d t o) (l i _ u t I)
  ·cases h
 ·rename_i d;split at h
  ·cases h
  ·rename_i f;simp only[Option.some.injEq]at h;subst h;unfold Qu;rw[if_neg f];exact⟨d,rfl,j.Zj⟩
 ·split at h
  ·cases h
  ·rename_i f;simp only[Option.some.injEq]at h;subst h;unfold Qu;rw[if_neg f];obtain⟨l,_⟩:=j.Fw;subst l;exact⟨_,rfl,.empty none 0 (λ_=>rfl) (Nat.zero_le _)⟩
 ·cases h
def U6(P:Program)(m:Me)(f:Operand->AV)(J:Option Nat)(g:Op):Option (AV×Eff×Prop):=
 match g with
 | .nilCheck x=>match f x with
  | .ptr o k=>match m o with
   |some _=>some (.ptr o k,⟨[],[]⟩,True)
   |none=>none
  | .Rx o i j=>match m o with
   |some (.arr _ _ _)=>some (.Rx o i j,⟨[],[]⟩,True)
   |_=>none
  | .d (.ptr r)=>some (.d (.ptr r),⟨[],[]⟩,True)
  |_=>none
 | .makeMap t none=>match J,Ko P t with
  |some d,some (_,ks,ag,n)=>if Nat.ble 500 d then none else some (.mp d,⟨[d],[(d,some (.map ks ag n []))]⟩,True)
  |_,_=>none
 | .lookup t x k c=>match Ko P t,f k with
  |some (e,ks,ag,n),.d I=>if D.U7 ks I then (match OQ P e ag,f x with
   |some z,.mp o=>match m o with
    |some (.map l C _ ents)=>if l=ks/\C=ag then (match D.JI I ents with
     |some r=>some (if c then .tuple [Xa ag r,.d (.bool true)]else Xa ag r,⟨[],[]⟩,True)
     |none=>some (if c then .tuple [z,.d (.bool false)]else z,⟨[],[]⟩,True))else none
    |_=>none
   |some z,.lit (.map none)=>some (if c then .tuple [z,.d (.bool false)]else z,⟨[],[]⟩,True)
   |_,_=>none)else none
  |_,_=>none
 | .mapUpdate t x k v=>match Ko P t,f x,f k with
  |some (e,ks,ag,n),.mp o,.d I=>if D.U7 ks I then (match m o with
   |some (.map l C T ents)=>if l=ks/\C=ag then (match Ij ag (f v)with
    |some r=>some (.any,⟨[],[(o,some (.map ks ag T (D.Fu I r ents)))]⟩,r.length=T)
    |none=>none)else none
   |_=>none)else none
  |_,_,_=>none
 | .index t x i=>match P.underlying t,f x,f i with
  |some .string,.d (.str s),.d (.int n)=>match s[n.toNat]? with
   |some b=>some (.d (.num .u8 b.toNat),⟨[],[]⟩,0<=n)
   |none=>none
  |_,_,_=>none
 | .call c=>match c.callee,c.args.toList,c.argTypes.toList with
  | .builtin .len,[x],[t]=>match Ko P t,f x with
   |some _,.mp o=>match m o with
    |some (.map _ _ _ ents)=>some (.d (.int ents.length),⟨[],[]⟩,P7 ents.length)
    |_=>none
   |some _,.lit (.map none)=>some (.d (.int 0),⟨[],[]⟩,True)
   |_,_=>none
  |_,_,_=>none
 | .binOp g t x y _=>match P.underlying t with
  |some (.slice _)=>match f x,f y with
   | .d (.sl []),.lit (.slice none 0 0)=>match g with
    | .eql=>some (.d .ub,⟨[],[]⟩,True)
    | .neq=>some (.d .ub,⟨[],[]⟩,True)
    |_=>none
   | .d (.sl (_::_)),.lit (.slice none 0 0)=>match g with
    | .eql=>some (.d (.bool false),⟨[],[]⟩,True)
    | .neq=>some (.d (.bool true),⟨[],[]⟩,True)
    |_=>none
   | .lit (.slice none 0 0),.lit (.slice none 0 0)=>match g with
    | .eql=>some (.d (.bool true),⟨[],[]⟩,True)
    | .neq=>some (.d (.bool false),⟨[],[]⟩,True)
    |_=>none
   |_,_=>none
  |some (.pointer _)=>match f x,f y with
   | .d (.ptr _),.d .nil=>match g with
    | .eql=>some (.d (.bool false),⟨[],[]⟩,True)
    | .neq=>some (.d (.bool true),⟨[],[]⟩,True)
    |_=>none
   | .d .nil,.d .nil=>match g with
    | .eql=>some (.d (.bool true),⟨[],[]⟩,True)
    | .neq=>some (.d (.bool false),⟨[],[]⟩,True)
    |_=>none
   |_,_=>none
  |_=>none
 |_=>none
theorem CX{a b:Nat}(h:Nat.ble a b=false):b<a:=by
 rcases Nat.lt_or_ge b a with f|f
 ·exact f
 ·rw[Nat.ble_eq_true_of_le f]at h;cases h
theorem Es{d:Nat}(h:Nat.ble 500 d=false):kept d=false:=by
 have:=CX h;unfold kept;rcases hk:Nat.ble 1000 d
 ·rfl
 ·have:=Nat.le_of_ble_eq_true hk;omega
theorem Jh(m:Me):J7 m (Kz []) (Z5 []) (Q4 [])=m:=by
 funext i;have:(Q9.kill (Z5 ([]:List Nat)))=id:=funext λx=>Q9.QS (λ_=>rfl) x
 simp[J7,Kz,this]
theorem OR.PH{o:Nat}{ks ag:Bool}{n:Nat}{ents:List (D×List D)}(h:OR w ok g m o (.map ks ag n ents)):∃b es clock,g.bl o=some b/\w.heap[b]? =some (.map es clock)/\I6 w ok ks ag n ents es clock:=h
theorem Qv7{ks ag:Bool}{n:Nat}{ents:List (D×List D)}{es:Array MapEntry}{clock:Nat}(h:I6 w ok ks ag n ents es clock){i:TypeId}(f:P.underlying i=some (Ji ks)){g:D}(o:D.U7 ks g=true):
  (∃r j e,(Instr.findKey i (R9 g) es.toList).run P w= .ok (some (j,e.val)) w/\es[j]? =some e/\D.JI g ents=some r/\Qu w ok ag r e.val)\/((Instr.findKey i (R9 g) es.toList).run P w= .ok none w/\D.JI g ents=none):=by
 rcases h.find o with⟨f1,_,t⟩|⟨l,j,e,r,C,U,q3,f1,I,t,J,T⟩
 ·exact .inr ⟨MapKept.run_findKey f f1,D.MB t⟩
 ·exact .inl ⟨r,j,e,MapKept.run_findKey f f1,I,h.JI o C J,T⟩
theorem Ch{a b:D}(h:D.Ut a b=true):a=b:=by
 cases a<;> cases b<;> simp_all [D.Ut]
theorem DC{ks:Bool}{k:D}(h:D.U7 ks k=true):D.Ut k k=true:=by
 unfold D.U7 at h;cases k<;> cases ks<;> first|(cases h;done)|simp[D.Ut]
theorem Qv8{s:AS}{a:Act}{o:Oper}(h:St C s a w){c:AV}{e:Eff}{p:Prop}(f:U6 P (Q4 s.mem) (V5 s.fr) o.dst o.op=some (c,e,p))(hp:p)(hd:∀d,o.dst=some d->d<s.n):
  ∃v w',((execOp a.eval o).run P w= .ok (.value v) w'\/((execOp a.eval o).run P w= .ok .skip w'/\v=undef))/\St C (s.after o.dst c e) (a.put o.dst v) w':=by
 obtain⟨ok,g,hM,hs,b8,hf⟩:=h;have a2:∀x,VR w ok g (Q4 s.mem) (V5 s.fr x) (a.eval x):=WT hf;have I:∀{c:AV} {v:Value},VR w ok g (Q4 s.mem) c v->(execOp a.eval o).run P w= .ok (.value v) w->
   ∃v w',((execOp a.eval o).run P w= .ok (.value v) w'\/((execOp a.eval o).run P w= .ok .skip w'/\v=undef))/\St C (s.after o.dst c ⟨[],[]⟩) (a.put o.dst v) w':=λ{c v} hc c7=>by
  refine⟨v,w,.inl c7,St.after (ok:=ok) (g:=g) (ok':=ok) (g':=g) hs b8 hf o.dst hd _ v ⟨[],[]⟩ ?_ (λ_=>?_)⟩
  ·rw[Jh];exact⟨hM,λc v _ h=>h⟩
  ·rw[Jh];exact hc
 obtain⟨c3,op,ty,pos,after,guard⟩:=o;dsimp only at f hd I⊢;unfold U6 at f;split at f
 ·rename_i x;have T:=a2 x;split at f
  ·rename_i o k e1;rw[e1]at T;split at f
   ·rename_i y hy;simp only[Option.some.injEq,Prod.mk.injEq]at f;obtain⟨rfl,rfl,rfl⟩:=f;obtain⟨b,_,e2⟩:=T.Ga hy;exact I T (by simp only[execOp,e2];rfl)
   ·cases f
  ·rename_i o i j e1;rw[e1]at T;split at f
   ·rename_i hy;simp only[Option.some.injEq,Prod.mk.injEq]at f;obtain⟨rfl,rfl,rfl⟩:=f;obtain⟨b,_,e2⟩:=T.UD hy;exact I T (by simp only[execOp,e2];rfl)
   ·cases f
  ·rename_i r e1;rw[e1]at T;simp only[Option.some.injEq,Prod.mk.injEq]at f;obtain⟨rfl,rfl,rfl⟩:=f;have hr:=T.Zj;generalize hv:a.eval x=v at hr T;cases hr;exact I T (by simp only[execOp,hv];rfl)
  ·cases f
 ·rename_i t;split at f
  ·rename_i d e2 ks ag n _;split at f
   ·cases f
   ·rename_i d0;simp only[Option.some.injEq,Prod.mk.injEq]at f;obtain⟨rfl,rfl,rfl⟩:=f;have c8:Nat.ble 500 d=false:=by rw[<-Bool.not_eq_true];exact d0
    obtain⟨g',k1,k2⟩:=MS.Xk0 hM d (Es c8) ks ag n;refine⟨.map (some w.heap.size),_,.inl ?_,St.after hs b8 hf (some d) hd _ _ ⟨[d],[(d,some (.map ks ag n []))]⟩ k2 (λ_=>.mp _ _ rfl λx T=>⟨_,k1,rfl⟩)⟩;simp only[execOp,Option.map_none,Sem.run_bind,run_makeMap,Result.andThen_ok,Sem.run_pure]
  ·cases f
 ·rename_i t x k cc;split at f
  ·rename_i e2 ks ag n kd ht c4;obtain⟨kt,hu,a3⟩:=YH ht;split at f
   ·rename_i U;have hk:=a2 k;rw[c4]at hk;have a6:=VY U hk.Zj;split at f
    ·rename_i z o hz a5;have T:=a2 x;rw[a5]at T;obtain⟨zv,b4,b5⟩:=Bg hz w;split at f
     ·rename_i b9 c0 n' ents a7;split at f
      ·rename_i b1;obtain⟨rfl,rfl⟩:=b1;obtain⟨b,hb,J⟩:=T.Cb a7;obtain⟨b',es,clock,b0,hw,hR⟩:=(hM.obj o _ a7).PH;rw[hb]at b0;obtain rfl:=Option.some.inj b0;rcases Qv7 hR a3 U with⟨r,j,e,f1,f2,f3,f4⟩|⟨f1,f3⟩
       ·rw[f3]at f;simp only[Option.some.injEq,Prod.mk.injEq]at f;obtain⟨rfl,rfl,rfl⟩:=f;cases cc with
        |true=>
         refine I (v:=.tuple #[e.val,.bool true]) ?_ ?_
         ·simp only[if_true];refine .tuple _ _ rfl λi c v hc hv=>?_
          match i with
          |0=>simp at hc hv;subst hc;subst hv;exact Si f4
          |1=>simp at hc hv;subst hc;subst hv;exact .d _ _ (.bool true)
          |i+2=>simp at hc
         ·simp[execOp,Instr.lookup,J,a6,run_underlying hu,MapKept.run_getObj_map hw,MapKept.run_checkKey a3 (Dv U),f1,Result.andThen]
        |false=>
         refine I (v:=e.val) (Si f4) ?_;simp[execOp,Instr.lookup,J,a6,run_underlying hu,MapKept.run_getObj_map hw,MapKept.run_checkKey a3 (Dv U),f1,Result.andThen]
       ·rw[f3]at f;simp only[Option.some.injEq,Prod.mk.injEq]at f;obtain⟨rfl,rfl,rfl⟩:=f;cases cc with
        |true=>
         refine I (v:=.tuple #[zv,.bool false]) ?_ ?_
         ·simp only[if_true];refine .tuple _ _ rfl λi c v hc hv=>?_
          match i with
          |0=>simp at hc hv;subst hc;subst hv;exact b5 _ _ _ _
          |1=>simp at hc hv;subst hc;subst hv;exact .d _ _ (.bool false)
          |i+2=>simp at hc
         ·simp[execOp,Instr.lookup,J,a6,run_underlying hu,MapKept.run_getObj_map hw,MapKept.run_checkKey a3 (Dv U),f1,b4,Result.andThen]
        |false=>
         refine I (v:=zv) (b5 _ _ _ _) ?_;simp[execOp,Instr.lookup,J,a6,run_underlying hu,MapKept.run_getObj_map hw,MapKept.run_checkKey a3 (Dv U),f1,b4,Result.andThen]
      ·cases f
     ·cases f
    ·rename_i z hz a5;have T:=a2 x;rw[a5]at T;obtain⟨J,_⟩:=T.Fw;obtain⟨zv,b4,b5⟩:=Bg hz w;have f1:(Instr.findKey kt (R9 kd) []).run P w= .ok none w:=MapKept.run_findKey a3 rfl;simp only[Option.some.injEq,Prod.mk.injEq]at f;obtain⟨rfl,rfl,rfl⟩:=f;cases cc with
     |true=>
      refine I (v:=.tuple #[zv,.bool false]) ?_ ?_
      ·simp only[if_true];refine .tuple _ _ rfl λi c v hc hv=>?_
       match i with
       |0=>simp at hc hv;subst hc;subst hv;exact b5 _ _ _ _
       |1=>simp at hc hv;subst hc;subst hv;exact .d _ _ (.bool false)
       |i+2=>simp at hc
      ·simp[execOp,Instr.lookup,J,a6,run_underlying hu,MapKept.run_checkKey a3 (Dv U),f1,b4,Result.andThen]
     |false=>
      refine I (v:=zv) (b5 _ _ _ _) ?_;simp[execOp,Instr.lookup,J,a6,run_underlying hu,MapKept.run_checkKey a3 (Dv U),f1,b4,Result.andThen]
    ·cases f
   ·cases f
  ·cases f
 ·rename_i t x k v;split at f
  ·rename_i e2 ks ag n o kd ht a5 c4;obtain⟨kt,hu,a3⟩:=YH ht;split at f
   ·rename_i U;have hk:=a2 k;rw[c4]at hk;have a6:=VY U hk.Zj;have c9:Xk w ok kd (R9 kd):=by rw[<-a6];exact hk.Zj
    have T:=a2 x;rw[a5]at T;split at f
    ·rename_i b9 c0 n' ents a7;split at f
     ·rename_i b1;obtain⟨rfl,rfl⟩:=b1;split at f
      ·rename_i r hr;simp only[Option.some.injEq,Prod.mk.injEq]at f;obtain⟨rfl,rfl,rfl⟩:=f;have c2:=AA hr (a2 v);obtain⟨b,hb,J⟩:=T.Cb a7;obtain⟨b',es,clock,b0,hw,hR⟩:=(hM.obj o _ a7).PH;rw[hb]at b0;obtain rfl:=Option.some.inj b0;rcases hR.find U with⟨f1,f2,f3⟩|⟨l,j,e,r0,q1,q2,q3,f1,f2,f3,f4,f5⟩
       ·have b6:=MS.Qj4 hM o hb a7 hw (hR.push U c9 f3 f2 hp c2);refine⟨undef,_,.inr ⟨?_,rfl⟩,St.after hs b8 hf c3 hd _ _ ⟨[],[(o,some (.map b9 c0 n' (D.Fu kd r ents)))]⟩ b6 (λ_=>.any _)⟩;simp[execOp,Instr.mapUpdate,J,a6,run_underlying hu,MapKept.run_getObj_map hw,MapKept.run_checkKey a3 (Dv U),MapKept.run_findKey a3 f1,MapKept.run_setObj_map _ hw,Result.andThen]
       ·have b6:=MS.Qj4 hM o hb a7 hw (hR.put U c9 q1 q2 q3 f2 f3 f4 hp c2);refine⟨undef,_,.inr ⟨?_,rfl⟩,St.after hs b8 hf c3 hd _ _ ⟨[],[(o,some (.map b9 c0 n' (D.Fu kd r ents)))]⟩ b6 (λ_=>.any _)⟩;simp[execOp,Instr.mapUpdate,J,a6,run_underlying hu,MapKept.run_getObj_map hw,MapKept.run_checkKey a3 (Dv U),MapKept.run_findKey a3 f1,f2,f3,MapKept.run_keyThatStays (Dv U),MapKept.run_setObj_map _ hw,Result.andThen]
      ·cases f
     ·cases f
    ·cases f
   ·cases f
  ·cases f
 ·rename_i t x i;split at f
  ·rename_i s0 n hu a5 d1;have T:=a2 x;rw[a5]at T;have hi:=a2 i;rw[d1]at hi;obtain⟨J,_⟩:=T.Zj.P9;obtain⟨d2,_⟩:=hi.Zj.X5;split at f
   ·rename_i b hb;simp only[Option.some.injEq,Prod.mk.injEq]at f;obtain⟨rfl,rfl,rfl⟩:=f;have d3:IntKind.u8.min<=(b.toNat:Int):=by
     have e0:IntKind.u8.min=0:=rfl;rw[e0];omega
    have d4:(b.toNat:Int)<=IntKind.u8.max:=by
     have e0:IntKind.u8.max=255:=rfl;have:=b.toNat_lt;rw[e0];omega
    refine I (v:=.int .u8 b.toNat) (.d _ _ (.num .u8 b.toNat d3 d4)) ?_;have e:(if 0<=n then s0[n.toNat]? else none)=some b:=by rw[if_pos hp,hb]
    simp[execOp,Instr.index,J,d2,asIntOf,run_underlying hu,e,Result.andThen]
   ·cases f
  ·cases f
 ·rename_i cc;split at f
  ·rename_i x t b2 a9 b3;split at f
   ·rename_i tm o ht a5;have T:=a2 x;rw[a5]at T;split at f
    ·rename_i b9 c0 n' ents a7;simp only[Option.some.injEq,Prod.mk.injEq]at f;obtain⟨rfl,rfl,rfl⟩:=f;obtain⟨b,hb,J⟩:=T.Cb a7;obtain⟨b',es,clock,b0,hw,hR⟩:=(hM.obj o _ a7).PH;rw[hb]at b0;obtain rfl:=Option.some.inj b0;obtain⟨e2,d5,d6,n2⟩:=tm;obtain⟨kt,hu,_⟩:=YH ht;obtain⟨callee,args,c5⟩:=cc;dsimp only at b2 a9 b3;subst b2;have ha:args= #[x]:=by apply Array.ext';simpa using a9
     have c6:c5= #[t]:=by apply Array.ext';simpa using b3
     subst ha;subst c6;obtain⟨l,q1,q2,_⟩:=hR.perm;have d7:es.size=ents.length:=by rw[<-q2,q1.length_eq]
     refine I (v:=.int .i64 ents.length) (.d _ _ (.int _ hp.1 hp.2)) ?_;have hk:(Builtin.len_ #[t] ty #[a.eval x]).run P w= .ok (.int .i64 ents.length) w:=by
      simp[Builtin.len_,J,run_underlying hu,MapKept.run_getObj_map hw,goInt,d7,Result.andThen]
     simp[execOp,resolve,invoke,builtin,hk]
    ·cases f
   ·rename_i tm ht a5;have T:=a2 x;rw[a5]at T;obtain⟨J,_⟩:=T.Fw;simp only[Option.some.injEq,Prod.mk.injEq]at f;obtain⟨rfl,rfl,rfl⟩:=f;obtain⟨e2,d5,d6,n2⟩:=tm;obtain⟨kt,hu,_⟩:=YH ht;obtain⟨callee,args,c5⟩:=cc;dsimp only at b2 a9 b3;subst b2;have ha:args= #[x]:=by apply Array.ext';simpa using a9
    have c6:c5= #[t]:=by apply Array.ext';simpa using b3
    subst ha;subst c6;refine I (v:=.int .i64 0) (.d _ _ (.int 0 (by omega) (by omega))) ?_;have hk:(Builtin.len_ #[t] ty #[a.eval x]).run P w= .ok (.int .i64 0) w:=by
     simp[Builtin.len_,J,run_underlying hu,goInt]
    simp[execOp,resolve,invoke,builtin,hk]
   ·cases f
  ·cases f
 ·rename_i op t x y t2;have T:=a2 x;have hy:=a2 y;have a8:∀{u v r:Value},a.eval x=u->a.eval y=v->(eqGuard op t x y u v).run P w= .ok () w->(binOp op t u v).run P w= .ok r w->(execOp a.eval ⟨c3,.binOp op t x y t2,ty,pos,after,guard⟩).run P w= .ok (.value r) w:=λe1 e2 e3 e4=>by
   simp[execOp,e1,e2,e3,e4]
  split at f
  ·rename_i e hu;have b7:∀(ad:Option Addr) (n c:Nat),(binOp .eql t (.slice ad n c) (.slice none 0 0)).run P w= .ok (.bool ad.isNone) w/\(binOp .neq t (.slice ad n c) (.slice none 0 0)).run P w= .ok (.bool (!ad.isNone)) w:=λad n c=>
    ⟨_root_.Go.run_eql_slice_nil w t e ad n c hu,_root_.Go.run_neq_slice_nil w t e ad n c hu⟩
   have a4:∀(ad:Option Addr) (n c:Nat),(eqGuard op t x y (.slice ad n c) (.slice none 0 0)).run P w= .ok () w:=λad n c=>by
    unfold eqGuard;cases op<;> rfl
   split at f
   ·rename_i e1 e2;rw[e1]at T;rw[e2]at hy;obtain⟨ad,c',J,_⟩:=T.Zj.Ik;obtain⟨a1,_⟩:=hy.Fw;split at f
    ·simp only[Option.some.injEq,Prod.mk.injEq]at f;obtain⟨rfl,rfl,rfl⟩:=f;exact I (.d _ _ (.ub _)) (a8 J a1 (a4 _ _ _) (b7 _ _ _).1)
    ·simp only[Option.some.injEq,Prod.mk.injEq]at f;obtain⟨rfl,rfl,rfl⟩:=f;exact I (.d _ _ (.ub _)) (a8 J a1 (a4 _ _ _) (b7 _ _ _).2)
    ·cases f
   ·rename_i r0 rows e1 e2;rw[e1]at T;rw[e2]at hy;obtain⟨ad,c',J,_⟩:=T.Zj.Ik;obtain⟨a1,_⟩:=hy.Fw;have d8:ad.isNone=false:=by
     cases ad with
     |some a=>rfl
     |none=>
      have:=T.Zj;rw[J]at this;have:=this.SQ.1;cases this
    have hs:=b7 ad (r0::rows).length c';rw[d8]at hs;split at f
    ·simp only[Option.some.injEq,Prod.mk.injEq]at f;obtain⟨rfl,rfl,rfl⟩:=f;exact I (.d _ _ (.bool _)) (a8 J a1 (a4 _ _ _) hs.1)
    ·simp only[Option.some.injEq,Prod.mk.injEq]at f;obtain⟨rfl,rfl,rfl⟩:=f;exact I (.d _ _ (.bool _)) (a8 J a1 (a4 _ _ _) hs.2)
    ·cases f
   ·rename_i e1 e2;rw[e1]at T;rw[e2]at hy;obtain⟨J,_⟩:=T.Fw;obtain⟨a1,_⟩:=hy.Fw;split at f
    ·simp only[Option.some.injEq,Prod.mk.injEq]at f;obtain⟨rfl,rfl,rfl⟩:=f;exact I (.d _ _ (.bool _)) (a8 J a1 (a4 _ _ _) (b7 none 0 0).1)
    ·simp only[Option.some.injEq,Prod.mk.injEq]at f;obtain⟨rfl,rfl,rfl⟩:=f;exact I (.d _ _ (.bool _)) (a8 J a1 (a4 _ _ _) (b7 none 0 0).2)
    ·cases f
   ·cases f
  ·rename_i e hu;have c1:P.underlying t=some (.pointer (P.pointee t)):=by
    rw[hu];simp[Program.pointee,hu]
   split at f
   ·rename_i r e1 e2;rw[e1]at T;rw[e2]at hy;have a1:a.eval y= .pointer none:=by
     have:=hy.Zj;generalize a.eval y=v at this;cases this;rfl
    obtain⟨ad,J⟩:∃ad,a.eval x= .pointer (some ad):=by
     have:=T.Zj;generalize a.eval x=v at this;cases this;exact⟨_,rfl⟩
    have a4:(eqGuard op t x y (.pointer (some ad)) (.pointer none)).run P w= .ok () w:=by
     unfold eqGuard;cases op<;> rfl
    split at f
    ·simp only[Option.some.injEq,Prod.mk.injEq]at f;obtain⟨rfl,rfl,rfl⟩:=f;exact I (.d _ _ (.bool _)) (a8 J a1 a4 (by rw[run_eql_pointer_nil w t _ c1];rfl))
    ·simp only[Option.some.injEq,Prod.mk.injEq]at f;obtain⟨rfl,rfl,rfl⟩:=f;exact I (.d _ _ (.bool _)) (a8 J a1 a4 (by rw[run_neq_pointer_nil w t _ c1];rfl))
    ·cases f
   ·rename_i e1 e2;rw[e1]at T;rw[e2]at hy;have a1:a.eval y= .pointer none:=by
     have:=hy.Zj;generalize a.eval y=v at this;cases this;rfl
    have J:a.eval x= .pointer none:=by
     have:=T.Zj;generalize a.eval x=v at this;cases this;rfl
    have a4:(eqGuard op t x y (.pointer none) (.pointer none)).run P w= .ok () w:=by
     unfold eqGuard;cases op<;> rfl
    split at f
    ·simp only[Option.some.injEq,Prod.mk.injEq]at f;obtain⟨rfl,rfl,rfl⟩:=f;exact I (.d _ _ (.bool _)) (a8 J a1 a4 (by rw[run_eql_pointer_nil w t _ c1];rfl))
    ·simp only[Option.some.injEq,Prod.mk.injEq]at f;obtain⟨rfl,rfl,rfl⟩:=f;exact I (.d _ _ (.bool _)) (a8 J a1 a4 (by rw[run_neq_pointer_nil w t _ c1];rfl))
    ·cases f
   ·cases f
  ·cases f
 ·cases f
end
end
section
open Go.RowKit
def wr(n:Int):Int:=(n+9223372036854775808) % 18446744073709551616-9223372036854775808
def Qm(n:Int):Int:=(n+2147483648) % 4294967296-2147483648
theorem Cn(n:Int):IntKind.i64.wrap n=wr n:=by
 unfold wr;simp only[IntKind.wrap,IntKind.signed,IntKind.bits];simp only[Bool.true_and];split<;> rename_i f<;> simp at f<;> omega
theorem PV(n:Int):IntKind.i32.wrap n=Qm n:=by
 unfold Qm;simp only[IntKind.wrap,IntKind.signed,IntKind.bits];simp only[Bool.true_and];split<;> rename_i f<;> simp at f<;> omega
theorem JB(n:Int): -9223372036854775808<=wr n/\wr n<=9223372036854775807:=by unfold wr;omega
theorem QD(n:Int): -2147483648<=Qm n/\Qm n<=2147483647:=by unfold Qm;omega
theorem Zh8{n:Int}(h:P7 n):wr n=n:=by unfold wr;have:=h.1;have:=h.2;omega
theorem Xz0(a b:Int):wr (wr a+b)=wr (a+b):=by unfold wr;omega
theorem Zx1(a b:Int):wr (a+wr b)=wr (a+b):=by unfold wr;omega
theorem MC(n:Int):Qm (wr n)=Qm n:=by unfold wr Qm;omega
def Rw(P:Program)(f:Operand->AV):Op->Option (AV×Prop)
 | .convert g i x=>match P.underlying g,P.underlying i,f x with
  |some _,some (.int .i64),.d (.int n)=>some (.d (.int n),True)
  |some _,some (.int .i64),.d (.num _ n)=>some (.d (.int n),P7 n)
  |some _,some (.int .i32),.d (.int n)=>some (.d (.num .i32 (Qm n)),True)
  |some _,some .string,.d (.num _ n)=>some (.d (.str (Utf8.encode n)),(Utf8.encode n).size<=maxLen)
  |some _,some .string,.d (.str s)=>some (.d (.str s),True)
  |_,_,_=>none
 | .slice t x o j none=>match P.underlying t,f x,Je f o,Je f j with
  |some .string,.d (.str s),some l,some h=>some (.d (.str (s.extract (l.getD 0).toNat (h.getD s.size).toNat)),0<=l.getD 0/\l.getD 0<=h.getD s.size/\h.getD s.size<=s.size)
  |_,_,_,_=>none
 | .slice t x none (some j) (some r)=>match H7 P t,f x,f j,f r with
  |some _,.d (.sl rows),.d (.int h),.d (.int k)=>some (.fl rows,h=rows.length/\k=rows.length)
  |_,_,_,_=>none
 | .call c=>match c.callee,c.args.toList with
  | .builtin .min,[x,y]=>match f x,f y with
   | .d (.int a),.d (.int b)=>some (.d (.int (if b<a then b else a)),True)
   |_,_=>none
  | .builtin .max,[x,y]=>match f x,f y with
   | .d (.int a),.d (.int b)=>some (.d (.int (if a<b then b else a)),True)
   |_,_=>none
  |_,_=>none
 |_=>none
def H6(f:Operand->AV):Op->Option AV
 | .binOp g t x y _=>match g,f x,f y with
  | .add,.d (.int a),.d (.int b)=>some (.d (.int (wr (a+b))))
  | .sub,.d (.int a),.d (.int b)=>some (.d (.int (wr (a-b))))
  | .mul,.d (.int a),.d (.int b)=>some (.d (.int (wr (a * b))))
  | .add,.d (.num .i32 a),.d (.num .i32 b)=>some (.d (.num .i32 (Qm (a+b))))
  | .sub,.d (.num .i32 a),.d (.num .i32 b)=>some (.d (.num .i32 (Qm (a-b))))
  | .mul,.d (.num .i32 a),.d (.num .i32 b)=>some (.d (.num .i32 (Qm (a * b))))
  |_,_,_=>none
 |_=>none
section
variable {P:Program} {C:Cx} {w:World} {ok:Nat->Prop} {g:Gh} {m:Me}
theorem Xk.Xd{k:IntKind}{n:Int}{v:Value}(h:Xk w ok (.num k n) v):v= .int k n/\k.min<=n/\n<=k.max:=by cases h;exact⟨rfl,by assumption,by assumption⟩
theorem MQ(P:Program)(w:World)(len:Nat)(f g:Option Int)(j:0<=f.getD 0)(o:f.getD 0<=g.getD len)(r:g.getD len<=len):
  (Instr.sliceBounds false len len (f.map (Value.int .i64)) (g.map (Value.int .i64)) none).run P w= .ok ((f.getD 0).toNat,(g.getD len).toNat,len) w:=by
 have i:∀(n:Int) (y:Nat) (code:BoundsCode),0<=n->n<=(y:Int)->(Instr.sliceBound (.int .i64 n) y code).run P w= .ok n.toNat w:=λn y code a b=>by
  unfold Instr.sliceBound;simp only[asIntOf,Sem.run_bind,Sem.run_pure,Result.andThen_ok];rw[if_pos ⟨a,b⟩];rfl
 rcases f with _|l<;> rcases g with _|h<;> simp only[Option.getD_none,Option.getD_some,Option.map_none,Option.map_some]at * <;> simp only[Instr.sliceBounds,Sem.run_bind,Sem.run_pure,Result.andThen_ok,Option.isSome_none]
 ·simp
 ·rw[i h len _ (by omega) (by omega)];simp
 ·have:=i l len (if False then .slice3C else .sliceB) (by omega) (by omega);simp at this;simp[this]
 ·rw[i h len _ (by omega) (by omega)];have:=i l h.toNat .sliceB (by omega) (by omega);simp[this]
theorem Qh6{f:Operand->AV}{U:Operand->Value}(I:∀x,VR w ok g m (f x) (U x)){o:Oper}{c:AV}{p:Prop}(h:Rw P f o.op=some (c,p))(hp:p):
  ∃v,(execOp U o).run P w= .ok (.value v) w/\VR w ok g m c v:=by
 have val:∀{s:Sem Value} {v:Value},s.run P w= .ok v w->(do pure (Next.value (<-s)):Sem Next).run P w= .ok (.value v) w:=λ{s v} C=>by simp[C]
 obtain⟨a7,op,ty,pos,after,guard⟩:=o;dsimp only at h;unfold Rw at h;split at h
 ·rename_i b7 b8 x;have j:=I x;split at h
  ·rename_i C J e;rw[e]at j;obtain⟨r,T,l2⟩:=j.Zj.X5;simp only[Option.some.injEq,Prod.mk.injEq]at h;obtain⟨rfl,rfl⟩:=h;exact⟨.int .i64 _,val (by simp only[convert,Sem.run_bind,run_underlying C,run_underlying J,Result.andThen_ok,r,Conv.intToInt,Sem.run_pure,Za ⟨T,l2⟩]),.d _ _ (.int _ T l2)⟩
  ·rename_i C J e;rw[e]at j;obtain⟨r,T,l2⟩:=j.Zj.Xd;simp only[Option.some.injEq,Prod.mk.injEq]at h;obtain⟨rfl,rfl⟩:=h;exact⟨.int .i64 _,val (by simp only[convert,Sem.run_bind,run_underlying C,run_underlying J,Result.andThen_ok,r,Conv.intToInt,Sem.run_pure,Za hp]),.d _ _ (.int _ hp.1 hp.2)⟩
  ·rename_i C J e;rw[e]at j;obtain⟨r,T,l2⟩:=j.Zj.X5;simp only[Option.some.injEq,Prod.mk.injEq]at h;obtain⟨rfl,rfl⟩:=h;exact⟨.int .i32 _,val (by simp only[convert,Sem.run_bind,run_underlying C,run_underlying J,Result.andThen_ok,r,Conv.intToInt,Sem.run_pure,PV]),.d _ _ (.num _ _ (QD _).1 (QD _).2)⟩
  ·rename_i C J e;rw[e]at j;obtain⟨r,T,l2⟩:=j.Zj.Xd;simp only[Option.some.injEq,Prod.mk.injEq]at h;obtain⟨rfl,rfl⟩:=h;exact⟨.string _,val (by simp only[convert,Sem.run_bind,run_underlying C,run_underlying J,Result.andThen_ok,r,Conv.intToString,Sem.run_pure]),.d _ _ (.str _ hp)⟩
  ·rename_i C J e;rw[e]at j;obtain⟨r,T⟩:=j.Zj.P9;simp only[Option.some.injEq,Prod.mk.injEq]at h;obtain⟨rfl,rfl⟩:=h;exact⟨.string _,val (by simp only[convert,Sem.run_bind,run_underlying C,run_underlying J,Result.andThen_ok,r,Sem.run_pure]),.d _ _ (.str _ T)⟩
  ·cases h
 ·rename_i t x lo hi;split at h
  ·rename_i s l h' hu ex el eh;simp only[Option.some.injEq,Prod.mk.injEq]at h;obtain⟨rfl,rfl⟩:=h;have j:=I x;rw[ex]at j;obtain⟨r,C⟩:=j.Zj.P9;have e1:=Gi I el;have e2:=Gi I eh;obtain⟨p0,p1,p2⟩:=hp;refine⟨.string _,val ?_,.d _ _ (.str _ ?_)⟩
   ·simp only[Instr.sliceAt,Instr.slice,Sem.run_bind,run_underlying hu,Result.andThen_ok,r,Option.map_none,Option.isSome_none,Bool.false_eq_true,if_false,Sem.run_pure,e1,e2,MQ P w s.size l h' p0 p1 p2]
   ·rw[ByteArray.size_extract];omega
  ·cases h
 ·rename_i t x hi mx;split at h
  ·rename_i e rows h' k a8 ex eh ek;simp only[Option.some.injEq,Prod.mk.injEq]at h;obtain⟨rfl,rfl⟩:=h;obtain⟨rfl,rfl⟩:=hp;obtain⟨e1,sz⟩:=e;obtain⟨hu,i,a9,rfl⟩:=Ze a8;have b0:(sizeOf e1).run P w= .ok i.size w:=by simp[sizeOf,typeInfo,a9]
   have j:=I x;rw[ex]at j;have hh:=I hi;rw[eh]at hh;have hk:=I mx;rw[ek]at hk;have hR:=j.Zj;have sb:∀(y:Nat) (code:BoundsCode),rows.length<=y->(Instr.sliceBound (.int .i64 (rows.length:Int)) y code).run P w= .ok rows.length w:=λy code hy=>by
    unfold Instr.sliceBound;simp only[asIntOf,Sem.run_bind,Sem.run_pure,Result.andThen_ok];rw[if_pos ⟨by omega,by omega⟩];rfl
   obtain⟨a,cc,r,b1,b9,_⟩:=hR.Ik;have go:(Instr.sliceAt t (U x) none (some (U hi)) (some (U mx))).run P w= .ok (.slice (if rows.length=0 then a else a.map (·.add (0 * i.size))) rows.length rows.length) w:=by
    simp[Instr.sliceAt,Instr.slice,run_underlying hu,Instr.sliceBounds,hh.Zj.X5.1,hk.Zj.X5.1,sb _ _ b1,sb _ _ (Nat.le_refl _),b0,r]
   refine⟨_,val go,.fl _ _ ⟨_,rfl⟩ ?_⟩;rw[r]at hR;cases hR with
   |empty a' b2 ha b3=>exact .empty _ 0 (λ_=>rfl) (Nat.zero_le _)
   |sl rows size b o b2 V a3 b6 b3 a4 b4 a1 a5=>
    have b5:=Xk.sl (w:=w) (ok:=ok) rows size b o rows.length V a3 (Nat.le_refl _) (by omega) a4 b4 a1 a5;have h0:¬rows.length=0:=λh=>a3 (List.eq_nil_of_length_eq_zero h)
    rw[if_neg h0];simpa[Addr.add_lit]using b5
  ·cases h
 ·rename_i cc;obtain⟨callee,args,a6⟩:=cc;dsimp only at h;have key:∀(b:Builtin) (x y:Operand),args= #[x,y]->callee= .builtin b->∀v,(∀bs,(builtin b a6 ty bs #[U x,U y]).run P w= .ok (.value v) w)->
    (execOp U ⟨a7,.call ⟨callee,args,a6⟩,ty,pos,after,guard⟩).run P w= .ok (.value v) w:=λb x y ha hc v hr=>by
   subst ha;subst hc;simp only[execOp,resolve,invoke,Sem.run_bind,Sem.run_pure,Result.andThen_ok,List.map_toArray,List.map_cons,List.map_nil];exact hr _
  split at h
  ·rename_i x y ha;have a2:args= #[x,y]:=by rw[<-Array.toList_inj];exact ha
   have j:=I x;have hy:=I y;split at h
   ·rename_i a b ea eb;rw[ea]at j;rw[eb]at hy;obtain⟨v1,T,l2⟩:=j.Zj.X5;obtain⟨v2,l3,l4⟩:=hy.Zj.X5;simp only[Option.some.injEq,Prod.mk.injEq]at h;obtain⟨rfl,rfl⟩:=h;refine⟨.int .i64 (if b<a then b else a),key .min x y a2 rfl _ ?_,.d _ _ (.int _ (by split<;> assumption) (by split<;> assumption))⟩;intro bs;simp[builtin,Builtin.min_,Builtin.min2,v1,v2]
   ·cases h
  ·rename_i x y ha;have a2:args= #[x,y]:=by rw[<-Array.toList_inj];exact ha
   have j:=I x;have hy:=I y;split at h
   ·rename_i a b ea eb;rw[ea]at j;rw[eb]at hy;obtain⟨v1,T,l2⟩:=j.Zj.X5;obtain⟨v2,l3,l4⟩:=hy.Zj.X5;simp only[Option.some.injEq,Prod.mk.injEq]at h;obtain⟨rfl,rfl⟩:=h;refine⟨.int .i64 (if a<b then b else a),key .max x y a2 rfl _ ?_,.d _ _ (.int _ (by split<;> assumption) (by split<;> assumption))⟩;intro bs;simp[builtin,Builtin.max_,Builtin.max2,v1,v2]
   ·cases h
  ·cases h
 ·cases h
theorem Ay{f:Operand->AV}{C:Operand->Value}(I:∀x,VR w ok g m (f x) (C x)){o:Oper}{c:AV}(h:H6 f o.op=some c):
  ∃v,(execOp C o).run P w= .ok (.value v) w/\VR w ok g m c v:=by
 have val:∀{s:Sem Value} {v:Value},s.run P w= .ok v w->(do pure (Next.value (<-s)):Sem Next).run P w= .ok (.value v) w:=λ{s v} J=>by simp[J]
 obtain⟨T,l,ty,pos,after,guard⟩:=o;dsimp only at h;unfold H6 at h;split at h
 ·rename_i l t x y t2;have i:=I x;have j:=I y;have r:∀k (a b:Int),l= .add\/l= .sub\/l= .mul->(eqGuard l t x y (.int k a) (.int k b)).run P w= .ok () w:=λk a b _=>by
   unfold eqGuard;cases l<;> rfl
  split at h;all_goals first|cases h;done|skip
  all_goals
   rename_i a b U eb;rw[U]at i;rw[eb]at j;simp only[Option.some.injEq]at h;subst h
  ·refine⟨.int .i64 (wr (a+b)),val ?_,.d _ _ (.int _ (JB _).1 (JB _).2)⟩;rw[i.Zj.X5.1,j.Zj.X5.1,Sem.run_bind,r _ _ _ (by simp),Result.andThen_ok];simp[binOp,Op.intArith,Cn]
  ·refine⟨.int .i64 (wr (a-b)),val ?_,.d _ _ (.int _ (JB _).1 (JB _).2)⟩;rw[i.Zj.X5.1,j.Zj.X5.1,Sem.run_bind,r _ _ _ (by simp),Result.andThen_ok];simp[binOp,Op.intArith,Cn]
  ·refine⟨.int .i64 (wr (a * b)),val ?_,.d _ _ (.int _ (JB _).1 (JB _).2)⟩;rw[i.Zj.X5.1,j.Zj.X5.1,Sem.run_bind,r _ _ _ (by simp),Result.andThen_ok];simp[binOp,Op.intArith,Cn]
  ·refine⟨.int .i32 (Qm (a+b)),val ?_,.d _ _ (.num _ _ (QD _).1 (QD _).2)⟩;rw[i.Zj.Xd.1,j.Zj.Xd.1,Sem.run_bind,r _ _ _ (by simp),Result.andThen_ok];simp[binOp,Op.intArith,PV]
  ·refine⟨.int .i32 (Qm (a-b)),val ?_,.d _ _ (.num _ _ (QD _).1 (QD _).2)⟩;rw[i.Zj.Xd.1,j.Zj.Xd.1,Sem.run_bind,r _ _ _ (by simp),Result.andThen_ok];simp[binOp,Op.intArith,PV]
  ·refine⟨.int .i32 (Qm (a * b)),val ?_,.d _ _ (.num _ _ (QD _).1 (QD _).2)⟩;rw[i.Zj.Xd.1,j.Zj.Xd.1,Sem.run_bind,r _ _ _ (by simp),Result.andThen_ok];simp[binOp,Op.intArith,PV]
 ·cases h
theorem St.value{s:AS}{a:Act}{o:Oper}(h:St C s a w){c:AV}(j:∀d,o.dst=some d->d<s.n)
  (l:∀ok g,(∀x,VR w ok g (Q4 s.mem) (V5 s.fr x) (a.eval x))->∃v,(execOp a.eval o).run P w= .ok (.value v) w/\VR w ok g (Q4 s.mem) c v):
  ∃v,(execOp a.eval o).run P w= .ok (.value v) w/\St C (s.after o.dst c ⟨[],[]⟩) (a.put o.dst v) w:=by
 obtain⟨ok,g,r,t,f,i⟩:=h;obtain⟨v,I,J⟩:=l ok g (WT i);refine⟨v,I,St.after (ok:=ok) (g:=g) (ok':=ok) (g':=g) t f i o.dst j _ v ⟨[],[]⟩ ?_ (λ_=>?_)⟩
 ·rw[Jh];exact⟨r,λc v _ h=>h⟩
 ·rw[Jh];exact J
end
end
end Go.Proofs.YtnddiddkmhiclaaGreatDoor
