import Derived.Test.YtlbcipohiepjmaaDoorEng1
import Derived.Lib.LazyBuf
set_option maxHeartbeats 2000000
set_option linter.unusedVariables false
namespace Go.Proofs.YtlbcipohiepjmaaDoor
open Go.RowKit
def D.aget (k:D):List (D×List D)→Option (List D)
 |[]=>none
 |(a,r)::l=>if D.keq a k then some r else D.aget k l
def D.adel (k:D) (l:List (D×List D)):List (D×List D):=l.filter fun p=>!D.keq p.1 k
def D.aput (k:D) (r:List D) (l:List (D×List D)):List (D×List D):=(k,r)::D.adel k l
theorem D.keq_eq {a b:D} (h:D.keq a b=true):a=b:=by
 cases a<;> cases b<;> simp_all [D.keq]
theorem D.keq_self {ks:Bool} {a:D} (h:D.Y2 ks a=true):D.keq a a=true:=by
 cases ks<;> cases a<;> simp_all [D.Y2,D.keq]
theorem D.aget_some {k:D} {ks:Bool} (hk:D.Y2 ks k=true):∀{l:List (D×List D)} {j:Nat} {r:List D},l.Pairwise (fun p q=>D.keq p.1 q.1=false)→l[j]? =some (k,r)→D.aget k l=some r
 |[],_,_,_,h=>by simp at h
 |(a,r0)::l,0,r,hp,h=>by
  simp only[List.getElem?_cons_zero,Option.some.injEq,Prod.mk.injEq]at h;obtain⟨rfl,rfl⟩:=h;rw[D.aget,if_pos (D.keq_self hk)]
 |(a,r0)::l,j+1,r,hp,h=>by
  simp only[List.getElem?_cons_succ]at h;obtain⟨h1,h2⟩:=List.pairwise_cons.1 hp;rw[D.aget,if_neg (by rw[h1 _ (List.mem_of_getElem? h)];simp)];exact D.aget_some hk h2 h
theorem D.aget_none {k:D}:∀{l:List (D×List D)},(∀p∈l,p.1≠k)→D.aget k l=none
 |[],_=>rfl
 |(a,r)::l,h=>by
  rw[D.aget,if_neg (fun e=>h (a,r) (List.mem_cons_self ..) (D.keq_eq e))];exact D.aget_none fun p hp=>h p (List.mem_cons_of_mem _ hp)
theorem D.adel_all {k:D} {l:List (D×List D)} (h:∀p∈l,p.1≠k):D.adel k l=l:=by
 unfold D.adel;refine List.filter_eq_self.2 fun p hp=>?_
 cases e:D.keq p.1 k
 ·rfl
 ·exact absurd (D.keq_eq e) (h p hp)
theorem D.adel_nodup (k:D) {l:List (D×List D)} (hn:l.Pairwise fun p q=>D.keq p.1 q.1=false):(D.adel k l).Pairwise fun p q=>D.keq p.1 q.1=false:=hn.sublist List.filter_sublist
theorem D.aput_nodup (k:D) (r:List D) {l:List (D×List D)} (hn:l.Pairwise fun p q=>D.keq p.1 q.1=false):(D.aput k r l).Pairwise fun p q=>D.keq p.1 q.1=false:=by
 refine List.pairwise_cons.2 ⟨fun p hp=>?_,D.adel_nodup k hn⟩;rw[D.adel,List.mem_filter]at hp;rw[D.keq_symm];simpa using hp.2
theorem D.adel_split {k:D} {ks:Bool} (hk:D.Y2 ks k=true) {l:List (D×List D)} {j:Nat} {r:List D} (hn:l.Pairwise fun p q=>D.keq p.1 q.1=false) (hj:l[j]? =some (k,r)):D.adel k l=l.eraseIdx j:=by
 induction l generalizing j with
 |nil=>simp at hj
 |cons p l ih=>
  obtain⟨h1,h2⟩:=List.pairwise_cons.1 hn;rcases j with _|j
  ·simp only[List.getElem?_cons_zero,Option.some.injEq]at hj;subst hj;unfold D.adel;rw[List.filter_cons,if_neg (by simp[D.keq_self hk]),List.eraseIdx_zero,List.tail_cons];refine List.filter_eq_self.2 fun q hq=>?_
   have:=h1 q hq;rw[D.keq_symm]at this;simp[this]
  ·simp only[List.getElem?_cons_succ]at hj;have hne:D.keq p.1 k=false:=h1 _ (List.mem_of_getElem? hj);unfold D.adel;rw[List.filter_cons,if_pos (by simp[hne]),List.eraseIdx_cons_succ];congr 1;exact ih h2 hj
section
variable {w:World} {ok:Nat→Prop}
def noGh:Gh:=⟨fun _=>none,fun _=>0,fun _ _=>False⟩
def Jz:D→Value
 | .str s=>.string s
 | .int n=>.int .i64 n
 |_=>undef
theorem P7 {ks:Bool} {k:D} {v:Value} (hk:D.Y2 ks k=true) (h:Rep w ok k v):v=Jz k:=by
 cases ks<;> cases k<;> simp[D.Y2]at hk<;> cases h<;> rfl
theorem keyVal_inj {ks:Bool} {a b:D} (ha:D.Y2 ks a=true) (hb:D.Y2 ks b=true) (h:Jz a=Jz b):a=b:=by
 cases ks<;> cases a<;> simp[D.Y2]at ha<;> cases b<;> simp[D.Y2]at hb<;> simp_all [Jz]
def O8 (ks:Bool):TypeDesc:=if ks then .string else .int .i64
theorem J3 {ks:Bool} {k:D} (hk:D.Y2 ks k=true):MapKept.IsKey (O8 ks) (Jz k):=by
 cases ks<;> cases k<;> simp[D.Y2]at hk<;> simp[O8,Jz,MapKept.IsKey]
variable {ks ag:Bool} {n:Nat} {ents:List (D×List D)} {es:Array MapEntry} {clock:Nat}
theorem Hw.isKey (h:Hw w ok ks ag n ents es clock):∀x∈es.toList,MapKept.IsKey (O8 ks) x.key:=by
 intro x hx;obtain⟨l,h1,h2,h3⟩:=h.perm;obtain⟨i,hi⟩:=List.mem_iff_getElem?.1 hx;have hil:i<l.length:=by have:=(List.getElem?_eq_some_iff.1 hi).1;simp at this;omega
 have hl:l[i]? =some l[i]:=List.getElem?_eq_getElem hil;have hm:=h1.mem_iff.1 (List.mem_of_getElem? hl);have hk:=(h.keys _ hm).1;rw[P7 hk (h3 i x _ (by simpa using hi) hl).1];exact J3 hk
theorem Hw.find (h:Hw w ok ks ag n ents es clock) {k:D} (hk:D.Y2 ks k=true):
  (Instr.findNow (O8 ks) (Jz k) es.toList 0=some none∧(∀x∈es.toList,x.key≠Jz k)∧∀p∈ents,p.1≠k)∨
  ∃(l:List (D×List D)) (j:Nat) (e:MapEntry) (r:List D),l.Perm ents∧l.length=es.size∧(∀(i:Nat) (e:MapEntry) (p:D×List D),es[i]? =some e→l[i]? =some p→Rep w ok p.1 e.key∧M0 w ok ag p.2 e.val)∧
   Instr.findNow (O8 ks) (Jz k) es.toList 0=some (some (j,e.val))∧es[j]? =some e∧e.key=Jz k∧l[j]? =some (k,r)∧M0 w ok ag r e.val:=by
 obtain⟨l,h1,h2,h3⟩:=h.perm;rcases MapKept.findNow_spec (J3 hk) es.toList 0 h.isKey with⟨f1,f2⟩|⟨j,e,f1,f2,f3⟩
 ·refine .inl ⟨f1,f2,fun p hp hpk=>?_⟩;obtain⟨i,hi⟩:=List.mem_iff_getElem?.1 (h1.mem_iff.2 hp);have hil:i<es.size:=by have:=(List.getElem?_eq_some_iff.1 hi).1;omega
  have he:es[i]? =some es[i]:=Array.getElem?_eq_getElem hil;refine f2 es[i] (by simp) ?_;rw[←hpk];exact P7 (by rw[hpk];exact hk) (h3 i _ p he hi).1
 ·rw[Nat.zero_add]at f1;have he:es[j]? =some e:=by simpa using f2
  have hjl:j<l.length:=by have:=(Array.getElem?_eq_some_iff.1 he).1;omega
  have hl:l[j]? =some l[j]:=List.getElem?_eq_getElem hjl;generalize l[j]=p at hl;obtain⟨r1,r2⟩:=h3 j e p he hl;have hm:=h1.mem_iff.1 (List.mem_of_getElem? hl);have hpk:=(h.keys _ hm).1;have:p.1=k:=keyVal_inj hpk hk (by rw[←P7 hpk r1,f3]);obtain⟨p1,p2⟩:=p;dsimp only at this r2;subst this;exact .inr ⟨l,j,e,p2,h1,h2,h3,f1,he,f3,hl,r2⟩
theorem Hw.aget (h:Hw w ok ks ag n ents es clock) {k:D} (hk:D.Y2 ks k=true) {l:List (D×List D)} {j:Nat} {r:List D} (hp:l.Perm ents) (hj:l[j]? =some (k,r)):D.aget k ents=some r:=by
 obtain⟨i,hi⟩:=List.mem_iff_getElem?.1 (hp.mem_iff.1 (List.mem_of_getElem? hj));exact D.aget_some hk h.nodup hi
theorem Hw.push (h:Hw w ok ks ag n ents es clock) {k:D} (hk:D.Y2 ks k=true) (hkr:Rep w ok k (Jz k)) (hno:∀p∈ents,p.1≠k) (hne:∀x∈es.toList,x.key≠Jz k) {r:List D} {v:Value} (hr:r.length=n) (hv:M0 w ok ag r v):
  Hw w ok ks ag n (D.aput k r ents) (es.push { key:=Jz k,val:=v,born:=clock }) (clock+1):=by
 obtain⟨l,h1,h2,h3⟩:=h.perm;refine⟨MapKept.stamped_push h.st hne,fun p hp=>?_,D.aput_nodup k r h.nodup,l++[(k,r)],?_,by simp[h2],fun i e p he hp=>?_⟩
 ·rcases List.mem_cons.1 hp with rfl|hp
  ·exact⟨hk,hr⟩
  ·exact h.keys p (List.mem_filter.1 hp).1
 ·rw[D.aput,D.adel_all hno];exact(List.perm_append_singleton (k,r) l).trans (h1.cons _)
 ·by_cases hi:i<es.size
  ·rw[Array.getElem?_push,if_neg (by omega)]at he;rw[List.getElem?_append_left (by omega)]at hp;exact h3 i e p he hp
  ·have hil:i=es.size:=by have:=(Array.getElem?_eq_some_iff.1 he).1;simp at this;omega
   subst hil;simp only[Array.getElem?_push_size,Option.some.injEq]at he;rw[←h2,List.getElem?_append_right (Nat.le_refl _),Nat.sub_self]at hp;simp only[List.getElem?_cons_zero,Option.some.injEq]at hp;subst he;subst hp;exact⟨hkr,hv⟩
theorem set_perm {α:Type} (l:List α) (j:Nat) (x:α) (hj:j<l.length):(l.set j x).Perm (x::l.eraseIdx j):=by
 induction l generalizing j with
 |nil=>simp at hj
 |cons a l ih=>
  rcases j with _|j
  ·simp
  ·simp only[List.set_cons_succ,List.eraseIdx_cons_succ];exact((ih j (by simpa using hj)).cons a).trans (List.Perm.swap x a _)
theorem Hw.put (h:Hw w ok ks ag n ents es clock) {k:D} (hk:D.Y2 ks k=true) (hkr:Rep w ok k (Jz k)) {l:List (D×List D)} {j:Nat} {e:MapEntry} {r0:List D} (hp:l.Perm ents) (hl:l.length=es.size)
  (h3:∀(i:Nat) (e:MapEntry) (p:D×List D),es[i]? =some e→l[i]? =some p→Rep w ok p.1 e.key∧M0 w ok ag p.2 e.val) (he:es[j]? =some e) (hek:e.key=Jz k) (hlj:l[j]? =some (k,r0)) {r:List D} {v:Value} (hr:r.length=n) (hv:M0 w ok ag r v):
  Hw w ok ks ag n (D.aput k r ents) (es.modify j fun e=>{ e with key:=Jz k,val:=v }) clock:=by
 have hnl:l.Pairwise fun p q=>D.keq p.1 q.1=false:=(hp.symm.pairwise_iff fun {a b} hab=>by rw[D.keq_symm];exact hab).1 h.nodup
 have hj:j<l.length:=(List.getElem?_eq_some_iff.1 hlj).1;refine⟨MapKept.stamped_modify h.st _ _ (fun _ _=>rfl) (fun e' _ he'=>by rw[he]at he';cases he';exact hek.symm),fun p hp=>?_,D.aput_nodup k r h.nodup,l.set j (k,r),?_,by simp[hl],fun i e' p he' hp'=>?_⟩
 ·rcases List.mem_cons.1 hp with rfl|hp
  ·exact⟨hk,hr⟩
  ·exact h.keys p (List.mem_filter.1 hp).1
 ·refine(set_perm l j (k,r) hj).trans ?_;rw[←D.adel_split hk hnl hlj];exact(hp.filter _).cons _
 ·rw[Array.getElem?_modify]at he';rw[List.getElem?_set]at hp';by_cases hij:j=i
  ·subst hij;rw[if_pos rfl,he]at he';rw[if_pos rfl,if_pos hj]at hp';simp only[Option.map_some,Option.some.injEq]at he' hp';subst he';subst hp';exact⟨hkr,hv⟩
  ·rw[if_neg hij]at he' hp';exact h3 i e' p he' hp'
theorem Hw.del (h:Hw w ok ks ag n ents es clock) {k:D} (hk:D.Y2 ks k=true) {l:List (D×List D)} {j:Nat} {e:MapEntry} {r0:List D} (hp:l.Perm ents) (hl:l.length=es.size)
  (h3:∀(i:Nat) (e:MapEntry) (p:D×List D),es[i]? =some e→l[i]? =some p→Rep w ok p.1 e.key∧M0 w ok ag p.2 e.val) (he:es[j]? =some e) (hlj:l[j]? =some (k,r0)):
  Hw w ok ks ag n (D.adel k ents) (es.eraseIdxIfInBounds j) clock:=by
 have hnl:l.Pairwise fun p q=>D.keq p.1 q.1=false:=(hp.symm.pairwise_iff fun {a b} hab=>by rw[D.keq_symm];exact hab).1 h.nodup
 have hj:j<l.length:=(List.getElem?_eq_some_iff.1 hlj).1;have hje:j<es.size:=by omega
 have e1:(es.eraseIdxIfInBounds j).toList=es.toList.eraseIdx j:=by simp[Array.eraseIdxIfInBounds,hje]
 refine⟨MapKept.stamped_erase h.st j,fun p hp=>h.keys p (List.mem_filter.1 hp).1,D.adel_nodup k h.nodup,l.eraseIdx j,?_,?_,fun i e' p he' hp'=>?_⟩
 ·rw[←D.adel_split hk hnl hlj];exact hp.filter _
 ·have:=congrArg List.length e1;simp only[Array.length_toList]at this;rw[this,List.length_eraseIdx,List.length_eraseIdx];simp[hl]
 ·rw[←Array.getElem?_toList,e1,List.getElem?_eraseIdx]at he';rw[List.getElem?_eraseIdx]at hp';split at he'
  ·rename_i hlt;rw[if_pos hlt]at hp';exact h3 i e' p (by simpa using he') hp'
  ·rename_i hlt;rw[if_neg hlt]at hp';exact h3 (i+1) e' p (by simpa using he') hp'
theorem Hw.empty (ks ag:Bool) (n:Nat):Hw w ok ks ag n [] #[] 0:=
 ⟨MapKept.stamped_empty 0,by simp,by simp,[],List.Perm.refl _,rfl,by simp⟩
end
section
variable {P:Program} {C:Cx} {w:World} {ok:Nat→Prop} {g:Gh} {m:Me}
theorem MS.newMap (hM:MS C w ok g m) (d:Nat) (hd:kept d=false) (ks ag:Bool) (n:Nat):
  ∃g',g'.bl d=some w.heap.size∧MS C (w.alloc (.map #[] 0)) ok g' (Zq m (X6 [(d,some (.map ks ag n []))]) (Qj [d]) (Q5 [(d,some (.map ks ag n []))]))∧
   ∀c v,c.has (Qj [d])=false→VR w ok g m c v→VR (w.alloc (.map #[] 0)) ok g' (Zq m (X6 [(d,some (.map ks ag n []))]) (Qj [d]) (Q5 [(d,some (.map ks ag n []))])) c v:=by
 refine⟨⟨fun i=>if d==i then some w.heap.size else g.bl i,fun i=>if d==i then 0 else g.cp i,g.pv⟩,by simp,?_⟩;refine MS.eff hM _ _ _ ?_ ?_ ?_ ?_ ?_ ?_ ?_ ?_ ?_ ?_ ?_ ?_ rfl rfl rfl
 ·intro i hi;rwa [Xq,←Qk d (some (.map ks ag n []))]at hi
 ·intro i x' hU hN;rw[Qk]at hU;have hdi:d=i:=by simpa using hU
  subst hdi;simp[Q5]at hN;subst hN;exact⟨w.heap.size,#[],0,by simp,(MapKept.heap_alloc w _).1,Hw.empty ks ag n⟩
 ·intro i hi;rw[Xq]at hi;simp[hi]
 ·intro i x' hU hq;rw[Qk]at hU;rw[Xq]at hq;rw[hU]at hq;cases hq
 ·intro i y b hU hy hb;exact Below.heap_alloc w _ b (hM.own i y b hy hb).2.1
 ·intro b hb;exact Below.heap_alloc w _ b (hM.okb b hb).1
 ·exact fun b hb=>hb
 ·exact fun b hb=>.inl hb
 ·intro i y b hU hN hb;rw[Qk]at hU;have e0:d=i:=by simpa using hU
  have e1:Q6.map ks ag n []=y:=by subst e0;simpa[Q5]using hN
  subst e1;have hb:=Q6.at_map.1 hb;simp only[hU,if_true,Option.some.injEq]at hb;subst hb;refine⟨fun h=>by have:=(hM.okb _ h).1;omega,by simp,.inl hM.size,fun j xj hUj hj hb=>?_,fun j xj hUj _ _=>?_⟩
  ·have:=(hM.own j xj _ hj hb).2.1;omega
  ·rw[Qk]at hUj;have e1:d=i:=by simpa using hU
   have e2:d=j:=by simpa using hUj
   rw[←e1,←e2]
 ·intro i hi;rw[Xq]at hi;have e1:d=i:=by simpa using hi
  rw[←e1];exact hd
 ·simp
 ·intro b hb _;exact Below.heap_alloc w _ b (by have:=hM.size;omega)
theorem Rx (w:World) (b b':Nat) (o:Obj) (h:b'≠b):({ w with heap:=w.heap.setIfInBounds b o }:World).heap[b']? =w.heap[b']?:=by
 simp[Array.getElem?_setIfInBounds_ne (Ne.symm h)]
theorem MS.putMap (hM:MS C w ok g m) (o:Nat) {b:Nat} (hb:g.bl o=some b) {ks ag:Bool} {n:Nat} {ents ents':List (D×List D)} (hx:m o=some (.map ks ag n ents)) {es es':Array MapEntry} {clock clock':Nat} (hw:w.heap[b]? =some (.map es clock))
  (hr:Hw w ok ks ag n ents' es' clock'):
  MS C { w with heap:=w.heap.setIfInBounds b (.map es' clock') } ok g (Zq m (X6 [(o,some (.map ks ag n ents'))]) (Qj []) (Q5 [(o,some (.map ks ag n ents'))]))∧
   ∀c v,c.has (Qj [])=false→VR w ok g m c v→VR { w with heap:=w.heap.setIfInBounds b (.map es' clock') } ok g (Zq m (X6 [(o,some (.map ks ag n ents'))]) (Qj []) (Q5 [(o,some (.map ks ag n ents'))])) c v:=by
 have hown:=hM.own o _ b hx (.inl hb);have hq:∀i,Qj [] i=false:=fun _=>rfl
 have hcell:∀p:Addr,ok p.block→World.cell? { w with heap:=w.heap.setIfInBounds b (.map es' clock') } p=w.cell? p:=fun p hp=>
  World.Yw (Rx w b _ _ fun e=>by rw[e]at hp;exact hown.1 hp)
 refine MS.eff hM _ _ _ ?_ ?_ ?_ ?_ ?_ ?_ ?_ ?_ ?_ ?_ ?_ ?_ rfl rfl rfl
 ·intro i hi;rw[hq i]at hi;cases hi
 ·intro i y' hU hN;rw[Qk]at hU;have e:o=i:=by simpa using hU
  subst e;simp[Q5]at hN;subst hN;exact⟨b,es',clock',hb,(MapKept.heap_set hw).1,hr.keep hcell fun _ h=>h⟩
 ·exact fun i _=>⟨rfl,rfl⟩
 ·intro i y' hU _ hN;rw[Qk]at hU;have e:o=i:=by simpa using hU
  subst e;simp[Q5]at hN;subst hN;exact⟨_,hx,rfl,rfl,rfl⟩
 ·intro i y b' hU hy hb';refine Rx w b b' _ fun e=>?_
  subst e;rw[Qk]at hU;exact absurd (hM.inj i o y _ b' hy hx hb' (.inl hb)) (fun e=>by subst e;simp at hU)
 ·intro b' hb';exact Rx w b b' _ fun e=>by subst e;exact hown.1 hb'
 ·exact fun _ h=>h
 ·exact fun _ h=>.inl h
 ·intro i y b' hU hN hb';rw[Qk]at hU;have e:o=i:=by simpa using hU
  subst e;have e1:Q6.map ks ag n ents'=y:=by simpa[Q5]using hN
  subst e1;have hb':=Q6.at_map.1 hb';rw[hb]at hb';obtain rfl:=Option.some.inj hb';refine⟨hown.1,by simpa using hown.2.1,hown.2.2,fun j xj hUj hj hbj=>?_,fun j xj hUj _ _=>by rw[Qk]at hUj;simpa using hUj⟩;rw[Qk]at hUj;exact absurd (hM.inj j o xj _ b hj hx hbj (.inl hb)) (fun e=>by subst e;simp at hUj)
 ·intro i hi;rw[hq i]at hi;cases hi
 ·simp
 ·intro b' hb' hT;refine Rx w b b' _ fun e=>?_
  subst e;rcases hown.2.2 with h|h
  ·omega
  ·exact hT h.1
theorem MS.putRaw (hM:MS C w ok g m) (o:Nat) {b:Nat} (hb:g.bl o=some b) {x x':Q6} (hx:m o=some x) (hl:x.like x') {ob:Obj} {w':World} (hw':w'=({ w with heap:=w.heap.setIfInBounds b ob }:World))
  (hor:OR w' ok g (Zq m (X6 [(o,some x')]) (Qj []) (Q5 [(o,some x')])) o x'):
  MS C w' ok g (Zq m (X6 [(o,some x')]) (Qj []) (Q5 [(o,some x')]))∧
   ∀c v,c.has (Qj [])=false→VR w ok g m c v→VR w' ok g (Zq m (X6 [(o,some x')]) (Qj []) (Q5 [(o,some x')])) c v:=by
 have hown:=hM.own o _ b hx (.inl hb);have hq:∀i,Qj [] i=false:=fun _=>rfl
 have hset:∀b',b'≠b→w'.heap[b']? =w.heap[b']?:=fun b' h=>by rw[hw'];exact Rx w b b' _ h
 refine MS.eff hM _ _ _ ?_ ?_ ?_ ?_ ?_ ?_ ?_ ?_ ?_ ?_ ?_ ?_ (by rw[hw']) (by rw[hw']) (by rw[hw'])
 ·intro i hi;rw[hq i]at hi;cases hi
 ·intro i y' hU hN;rw[Qk]at hU;have e:o=i:=by simpa using hU
  subst e;simp[Q5]at hN;subst hN;exact hor
 ·exact fun i _=>⟨rfl,rfl⟩
 ·intro i y' hU _ hN;rw[Qk]at hU;have e:o=i:=by simpa using hU
  subst e;simp[Q5]at hN;subst hN;exact⟨_,hx,hl⟩
 ·intro i y b' hU hy hb';refine hset b' fun e=>?_
  subst e;rw[Qk]at hU;exact absurd (hM.inj i o y _ b' hy hx hb' (.inl hb)) (fun e=>by subst e;simp at hU)
 ·intro b' hb';exact hset b' fun e=>by subst e;exact hown.1 hb'
 ·exact fun _ h=>h
 ·exact fun _ h=>.inl h
 ·intro i y b' hU hN hb';rw[Qk]at hU;have e:o=i:=by simpa using hU
  subst e;have e1:x'=y:=by simpa[Q5]using hN
  subst e1;have hb2:=(Q6.like_at hl).1 hb';have hown':=hM.own o x b' hx hb2;refine⟨hown'.1,by rw[hw'];simpa using hown'.2.1,hown'.2.2,fun j xj hUj hj hbj=>?_,fun j xj hUj _ _=>?_⟩
  ·rw[Qk]at hUj;exact absurd (hM.inj j o xj _ b' hj hx hbj hb2) (fun e=>by subst e;simp at hUj)
  ·rw[Qk]at hUj;have e2:o=j:=by simpa using hUj
   exact e2
 ·intro i hi;rw[hq i]at hi;cases hi
 ·rw[hw'];simp
 ·intro b' hb' hT;refine hset b' fun e=>?_
  subst e;rcases hown.2.2 with h|⟨h,_⟩
  ·omega
  ·exact hT h
theorem MapB.isKey {ks ag:Bool} {n:Nat} {bents:List (Nat×D×List D)} {es:Array MapEntry} {clock:Nat} (h:MapB w ok ks ag n bents es clock):Hw w ok ks ag n (bents.map (·.2)) es clock:=
 ⟨h.st,fun p hp=>by obtain⟨q,hq,rfl⟩:=List.mem_map.1 hp;exact h.keys q hq,List.pairwise_map.2 h.nodup,bents.map (·.2),List.Perm.refl _,by rw[List.length_map,h.size],fun i e p he hp=>by
  rw[List.getElem?_map]at hp;obtain⟨q,hq,rfl⟩:=Option.map_eq_some_iff.1 hp;exact(h.at' i e q he hq).2⟩
theorem MapB.push {ks ag:Bool} {n:Nat} {bents:List (Nat×D×List D)} {es:Array MapEntry} {clock:Nat} (h:MapB w ok ks ag n bents es clock) {k:D} (hk:D.Y2 ks k=true) (hkr:Rep w ok k (Jz k)) (hno:∀p∈bents,D.keq p.2.1 k=false) (hne:∀x∈es.toList,x.key≠Jz k) {r:List D} {v:Value} (hr:r.length=n) (hv:M0 w ok ag r v):
  MapB w ok ks ag n (bents++[(clock,k,r)]) (es.push { key:=Jz k,val:=v,born:=clock }) (clock+1):=by
 refine⟨MapKept.stamped_push h.st hne,fun p hp=>?_,?_,by simp[h.size],fun i e p he hp=>?_⟩
 ·rcases List.mem_append.1 hp with hp|hp
  ·exact h.keys p hp
  ·rw[List.mem_singleton.1 hp];exact⟨hk,hr⟩
 ·rw[List.pairwise_append];exact⟨h.nodup,List.pairwise_singleton ..,fun p hp q hq=>by rw[List.mem_singleton.1 hq];exact hno p hp⟩
 ·rw[Array.getElem?_push]at he;rw[List.getElem?_append]at hp;split at he
  ·rename_i hi;rw[if_neg (by rw[h.size];omega)]at hp;rw[hi,h.size]at hp;simp at hp he;subst hp he;exact⟨rfl,hkr,hv⟩
  ·rename_i hi;have hlt:i<es.size:=(Array.getElem?_eq_some_iff.1 he).1;rw[if_pos (by rw[h.size];omega)]at hp;exact h.at' i e p he hp
def bset (c:Int) (r:List D) (bents:List (Nat×D×List D)):List (Nat×D×List D):=bents.map fun p=>if (p.1:Int)=c then (p.1,p.2.1,r)else p
theorem bset_len (c:Int) (r:List D) (bents:List (Nat×D×List D)):(bset c r bents).length=bents.length:=by simp[bset]
theorem MapB.set {ks ag:Bool} {n:Nat} {bents:List (Nat×D×List D)} {es:Array MapEntry} {clock:Nat} (h:MapB w ok ks ag n bents es clock) {c:Int} {j:Nat} {e0:MapEntry} (hj:es[j]? =some e0) (hc:(e0.born:Int)=c) {r:List D} {v:Value} (hr:r.length=n) (hv:M0 w ok ag r v):
  MapB w ok ks ag n (bset c r bents) (es.modify j fun e=>{ e with val:=v }) clock:=by
 have hall:∀p∈bset c r bents,∃q∈bents,p.2.1=q.2.1∧(p=q∨p.2.2=r):=fun p hp=>by
  obtain⟨q,hq,rfl⟩:=List.mem_map.1 hp;refine⟨q,hq,?_⟩;split
  ·exact⟨rfl,.inr rfl⟩
  ·exact⟨rfl,.inl rfl⟩
 refine⟨MapKept.stamped_modify h.st _ _ (fun _ _=>rfl) (fun _ _ _=>rfl),fun p hp=>?_,?_,by rw[bset_len,h.size];simp,fun i e p he hp=>?_⟩
 ·obtain⟨q,hq,h1,h2⟩:=hall p hp;rcases h2 with rfl|h2
  ·exact h.keys p hq
  ·rw[h1,h2];exact⟨(h.keys q hq).1,hr⟩
 ·unfold bset;rw[List.pairwise_map];refine h.nodup.imp fun {a b} hab=>?_
  have e1:∀q:Nat×D×List D,(if (q.1:Int)=c then (q.1,q.2.1,r)else q).2.1=q.2.1:=fun q=>by split<;> rfl
  rw[e1,e1];exact hab
 ·unfold bset at hp;rw[List.getElem?_map]at hp;obtain⟨q,hq,rfl⟩:=Option.map_eq_some_iff.1 hp;rw[Array.getElem?_modify]at he;split at he
  ·rename_i hij;subst hij;rw[hj]at he;simp at he;subst he;obtain⟨k1,k2,k3⟩:=h.at' j e0 q hj hq;rw[if_pos (by rw[k1];exact hc)];exact⟨k1,k2,hv⟩
  ·rename_i hij;obtain⟨k1,k2,k3⟩:=h.at' i e q he hq;rw[if_neg ?_]
   ·exact⟨k1,k2,k3⟩
   ·intro hqc;have e1:(es.toList.map (·.born))[i]? =some q.1:=by rw[List.getElem?_map,Array.getElem?_toList,he];simp[k1]
    have e2:(es.toList.map (·.born))[j]? =some q.1:=by
     rw[List.getElem?_map,Array.getElem?_toList,hj];have:e0.born=q.1:=by omega
     simp[this]
    exact hij ((List.getElem?_inj (List.getElem?_eq_some_iff.1 e2).1 h.st.2.1).1 (e2.trans e1.symm))
def Dv (P:Program) (t:TypeId):Option (TypeId×Bool×Bool×Nat):=
 match P.underlying t with
 |some (.map k e)=>match P.underlying k,Ux P e with
  |some .string,some (b,n)=>some (e,true,b,n)
  |some (.int .i64),some (b,n)=>some (e,false,b,n)
  |_,_=>none
 |_=>none
theorem Dw {t e:TypeId} {ks b:Bool} {n:Nat} (h:Dv P t=some (e,ks,b,n)):∃k,P.underlying t=some (.map k e)∧P.underlying k=some (O8 ks):=by
 unfold Dv at h;split at h
 ·rename_i k e' hu;split at h
  ·rename_i hk _;simp only[Option.some.injEq,Prod.mk.injEq]at h;obtain⟨rfl,rfl,_⟩:=h;exact⟨k,hu,hk⟩
  ·rename_i hk _;simp only[Option.some.injEq,Prod.mk.injEq]at h;obtain⟨rfl,rfl,_⟩:=h;exact⟨k,hu,hk⟩
  ·cases h
 ·cases h
def tyZv (P:Program) (e:TypeId) (ag:Bool):Option AV:=
 match P.info? e with
 |some i=>match i.zero with
  |some (.agg vs)=>if ag && vs.toList.all (·.oneCell')then some (.agg (vs.toList.map Vj))else none
  |some (.tuple _)=>none
  |some v=>if ag then none else some (Vj v)
  |none=>none
 |none=>none
theorem tyZv_ok {e:TypeId} {ag:Bool} {c:AV} (h:tyZv P e ag=some c) (w0:World):∃z,(zeroValue e).run P w0= .ok z w0∧∀w ok g m,VR w ok g m c z:=by
 unfold tyZv at h;split at h
 ·rename_i i hi;have run:∀{z:Value},i.zero=some z→(zeroValue e).run P w0= .ok z w0:=fun {z} hz=>by simp[zeroValue,typeInfo,hi,hz]
  split at h
  ·rename_i vs hz;split at h
   ·rename_i hc;simp only[Option.some.injEq]at h;subst h;rw[Bool.and_eq_true]at hc;have hall:=List.all_eq_true.1 hc.2;refine⟨_,run hz,fun w ok g m=>.agg _ _ (by simp) (fun j c v hcj hvj=>?_) (fun j v hvj=>hall v ?_)⟩
    ·have:=(constAVs_ok (w:=w) (ok:=ok) (g:=g) (m:=m) vs.toList hall).2.1 j c v hcj (by simpa using hvj);exact this
    ·have:=Array.mem_of_getElem? hvj;simpa using this
   ·cases h
  ·cases h
  ·rename_i v _ _ hz;split at h
   ·cases h
   ·simp only[Option.some.injEq]at h;subst h;exact⟨_,run hz,fun w ok g m=>constAV_ok _⟩
  ·cases h
 ·cases h
def Tj (ag:Bool) (r:List D):AV:=if ag then .agg (r.map .d)else match r with|[d]=>.d d|_=>.any
theorem rowAV_ok {ag:Bool} {r:List D} {v:Value} (h:M0 w ok ag r v):VR w ok g m (Tj ag r) v:=by
 unfold M0 at h;unfold Tj;split at h
 ·rename_i ha;rw[if_pos ha];obtain⟨vs,rfl,h2,h3⟩:=h;refine .agg _ _ (by simp[h2]) (fun i c u hc hu=>?_) (fun i u hu=>?_)
  ·rw[List.getElem?_map]at hc;obtain⟨d,hd,rfl⟩:=Option.map_eq_some_iff.1 hc;exact .d d u (h3 i d u hd hu)
  ·have hi:i<r.length:=by rw[←h2];exact(Array.getElem?_eq_some_iff.1 hu).1
   exact(h3 i r[i] u (List.getElem?_eq_getElem hi) hu).oneCell
 ·rename_i ha;rw[if_neg ha];obtain⟨d,rfl,h2⟩:=h;exact .d d v h2
def G5 (ag:Bool):AV→Option (List D)
 | .agg cs=>if ag then Ez cs else none
 | .d d=>if ag then none else some [d]
 | .lit (.slice none 0 0)=>if ag then none else some [.sl []]
 |_=>none
theorem valRow_ok {ag:Bool} {c:AV} {r:List D} {v:Value} (h:G5 ag c=some r) (hv:VR w ok g m c v):M0 w ok ag r v:=by
 unfold G5 at h;split at h
 ·rename_i cs;split at h
  ·rename_i ha;obtain⟨vs,rfl,hl,h1,h2⟩:=hv.Qa;obtain⟨k1,k2⟩:=toDs_ok h;unfold M0;rw[if_pos ha];refine⟨vs,rfl,by omega,fun i d u hd hu=>?_⟩;have hi:i<cs.length:=by have:=(List.getElem?_eq_some_iff.1 hd).1;omega
   have hc:cs[i]? =some cs[i]:=List.getElem?_eq_getElem hi;exact toD1_ok (k2 i _ d hc hd) (h1 i _ u hc hu)
  ·cases h
 ·rename_i d;split at h
  ·cases h
  ·rename_i ha;simp only[Option.some.injEq]at h;subst h;unfold M0;rw[if_neg ha];exact⟨d,rfl,hv.Z6⟩
 ·split at h
  ·cases h
  ·rename_i ha;simp only[Option.some.injEq]at h;subst h;unfold M0;rw[if_neg ha];obtain⟨h1,_⟩:=hv.Vz;subst h1;exact⟨_,rfl,.empty none 0 (fun _=>rfl) (Nat.zero_le _)⟩
 ·cases h
def Y1 (P:Program) (m:Me) (f:Operand→AV) (dst:Option Nat) (op:Op):Option (AV×Eff×Prop):=
 match op with
 | .nilCheck x=>match f x with
  | .ptr o k=>match m o with
   |some _=>some (.ptr o k,⟨[],[]⟩,True)
   |none=>none
  | .K7 o i j=>match m o with
   |some (.arr _ _ _)=>some (.K7 o i j,⟨[],[]⟩,True)
   |_=>none
  | .d (.ptr r)=>some (.d (.ptr r),⟨[],[]⟩,True)
  |_=>none
 | .makeMap t none=>match dst,Dv P t with
  |some d,some (_,ks,ag,n)=>if Nat.ble 500 d then none else some (.mp d,⟨[d],[(d,some (.map ks ag n []))]⟩,True)
  |_,_=>none
 | .lookup t x k c=>match Dv P t,f k with
  |some (e,ks,ag,n),.d kd=>if D.Y2 ks kd then (match tyZv P e ag,f x with
   |some z,.mp o=>match m o with
    |some (.map ks' ag' _ ents)=>if ks'=ks∧ag'=ag then (match D.aget kd ents with
     |some r=>some (if c then .tuple [Tj ag r,.d (.bool true)]else Tj ag r,⟨[],[]⟩,True)
     |none=>some (if c then .tuple [z,.d (.bool false)]else z,⟨[],[]⟩,True))else none
    |_=>none
   |some z,.lit (.map none)=>some (if c then .tuple [z,.d (.bool false)]else z,⟨[],[]⟩,True)
   |_,_=>none)else none
  |_,_=>none
 | .mapUpdate t x k v=>match Dv P t,f x,f k with
  |some (e,ks,ag,n),.mp o,.d kd=>if D.Y2 ks kd then (match m o with
   |some (.map ks' ag' n' ents)=>if ks'=ks∧ag'=ag then (match G5 ag (f v)with
    |some r=>some (.any,⟨[],[(o,some (.map ks ag n' (D.aput kd r ents)))]⟩,r.length=n')
    |none=>none)else none
   |_=>none)else none
  |_,_,_=>none
 | .insert t x k v=>match Dv P t,f x,f k with
  |some (e,ks,ag,n),.mp o,.d kd=>if D.Y2 ks kd then (match m o with
   |some (.map ks' ag' n' ents)=>if ks'=ks∧ag'=ag then (match G5 ag (f v)with
    |some r=>some (.any,⟨[],[(o,some (.map ks ag n' (D.aput kd r ents)))]⟩,r.length=n')
    |none=>none)else none
   |_=>none)else none
  |_,_,_=>none
 | .index t x i=>match P.underlying t,f x,f i with
  |some .string,.d (.str s),.d (.int n)=>match s[n.toNat]? with
   |some b=>some (.d (.num .u8 b.toNat),⟨[],[]⟩,0≤n)
   |none=>none
  |_,_,_=>none
 | .call c=>match c.callee,c.args.toList,c.argTypes.toList with
  | .builtin .delete,[x,k],[t,t']=>match Dv P t,f x,f k with
   |some (e,ks,ag,n),.mp o,.d kd=>if D.Y2 ks kd then (match m o with
    |some (.map ks' ag' n' ents)=>if ks'=ks∧ag'=ag then some (.any,⟨[],[(o,some (.map ks ag n' (D.adel kd ents)))]⟩,True)else none
    |_=>none)else none
   |_,_,_=>none
  | .builtin .clear,[x],[t]=>match V3 P t,f x with
   |some (e,1),.arr o lo n=>match m o with
    |some (.arr e' 1 rows)=>match tyZv P e false with
     |some (.d zd)=>some (.any,⟨[],[(o,some (.arr e' 1 (rows.take lo++List.replicate n [zd]++rows.drop (lo+n))))]⟩,True)
     |_=>none
    |_=>none
   |_,_=>none
  | .builtin .len,[x],[t]=>match Dv P t,f x with
   |some _,.mp o=>match m o with
    |some (.map _ _ _ ents)=>some (.d (.int ents.length),⟨[],[]⟩,inI ents.length)
    |_=>none
   |some _,.lit (.map none)=>some (.d (.int 0),⟨[],[]⟩,True)
   |_,_=>none
  |_,_,_=>none
 | .binOp op t x y _=>match P.underlying t with
  |some (.slice _)=>match f x,f y with
   | .d (.sl []),.lit (.slice none 0 0)=>match op with
    | .eql=>some (.d .ub,⟨[],[]⟩,True)
    | .neq=>some (.d .ub,⟨[],[]⟩,True)
    |_=>none
   | .d (.sl (_::_)),.lit (.slice none 0 0)=>match op with
    | .eql=>some (.d (.bool false),⟨[],[]⟩,True)
    | .neq=>some (.d (.bool true),⟨[],[]⟩,True)
    |_=>none
   | .lit (.slice none 0 0),.lit (.slice none 0 0)=>match op with
    | .eql=>some (.d (.bool true),⟨[],[]⟩,True)
    | .neq=>some (.d (.bool false),⟨[],[]⟩,True)
    |_=>none
   |_,_=>none
  |some (.pointer _)=>match f x,f y with
   | .d (.ptr _),.d .nil=>match op with
    | .eql=>some (.d (.bool false),⟨[],[]⟩,True)
    | .neq=>some (.d (.bool true),⟨[],[]⟩,True)
    |_=>none
   | .d .nil,.d .nil=>match op with
    | .eql=>some (.d (.bool true),⟨[],[]⟩,True)
    | .neq=>some (.d (.bool false),⟨[],[]⟩,True)
    |_=>none
   |_,_=>none
  |_=>none
 | .mapEntry t x k=>match Dv P t,f x,f k with
  |some (e,ks,ag,n),.mp o,.d kd=>if D.Y2 ks kd then (match m o,tyZv P e ag with
   |some (.raw (.births b ks' ag' n' clock bents)),some z=>if ks'=ks∧ag'=ag then (match G5 ag z with
    |some zr=>match bents.find? fun p=>D.keq p.2.1 kd with
     |none=>some (.tuple [z,.lit (.int .i64 clock)],⟨[],[(o,some (.raw (.births b ks ag n' (clock+1) (bents++[(clock,kd,zr)]))))]⟩,zr.length=n')
     |some p=>some (.tuple [Tj ag p.2.2,.lit (.int .i64 p.1)],⟨[],[(o,some (.raw (.births b ks ag n' clock bents)))]⟩,True)
    |none=>none)else none
   |_,_=>none)else none
  |_,_,_=>none
 | .entryStore t x s v=>match Dv P t,f x,f s with
  |some (e,ks,ag,n),.mp o,.lit (.int .i64 c)=>match m o with
   |some (.raw (.births b ks' ag' n' clock bents))=>if ag'=ag then (match G5 ag (f v)with
    |some r=>some (.any,⟨[],[(o,some (.raw (.births b ks' ag' n' clock (bset c r bents))))]⟩,r.length=n'∧∃p∈bents,(p.1:Int)=c)
    |none=>none)else none
   |_=>none
  |_,_,_=>none
 |_=>none
theorem ble_false' {a b:Nat} (h:Nat.ble a b=false):b<a:=by
 rcases Nat.lt_or_ge b a with h1|h1
 ·exact h1
 ·rw[Nat.ble_eq_true_of_le h1]at h;cases h
theorem kept_small' {d:Nat} (h:Nat.ble 500 d=false):kept d=false:=by
 have:=ble_false' h;unfold kept;rcases hk:Nat.ble 1000 d
 ·rfl
 ·have:=Nat.le_of_ble_eq_true hk;omega
theorem O5 (m:Me):Zq m (X6 []) (Qj []) (Q5 [])=m:=by
 funext i;have:(Q6.kill (Qj ([]:List Nat)))=id:=funext fun x=>Q6.F8 (fun _=>rfl) x
 simp[Zq,X6,this]
theorem OR.map_inv {o:Nat} {ks ag:Bool} {n:Nat} {ents:List (D×List D)} (h:OR w ok g m o (.map ks ag n ents)):∃b es clock,g.bl o=some b∧w.heap[b]? =some (.map es clock)∧Hw w ok ks ag n ents es clock:=h
theorem map_look {ks ag:Bool} {n:Nat} {ents:List (D×List D)} {es:Array MapEntry} {clock:Nat} (h:Hw w ok ks ag n ents es clock) {kt:TypeId} (hkt:P.underlying kt=some (O8 ks)) {kd:D} (hk:D.Y2 ks kd=true):
  (∃r j e,(Instr.findKey kt (Jz kd) es.toList).run P w= .ok (some (j,e.val)) w∧es[j]? =some e∧D.aget kd ents=some r∧M0 w ok ag r e.val)∨((Instr.findKey kt (Jz kd) es.toList).run P w= .ok none w∧D.aget kd ents=none):=by
 rcases h.find hk with⟨f1,_,f3⟩|⟨l,j,e,r,q1,q2,q3,f1,f2,f3,f4,f5⟩
 ·exact .inr ⟨MapKept.run_findKey hkt f1,D.aget_none f3⟩
 ·exact .inl ⟨r,j,e,MapKept.run_findKey hkt f1,f2,h.aget hk q1 f4,f5⟩
theorem meEff_same {m:Me} {o:Nat} {x:Q6} (h:m o=some x):Zq m (X6 [(o,some x)]) (Qj []) (Q5 [(o,some x)])=m:=by
 funext i;have:(Q6.kill (Qj ([]:List Nat)))=id:=funext fun x=>Q6.F8 (fun _=>rfl) x
 simp only[Zq,Qk,Q5,this,Option.map_id,id];by_cases hi:(o==i)=true
 ·have:o=i:=by simpa using hi
  subst this;simp[h]
 ·simp[hi]
theorem clear_ok (hM:MS C w ok g m) {t e e' ty:TypeId} {o lo n:Nat} {rows:List (List D)} {zd:D} (hmo:m o=some (.arr e' 1 rows)) (hte:V3 P t=some (e,1)) (hz:tyZv P e false=some (.d zd)) {v:Value} (hv:VR w ok g m (.arr o lo n) v):
  ∃w',(Builtin.clear_ #[t] ty #[v]).run P w= .ok (.tuple #[]) w'∧MS C w' ok g (Zq m (X6 [(o,some (.arr e' 1 (rows.take lo++List.replicate n [zd]++rows.drop (lo+n))))]) (Qj []) (Q5 [(o,some (.arr e' 1 (rows.take lo++List.replicate n [zd]++rows.drop (lo+n))))]))∧
   ∀c v,c.has (Qj [])=false→VR w ok g m c v→VR w' ok g (Zq m (X6 [(o,some (.arr e' 1 (rows.take lo++List.replicate n [zd]++rows.drop (lo+n))))]) (Qj []) (Q5 [(o,some (.arr e' 1 (rows.take lo++List.replicate n [zd]++rows.drop (lo+n))))])) c v:=by
 obtain⟨hle,hcase⟩:=hv.arr_inv hmo;have hu:P.underlying t=some (.slice e):=by
  unfold V3 at hte;split at hte
  ·rename_i e0 hu;split at hte
   ·simp only[Option.some.injEq,Prod.mk.injEq]at hte;rw[hu,hte.1]
   ·cases hte
  ·cases hte
 have nop:n=0→(∃a c,v= .slice a 0 c)→∃w',(Builtin.clear_ #[t] ty #[v]).run P w= .ok (.tuple #[]) w'∧MS C w' ok g (Zq m (X6 [(o,some (.arr e' 1 (rows.take lo++List.replicate n [zd]++rows.drop (lo+n))))]) (Qj []) (Q5 [(o,some (.arr e' 1 (rows.take lo++List.replicate n [zd]++rows.drop (lo+n))))]))∧
   ∀c v,c.has (Qj [])=false→VR w ok g m c v→VR w' ok g (Zq m (X6 [(o,some (.arr e' 1 (rows.take lo++List.replicate n [zd]++rows.drop (lo+n))))]) (Qj []) (Q5 [(o,some (.arr e' 1 (rows.take lo++List.replicate n [zd]++rows.drop (lo+n))))])) c v:=by
  rintro rfl ⟨a,c,rfl⟩;refine⟨w,?_,?_⟩
  ·cases a<;> simp[Builtin.clear_,run_underlying hu]
  ·rw[List.replicate_zero,List.append_nil,Nat.add_zero,List.take_append_drop,meEff_same hmo];exact⟨hM,fun c v _ h=>h⟩
 rcases hcase with⟨_,rfl,rfl,rfl⟩|⟨b,hb,rfl⟩|⟨_,rfl,a,c,rfl,_⟩
 ·exact nop rfl ⟨_,_,rfl⟩
 ·rcases Nat.eq_zero_or_pos n with hn|hn
  ·subst hn;exact nop rfl ⟨_,_,rfl⟩
  ·obtain⟨zv,hzv,hzr⟩:=tyZv_ok hz w;have hzw:∀w,(zeroValue e).run P w= .ok zv w:=fun w'=>by
    obtain⟨zv',h1,_⟩:=tyZv_ok hz w';have h2:=hzv;have hh:∀{z z':Value} {w1 w2:World},(zeroValue e).run P w1= .ok z w1→(zeroValue e).run P w2= .ok z' w2→z=z':=fun {z z' w1 w2} a b=>by
     unfold zeroValue typeInfo at a b;cases hi:P.info? e with
     |none=>simp[hi]at a
     |some i=>
      cases hz:i.zero with
      |none=>simp[hi,hz]at a
      |some q=>simp[hi,hz]at a b;rw[←a,←b]
    rw[hh h2 h1];exact h1
   have hrep:∀w ok,Rep w ok zd zv:=fun w' ok'=>(hzr w' ok' noGh fun _=>none).Z6
   have hone:zv.oneCell'=true:=(hrep w ok).oneCell;have hcells:zv.cells= #[zv]:=by cases zv<;> first|rfl|simp[Value.oneCell']at hone
   have hzc:(Builtin.zeroCells zv.cells n).toList=List.replicate n zv:=by
    rw[hcells];simp[Builtin.zeroCells];apply List.ext_getElem
    ·simp
    ·intro i h1 h2;simp[Nat.mod_one]
   obtain⟨h0,h1,h2⟩:=hM.obj o _ hmo;rcases h2 with⟨h2,_⟩|⟨b',cur,h2,h3,h4,h5,h6,h7⟩
   ·rw[hb]at h2;cases h2
   rw[hb]at h2;obtain rfl:=Option.some.inj h2;rw[Nat.mul_one]at h6;have hst:=run_storeCells_at P b lo e' (List.replicate n zv) 0 cur w h3 (by simp;omega) (fun v hv'=>by rw[List.eq_of_mem_replicate hv'];exact hone);simp only[Nat.add_zero]at hst;rw[←Uj (List.replicate n zv) cur.toList lo (by simp;omega)]at hst;refine⟨_,?_,MS.put hM o hb hmo (x':=.arr e' 1 (rows.take lo++List.replicate n [zd]++rows.drop (lo+n))) (by simp only[Q6.like,List.length_append,List.length_take,List.length_replicate,List.length_drop];exact⟨trivial,by omega⟩) (setAt cur.toList lo (List.replicate n zv)).toArray ?_⟩
   ·obtain⟨k,rfl⟩:∃k,n=k+1:=⟨n-1,by omega⟩
    simp only[Nat.mul_one];simp[Builtin.clear_,run_underlying hu,hzw,hzc,hst]
   ·have hk:∀p:Addr,ok p.block→(w.setRow b (setAt cur.toList lo (List.replicate n zv)).toArray).cell? p=w.cell? p:=fun p hp=>World.Yw (setRow_other w b _ _ fun e=>(hM.own o _ b hmo (.inl hb)).1 (e▸hp))
    refine⟨by omega,fun i r hr=>?_,.inr ⟨b,_,hb,setRow_heap w b cur _ e' _ h3,by simp;omega,h5,by simp[Vq,h6],fun i j r c v hr hc hv=>?_⟩⟩
    ·rw[List.append_assoc,List.getElem?_append]at hr;split at hr
     ·rw[List.getElem?_take]at hr;split at hr
      ·exact h1 _ r hr
      ·cases hr
     ·rw[List.getElem?_append]at hr;split at hr
      ·rw[List.getElem?_replicate]at hr;split at hr
       ·cases hr;rfl
       ·cases hr
      ·rw[List.getElem?_drop]at hr;exact h1 _ r hr
    ·have hj:j=0:=by
      have hlen:r.length=1:=by
       rw[List.append_assoc,List.getElem?_append]at hr;split at hr
       ·rw[List.getElem?_take]at hr;split at hr
        ·exact h1 _ r hr
        ·cases hr
       ·rw[List.getElem?_append]at hr;split at hr
        ·rw[List.getElem?_replicate]at hr;split at hr
         ·cases hr;rfl
         ·cases hr
        ·rw[List.getElem?_drop]at hr;exact h1 _ r hr
      have:=(List.getElem?_eq_some_iff.1 hc).1;omega
     subst hj;rw[Nat.mul_one,Nat.add_zero]at hv;have hv2:(setAt cur.toList lo (List.replicate n zv))[i]? =some v:=by simpa using hv
     rw[Uj _ _ _ (by simp;omega),List.append_assoc,List.getElem?_append]at hv2;rw[List.append_assoc,List.getElem?_append]at hr;simp only[List.length_take,Array.length_toList,List.length_replicate]at hv2 hr;rw[Nat.min_eq_left (by omega)]at hv2 hr;by_cases hi:i<lo
     ·rw[if_pos hi,List.getElem?_take,if_pos hi]at hv2 hr;exact(h7 i 0 r c v hr hc (by simpa using hv2)).keep hk
     ·rw[if_neg hi,List.getElem?_append]at hv2 hr;simp only[List.length_replicate]at hv2 hr;by_cases hi2:i-lo<n
      ·rw[if_pos hi2,List.getElem?_replicate,if_pos hi2]at hv2 hr;cases hv2;cases hr;simp at hc;subst hc;exact hrep _ _
      ·rw[if_neg hi2,List.getElem?_drop]at hv2 hr;rw[show lo+n+(i-lo-n)=i from by omega]at hv2 hr;exact(h7 i 0 r c v hr hc (by simpa using hv2)).keep hk
 ·exact nop rfl ⟨_,_,rfl⟩
theorem keq_eq {a b:D} (h:D.keq a b=true):a=b:=by
 cases a<;> cases b<;> simp_all [D.keq]
theorem keq_self {ks:Bool} {k:D} (h:D.Y2 ks k=true):D.keq k k=true:=by
 unfold D.Y2 at h;cases k<;> cases ks<;> first|(cases h;done)|simp[D.keq]
theorem mapOp_ok {s:AS} {a:Act} {o:Oper} (h:St C s a w) {c:AV} {e:Eff} {p:Prop} (he:Y1 P (Q5 s.mem) (evA s.fr) o.dst o.op=some (c,e,p)) (hp:p) (hd:∀d,o.dst=some d→d<s.n):
  ∃v w',((execOp a.eval o).run P w= .ok (.value v) w'∨((execOp a.eval o).run P w= .ok .skip w'∧v=undef))∧St C (s.after o.dst c e) (a.put o.dst v) w':=by
 obtain⟨ok,g,hM,hs,hdf,hf⟩:=h;have hev:∀x,VR w ok g (Q5 s.mem) (evA s.fr x) (a.eval x):=evA_ok hf;have same:∀{c:AV} {v:Value},VR w ok g (Q5 s.mem) c v→(execOp a.eval o).run P w= .ok (.value v) w→
   ∃v w',((execOp a.eval o).run P w= .ok (.value v) w'∨((execOp a.eval o).run P w= .ok .skip w'∧v=undef))∧St C (s.after o.dst c ⟨[],[]⟩) (a.put o.dst v) w':=fun {c v} hc hrun=>by
  refine⟨v,w,.inl hrun,St.after (ok:=ok) (g:=g) (ok':=ok) (g':=g) hs hdf hf o.dst hd _ v ⟨[],[]⟩ ?_ (fun _=>?_)⟩
  ·rw[O5];exact⟨hM,fun c v _ h=>h⟩
  ·rw[O5];exact hc
 obtain⟨dst,op,ty,pos,after,guard⟩:=o;dsimp only at he hd same⊢;unfold Y1 at he;split at he
 ·rename_i x;have hx:=hev x;split at he
  ·rename_i o k e1;rw[e1]at hx;split at he
   ·rename_i y hy;simp only[Option.some.injEq,Prod.mk.injEq]at he;obtain⟨rfl,rfl,rfl⟩:=he;obtain⟨b,_,e2⟩:=hx.ptr_inv hy;exact same hx (by simp only[execOp,e2];rfl)
   ·cases he
  ·rename_i o i j e1;rw[e1]at hx;split at he
   ·rename_i hy;simp only[Option.some.injEq,Prod.mk.injEq]at he;obtain⟨rfl,rfl,rfl⟩:=he;obtain⟨b,_,e2⟩:=hx.eptr_inv hy;exact same hx (by simp only[execOp,e2];rfl)
   ·cases he
  ·rename_i r e1;rw[e1]at hx;simp only[Option.some.injEq,Prod.mk.injEq]at he;obtain⟨rfl,rfl,rfl⟩:=he;have hr:=hx.Z6;generalize hv:a.eval x=v at hr hx;cases hr;exact same hx (by simp only[execOp,hv];rfl)
  ·cases he
 ·rename_i t;split at he
  ·rename_i d e2 ks ag n _;split at he
   ·cases he
   ·rename_i hsm;simp only[Option.some.injEq,Prod.mk.injEq]at he;obtain⟨rfl,rfl,rfl⟩:=he;have hsm':Nat.ble 500 d=false:=by rw[←Bool.not_eq_true];exact hsm
    obtain⟨g',k1,k2⟩:=MS.newMap hM d (kept_small' hsm') ks ag n;refine⟨.map (some w.heap.size),_,.inl ?_,St.after hs hdf hf (some d) hd _ _ ⟨[d],[(d,some (.map ks ag n []))]⟩ k2 (fun _=>.mp _ _ rfl fun x hx=>⟨_,k1,rfl⟩)⟩;simp only[execOp,Option.map_none,Sem.run_bind,run_makeMap,Result.andThen_ok,Sem.run_pure]
  ·cases he
 ·rename_i t x k cc;split at he
  ·rename_i e2 ks ag n kd ht hkd;obtain⟨kt,hu,hkt⟩:=Dw ht;split at he
   ·rename_i hko;have hk:=hev k;rw[hkd]at hk;have hkv:=P7 hko hk.Z6;split at he
    ·rename_i z o hz hxo;have hx:=hev x;rw[hxo]at hx;obtain⟨zv,hzv,hzr⟩:=tyZv_ok hz w;split at he
     ·rename_i ks' ag' n' ents hmo;split at he
      ·rename_i hsame;obtain⟨rfl,rfl⟩:=hsame;obtain⟨b,hb,hxv⟩:=hx.mp_inv hmo;obtain⟨b',es,clock,hb',hw,hR⟩:=(hM.obj o _ hmo).map_inv;rw[hb]at hb';obtain rfl:=Option.some.inj hb';rcases map_look hR hkt hko with⟨r,j,e,f1,f2,f3,f4⟩|⟨f1,f3⟩
       ·rw[f3]at he;simp only[Option.some.injEq,Prod.mk.injEq]at he;obtain⟨rfl,rfl,rfl⟩:=he;cases cc with
        |true=>
         refine same (v:=.tuple #[e.val,.bool true]) ?_ ?_
         ·simp only[if_true];refine .tuple _ _ rfl fun i c v hc hv=>?_
          match i with
          |0=>simp at hc hv;subst hc;subst hv;exact rowAV_ok f4
          |1=>simp at hc hv;subst hc;subst hv;exact .d _ _ (.bool true)
          |i+2=>simp at hc
         ·simp[execOp,Instr.lookup,hxv,hkv,run_underlying hu,MapKept.run_getObj_map hw,MapKept.run_checkKey hkt (J3 hko),f1,Result.andThen]
        |false=>
         refine same (v:=e.val) (rowAV_ok f4) ?_;simp[execOp,Instr.lookup,hxv,hkv,run_underlying hu,MapKept.run_getObj_map hw,MapKept.run_checkKey hkt (J3 hko),f1,Result.andThen]
       ·rw[f3]at he;simp only[Option.some.injEq,Prod.mk.injEq]at he;obtain⟨rfl,rfl,rfl⟩:=he;cases cc with
        |true=>
         refine same (v:=.tuple #[zv,.bool false]) ?_ ?_
         ·simp only[if_true];refine .tuple _ _ rfl fun i c v hc hv=>?_
          match i with
          |0=>simp at hc hv;subst hc;subst hv;exact hzr _ _ _ _
          |1=>simp at hc hv;subst hc;subst hv;exact .d _ _ (.bool false)
          |i+2=>simp at hc
         ·simp[execOp,Instr.lookup,hxv,hkv,run_underlying hu,MapKept.run_getObj_map hw,MapKept.run_checkKey hkt (J3 hko),f1,hzv,Result.andThen]
        |false=>
         refine same (v:=zv) (hzr _ _ _ _) ?_;simp[execOp,Instr.lookup,hxv,hkv,run_underlying hu,MapKept.run_getObj_map hw,MapKept.run_checkKey hkt (J3 hko),f1,hzv,Result.andThen]
      ·cases he
     ·cases he
    ·rename_i z hz hxo;have hx:=hev x;rw[hxo]at hx;obtain⟨hxv,_⟩:=hx.Vz;obtain⟨zv,hzv,hzr⟩:=tyZv_ok hz w;have f1:(Instr.findKey kt (Jz kd) []).run P w= .ok none w:=MapKept.run_findKey hkt rfl;simp only[Option.some.injEq,Prod.mk.injEq]at he;obtain⟨rfl,rfl,rfl⟩:=he;cases cc with
     |true=>
      refine same (v:=.tuple #[zv,.bool false]) ?_ ?_
      ·simp only[if_true];refine .tuple _ _ rfl fun i c v hc hv=>?_
       match i with
       |0=>simp at hc hv;subst hc;subst hv;exact hzr _ _ _ _
       |1=>simp at hc hv;subst hc;subst hv;exact .d _ _ (.bool false)
       |i+2=>simp at hc
      ·simp[execOp,Instr.lookup,hxv,hkv,run_underlying hu,MapKept.run_checkKey hkt (J3 hko),f1,hzv,Result.andThen]
     |false=>
      refine same (v:=zv) (hzr _ _ _ _) ?_;simp[execOp,Instr.lookup,hxv,hkv,run_underlying hu,MapKept.run_checkKey hkt (J3 hko),f1,hzv,Result.andThen]
    ·cases he
   ·cases he
  ·cases he
 ·rename_i t x k v;split at he
  ·rename_i e2 ks ag n o kd ht hxo hkd;obtain⟨kt,hu,hkt⟩:=Dw ht;split at he
   ·rename_i hko;have hk:=hev k;rw[hkd]at hk;have hkv:=P7 hko hk.Z6;have hkr:Rep w ok kd (Jz kd):=by rw[←hkv];exact hk.Z6
    have hx:=hev x;rw[hxo]at hx;split at he
    ·rename_i ks' ag' n' ents hmo;split at he
     ·rename_i hsame;obtain⟨rfl,rfl⟩:=hsame;split at he
      ·rename_i r hr;simp only[Option.some.injEq,Prod.mk.injEq]at he;obtain⟨rfl,rfl,rfl⟩:=he;have hval:=valRow_ok hr (hev v);obtain⟨b,hb,hxv⟩:=hx.mp_inv hmo;obtain⟨b',es,clock,hb',hw,hR⟩:=(hM.obj o _ hmo).map_inv;rw[hb]at hb';obtain rfl:=Option.some.inj hb';rcases hR.find hko with⟨f1,f2,f3⟩|⟨l,j,e,r0,q1,q2,q3,f1,f2,f3,f4,f5⟩
       ·have hput:=MS.putMap hM o hb hmo hw (hR.push hko hkr f3 f2 hp hval);refine⟨undef,_,.inr ⟨?_,rfl⟩,St.after hs hdf hf dst hd _ _ ⟨[],[(o,some (.map ks' ag' n' (D.aput kd r ents)))]⟩ hput (fun _=>.any _)⟩;simp[execOp,Instr.mapUpdate,hxv,hkv,run_underlying hu,MapKept.run_getObj_map hw,MapKept.run_checkKey hkt (J3 hko),MapKept.run_findKey hkt f1,MapKept.run_setObj_map _ hw,Result.andThen]
       ·have hput:=MS.putMap hM o hb hmo hw (hR.put hko hkr q1 q2 q3 f2 f3 f4 hp hval);refine⟨undef,_,.inr ⟨?_,rfl⟩,St.after hs hdf hf dst hd _ _ ⟨[],[(o,some (.map ks' ag' n' (D.aput kd r ents)))]⟩ hput (fun _=>.any _)⟩;simp[execOp,Instr.mapUpdate,hxv,hkv,run_underlying hu,MapKept.run_getObj_map hw,MapKept.run_checkKey hkt (J3 hko),MapKept.run_findKey hkt f1,f2,f3,MapKept.run_keyThatStays (J3 hko),MapKept.run_setObj_map _ hw,Result.andThen]
      ·cases he
     ·cases he
    ·cases he
   ·cases he
  ·cases he
 ·rename_i t x k v;split at he
  ·rename_i e2 ks ag n o kd ht hxo hkd;obtain⟨kt,hu,hkt⟩:=Dw ht;split at he
   ·rename_i hko;have hk:=hev k;rw[hkd]at hk;have hkv:=P7 hko hk.Z6;have hkr:Rep w ok kd (Jz kd):=by rw[←hkv];exact hk.Z6
    have hx:=hev x;rw[hxo]at hx;split at he
    ·rename_i ks' ag' n' ents hmo;split at he
     ·rename_i hsame;obtain⟨rfl,rfl⟩:=hsame;split at he
      ·rename_i r hr;simp only[Option.some.injEq,Prod.mk.injEq]at he;obtain⟨rfl,rfl,rfl⟩:=he;have hval:=valRow_ok hr (hev v);obtain⟨b,hb,hxv⟩:=hx.mp_inv hmo;obtain⟨b',es,clock,hb',hw,hR⟩:=(hM.obj o _ hmo).map_inv;rw[hb]at hb';obtain rfl:=Option.some.inj hb';rcases hR.find hko with⟨f1,f2,f3⟩|⟨l,j,e,r0,q1,q2,q3,f1,f2,f3,f4,f5⟩
       ·have hput:=MS.putMap hM o hb hmo hw (hR.push hko hkr f3 f2 hp hval);refine⟨undef,_,.inr ⟨?_,rfl⟩,St.after hs hdf hf dst hd _ _ ⟨[],[(o,some (.map ks' ag' n' (D.aput kd r ents)))]⟩ hput (fun _=>.any _)⟩;simp[execOp,Instr.mapUpdate,hxv,hkv,run_underlying hu,MapKept.run_getObj_map hw,MapKept.run_checkKey hkt (J3 hko),MapKept.run_findKey hkt f1,MapKept.run_setObj_map _ hw,Result.andThen]
       ·have hput:=MS.putMap hM o hb hmo hw (hR.put hko hkr q1 q2 q3 f2 f3 f4 hp hval);refine⟨undef,_,.inr ⟨?_,rfl⟩,St.after hs hdf hf dst hd _ _ ⟨[],[(o,some (.map ks' ag' n' (D.aput kd r ents)))]⟩ hput (fun _=>.any _)⟩;simp[execOp,Instr.mapUpdate,hxv,hkv,run_underlying hu,MapKept.run_getObj_map hw,MapKept.run_checkKey hkt (J3 hko),MapKept.run_findKey hkt f1,f2,f3,MapKept.run_keyThatStays (J3 hko),MapKept.run_setObj_map _ hw,Result.andThen]
      ·cases he
     ·cases he
    ·cases he
   ·cases he
  ·cases he
 ·rename_i t x i;split at he
  ·rename_i s0 n hu hxo hio;have hx:=hev x;rw[hxo]at hx;have hi:=hev i;rw[hio]at hi;obtain⟨hxv,_⟩:=hx.Z6.D5;obtain⟨hiv,_⟩:=hi.Z6.Xv;split at he
   ·rename_i b hb;simp only[Option.some.injEq,Prod.mk.injEq]at he;obtain⟨rfl,rfl,rfl⟩:=he;have hlo:IntKind.u8.min≤(b.toNat:Int):=by
     have e0:IntKind.u8.min=0:=rfl;rw[e0];omega
    have hhi:(b.toNat:Int)≤IntKind.u8.max:=by
     have e0:IntKind.u8.max=255:=rfl;have:=b.toNat_lt;rw[e0];omega
    refine same (v:=.int .u8 b.toNat) (.d _ _ (.num .u8 b.toNat hlo hhi)) ?_;have e:(if 0≤n then s0[n.toNat]? else none)=some b:=by rw[if_pos hp,hb]
    simp[execOp,Instr.index,hxv,hiv,asIntOf,run_underlying hu,e,Result.andThen]
   ·cases he
  ·cases he
 ·rename_i cc;split at he
  ·rename_i x k t t' hcal hargs htys;split at he
   ·rename_i e2 ks ag n o kd ht hxo hkd;obtain⟨kt,hu,hkt⟩:=Dw ht;split at he
    ·rename_i hko;have hk:=hev k;rw[hkd]at hk;have hkv:=P7 hko hk.Z6;have hx:=hev x;rw[hxo]at hx;split at he
     ·rename_i ks' ag' n' ents hmo;split at he
      ·rename_i hsame;obtain⟨rfl,rfl⟩:=hsame;simp only[Option.some.injEq,Prod.mk.injEq]at he;obtain⟨rfl,rfl,rfl⟩:=he;obtain⟨b,hb,hxv⟩:=hx.mp_inv hmo;obtain⟨b',es,clock,hb',hw,hR⟩:=(hM.obj o _ hmo).map_inv;rw[hb]at hb';obtain rfl:=Option.some.inj hb';obtain⟨callee,args,tys⟩:=cc;dsimp only at hcal hargs htys;subst hcal;have ha:args= #[x,k]:=by apply Array.ext';simpa using hargs
       have hty:tys= #[t,t']:=by apply Array.ext';simpa using htys
       subst ha;subst hty;have go:∀{w':World},(Builtin.delete_ #[t,t'] ty #[a.eval x,a.eval k]).run P w= .ok (.tuple #[]) w'→(execOp a.eval ⟨dst,.call ⟨.builtin .delete,#[x,k],#[t,t']⟩,ty,pos,after,guard⟩).run P w= .ok (.value (.tuple #[])) w':=fun hk=>by
        simp[execOp,resolve,invoke,builtin,hk]
       rcases hR.find hko with⟨f1,f2,f3⟩|⟨l,j,e,r0,q1,q2,q3,f1,f2,f3,f4,f5⟩
       ·have hput:=MS.putMap hM o hb hmo hw (show Hw w ok ks' ag' n' (D.adel kd ents) es clock by rw[D.adel_all f3];exact hR);refine⟨.tuple #[],_,.inl (go ?_),St.after hs hdf hf dst hd _ _ ⟨[],[(o,some (.map ks' ag' n' (D.adel kd ents)))]⟩ hput (fun _=>.any _)⟩;simp[Builtin.delete_,hxv,hkv,run_underlying hu,MapKept.run_getObj_map hw,MapKept.run_checkKey hkt (J3 hko),MapKept.run_findKey hkt f1,MapKept.run_setObj_map _ hw,Result.andThen]
       ·have hput:=MS.putMap hM o hb hmo hw (hR.del hko q1 q2 q3 f2 f4);refine⟨.tuple #[],_,.inl (go ?_),St.after hs hdf hf dst hd _ _ ⟨[],[(o,some (.map ks' ag' n' (D.adel kd ents)))]⟩ hput (fun _=>.any _)⟩;simp[Builtin.delete_,hxv,hkv,run_underlying hu,MapKept.run_getObj_map hw,MapKept.run_checkKey hkt (J3 hko),MapKept.run_findKey hkt f1,MapKept.run_setObj_map _ hw,Result.andThen]
      ·cases he
     ·cases he
    ·cases he
   ·cases he
  ·rename_i x t hcal hargs htys;split at he
   ·rename_i e2 o lo n hte hxo;have hx:=hev x;rw[hxo]at hx;split at he
    ·rename_i e' rows hmo;split at he
     ·rename_i zd hz;simp only[Option.some.injEq,Prod.mk.injEq]at he;obtain⟨rfl,rfl,rfl⟩:=he;obtain⟨callee,args,tys⟩:=cc;dsimp only at hcal hargs htys;subst hcal;have ha:args= #[x]:=by apply Array.ext';simpa using hargs
      have hty:tys= #[t]:=by apply Array.ext';simpa using htys
      subst ha;subst hty;obtain⟨w',hrun,hms⟩:=clear_ok (ty:=ty) hM hmo hte hz hx;refine⟨.tuple #[],w',.inl ?_,St.after hs hdf hf dst hd _ _ ⟨[],[(o,some (.arr e' 1 (rows.take lo++List.replicate n [zd]++rows.drop (lo+n))))]⟩ hms (fun _=>.any _)⟩;simp[execOp,resolve,invoke,builtin,hrun]
     ·cases he
    ·cases he
   ·cases he
  ·rename_i x t hcal hargs htys;split at he
   ·rename_i tm o ht hxo;have hx:=hev x;rw[hxo]at hx;split at he
    ·rename_i ks' ag' n' ents hmo;simp only[Option.some.injEq,Prod.mk.injEq]at he;obtain⟨rfl,rfl,rfl⟩:=he;obtain⟨b,hb,hxv⟩:=hx.mp_inv hmo;obtain⟨b',es,clock,hb',hw,hR⟩:=(hM.obj o _ hmo).map_inv;rw[hb]at hb';obtain rfl:=Option.some.inj hb';obtain⟨e2,ks2,ag2,n2⟩:=tm;obtain⟨kt,hu,_⟩:=Dw ht;obtain⟨callee,args,tys⟩:=cc;dsimp only at hcal hargs htys;subst hcal;have ha:args= #[x]:=by apply Array.ext';simpa using hargs
     have hty:tys= #[t]:=by apply Array.ext';simpa using htys
     subst ha;subst hty;obtain⟨l,q1,q2,_⟩:=hR.perm;have hsz:es.size=ents.length:=by rw[←q2,q1.length_eq]
     refine same (v:=.int .i64 ents.length) (.d _ _ (.int _ hp.1 hp.2)) ?_;have hk:(Builtin.len_ #[t] ty #[a.eval x]).run P w= .ok (.int .i64 ents.length) w:=by
      simp[Builtin.len_,hxv,run_underlying hu,MapKept.run_getObj_map hw,goInt,hsz,Result.andThen]
     simp[execOp,resolve,invoke,builtin,hk]
    ·cases he
   ·rename_i tm ht hxo;have hx:=hev x;rw[hxo]at hx;obtain⟨hxv,_⟩:=hx.Vz;simp only[Option.some.injEq,Prod.mk.injEq]at he;obtain⟨rfl,rfl,rfl⟩:=he;obtain⟨e2,ks2,ag2,n2⟩:=tm;obtain⟨kt,hu,_⟩:=Dw ht;obtain⟨callee,args,tys⟩:=cc;dsimp only at hcal hargs htys;subst hcal;have ha:args= #[x]:=by apply Array.ext';simpa using hargs
    have hty:tys= #[t]:=by apply Array.ext';simpa using htys
    subst ha;subst hty;refine same (v:=.int .i64 0) (.d _ _ (.int 0 (by omega) (by omega))) ?_;have hk:(Builtin.len_ #[t] ty #[a.eval x]).run P w= .ok (.int .i64 0) w:=by
     simp[Builtin.len_,hxv,run_underlying hu,goInt]
    simp[execOp,resolve,invoke,builtin,hk]
   ·cases he
  ·cases he
 ·rename_i op t x y t2;have hx:=hev x;have hy:=hev y;have hgo:∀{u v r:Value},a.eval x=u→a.eval y=v→(eqGuard op t x y u v).run P w= .ok () w→(binOp op t u v).run P w= .ok r w→(execOp a.eval ⟨dst,.binOp op t x y t2,ty,pos,after,guard⟩).run P w= .ok (.value r) w:=fun e1 e2 e3 e4=>by
   simp[execOp,e1,e2,e3,e4]
  split at he
  ·rename_i e hu;have hsl:∀(ad:Option Addr) (n c:Nat),(binOp .eql t (.slice ad n c) (.slice none 0 0)).run P w= .ok (.bool ad.isNone) w∧(binOp .neq t (.slice ad n c) (.slice none 0 0)).run P w= .ok (.bool (!ad.isNone)) w:=fun ad n c=>
    ⟨_root_.Go.run_eql_slice_nil w t e ad n c hu,_root_.Go.run_neq_slice_nil w t e ad n c hu⟩
   have hgd:∀(ad:Option Addr) (n c:Nat),(eqGuard op t x y (.slice ad n c) (.slice none 0 0)).run P w= .ok () w:=fun ad n c=>by
    unfold eqGuard;cases op<;> rfl
   split at he
   ·rename_i e1 e2;rw[e1]at hx;rw[e2]at hy;obtain⟨ad,c',hxv,_⟩:=hx.Z6.sl_inv;obtain⟨hyv,_⟩:=hy.Vz;split at he
    ·simp only[Option.some.injEq,Prod.mk.injEq]at he;obtain⟨rfl,rfl,rfl⟩:=he;exact same (.d _ _ (.ub _)) (hgo hxv hyv (hgd _ _ _) (hsl _ _ _).1)
    ·simp only[Option.some.injEq,Prod.mk.injEq]at he;obtain⟨rfl,rfl,rfl⟩:=he;exact same (.d _ _ (.ub _)) (hgo hxv hyv (hgd _ _ _) (hsl _ _ _).2)
    ·cases he
   ·rename_i r0 rows e1 e2;rw[e1]at hx;rw[e2]at hy;obtain⟨ad,c',hxv,_⟩:=hx.Z6.sl_inv;obtain⟨hyv,_⟩:=hy.Vz;have had:ad.isNone=false:=by
     cases ad with
     |some a=>rfl
     |none=>
      have:=hx.Z6;rw[hxv]at this;have:=this.none_inv.1;cases this
    have hs:=hsl ad (r0::rows).length c';rw[had]at hs;split at he
    ·simp only[Option.some.injEq,Prod.mk.injEq]at he;obtain⟨rfl,rfl,rfl⟩:=he;exact same (.d _ _ (.bool _)) (hgo hxv hyv (hgd _ _ _) hs.1)
    ·simp only[Option.some.injEq,Prod.mk.injEq]at he;obtain⟨rfl,rfl,rfl⟩:=he;exact same (.d _ _ (.bool _)) (hgo hxv hyv (hgd _ _ _) hs.2)
    ·cases he
   ·rename_i e1 e2;rw[e1]at hx;rw[e2]at hy;obtain⟨hxv,_⟩:=hx.Vz;obtain⟨hyv,_⟩:=hy.Vz;split at he
    ·simp only[Option.some.injEq,Prod.mk.injEq]at he;obtain⟨rfl,rfl,rfl⟩:=he;exact same (.d _ _ (.bool _)) (hgo hxv hyv (hgd _ _ _) (hsl none 0 0).1)
    ·simp only[Option.some.injEq,Prod.mk.injEq]at he;obtain⟨rfl,rfl,rfl⟩:=he;exact same (.d _ _ (.bool _)) (hgo hxv hyv (hgd _ _ _) (hsl none 0 0).2)
    ·cases he
   ·cases he
  ·rename_i e hu;have hu':P.underlying t=some (.pointer (P.pointee t)):=by
    rw[hu];simp[Program.pointee,hu]
   split at he
   ·rename_i r e1 e2;rw[e1]at hx;rw[e2]at hy;have hyv:a.eval y= .pointer none:=by
     have:=hy.Z6;generalize a.eval y=v at this;cases this;rfl
    obtain⟨ad,hxv⟩:∃ad,a.eval x= .pointer (some ad):=by
     have:=hx.Z6;generalize a.eval x=v at this;cases this;exact⟨_,rfl⟩
    have hgd:(eqGuard op t x y (.pointer (some ad)) (.pointer none)).run P w= .ok () w:=by
     unfold eqGuard;cases op<;> rfl
    split at he
    ·simp only[Option.some.injEq,Prod.mk.injEq]at he;obtain⟨rfl,rfl,rfl⟩:=he;exact same (.d _ _ (.bool _)) (hgo hxv hyv hgd (by rw[run_eql_pointer_nil w t _ hu'];rfl))
    ·simp only[Option.some.injEq,Prod.mk.injEq]at he;obtain⟨rfl,rfl,rfl⟩:=he;exact same (.d _ _ (.bool _)) (hgo hxv hyv hgd (by rw[run_neq_pointer_nil w t _ hu'];rfl))
    ·cases he
   ·rename_i e1 e2;rw[e1]at hx;rw[e2]at hy;have hyv:a.eval y= .pointer none:=by
     have:=hy.Z6;generalize a.eval y=v at this;cases this;rfl
    have hxv:a.eval x= .pointer none:=by
     have:=hx.Z6;generalize a.eval x=v at this;cases this;rfl
    have hgd:(eqGuard op t x y (.pointer none) (.pointer none)).run P w= .ok () w:=by
     unfold eqGuard;cases op<;> rfl
    split at he
    ·simp only[Option.some.injEq,Prod.mk.injEq]at he;obtain⟨rfl,rfl,rfl⟩:=he;exact same (.d _ _ (.bool _)) (hgo hxv hyv hgd (by rw[run_eql_pointer_nil w t _ hu'];rfl))
    ·simp only[Option.some.injEq,Prod.mk.injEq]at he;obtain⟨rfl,rfl,rfl⟩:=he;exact same (.d _ _ (.bool _)) (hgo hxv hyv hgd (by rw[run_neq_pointer_nil w t _ hu'];rfl))
    ·cases he
   ·cases he
  ·cases he
 ·rename_i t x k;split at he
  ·rename_i e2 ks ag n o kd ht hxo hkd;obtain⟨kt,hu,hkt⟩:=Dw ht;split at he
   ·rename_i hko;have hk:=hev k;rw[hkd]at hk;have hkv:=P7 hko hk.Z6;have hkr:Rep w ok kd (Jz kd):=by rw[←hkv];exact hk.Z6
    have hx:=hev x;rw[hxo]at hx;split at he
    ·rename_i b0 ks' ag' n' clock bents z hmo hz;split at he
     ·rename_i hsame;obtain⟨rfl,rfl⟩:=hsame;split at he
      ·rename_i zr hzr;obtain⟨b,hb,hxv⟩:=hx.mp_inv hmo;obtain⟨hb',es,hw,hB⟩:=hM.obj o _ hmo;rw[hb]at hb';obtain rfl:=Option.some.inj hb';have hown:=hM.own o _ b hmo (.inl hb);split at he
       ·rename_i hall;simp only[Option.some.injEq,Prod.mk.injEq]at he;obtain⟨rfl,rfl,rfl⟩:=he;obtain⟨zv,hzv,hzo⟩:=tyZv_ok hz w;have hno:∀p∈bents,D.keq p.2.1 kd=false:=fun p hp=>by have:=List.find?_eq_none.1 hall p hp;simpa using this
        rcases hB.isKey.find hko with⟨f1,f2,f3⟩|⟨l,j,e,r0,q1,q2,q3,f1,f2,f3,f4,f5⟩
        ·have hval:M0 w ok ag' zr zv:=valRow_ok hzr (hzo w ok g (Q5 s.mem));have hB2:=hB.push hko hkr hno f2 hp hval;have hput:=MS.putRaw hM o hb hmo (x':=.raw (.births b ks' ag' n' (clock+1) (bents++[(clock,kd,zr)]))) trivial (ob:=.map (es.push { key:=Jz kd,val:=zv,born:=clock }) (clock+1)) (w':=_) rfl
          ⟨hb,_,(MapKept.heap_set hw).1,hB2.st,hB2.keys,hB2.nodup,hB2.size,fun i e p a c=>by
           have hcell:∀q:Addr,ok q.block→World.cell? { w with heap:=w.heap.setIfInBounds b (.map (es.push { key:=Jz kd,val:=zv,born:=clock }) (clock+1)) } q=w.cell? q:=fun q hq=>
            World.Yw (Rx w b _ _ fun e=>by rw[e]at hq;exact hown.1 hq)
           exact⟨(hB2.at' i e p a c).1,(hB2.at' i e p a c).2.1.keep hcell,(hB2.at' i e p a c).2.2.keep hcell⟩⟩
         refine⟨.tuple #[zv,.int .i64 clock],_,.inl ?_,St.after hs hdf hf dst hd _ _ ⟨[],[(o,some (.raw (.births b ks' ag' n' (clock+1) (bents++[(clock,kd,zr)]))))]⟩ hput (fun _=>?_)⟩
         ·simp[execOp,Instr.mapEntry,hxv,hkv,run_underlying hu,MapKept.run_getObj_map hw,MapKept.run_checkKey hkt (J3 hko),MapKept.run_findKey hkt f1,hzv,goInt,MapKept.run_setObj_map _ hw,Result.andThen]
         ·refine .tuple _ _ rfl fun i c v hc hv=>?_
          match i with
          |0=>simp at hc hv;subst hc;subst hv;exact hzo _ _ _ _
          |1=>simp at hc hv;subst hc;subst hv;exact .lit _ rfl
          |i+2=>simp at hc
        ·exfalso;have hm:(kd,r0)∈bents.map (·.2):=q1.mem_iff.1 (List.mem_of_getElem? f4);obtain⟨p,hp1,hp2⟩:=List.mem_map.1 hm;have:=hno p hp1;rw[hp2]at this;rw[keq_self hko]at this;cases this
       ·rename_i p hpf;simp only[Option.some.injEq,Prod.mk.injEq]at he;obtain⟨rfl,rfl,rfl⟩:=he;have hpm:=List.mem_of_find?_eq_some hpf;have hpk:p.2.1=kd:=keq_eq (by simpa using List.find?_some hpf);obtain⟨i0,hi0⟩:=List.mem_iff_getElem?.1 hpm;have hlt:i0<es.size:=by rw[←hB.size];exact(List.getElem?_eq_some_iff.1 hi0).1
        obtain⟨k1,k2,k3⟩:=hB.at' i0 es[i0] p (Array.getElem?_eq_getElem hlt) hi0;have hek:es[i0].key=Jz kd:=by rw[hpk]at k2;exact P7 hko k2
        rcases hB.isKey.find hko with⟨f1,f2,f3⟩|⟨l,j,e,r0,q1,q2,q3,f1,f2,f3,f4,f5⟩
        ·exact absurd hek (f2 _ (by simp))
        ·have hij:i0=j:=by
          have e1:(es.toList.map (·.key))[i0]? =some (Jz kd):=by rw[List.getElem?_map,Array.getElem?_toList,Array.getElem?_eq_getElem hlt];simp[hek]
          have e2:(es.toList.map (·.key))[j]? =some (Jz kd):=by rw[List.getElem?_map,Array.getElem?_toList,f2];simp[f3]
          exact(List.getElem?_inj (List.getElem?_eq_some_iff.1 e1).1 hB.st.2.2).1 (e1.trans e2.symm)
         subst hij;have hee:es[i0]=e:=by rw[Array.getElem?_eq_getElem hlt]at f2;exact Option.some.inj f2
         have hsame:(es.modify i0 fun e=>{ e with key:=Jz kd })=es:=by
          apply Array.ext';apply List.ext_getElem?;intro q;rw[Array.getElem?_toList,Array.getElem?_toList,Array.getElem?_modify];split
          ·rename_i hq;subst hq;rw[f2];simp[←f3]
          ·rfl
         have hput:=MS.putRaw hM o hb hmo (x':=.raw (.births b ks' ag' n' clock bents)) trivial (ob:=.map es clock) (w':=_) rfl
          ⟨hb,_,(MapKept.heap_set hw).1,hB.st,hB.keys,hB.nodup,hB.size,fun i e p a c=>by
           have hcell:∀q:Addr,ok q.block→World.cell? { w with heap:=w.heap.setIfInBounds b (.map es clock) } q=w.cell? q:=fun q hq=>
            World.Yw (Rx w b _ _ fun e=>by rw[e]at hq;exact hown.1 hq)
           exact⟨(hB.at' i e p a c).1,(hB.at' i e p a c).2.1.keep hcell,(hB.at' i e p a c).2.2.keep hcell⟩⟩
         have hcell2:∀q:Addr,ok q.block→World.cell? { w with heap:=w.heap.setIfInBounds b (.map es clock) } q=w.cell? q:=fun q hq=>
            World.Yw (Rx w b _ _ fun e=>by rw[e]at hq;exact hown.1 hq)
         refine⟨.tuple #[e.val,.int .i64 p.1],_,.inl ?_,St.after hs hdf hf dst hd _ _ ⟨[],[(o,some (.raw (.births b ks' ag' n' clock bents)))]⟩ hput (fun _=>?_)⟩
         ·simp[execOp,Instr.mapEntry,hxv,hkv,run_underlying hu,MapKept.run_getObj_map hw,MapKept.run_checkKey hkt (J3 hko),MapKept.run_findKey hkt f1,f2,hek,MapKept.run_keyThatStays (J3 hko),hsame,goInt,←hee,k1,MapKept.run_setObj_map _ hw,Result.andThen]
         ·refine .tuple _ _ rfl fun i c v hc hv=>?_
          match i with
          |0=>simp at hc hv;subst hc;subst hv;rw[←hee];exact rowAV_ok (k3.keep hcell2)
          |1=>simp at hc hv;subst hc;subst hv;exact .lit _ rfl
          |i+2=>simp at hc
      ·cases he
     ·cases he
    ·cases he
   ·cases he
  ·cases he
 ·rename_i t x sx v;split at he
  ·rename_i e2 ks ag n o c ht hxo hsc;split at he
   ·rename_i b0 ks' ag' n' clock bents hmo;split at he
    ·rename_i hsame;subst hsame;split at he
     ·rename_i r hr;simp only[Option.some.injEq,Prod.mk.injEq]at he;obtain⟨rfl,rfl,rfl⟩:=he;obtain⟨hrl,p,hp1,hp2⟩:=hp;have hval:=valRow_ok hr (hev v);have hx:=hev x;rw[hxo]at hx;have hsv:=hev sx;rw[hsc]at hsv;obtain⟨hsv,_⟩:=hsv.Vz;obtain⟨b,hb,hxv⟩:=hx.mp_inv hmo;obtain⟨hb',es,hw,hB⟩:=hM.obj o _ hmo;rw[hb]at hb';obtain rfl:=Option.some.inj hb';obtain⟨i0,hi0⟩:=List.mem_iff_getElem?.1 hp1;have hlt:i0<es.size:=by rw[←hB.size];exact(List.getElem?_eq_some_iff.1 hi0).1
      have hbi:=(hB.at' i0 es[i0] p (Array.getElem?_eq_getElem hlt) hi0).1;obtain⟨j,hj⟩:∃j,es.findIdx? (fun e=>(e.born:Int)==c)=some j:=by
       cases hf:es.findIdx? (fun e=>(e.born:Int)==c)with
       |some j=>exact⟨j,rfl⟩
       |none=>
        have:=Array.findIdx?_eq_none_iff.1 hf es[i0] (Array.getElem_mem hlt);rw[←hbi,hp2]at this;simp at this
      obtain⟨hj1,hj2,_⟩:=Array.findIdx?_eq_some_iff_getElem.1 hj;have hB2:=hB.set (Array.getElem?_eq_getElem hj1) (by simpa using hj2) hrl hval;have hown:=hM.own o _ b hmo (.inl hb);have hput:=MS.putRaw hM o hb hmo (x':=.raw (.births b ks' ag' n' clock (bset c r bents))) trivial (ob:=.map (es.modify j fun e=>{ e with val:=a.eval v }) clock) (w':=_) rfl
       ⟨hb,_,(MapKept.heap_set hw).1,hB2.st,hB2.keys,hB2.nodup,hB2.size,fun i e p a1 c1=>by
        have hcell:∀q:Addr,ok q.block→World.cell? { w with heap:=w.heap.setIfInBounds b (.map (es.modify j fun e=>{ e with val:=a.eval v }) clock) } q=w.cell? q:=fun q hq=>
         World.Yw (Rx w b _ _ fun e=>by rw[e]at hq;exact hown.1 hq)
        exact⟨(hB2.at' i e p a1 c1).1,(hB2.at' i e p a1 c1).2.1.keep hcell,(hB2.at' i e p a1 c1).2.2.keep hcell⟩⟩
      refine⟨undef,_,.inr ⟨?_,rfl⟩,St.after hs hdf hf dst hd _ _ ⟨[],[(o,some (.raw (.births b ks' ag' n' clock (bset c r bents))))]⟩ hput (fun _=>.any _)⟩;simp[execOp,Instr.entryStore,hxv,hsv,MapKept.run_getObj_map hw,asInt,asIntOf,hj,MapKept.run_setObj_map _ hw,Result.andThen]
     ·cases he
    ·cases he
   ·cases he
  ·cases he
 ·cases he
end
end Go.Proofs.YtlbcipohiepjmaaDoor
namespace Go.Proofs.YtlbcipohiepjmaaDoor
open Go.RowKit
def wr (n:Int):Int:=(n+9223372036854775808) % 18446744073709551616-9223372036854775808
def wr32 (n:Int):Int:=(n+2147483648) % 4294967296-2147483648
theorem i64_wr (n:Int):IntKind.i64.wrap n=wr n:=by
 unfold wr;simp only[IntKind.wrap,IntKind.signed,IntKind.bits];simp only[Bool.true_and];split<;> rename_i hh<;> simp at hh<;> omega
theorem i32_wr (n:Int):IntKind.i32.wrap n=wr32 n:=by
 unfold wr32;simp only[IntKind.wrap,IntKind.signed,IntKind.bits];simp only[Bool.true_and];split<;> rename_i hh<;> simp at hh<;> omega
theorem Mq (n:Int): -9223372036854775808≤wr n∧wr n≤9223372036854775807:=by unfold wr;omega
theorem L6 (n:Int): -2147483648≤wr32 n∧wr32 n≤2147483647:=by unfold wr32;omega
theorem wr_id {n:Int} (h:inI n):wr n=n:=by unfold wr;have:=h.1;have:=h.2;omega
theorem wr_add (a b:Int):wr (wr a+b)=wr (a+b):=by unfold wr;omega
theorem wr_add' (a b:Int):wr (a+wr b)=wr (a+b):=by unfold wr;omega
def V8 (P:Program) (f:Operand→AV):Op→Option (AV×Prop)
 | .convert src dst x=>match P.underlying src,P.underlying dst,f x with
  |some _,some (.int .i64),.d (.int n)=>some (.d (.int n),True)
  |some _,some (.int .i64),.d (.num _ n)=>some (.d (.int n),inI n)
  |some _,some (.int .i32),.d (.int n)=>some (.d (.num .i32 (wr32 n)),True)
  |some _,some .string,.d (.num _ n)=>some (.d (.str (Utf8.encode n)),(Utf8.encode n).size≤maxLen)
  |some _,some .string,.d (.str s)=>some (.d (.str s),True)
  |_,_,_=>none
 | .slice t x lo hi none=>match P.underlying t,f x,O0 f lo,O0 f hi with
  |some .string,.d (.str s),some l,some h=>some (.d (.str (s.extract (l.getD 0).toNat (h.getD s.size).toNat)),0≤l.getD 0∧l.getD 0≤h.getD s.size∧h.getD s.size≤s.size)
  |_,_,_,_=>none
 | .slice t x none (some hi) (some mx)=>match V3 P t,f x,f hi,f mx with
  |some _,.d (.sl rows),.d (.int h),.d (.int k)=>some (.fl rows,h=rows.length∧k=rows.length)
  |_,_,_,_=>none
 | .call c=>match c.callee,c.args.toList with
  | .builtin .min,[x,y]=>match f x,f y with
   | .d (.int a),.d (.int b)=>some (.d (.int (if b<a then b else a)),True)
   |_,_=>none
  | .builtin .max,[x,y]=>match f x,f y with
   | .d (.int a),.d (.int b)=>some (.d (.int (if a<b then b else a)),True)
   |_,_=>none
  |_,_=>none
 |_=>none
def Vk (f:Operand→AV):Op→Option AV
 | .binOp op t x y _=>match op,f x,f y with
  | .add,.d (.int a),.d (.int b)=>some (.d (.int (wr (a+b))))
  | .sub,.d (.int a),.d (.int b)=>some (.d (.int (wr (a-b))))
  | .mul,.d (.int a),.d (.int b)=>some (.d (.int (wr (a * b))))
  | .add,.d (.num .i32 a),.d (.num .i32 b)=>some (.d (.num .i32 (wr32 (a+b))))
  | .sub,.d (.num .i32 a),.d (.num .i32 b)=>some (.d (.num .i32 (wr32 (a-b))))
  | .mul,.d (.num .i32 a),.d (.num .i32 b)=>some (.d (.num .i32 (wr32 (a * b))))
  |_,_,_=>none
 |_=>none
section
variable {P:Program} {C:Cx} {w:World} {ok:Nat→Prop} {g:Gh} {m:Me}
theorem Rep.Lj {k:IntKind} {n:Int} {v:Value} (h:Rep w ok (.num k n) v):v= .int k n∧k.min≤n∧n≤k.max:=by cases h;exact⟨rfl,by assumption,by assumption⟩
theorem run_sliceStr (P:Program) (w:World) (len:Nat) (lo hi:Option Int) (h0:0≤lo.getD 0) (h1:lo.getD 0≤hi.getD len) (h2:hi.getD len≤len):
  (Instr.sliceBounds false len len (lo.map (Value.int .i64)) (hi.map (Value.int .i64)) none).run P w= .ok ((lo.getD 0).toNat,(hi.getD len).toNat,len) w:=by
 have sb:∀(n:Int) (y:Nat) (code:BoundsCode),0≤n→n≤(y:Int)→(Instr.sliceBound (.int .i64 n) y code).run P w= .ok n.toNat w:=fun n y code a b=>by
  unfold Instr.sliceBound;simp only[asIntOf,Sem.run_bind,Sem.run_pure,Result.andThen_ok];rw[if_pos ⟨a,b⟩];rfl
 rcases lo with _|l<;> rcases hi with _|h<;> simp only[Option.getD_none,Option.getD_some,Option.map_none,Option.map_some]at * <;> simp only[Instr.sliceBounds,Sem.run_bind,Sem.run_pure,Result.andThen_ok,Option.isSome_none]
 ·simp
 ·rw[sb h len _ (by omega) (by omega)];simp
 ·have:=sb l len (if False then .slice3C else .sliceB) (by omega) (by omega);simp at this;simp[this]
 ·rw[sb h len _ (by omega) (by omega)];have:=sb l h.toNat .sliceB (by omega) (by omega);simp[this]
theorem extOp_ok {f:Operand→AV} {ρ:Operand→Value} (hf:∀x,VR w ok g m (f x) (ρ x)) {o:Oper} {c:AV} {p:Prop} (h:V8 P f o.op=some (c,p)) (hp:p):
  ∃v,(execOp ρ o).run P w= .ok (.value v) w∧VR w ok g m c v:=by
 have val:∀{s:Sem Value} {v:Value},s.run P w= .ok v w→(do pure (Next.value (←s)):Sem Next).run P w= .ok (.value v) w:=fun {s v} hs=>by simp[hs]
 obtain⟨dst,op,ty,pos,after,guard⟩:=o;dsimp only at h;unfold V8 at h;split at h
 ·rename_i src tgt x;have hx:=hf x;split at h
  ·rename_i hs hd e;rw[e]at hx;obtain⟨hv,l1,l2⟩:=hx.Z6.Xv;simp only[Option.some.injEq,Prod.mk.injEq]at h;obtain⟨rfl,rfl⟩:=h;exact⟨.int .i64 _,val (by simp only[convert,Sem.run_bind,run_underlying hs,run_underlying hd,Result.andThen_ok,hv,Conv.intToInt,Sem.run_pure,Tq ⟨l1,l2⟩]),.d _ _ (.int _ l1 l2)⟩
  ·rename_i hs hd e;rw[e]at hx;obtain⟨hv,l1,l2⟩:=hx.Z6.Lj;simp only[Option.some.injEq,Prod.mk.injEq]at h;obtain⟨rfl,rfl⟩:=h;exact⟨.int .i64 _,val (by simp only[convert,Sem.run_bind,run_underlying hs,run_underlying hd,Result.andThen_ok,hv,Conv.intToInt,Sem.run_pure,Tq hp]),.d _ _ (.int _ hp.1 hp.2)⟩
  ·rename_i hs hd e;rw[e]at hx;obtain⟨hv,l1,l2⟩:=hx.Z6.Xv;simp only[Option.some.injEq,Prod.mk.injEq]at h;obtain⟨rfl,rfl⟩:=h;exact⟨.int .i32 _,val (by simp only[convert,Sem.run_bind,run_underlying hs,run_underlying hd,Result.andThen_ok,hv,Conv.intToInt,Sem.run_pure,i32_wr]),.d _ _ (.num _ _ (L6 _).1 (L6 _).2)⟩
  ·rename_i hs hd e;rw[e]at hx;obtain⟨hv,l1,l2⟩:=hx.Z6.Lj;simp only[Option.some.injEq,Prod.mk.injEq]at h;obtain⟨rfl,rfl⟩:=h;exact⟨.string _,val (by simp only[convert,Sem.run_bind,run_underlying hs,run_underlying hd,Result.andThen_ok,hv,Conv.intToString,Sem.run_pure]),.d _ _ (.str _ hp)⟩
  ·rename_i hs hd e;rw[e]at hx;obtain⟨hv,l1⟩:=hx.Z6.D5;simp only[Option.some.injEq,Prod.mk.injEq]at h;obtain⟨rfl,rfl⟩:=h;exact⟨.string _,val (by simp only[convert,Sem.run_bind,run_underlying hs,run_underlying hd,Result.andThen_ok,hv,Sem.run_pure]),.d _ _ (.str _ l1)⟩
  ·cases h
 ·rename_i t x lo hi;split at h
  ·rename_i s l h' hu ex el eh;simp only[Option.some.injEq,Prod.mk.injEq]at h;obtain⟨rfl,rfl⟩:=h;have hx:=hf x;rw[ex]at hx;obtain⟨hv,hs⟩:=hx.Z6.D5;have e1:=optI_ok hf el;have e2:=optI_ok hf eh;obtain⟨p0,p1,p2⟩:=hp;refine⟨.string _,val ?_,.d _ _ (.str _ ?_)⟩
   ·simp only[Instr.sliceAt,Instr.slice,Sem.run_bind,run_underlying hu,Result.andThen_ok,hv,Option.map_none,Option.isSome_none,Bool.false_eq_true,if_false,Sem.run_pure,e1,e2,run_sliceStr P w s.size l h' p0 p1 p2]
   ·rw[ByteArray.size_extract];omega
  ·cases h
 ·rename_i t x hi mx;split at h
  ·rename_i e rows h' k hty ex eh ek;simp only[Option.some.injEq,Prod.mk.injEq]at h;obtain⟨rfl,rfl⟩:=h;obtain⟨rfl,rfl⟩:=hp;obtain⟨e1,sz⟩:=e;obtain⟨hu,i,hi2,rfl⟩:=Gx hty;have hsz:(sizeOf e1).run P w= .ok i.size w:=by simp[sizeOf,typeInfo,hi2]
   have hx:=hf x;rw[ex]at hx;have hh:=hf hi;rw[eh]at hh;have hk:=hf mx;rw[ek]at hk;have hR:=hx.Z6;have sb:∀(y:Nat) (code:BoundsCode),rows.length≤y→(Instr.sliceBound (.int .i64 (rows.length:Int)) y code).run P w= .ok rows.length w:=fun y code hy=>by
    unfold Instr.sliceBound;simp only[asIntOf,Sem.run_bind,Sem.run_pure,Result.andThen_ok];rw[if_pos ⟨by omega,by omega⟩];rfl
   obtain⟨a,cc,hv,hle,hcm,_⟩:=hR.sl_inv;have go:(Instr.sliceAt t (ρ x) none (some (ρ hi)) (some (ρ mx))).run P w= .ok (.slice (if rows.length=0 then a else a.map (·.add (0 * i.size))) rows.length rows.length) w:=by
    simp[Instr.sliceAt,Instr.slice,run_underlying hu,Instr.sliceBounds,hh.Z6.Xv.1,hk.Z6.Xv.1,sb _ _ hle,sb _ _ (Nat.le_refl _),hsz,hv]
   refine⟨_,val go,.fl _ _ ⟨_,rfl⟩ ?_⟩;rw[hv]at hR;cases hR with
   |empty a' cc' ha hcc=>exact .empty _ 0 (fun _=>rfl) (Nat.zero_le _)
   |sl rows size b o cc' V hne hlen hcc hsz' hok hcell hrep=>
    have hx2:=Rep.sl (w:=w) (ok:=ok) rows size b o rows.length V hne (Nat.le_refl _) (by omega) hsz' hok hcell hrep;have h0:¬rows.length=0:=fun h=>hne (List.eq_nil_of_length_eq_zero h)
    rw[if_neg h0];simpa[Addr.add_lit]using hx2
  ·cases h
 ·rename_i cc;obtain⟨callee,args,tys⟩:=cc;dsimp only at h;have key:∀(b:Builtin) (x y:Operand),args= #[x,y]→callee= .builtin b→∀v,(∀bs,(builtin b tys ty bs #[ρ x,ρ y]).run P w= .ok (.value v) w)→
    (execOp ρ ⟨dst,.call ⟨callee,args,tys⟩,ty,pos,after,guard⟩).run P w= .ok (.value v) w:=fun b x y ha hc v hr=>by
   subst ha;subst hc;simp only[execOp,resolve,invoke,Sem.run_bind,Sem.run_pure,Result.andThen_ok,List.map_toArray,List.map_cons,List.map_nil];exact hr _
  split at h
  ·rename_i x y ha;have ha':args= #[x,y]:=by rw[←Array.toList_inj];exact ha
   have hx:=hf x;have hy:=hf y;split at h
   ·rename_i a b ea eb;rw[ea]at hx;rw[eb]at hy;obtain⟨v1,l1,l2⟩:=hx.Z6.Xv;obtain⟨v2,l3,l4⟩:=hy.Z6.Xv;simp only[Option.some.injEq,Prod.mk.injEq]at h;obtain⟨rfl,rfl⟩:=h;refine⟨.int .i64 (if b<a then b else a),key .min x y ha' rfl _ ?_,.d _ _ (.int _ (by split<;> assumption) (by split<;> assumption))⟩;intro bs;simp[builtin,Builtin.min_,Builtin.min2,v1,v2]
   ·cases h
  ·rename_i x y ha;have ha':args= #[x,y]:=by rw[←Array.toList_inj];exact ha
   have hx:=hf x;have hy:=hf y;split at h
   ·rename_i a b ea eb;rw[ea]at hx;rw[eb]at hy;obtain⟨v1,l1,l2⟩:=hx.Z6.Xv;obtain⟨v2,l3,l4⟩:=hy.Z6.Xv;simp only[Option.some.injEq,Prod.mk.injEq]at h;obtain⟨rfl,rfl⟩:=h;refine⟨.int .i64 (if a<b then b else a),key .max x y ha' rfl _ ?_,.d _ _ (.int _ (by split<;> assumption) (by split<;> assumption))⟩;intro bs;simp[builtin,Builtin.max_,Builtin.max2,v1,v2]
   ·cases h
  ·cases h
 ·cases h
theorem wrapOp_ok {f:Operand→AV} {ρ:Operand→Value} (hf:∀x,VR w ok g m (f x) (ρ x)) {o:Oper} {c:AV} (h:Vk f o.op=some c):
  ∃v,(execOp ρ o).run P w= .ok (.value v) w∧VR w ok g m c v:=by
 have val:∀{s:Sem Value} {v:Value},s.run P w= .ok v w→(do pure (Next.value (←s)):Sem Next).run P w= .ok (.value v) w:=fun {s v} hs=>by simp[hs]
 obtain⟨dst,op,ty,pos,after,guard⟩:=o;dsimp only at h;unfold Vk at h;split at h
 ·rename_i op t x y t2;have hx:=hf x;have hy:=hf y;have hg:∀k (a b:Int),op= .add∨op= .sub∨op= .mul→(eqGuard op t x y (.int k a) (.int k b)).run P w= .ok () w:=fun k a b _=>by
   unfold eqGuard;cases op<;> rfl
  split at h;all_goals first|cases h;done|skip
  all_goals
   rename_i a b ea eb;rw[ea]at hx;rw[eb]at hy;simp only[Option.some.injEq]at h;subst h
  ·refine⟨.int .i64 (wr (a+b)),val ?_,.d _ _ (.int _ (Mq _).1 (Mq _).2)⟩;rw[hx.Z6.Xv.1,hy.Z6.Xv.1,Sem.run_bind,hg _ _ _ (by simp),Result.andThen_ok];simp[binOp,Op.intArith,i64_wr]
  ·refine⟨.int .i64 (wr (a-b)),val ?_,.d _ _ (.int _ (Mq _).1 (Mq _).2)⟩;rw[hx.Z6.Xv.1,hy.Z6.Xv.1,Sem.run_bind,hg _ _ _ (by simp),Result.andThen_ok];simp[binOp,Op.intArith,i64_wr]
  ·refine⟨.int .i64 (wr (a * b)),val ?_,.d _ _ (.int _ (Mq _).1 (Mq _).2)⟩;rw[hx.Z6.Xv.1,hy.Z6.Xv.1,Sem.run_bind,hg _ _ _ (by simp),Result.andThen_ok];simp[binOp,Op.intArith,i64_wr]
  ·refine⟨.int .i32 (wr32 (a+b)),val ?_,.d _ _ (.num _ _ (L6 _).1 (L6 _).2)⟩;rw[hx.Z6.Lj.1,hy.Z6.Lj.1,Sem.run_bind,hg _ _ _ (by simp),Result.andThen_ok];simp[binOp,Op.intArith,i32_wr]
  ·refine⟨.int .i32 (wr32 (a-b)),val ?_,.d _ _ (.num _ _ (L6 _).1 (L6 _).2)⟩;rw[hx.Z6.Lj.1,hy.Z6.Lj.1,Sem.run_bind,hg _ _ _ (by simp),Result.andThen_ok];simp[binOp,Op.intArith,i32_wr]
  ·refine⟨.int .i32 (wr32 (a * b)),val ?_,.d _ _ (.num _ _ (L6 _).1 (L6 _).2)⟩;rw[hx.Z6.Lj.1,hy.Z6.Lj.1,Sem.run_bind,hg _ _ _ (by simp),Result.andThen_ok];simp[binOp,Op.intArith,i32_wr]
 ·cases h
theorem St.value {s:AS} {a:Act} {o:Oper} (h:St C s a w) {c:AV} (hd:∀d,o.dst=some d→d<s.n)
  (he:∀ok g,(∀x,VR w ok g (Q5 s.mem) (evA s.fr x) (a.eval x))→∃v,(execOp a.eval o).run P w= .ok (.value v) w∧VR w ok g (Q5 s.mem) c v):
  ∃v,(execOp a.eval o).run P w= .ok (.value v) w∧St C (s.after o.dst c ⟨[],[]⟩) (a.put o.dst v) w:=by
 obtain⟨ok,g,hM,hs,hdf,hf⟩:=h;obtain⟨v,h1,h2⟩:=he ok g (evA_ok hf);refine⟨v,h1,St.after (ok:=ok) (g:=g) (ok':=ok) (g':=g) hs hdf hf o.dst hd _ v ⟨[],[]⟩ ?_ (fun _=>?_)⟩
 ·rw[O5];exact⟨hM,fun c v _ h=>h⟩
 ·rw[O5];exact h2
end
end Go.Proofs.YtlbcipohiepjmaaDoor
