import Derived.Test.YtjpldhjgehoffaaGreatDoorPlainX
import Derived.Test.YtjpldhjgehoffaaGreatDoorFreeA
import Derived.Shelf.SlMaps.Clone
import Derived.Shelf.Sort.Plain
import Derived.Sort.OwnSorted
import Derived.Shelf.Slices.CompactS
import Derived.Lib.RowBridge
namespace Go.Proofs.YtjpldhjgehoffaaGreatDoor
open Go.RowKit Go.Sort
set_option linter.unusedVariables false
set_option linter.unusedSimpArgs false
def Qw (l:List (ByteArray×Int)):List (D×List D):=l.map fun p=>(.str p.1,[.int p.2])
def Xx (l:List (ByteArray×ByteArray)):List (D×List D):=l.map fun p=>(.str p.1,[.str p.2])
theorem ent_del {α:Type} (f:α→D) (s:ByteArray):∀l:List (ByteArray×α),D.Sj (.str s) (l.map fun p=>(D.str p.1,[f p.2]))=(M4 l s).map fun p=>(D.str p.1,[f p.2])
 |[]=>rfl
 |(k,v)::r=>by
  have ih:=ent_del f s r;unfold D.Sj at ih⊢;unfold M4 at ih⊢;rw[List.map_cons,List.filter_cons,List.filter_cons,ih];by_cases h:k=s
  ·rw[if_neg (by simp[Qk3,h]),if_neg (by simp[h])]
  ·rw[if_pos (by simp[Qk3,h]),if_pos (by simp[h])];rfl
theorem ent_get {α:Type} (f:α→D) (s:ByteArray):∀l:List (ByteArray×α),D.Xz (.str s) (l.map fun p=>(D.str p.1,[f p.2]))=(lkA l s).map fun v=>[f v]
 |[]=>rfl
 |(k,v)::r=>by
  rw[List.map_cons,D.Xz,Qk3,lkA,ent_get f s r];by_cases h:k=s
  ·rw[if_pos (by simp[h]),if_pos h];rfl
  ·rw[if_neg (by simp[h]),if_neg h]
theorem Q5 (l:List (ByteArray×Int)) (s:ByteArray) (v:Int):D.Fz (.str s) [.int v] (Qw l)=Qw (Xj l s v):=by
 unfold D.Fz Qw Xj;rw[ent_del D.int,List.map_cons];rfl
theorem Q7 (l:List (ByteArray×Int)) (s:ByteArray):D.Sj (.str s) (Qw l)=Qw (M4 l s):=ent_del D.int s l
theorem X4 (l:List (ByteArray×Int)) (s:ByteArray):D.Xz (.str s) (Qw l)=(lkA l s).map fun v=>[.int v]:=ent_get D.int s l
theorem entS_put (l:List (ByteArray×ByteArray)) (s v:ByteArray):D.Fz (.str s) [.str v] (Xx l)=Xx (Xj l s v):=by
 unfold D.Fz Xx Xj;rw[ent_del D.str,List.map_cons];rfl
theorem Sz (l:List (ByteArray×ByteArray)) (s:ByteArray):D.Xz (.str s) (Xx l)=(lkA l s).map fun v=>[.str v]:=ent_get D.str s l
theorem ent_ents {α:Type} (f:α→D) {l:List (ByteArray×α)} (h:KN l):Iq (l.map fun p=>(D.str p.1,[f p.2])):=by
 refine⟨fun p hp=>?_,?_⟩
 ·obtain⟨q,hq,rfl⟩:=List.mem_map.1 hp;exact⟨_,_,rfl⟩
 ·rw[List.pairwise_map];unfold KN List.Nodup at h;rw[List.pairwise_map]at h;exact h.imp fun {a b} hab=>by rw[Qk3];simpa using hab
theorem entI_ents {l:List (ByteArray×Int)} (h:KN l):Iq (Qw l):=ent_ents D.int h
theorem entS_ents {l:List (ByteArray×ByteArray)} (h:KN l):Iq (Xx l):=ent_ents D.str h
theorem bset_new {ents:List (D×List D)} {bents:List (Nat×D×List D)} {clock:Nat} {k:D} {z r:List D} (hp:(bents.map (·.2)).Perm ents) (hc:∀p∈bents,p.1<clock) (hk:bents.find? (fun p=>D.keq p.2.1 k)=none):
  ((Qx5 clock r (bents++[(clock,k,z)])).map (·.2)).Perm (D.Fz k r ents):=by
 have e1:Qx5 clock r (bents++[(clock,k,z)])=bents++[(clock,k,r)]:=by
  unfold Qx5;rw[List.map_append];congr 1
  ·conv=>rhs;rw[←List.map_id bents]
   refine List.map_congr_left fun p hm=>?_
   have:=hc p hm;rw[if_neg (by omega)];rfl
  ·simp
 rw[e1,List.map_append];have e2:D.Sj k ents=ents:=by
  unfold D.Sj;refine List.filter_eq_self.2 fun p hm=>?_
  obtain⟨q,hq,rfl⟩:=List.mem_map.1 (hp.mem_iff.2 hm);have:=List.find?_eq_none.1 hk q hq;simpa using this
 unfold D.Fz;rw[e2];exact List.perm_append_comm.trans (List.Perm.cons _ hp)
theorem bset_old {ents:List (D×List D)} {bents:List (Nat×D×List D)} {k:D} {r:List D} {p:Nat×D×List D} (hp:(bents.map (·.2)).Perm ents) (hn:(bents.map (·.1)).Nodup) (hd:ents.Pairwise fun p q=>D.keq p.1 q.1=false) (hk:bents.find? (fun p=>D.keq p.2.1 k)=some p):
  ((Qx5 p.1 r bents).map (·.2)).Perm (D.Fz k r ents):=by
 have hm:=List.mem_of_find?_eq_some hk;have hpk:p.2.1=k:=keq_eq (by simpa using List.find?_some hk);obtain⟨a,b,hab⟩:=List.append_of_mem hm;subst hab;rw[List.map_append,List.map_cons]at hn;have hna:=List.nodup_append.1 hn;have hnb:=List.nodup_cons.1 hna.2.1;have hid:∀l:List (Nat×D×List D),(∀q∈l,q.1≠p.1)→Qx5 p.1 r l=l:=fun l hl=>by
  unfold Qx5;conv=>rhs;rw[←List.map_id l]
  refine List.map_congr_left fun q hq=>?_
  have:=hl q hq;rw[if_neg (by omega)];rfl
 have e1:Qx5 p.1 r (a++p::b)=a++(p.1,p.2.1,r)::b:=by
  have h1:Qx5 p.1 r (a++p::b)=Qx5 p.1 r a++((p.1,p.2.1,r)::Qx5 p.1 r b):=by
   unfold Qx5;rw[List.map_append,List.map_cons];simp
  rw[h1,hid a (fun q hq e=>hna.2.2 q.1 (List.mem_map.2 ⟨q,hq,rfl⟩) p.1 (List.mem_cons_self ..) e),hid b (fun q hq e=>hnb.1 (by rw[←e];exact List.mem_map.2 ⟨q,hq,rfl⟩))]
 rw[e1];have hd2:((a++p::b).map (·.2)).Pairwise fun p q=>D.keq p.1 q.1=false:=(hp.symm.pairwise_iff fun {a b} hab=>by rw[D.Tk];exact hab).1 hd
 rw[List.map_append,List.map_cons,List.pairwise_append]at hd2;have hdb:=List.pairwise_cons.1 hd2.2.1;have hkk:D.keq p.2.1 k=true:=by simpa using List.find?_some hk
 have e2:D.Sj k ((a++p::b).map (·.2))=a.map (·.2)++b.map (·.2):=by
  unfold D.Sj;rw[List.map_append,List.map_cons,List.filter_append,List.filter_cons,if_neg (by simp[hkk])];congr 1
  ·refine List.filter_eq_self.2 fun q hq=>?_
   have:=hd2.2.2 q hq _ (List.mem_cons_self ..);rw[hpk]at this;simp[this]
  ·refine List.filter_eq_self.2 fun q hq=>?_
   have:=hdb.1 q hq;rw[hpk,D.Tk]at this;simp[this]
 have e3:(D.Sj k ((a++p::b).map (·.2))).Perm (D.Sj k ents):=by unfold D.Sj;exact hp.filter _
 rw[e2]at e3;unfold D.Fz;rw[List.map_append,List.map_cons];dsimp only;rw[hpk];exact List.perm_middle.trans (List.Perm.cons _ e3)
theorem cs_clone {k b5:Nat} (hent:∃fn,Tryz.prog.funcs[k]? =some fn∧(fn.name== "runtime.NumGoroutine")=false∧fn.body.isNone=false)
  (hc:∀(b:Nat) (es:Array MapEntry) (clock:Nat) (w:World),w.heap[b]? =some (.map es clock)→Calls Tryz.prog k #[.map (some b)] w fun e w'=>e= .returned (.map (some w.heap.size))∧w'=w.alloc (.map es clock)) (ks ag:Bool) (n:Nat) (ents:List (D×List D)):
  Qv Tryz.prog k [.mp 1000] [(1000,.map ks ag n ents),(500,.arr 0 1 [])] (.mp 500) [(1000,.map ks ag n ents),(500,.map ks ag n ents)]:=by
 refine⟨hent,fun w ok g vals hM hl hv=>?_⟩;match vals,hl with
 |⟨[v]⟩,_=>
 have hx:Xq [(1000,Qz.map ks ag n ents),(500,.arr 0 1 [])] 1000=some (.map ks ag n ents):=rfl;obtain⟨b,hb,rfl⟩:=(hv 0 _ v rfl rfl).Qj9 hx;obtain⟨b',es,clock,hb',hw,hR⟩:=hM.obj 1000 _ hx;rw[hb]at hb';obtain rfl:=Option.some.inj hb';refine(hc b es clock w hw).mono ?_;rintro e w' ⟨rfl,rfl⟩
 let g':Gh:=⟨fun i=>if i==500 then some w.heap.size else g.bl i,fun i=>if i==500 then 0 else g.cp i⟩
 have hown:=hM.own 1000 _ b hx hb;have hal:∀c,c<w.heap.size→(w.alloc (.map es clock)).heap[c]? =w.heap[c]?:=fun c hc=>Below.heap_alloc w _ c hc
 have hcell:∀p:Addr,ok p.block→(w.alloc (.map es clock)).cell? p=w.cell? p:=fun p hp=>World.J6 (hal _ (hM.okb _ hp).1)
 have hget:∀i y,Xq [(1000,Qz.map ks ag n ents),(500,.map ks ag n ents)] i=some y→(i=1000∨i=500)∧y= .map ks ag n ents:=fun i y hy=>by
  simp only[Xq]at hy;split at hy
  ·rename_i h;exact⟨.inl (by simpa using h:1000=i).symm,by simpa using hy.symm⟩
  ·split at hy
   ·rename_i h;exact⟨.inr (by simpa using h:500=i).symm,by simpa using hy.symm⟩
   ·cases hy
 refine⟨_,ok,g',rfl,⟨fun i y hy=>?_,fun i j xi xj c hi hj hbi hbj=>?_,fun i y c hy hbi=>?_,fun c hc=>?_,fun c hc=>hc,by simp,fun c hc _=>hal c hc,fun i hi=>?_,rfl,rfl,rfl,hM.gi,hM.gb⟩,?_⟩
 ·obtain⟨hi2,rfl⟩:=hget i y hy;rcases hi2 with rfl|rfl
  ·exact⟨b,es,clock,by simpa[g']using hb,(hal b hown.2.1).trans hw,hR.keep hcell fun _ h=>h⟩
  ·exact⟨w.heap.size,es,clock,by simp[g'],(MapKept.heap_alloc w _).1,hR.keep hcell fun _ h=>h⟩
 ·have hi2:=(hget i xi hi).1;have hj2:=(hget j xj hj).1;have:=hown.2.1;rcases hi2 with rfl|rfl<;> rcases hj2 with rfl|rfl
  ·rfl
  ·simp[g',hb]at hbi hbj;omega
  ·simp[g',hb]at hbi hbj;omega
  ·rfl
 ·obtain⟨hi2,rfl⟩:=hget i y hy;rcases hi2 with rfl|rfl
  ·have hbc:b=c:=by simpa[g',hb]using hbi
   subst hbc;exact⟨hown.1,by simp;omega,hown.2.2⟩
  ·have hbc:w.heap.size=c:=by simpa[g']using hbi
   subst hbc;exact⟨fun h=>by have:=(hM.okb _ h).1;omega,by simp,.inl (Nat.le_refl _)⟩
 ·have:=hM.okb c hc;exact⟨by simp;omega,.inl hc⟩
 ·have hi':(i==500)=false:=by
   rcases h:i==500
   ·rfl
   ·have:i=500:=by simpa using h
    subst this;cases hi
  simp[g',hi']
 ·exact .mp _ _ rfl fun x hx=>⟨w.heap.size,by simp[g'],rfl⟩
theorem cs_CloneS (ents:List (D×List D)):Qv Tryz.prog 105 [.mp 1000] [(1000,.map true false 1 ents),(500,.arr 0 1 [])] (.mp 500) [(1000,.map true false 1 ents),(500,.map true false 1 ents)]:=
 cs_clone (b5:=0) ⟨_,Tryz.func105,rfl,rfl⟩ (fun b es clock w hb=>AnyW.maps_Clone Tryz.cloneSS b es clock w hb) true false 1 ents
theorem cs_CloneI (ents:List (D×List D)):Qv Tryz.prog 133 [.mp 1000] [(1000,.map true false 1 ents),(500,.arr 0 1 [])] (.mp 500) [(1000,.map true false 1 ents),(500,.map true false 1 ents)]:=
 cs_clone (b5:=0) ⟨_,Tryz.func133,rfl,rfl⟩ (fun b es clock w hb=>AnyW.maps_Clone Tryz.cloneSI b es clock w hb) true false 1 ents
def unB (b:ByteArray):List UInt8:=b.data.toList
def reB (l:List UInt8):ByteArray:=⟨l.toArray⟩
theorem reB_unB (b:ByteArray):reB (unB b)=b:=rfl
theorem unB_reB (l:List UInt8):unB (reB l)=l:=rfl
def srtB (l:List ByteArray):List ByteArray:=((l.map unB).mergeSort fun x y=>decide (x≤y)).map reB
theorem Qz1 (l:List ByteArray):(srtB l).Perm l:=by
 unfold srtB;refine((List.mergeSort_perm (l.map unB) _).map reB).trans ?_;rw[List.map_map];have:(reB ∘ unB)=id:=funext reB_unB;rw[this,List.map_id]
theorem srtB_len (l:List ByteArray):(srtB l).length=l.length:=(Qz1 l).length_eq
theorem srtB_sorted (l:List ByteArray):(srtB l).Pairwise fun a b=>unB a≤unB b:=by
 unfold srtB;rw[List.pairwise_map];have h:=List.pairwise_mergeSort (le:=fun x y:List UInt8=>decide (x≤y)) (fun a b c h1 h2=>by simp only[decide_eq_true_eq]at *;exact List.le_trans h1 h2) (fun a b=>by simp only[Bool.or_eq_true,decide_eq_true_eq];exact List.le_total a b) (l.map unB);exact h.imp fun {a b} hab=>by simpa[unB_reB]using hab
theorem encStr_un (b:ByteArray):encStr (unB b)= .string b:=rfl
theorem cs_row {k:Nat} (hent:∃fn,Tryz.prog.funcs[k]? =some fn∧(fn.name== "runtime.NumGoroutine")=false∧fn.body.isNone=false) (l m:List ByteArray) (hl:l.length≤8796093022208) (hlen:m.length=l.length) (hmem:∀s∈m,s∈l∨s= .empty)
  (r:AV) (rv:Nat→Nat→Value) (hres:∀w ok g b,g.bl 1000=some b→VR w ok g (Xq [(1000,.arr 9 1 (m.map Z0))]) r (rv b (g.cp 1000)))
  (hnone:l.length=0→∀(w:World) (a:Option Addr) (c:Nat),Calls Tryz.prog k #[.slice a 0 c] w fun e w'=>w'=w∧∃v,e= .returned v∧((r= .tuple []∧v= .tuple #[])∨(r= .arr 1000 0 0∧v= .slice a 0 c)))
  (hcall:0<l.length→∀(w:World) (b cap:Nat),Holds encStr w b 0 (l.map unB).toArray→b<w.heap.size→l.length≤cap→Calls Tryz.prog k #[.slice (some ⟨b,0,none⟩) l.length cap] w fun e w'=>e= .returned (rv b cap)∧∃n os,w'=grow (putRow encStr (Sort.ahead w n) b 0 (m.map unB).toArray) os):
  Qv Tryz.prog k [.arr 1000 0 l.length] [(1000,.arr 9 1 (l.map Z0))] r [(1000,.arr 9 1 (m.map Z0))]:=by
 refine⟨hent,fun w ok g vals hM hlen' hv=>?_⟩;match vals,hlen' with
 |⟨[v]⟩,_=>
 have hx:Xq [(1000,Qz.arr 9 1 (l.map Z0))] 1000=some (.arr 9 1 (l.map Z0)):=rfl;have hO:=hM.obj 1000 _ hx;have hva0:=hv 0 _ v rfl rfl;have hva:=(hva0.Qv4 hx).2;by_cases h0:l.length=0
 ·obtain rfl:=List.eq_nil_of_length_eq_zero h0;obtain rfl:=List.eq_nil_of_length_eq_zero hlen;have hvs:∃a c,v= .slice a 0 c:=by
   rcases hva with⟨_,h1,_,_⟩|⟨b,_,h1⟩|⟨h1,_⟩
   ·exact⟨none,0,h1⟩
   ·exact⟨_,_,h1⟩
   ·omega
  obtain⟨a,c,rfl⟩:=hvs;refine(hnone h0 w a c).mono ?_;rintro e w' ⟨rfl,u,rfl,hu⟩;refine⟨_,ok,g,rfl,hM,?_⟩;rcases hu with⟨rfl,rfl⟩|⟨rfl,rfl⟩
  ·exact .tuple _ _ rfl (by simp)
  ·exact hva0
 ·obtain⟨hsz,hrl,hO⟩:=hO;rcases hO with⟨_,h1⟩|⟨b,cur,hb,hw,hcp,hcm,hcs,hcell⟩
  ·simp at h1;exact absurd (by rw[h1];rfl) h0
  obtain⟨b',hb',hvv⟩:∃b,g.bl 1000=some b∧v= .slice (some ⟨b,0,none⟩) l.length (g.cp 1000):=by
   rcases hva with⟨h1,_,_,_⟩|⟨b,h1,h2⟩|⟨h1,_⟩
   ·rw[hb]at h1;cases h1
   ·exact⟨b,h1,by simpa using h2⟩
   ·omega
  rw[hb]at hb';obtain rfl:=Option.some.inj hb';subst hvv;have hown:=hM.own 1000 _ b hx hb;simp only[List.length_map]at hcp;have hcur:∀i,(h:i<l.length)→cur[i]? =some (.string l[i])∧l[i].size≤maxLen:=fun i h=>by
   have hi:i<cur.size:=by omega
   have:=hcell i 0 (Z0 l[i]) (.str l[i]) cur[i] (by simp[h]) rfl (by simp);obtain⟨h1,h2⟩:=this.R9;exact⟨by rw[Array.getElem?_eq_getElem hi,h1],h2⟩
  have hH:Holds encStr w b 0 (l.map unB).toArray:=fun j hj=>by
   have hj':j<l.length:=by simpa using hj
   refine⟨?_,?_⟩
   ·rw[cell_of_row w b _ cur _ (0,0) hw];rw[Nat.zero_add,(hcur j hj').1];simp[hj',encStr_un]
   ·simp[World.frozen?,hw]
  refine(hcall (by omega) w b (g.cp 1000) hH hown.2.1 hcp).mono ?_;rintro e w' ⟨rfl,n,os,hw'⟩;have hlen2:(m.map unB).length=l.length:=by rw[List.length_map,hlen]
  have hgr:w.grownBy w' (some b):=by rw[hw'];exact grownBy_sorted _
  have hbb:w'.heap[b]? =some (.cells (putCells encStr 0 (m.map unB).toArray cur) 9 (0,0)):=by rw[hw'];exact heap_sorted _ hw
  have htk:=take_putCells cur (m.map unB) (by rw[hlen2];omega);have hsz2:(putCells encStr 0 (m.map unB).toArray cur).size=cur.size:=by simp[putCells]
  generalize putCells encStr 0 (m.map unB).toArray cur=cur' at hbb htk hsz2;clear hw';have hhp:∀c,c<w.heap.size→c≠b→w'.heap[c]? =w.heap[c]?:=fun c hc hne=>hgr.block c hc fun e=>hne (Option.some.inj e)
  have hget:∀i y,Xq [(1000,Qz.arr 9 1 (m.map Z0))] i=some y→i=1000∧y= .arr 9 1 (m.map Z0):=fun i y hy=>by
   simp only[Xq]at hy;split at hy
   ·rename_i h;exact⟨(by simpa using h:1000=i).symm,by simpa using hy.symm⟩
   ·cases hy
  refine⟨_,ok,g,rfl,⟨fun i y hy=>?_,fun i j xi xj c hi hj _ _=>?_,fun i y c hy hbi=>?_,fun c hc=>?_,fun c hc=>hc,hgr.size,fun c hc hT=>?_,fun i _=>⟨rfl,rfl⟩,hgr.os,hgr.tape,hgr.output,hM.gi,hM.gb⟩,hres _ _ _ _ hb⟩
  ·obtain⟨rfl,rfl⟩:=hget i y hy;refine⟨hsz,fun i r hr=>?_,.inr ⟨b,cur',hb,hbb,by rw[List.length_map,hlen];exact hcp,hcm,by rw[hsz2];exact hcs,fun i j r c v hr hc hv=>?_⟩⟩
   ·rw[List.getElem?_map]at hr;obtain⟨s,_,rfl⟩:=Option.map_eq_some_iff.1 hr;rfl
   ·rw[List.getElem?_map]at hr;obtain⟨s,hs,rfl⟩:=Option.map_eq_some_iff.1 hr;match j,hc with
    |0,hc=>
    obtain rfl:D.str s=c:=by simpa[Z0]using hc
    have hi:i<l.length:=by rw[←hlen];exact(List.getElem?_eq_some_iff.1 hs).1
    have e1:(cur'.toList.take (m.map unB).length)[i]? =some (.string s):=by
     rw[htk,List.getElem?_map,List.getElem?_map,hs];rfl
    rw[List.getElem?_take_of_lt (by rw[hlen2];exact hi),Array.getElem?_toList]at e1;rw[show i * 1+0=i by omega,e1]at hv;obtain rfl:=Option.some.inj hv;refine .str s ?_;rcases hmem s (List.mem_of_getElem? hs)with hm|rfl
    ·obtain⟨q,hq⟩:=List.mem_iff_getElem?.1 hm;obtain⟨hq1,hq2⟩:=List.getElem?_eq_some_iff.1 hq;rw[←hq2];exact(hcur q hq1).2
    ·exact Nat.zero_le _
  ·rw[(hget i xi hi).1,(hget j xj hj).1]
  ·obtain⟨rfl,rfl⟩:=hget i y hy;obtain rfl:b=c:=by rw[hb]at hbi;exact Option.some.inj hbi
   have:=hgr.size;exact⟨hown.1,by omega,hown.2.2⟩
  ·have:=hM.okb c hc;have:=hgr.size;exact⟨by omega,.inl hc⟩
  ·exact hhp c hc fun e=>hT ⟨1000,_,rfl,by rw[e];exact hb⟩
theorem cs_Sort (l:List ByteArray) (hl:l.length≤8796093022208):Qv Tryz.prog 129 [.arr 1000 0 l.length] [(1000,.arr 9 1 (l.map Z0))] (.tuple []) [(1000,.arr 9 1 ((srtB l).map Z0))]:=by
 refine cs_row ⟨_,Tryz.func129,rfl,rfl⟩ l (srtB l) hl (srtB_len l) (fun s hs=>.inl ((Qz1 l).mem_iff.1 hs)) (.tuple []) (fun _ _=>.tuple #[]) (fun _ _ _ _ _=>.tuple _ _ rfl (by simp)) (fun _ w a c=>?_) (fun _ w b cap hH hb hc=>?_)
 ·exact(Tryz.slices_Sort_string_none a c w).mono fun e w' h=>⟨h.2,_,h.1,.inl ⟨rfl,rfl⟩⟩
 ·have h:=Tryz.slices_Sort_string b 0 cap (l.map unB) w hH hb (by simp;omega);rw[List.length_map]at h;have hse:((l.map unB).mergeSort fun x y=>decide (x≤y))=(srtB l).map unB:=by
   unfold srtB;rw[List.map_map];have:(unB ∘ reB)=id:=funext unB_reB;rw[this,List.map_id]
  rw[hse]at h;exact h
def Qx3 (l:List ByteArray):List ByteArray:=(Lib.compact (l.map unB)).map reB
theorem cmpB_un (l:List ByteArray):(Qx3 l).map unB=Lib.compact (l.map unB):=by
 unfold Qx3;rw[List.map_map];have:(unB ∘ reB)=id:=funext unB_reB;rw[this,List.map_id]
theorem compact_mem {α:Type} [Inhabited α] [DecidableEq α] (d:Array α) (x:α):∀m,x∈Lib.compactUpTo d m↔∃j,j<m∧d[j]! =x
 |0=>by simp[Lib.compactUpTo]
 |m+1=>by
  rw[Lib.compactUpTo_succ,List.mem_append,compact_mem d x m];constructor
  ·rintro(⟨j,h1,h2⟩|h)
   ·exact⟨j,by omega,h2⟩
   ·split at h
    ·exact⟨m,by omega,(List.mem_singleton.1 h).symm⟩
    ·cases h
  ·rintro⟨j,h1,h2⟩;by_cases hj:j<m
   ·exact .inl ⟨j,hj,h2⟩
   ·obtain rfl:j=m:=by omega
    cases hk:Lib.keeps d j with
    |true=>exact .inr (by simp[h2])
    |false=>
     have h0:0<j:=by
      rcases Nat.eq_zero_or_pos j with rfl|h
      ·rw[Lib.keeps_lt_one d 0 (by omega)]at hk;cases hk
      ·exact h
     have he:d[j]! =d[j-1]!:=Decidable.byContradiction fun hne=>by rw[Lib.keeps_pos hne]at hk;cases hk
     exact .inl ⟨j-1,by omega,by rw[←he];exact h2⟩
theorem compact_nodup (d:Array (List UInt8)) (hs:∀i j,i≤j→j<d.size→d[i]!≤d[j]!):∀m,m≤d.size→(Lib.compactUpTo d m).Nodup
 |0,_=>by simp[Lib.compactUpTo]
 |m+1,h=>by
  rw[Lib.compactUpTo_succ,List.nodup_append];refine⟨compact_nodup d hs m (by omega),by split<;> simp,fun a ha b hb e=>?_⟩;subst e;split at hb
  ·rename_i hk;obtain⟨j,hj,hja⟩:=(compact_mem d a m).1 ha;have hma:a=d[m]!:=List.mem_singleton.1 hb;have h1:=hs j (m-1) (by omega) (by omega);have h2:=hs (m-1) m (by omega) (by omega);rw[hja]at h1;rw[←hma]at h2;have h3:d[m-1]! =a:=List.le_antisymm h2 h1;rw[Lib.keeps_neg (by omega) (by rw[h3,←hma])]at hk;cases hk
  ·cases hb
theorem cmpB_mem (l:List ByteArray) (s:ByteArray):s∈Qx3 l↔s∈l:=by
 have h1:s∈Qx3 l↔unB s∈Lib.compact (l.map unB):=by
  rw[←cmpB_un];constructor
  ·exact fun h=>List.mem_map.2 ⟨s,h,rfl⟩
  ·intro h;obtain⟨u,hu,he⟩:=List.mem_map.1 h;have:u=s:=by rw[←reB_unB u,he,reB_unB]
   rw[←this];exact hu
 rw[h1,Lib.compact,compact_mem];constructor
 ·rintro⟨j,hj,he⟩;have hj':j<l.length:=by simpa using hj
  have:unB l[j]=unB s:=by rw[←he];simp[hj']
  have:l[j]=s:=by rw[←reB_unB l[j],this,reB_unB]
  rw[←this];exact List.getElem_mem hj'
 ·intro h;obtain⟨j,hj,he⟩:=List.getElem_of_mem h;exact⟨j,by simpa using hj,by simp[hj,he]⟩
theorem cmpB_len (l:List ByteArray):(Qx3 l).length≤l.length:=by
 have:=Lib.compact_length_le (l.map unB);unfold Qx3;simpa using this
theorem cmpB_nodup {l:List ByteArray} (h:l.Pairwise fun a b=>unB a≤unB b):(Qx3 l).Nodup:=by
 have h2:((Qx3 l).map unB).Nodup:=by
  rw[cmpB_un];refine compact_nodup _ (fun i j hij hj=>?_) _ (by simp);have hj':j<l.length:=by simpa using hj
  rcases Nat.lt_or_ge i j with hlt|hge
  ·have:=List.pairwise_iff_getElem.1 h i j (by omega) hj' hlt;simpa[hj',show i<l.length by omega]using this
  ·obtain rfl:i=j:=by omega
   exact List.le_refl _
 exact h2.of_map unB fun _ _ h e=>h (by rw[e])
theorem cs_Compact (l:List ByteArray) (hl:l.length≤8796093022208):Qv Tryz.prog 130 [.arr 1000 0 l.length] [(1000,.arr 9 1 (l.map Z0))] (.arr 1000 0 (Qx3 l).length) [(1000,.arr 9 1 ((Qx3 l++List.replicate (l.length-(Qx3 l).length) ByteArray.empty).map Z0))]:=by
 have hcl:=cmpB_len l;refine cs_row ⟨_,Tryz.func130,rfl,rfl⟩ l _ hl (by simp;omega) (fun s hs=>?_) (.arr 1000 0 (Qx3 l).length) (fun b cap=>.slice (some ⟨b,0,none⟩) (Qx3 l).length cap) (fun w ok g b hb=>?_) (fun h0 w a c=>?_) (fun _ w b cap hH hb hc=>?_)
 ·rcases List.mem_append.1 hs with hs|hs
  ·exact .inl ((cmpB_mem l s).1 hs)
  ·exact .inr (List.eq_of_mem_replicate hs)
 ·refine .arr _ _ _ _ rfl fun e sz rows hx=>?_
  simp only[Xq,beq_self_eq_true,if_true,Option.some.injEq,Qz.arr.injEq]at hx;obtain⟨rfl,rfl,rfl⟩:=hx;exact⟨by simp,.inr (.inl ⟨b,hb,by simp⟩)⟩
 ·obtain rfl:=List.eq_nil_of_length_eq_zero h0;exact(Tryz.slices_Compact_string_empty a c w).mono fun e w' h=>⟨h.2,_,h.1,.inr ⟨rfl,rfl⟩⟩
 ·have h:=Tryz.slices_Compact_string b 0 cap (l.map unB) w hH (by simp;omega) (by simpa using hc);rw[List.length_map,←cmpB_un,List.length_map]at h;refine h.mono ?_;rintro e w' ⟨rfl,q,rfl⟩;refine⟨rfl,q,#[],?_⟩;rw[grow_empty,List.map_append,List.map_replicate];rfl
end Go.Proofs.YtjpldhjgehoffaaGreatDoor
namespace Go.Proofs.YtjpldhjgehoffaaGreatDoor
open Classical Go.RowKit
set_option linter.unusedVariables false
set_option linter.unusedSimpArgs false
theorem left_of {s:LS} (h:s.Ok) (hc:∀n,s.c n=0) (ht:s.tk=[]):s.left=false:=by
 unfold LS.left;rw[ht,Bool.or_eq_false_iff];refine⟨List.any_eq_false.2 fun p hp=>?_,rfl⟩;have h1:=mem_lk h.kc (s:=p.1) (v:=p.2) hp;have h2:=hc p.1;unfold LS.c at h2;rw[h1]at h2;simp at h2;simp[h2]
theorem use_of {s:LS} {n:ByteArray} (h:1≤s.c n):(s.Y6 n).1=0:=by
 unfold LS.Y6;unfold LS.c at h;cases hk:lkA s.ct n with
 |none=>rw[hk]at h;simp at h
 |some k=>
  rw[hk]at h;dsimp only;rw[if_neg (by simp at h;omega)]
theorem useL_of:∀(xs:List Tm) {s:LS},s.Ok→(∀x∈xs,x.tk=1)→(∀m,occ xs m≤s.c m)→(s.Uw xs).1=0
 |[],s,_,_,_=>rfl
 |x::r,s,hs,hx,hc=>by
  have h1:=hc x.nm;rw[occ_cons,if_pos rfl]at h1;have h0:0≤occ r x.nm:=by unfold occ;omega
  have hu:=use_of (s:=s) (n:=x.nm) (by omega);obtain⟨g1,g2,-⟩:=LS.Qj2 hs hu;rw[LS.Uw,if_neg (by simpa using hx x (by simp)),if_neg (by simpa using hu)];refine useL_of r g1 (fun y hy=>hx y (by simp[hy])) fun m=>?_
  have:=hc m;rw[occ_cons]at this;rw[g2];split at this<;> rename_i e
  ·rw[if_pos e];omega
  ·rw[if_neg e];omega
theorem lin8_of {n:Int} {a b:ByteArray} {vs:List ByteArray} {x:Tm} {cs:List Cs} {s:LS} (h:s.there a=true) (h2:x.lin (s.inc a)=0):(Tm.mk 8 n a b vs [x] cs).lin s=0:=by
 rw[Tm.lin,if_neg (by omega),if_neg (by omega),if_neg (by omega),if_neg (by omega),if_neg (by omega),if_neg (by omega),if_pos (by omega),if_neg (by simp),if_pos rfl,if_pos h];exact Vz h2
theorem lin9_of {n:Int} {a b:ByteArray} {vs:List ByteArray} {x:Tm} {cs:List Cs} {s:LS} (h:(s.Y6 a).1=0) (h2:x.lin (s.Y6 a).2=0):(Tm.mk 9 n a b vs [x] cs).lin s=0:=by
 rw[Tm.lin,if_neg (by omega),if_neg (by omega),if_neg (by omega),if_neg (by omega),if_neg (by omega),if_neg (by omega),if_pos (by omega),if_neg (by simp),if_neg (by omega),if_pos rfl,if_neg (by simpa using h)];exact Vz h2
theorem lin6_of {n:Int} {a b:ByteArray} {vs:List ByteArray} {x y:Tm} {cs:List Cs} {s:LS} (h:lkA s.ct a=none) (h2:x.lin (s.fst x)=0) (h3:y.lin { s.rst x with ct:=Xj (s.rst x).ct a 1 }=0):(Tm.mk 6 n a b vs [x,y] cs).lin s=0:=by
 rw[Tm.lin,if_neg (by omega),if_neg (by omega),if_neg (by omega),if_neg (by omega),if_pos rfl,if_neg (by simp),if_neg (by simp[h])];exact linL_two' h2 h3
theorem lin7_of {n:Int} {a b:ByteArray} {vs:List ByteArray} {x:Tm} {cs:List Cs} {s:LS} (h1:x.tk=1) (h:1≤s.c x.nm) (h2:∀c∈cs,c.lin s x.nm=0):(Tm.mk 7 n a b vs [x] cs).lin s=0:=by
 rw[Tm.lin,if_neg (by omega),if_neg (by omega),if_neg (by omega),if_neg (by omega),if_neg (by omega),if_pos rfl,if_neg (by simp[hdT0,h1]),if_neg (show¬s.c (hdT0 [x]).nm<1 from fun hh=>by have hh:s.c x.nm<1:=hh;omega)];exact clinL_all h2
theorem cnt9_lin:∀(l:List ByteArray) (t:Tm) {s:LS},s.Ok→l.Nodup→(∀n∈l,1≤s.c n)→∃s':LS,s'.Ok∧(∀m,s'.c m=if m∈l then s.c m-1 else s.c m)∧s'.tk=s.tk∧s'.inn=s.inn∧(∀m,(lkA s'.ct m).isSome=(lkA s.ct m).isSome)∧(t.lin s'=0→(cnt 9 l t).lin s=0)
 |[],t,s,hs,_,_=>⟨s,hs,fun m=>by simp,rfl,rfl,fun m=>rfl,fun h=>h⟩
 |a::r,t,s,hs,hn,hc=>by
  rw[List.nodup_cons]at hn;have hu:=use_of (hc a (by simp));obtain⟨g1,g2,g3,g4,g5,-⟩:=LS.Qj2 hs hu;obtain⟨s',k1,k2,k3,k4,k5,k6⟩:=cnt9_lin r t g1 hn.2 fun n hm=>by
   rw[g2,if_neg (fun e=>hn.1 (by rw[e];exact hm))];exact hc n (by simp[hm])
  refine⟨s',k1,fun m=>?_,k3.trans g3,k4.trans g4,fun m=>(k5 m).trans (g5 m),fun h=>?_⟩
  ·rw[k2,g2];by_cases e:a=m
   ·subst e;rw[if_neg hn.1,if_pos rfl,if_pos (by simp)]
   ·rw[if_neg e];by_cases hm:m∈r
    ·rw[if_pos hm,if_pos (by simp[hm])]
    ·rw[if_neg hm,if_neg (by simp[hm];exact fun h=>e h.symm)]
  ·rw[cnt];exact lin9_of hu (k6 h)
theorem there_inc {s:LS} (hs:s.Ok) {n:ByteArray} (a:ByteArray) (h:s.there n=true):(s.inc a).there n=true:=by
 have hm:∀m,s.c m≤(s.inc a).c m:=fun m=>by
  rw[(LS.inc_ok hs a).2];split<;> omega
 unfold LS.there at h⊢;have hi:(s.inc a).inn=s.inn:=rfl;rw[hi];rw[Bool.or_eq_true]at h⊢;rcases h with h|h
 ·left;have:=of_decide_eq_true h;have:=hm n;exact decide_eq_true (by omega)
 ·right;cases hk:lkA s.inn n with
  |none=>rw[hk]at h;simp at h
  |some up=>
   rw[hk]at h;dsimp only at h⊢;have:=of_decide_eq_true h;have:=hm up;exact decide_eq_true (by omega)
theorem cnt8_lin:∀(l:List ByteArray) (t:Tm) {s:LS},s.Ok→(∀n∈l,s.there n=true)→∃s':LS,s'.Ok∧(∀m,s'.c m=s.c m+occB l m)∧s'.tk=s.tk∧s'.inn=s.inn∧(∀m,(lkA s'.ct m).isSome=((lkA s.ct m).isSome||decide (m∈l)))∧(t.lin s'=0→(cnt 8 l t).lin s=0)
 |[],t,s,hs,_=>⟨s,hs,fun m=>by simp[occB],rfl,rfl,fun m=>by simp,fun h=>h⟩
 |a::r,t,s,hs,hc=>by
  obtain⟨g1,g2⟩:=LS.inc_ok hs a;obtain⟨s',k1,k2,k3,k4,k5,k6⟩:=cnt8_lin r t g1 fun n hm=>there_inc hs a (hc n (by simp[hm]))
  refine⟨s',k1,fun m=>?_,k3,k4,fun m=>?_,fun h=>?_⟩
  ·rw[k2,g2,Qz5];split<;> omega
  ·rw[k5];unfold LS.inc;dsimp only;rw[K5];by_cases e:a=m
   ·subst e;simp
   ·rw[if_neg e];have e':m≠a:=fun h=>e h.symm
    simp[e']
  ·rw[cnt];exact lin8_of (hc a (by simp)) (k6 h)
theorem F7 {l:List ByteArray} (h:l.Nodup) (n:ByteArray):occB l n=if n∈l then 1 else 0:=by
 induction l with
 |nil=>simp[occB]
 |cons a r ih=>
  rw[List.nodup_cons]at h;rw[Qz5,ih h.2];by_cases e:a=n
  ·subst e;rw[if_pos rfl,if_neg h.1,if_pos (by simp)];rfl
  ·rw[if_neg e];have e':n≠a:=fun h=>e h.symm
   simp[e']
theorem moreN_occ:∀(xs:List Tm) (had:List ByteArray) (n:ByteArray),occB (R3 had xs) n=occ xs n-if n ∉ had∧∃x∈xs,x.nm=n then 1 else 0
 |[],had,n=>by simp[R3,occB,occ]
 |x::r,had,n=>by
  have ih:=moreN_occ r (had++[x.nm]) n;rw[R3,occ_cons];by_cases hb:hasB had x.nm=true
  ·have hm:=X3.1 hb;rw[if_pos hb,Qz5,ih];by_cases e:x.nm=n
   ·subst e;rw[if_pos rfl,if_neg (fun h=>h.1 (by simp)),if_neg (fun h=>h.1 hm)];omega
   ·rw[if_neg e];have e1:(n ∉ had++[x.nm]∧∃y∈r,y.nm=n)↔(n ∉ had∧∃y∈x::r,y.nm=n):=by
     have e':n≠x.nm:=fun h=>e h.symm
     simp[e,e']
    by_cases h:n ∉ had++[x.nm]∧∃y∈r,y.nm=n
    ·rw[if_pos h,if_pos (e1.1 h)];omega
    ·rw[if_neg h,if_neg (fun hh=>h (e1.2 hh))];omega
  ·rw[if_neg hb,ih];have hm:x.nm ∉ had:=fun h=>hb (X3.2 h)
   by_cases e:x.nm=n
   ·subst e;rw[if_pos rfl,if_neg (fun h=>h.1 (by simp)),if_pos ⟨hm,x,by simp,rfl⟩];omega
   ·rw[if_neg e];have e1:(n ∉ had++[x.nm]∧∃y∈r,y.nm=n)↔(n ∉ had∧∃y∈x::r,y.nm=n):=by
     have e':n≠x.nm:=fun h=>e h.symm
     simp[e,e']
    by_cases h:n ∉ had++[x.nm]∧∃y∈r,y.nm=n
    ·rw[if_pos h,if_pos (e1.1 h)];omega
    ·rw[if_neg h,if_neg (fun hh=>h (e1.2 hh))];omega
theorem occ_zero {xs:List Tm} {n:ByteArray} (h:¬∃x∈xs,x.nm=n):occ xs n=0:=by
 unfold occ;rw[List.filter_eq_nil_iff.2 fun x hx=>by simp;exact fun e=>h ⟨x,hx,e⟩];rfl
theorem newL_of (nm:ByteArray):∀(ws:List ByteArray) {s:LS},ws.Nodup→(∀v∈ws,lkA s.ct v=none)→(s.G8 nm ws).1=0∧(∀m,(lkA (s.G8 nm ws).2.ct m).isSome=((lkA s.ct m).isSome||decide (m∈ws)))∧(∀m,lkA (s.G8 nm ws).2.inn m=if m∈ws then some nm else lkA s.inn m)
 |[],s,_,_=>⟨rfl,fun m=>by simp[LS.G8],fun m=>by simp[LS.G8]⟩
 |v::r,s,hn,hk=>by
  rw[List.nodup_cons]at hn;rw[LS.G8,if_neg (by rw[hk v (by simp)];simp)];obtain⟨k1,k2,k3⟩:=newL_of nm r (s:={ s with ct:=Xj s.ct v 0,inn:=Xj s.inn v nm }) hn.2 fun u hu=>by
   dsimp only;rw[K5,if_neg (fun e=>hn.1 (by rw[e];exact hu))];exact hk u (by simp[hu])
  refine⟨k1,fun m=>?_,fun m=>?_⟩
  ·rw[k2];dsimp only;rw[K5];by_cases e:v=m
   ·subst e;simp
   ·rw[if_neg e];have e':m≠v:=fun h=>e h.symm
    simp[e']
  ·rw[k3];dsimp only;rw[K5];by_cases hm:m∈r
   ·rw[if_pos hm,if_pos (by simp[hm])]
   ·rw[if_neg hm];by_cases e:v=m
    ·subst e;rw[if_pos rfl,if_pos (by simp)]
    ·rw[if_neg e,if_neg (by simp[hm];exact fun h=>e h.symm)]
theorem known_of {s:LS} {n:ByteArray} (h:s.c n≠0):(lkA s.ct n).isSome=true:=by
 unfold LS.c at h;cases hk:lkA s.ct n with
 |none=>rw[hk]at h;simp at h
 |some k=>rfl
theorem ow_lin:∀(d:Nat) (t:Tm) (has:List ByteArray) (s:LS),t.Rt d→t.isP=true→t.bd.Nodup→(∀n∈t.bd,lkA s.ct n=none)→has.Nodup→(∀n∈t.free,n∈has)→s.Ok→(∀n,s.c n=if n∈has then 1 else 0)→s.tk=[]→(t.ow has).lin s=0:=by
 intro d;induction d with
 |zero=>intro t _ _ h;exact h.elim
 |succ d ih=>
  intro t has s hR hP hbd hun hhn hfree hs hc htk;obtain⟨k,n0,a,b,vs,xs,cs⟩:=t
  -- drops
  have hgn:(woN has (Tm.mk k n0 a b vs xs cs).free).Nodup:=hhn.sublist List.filter_sublist;obtain⟨s1,o1,c1,t1,i1,k1,step⟩:=cnt9_lin (woN has (Tm.mk k n0 a b vs xs cs).free) (if k=3∨k=4∨k=5 then cnt 8 (R3 [] xs) (.mk k n0 a b vs xs cs)
   else if k=6 then cnt 8 (letD a (inN has (Tm.mk k n0 a b vs xs cs).free) xs) (.mk 6 0 a .empty [] (Tm.owZ xs (letH a (inN has (Tm.mk k n0 a b vs xs cs).free) xs)) [])
   else if k=7 then .mk 7 0 .empty .empty [] xs (Cs.owL cs (inN has (Tm.mk k n0 a b vs xs cs).free) (nmH xs))
   else .mk k n0 a b vs xs cs) hs hgn fun n hn=>by
   rw[hc,if_pos (Xw.1 hn).1];omega
  have hc1:∀m,s1.c m=if m∈(Tm.mk k n0 a b vs xs cs).free then 1 else 0:=fun m=>by
   rw[c1,hc];by_cases hf:m∈(Tm.mk k n0 a b vs xs cs).free
   ·rw[if_neg (fun h=>(Xw.1 h).2 hf),if_pos (hfree m hf),if_pos hf]
   ·rw[if_neg hf];by_cases hh:m∈has
    ·rw[if_pos (Xw.2 ⟨hh,hf⟩),if_pos hh];rfl
    ·rw[if_neg (fun h=>hh (Xw.1 h).1),if_neg hh]
  have hun1:∀n∈(Tm.mk k n0 a b vs xs cs).bd,lkA s1.ct n=none:=fun n hn=>by
   have:=k1 n;rw[hun n hn]at this;simpa using this
  have htk1:s1.tk=[]:=t1.trans htk;have hR':=hR;obtain⟨hk,-,-,hx,hcR⟩:=hR;have hP':=hP;rw[Tm.isP,Bool.and_eq_true]at hP;obtain⟨hP1,hP2⟩:=hP;rw[Tm.ow];refine step ?_;clear step;by_cases h6:k=6
  ·subst h6;obtain⟨x,y,rfl,rfl,hxR,hyR⟩:=rt_two hR';have hPx:=Qk6 hP1 x (by simp);have hPy:=Qk6 hP1 y (by simp);have hbd':(Tm.mk 6 n0 a b vs [x,y] []).bd=a::(x.bd++y.bd):=by rw[Tm.bd];simp[Tm.bdL,Cs.bdL]
   have hfr:∀n,n∈(Tm.mk 6 n0 a b vs [x,y] []).free↔n∈x.free∨(n∈y.free∧n≠a):=fun n=>by
    rw[Tm.free,if_neg (by omega),if_pos ⟨rfl,rfl⟩,Tm.freeL,Tm.freeB,Tj,Tj,Xw];simp
   rw[hbd']at hbd hun1;rw[List.nodup_cons,List.nodup_append]at hbd;obtain⟨hna,hbx,hby,hbxy⟩:=hbd;rw[if_neg (by omega),if_pos rfl];generalize hF:(Tm.mk 6 n0 a b vs [x,y] []).free=F at *;obtain⟨O,hO⟩:∃O,O=inN has F:=⟨_,rfl⟩
   rw[←hO];have hOm:∀n,n∈O↔n∈F:=fun n=>by
    rw[hO,V8];exact⟨fun h=>h.2,fun h=>⟨hfree n h,h⟩⟩
   have hOn:O.Nodup:=by rw[hO];exact hhn.sublist List.filter_sublist
   rw[letD,letH,Tm.owZ,Tm.owZ,Tm.owZ];simp only[List.headD_cons,List.tail_cons];obtain⟨A,hA⟩:∃A,A=inN O x.free:=⟨_,rfl⟩
   obtain⟨B,hB⟩:∃B,B=inN O (woN y.free [a]):=⟨_,rfl⟩
   obtain⟨D,hD⟩:∃D,D=inN A (woN y.free [a]):=⟨_,rfl⟩
   rw[←hA,←hB,←hD];have hAm:∀n,n∈A↔n∈x.free:=fun n=>by
    rw[hA,V8,hOm,hfr];exact⟨fun h=>h.2,fun h=>⟨.inl h,h⟩⟩
   have hBm:∀n,n∈B↔n∈y.free∧n≠a:=fun n=>by
    rw[hB,V8,hOm,hfr,Xw];simp;exact fun h1 h2=>.inr ⟨h1,h2⟩
   have hDm:∀n,n∈D↔n∈A∧n∈B:=fun n=>by
    rw[hD,V8,hBm,Xw];simp
   have hAn:A.Nodup:=by rw[hA];exact hOn.sublist List.filter_sublist
   have hBn:B.Nodup:=by rw[hB];exact hOn.sublist List.filter_sublist
   have hDn:D.Nodup:=by rw[hD];exact hAn.sublist List.filter_sublist
   have hkn:∀n∈F,(lkA s1.ct n).isSome=true:=fun n hn=>known_of (by rw[hc1,if_pos hn];omega)
   obtain⟨s2,o2,c2,t2,i2,k2,step⟩:=cnt8_lin D (.mk 6 0 a .empty [] [x.ow A,y.ow (B++[a])] []) o1 fun n hn=>by
    have:n∈F:=by rw[hDm,hAm]at hn;exact(hfr n).2 (.inl hn.1)
    unfold LS.there;rw[hc1,if_pos this];rfl
   refine step ?_;clear step;have hun2:∀n,n∈a::(x.bd++y.bd)→lkA s2.ct n=none:=fun n hn=>by
    have h1:=k2 n;have h2:=hun1 n hn;rw[h2]at h1;have h3:n ∉ D:=fun h=>by
     rw[hDm,hAm]at h;have:=hkn n ((hfr n).2 (.inl h.1));rw[h2]at this;simp at this
    simpa[h3]using h1
   have hc2:∀m,s2.c m=(if m∈F then 1 else 0)+if m∈D then 1 else 0:=fun m=>by rw[c2,hc1,F7 hDn]
   obtain⟨x1,x2,x3,x4,x5,x6,x7⟩:=st_all d x A hxR hPx;have hask:∀n,lkA s2.ct n≠none→((x.ow A).I8 n=true↔n∈A):=fun n hk=>by
    unfold Tm.I8;rw[Bool.and_eq_true,X3,x3];have hnb:n ∉ x.bd:=fun h=>hk (hun2 n (by simp[h]))
    refine⟨fun⟨h1,_⟩=>?_,fun h=>⟨x1 n (x4 n ((hAm n).1 h)),by rw[H7.2 hnb];rfl⟩⟩;rcases x2 n h1 with h|h|h
    ·rcases x5 n h with h|h
     ·exact(hAm n).2 h
     ·exact absurd h hnb
    ·exact h
    ·exact absurd h hnb
   have hcn:∀n,lkA s2.ct n=none→s2.c n=0:=fun n h=>by unfold LS.c;rw[h];rfl
   have hAF:∀n∈A,n∈F:=fun n h=>(hfr n).2 (.inl ((hAm n).1 h))
   refine lin6_of (hun2 a (by simp)) ?_ ?_
   ·refine ih x A _ hxR hPx hbx (fun n hn=>?_) hAn (fun n h=>(hAm n).2 h) (LS.fst_ok o2 _) (fun n=>?_) ?_
    ·unfold LS.fst;dsimp only;rw[Aj (fun _ k=>Mx k),Vq,hun2 n (by simp[hn])];split<;> rfl
    ·rw[LS.fst_c];by_cases hk:lkA s2.ct n=none
     ·have h0:=hcn n hk;rw[h0];have:n ∉ A:=fun h=>by
       have:=hc2 n;rw[h0,if_pos (hAF n h)]at this;split at this<;> omega
      rw[if_neg this];split<;> rfl
     ·by_cases h:n∈A
      ·rw[if_pos ((hask n hk).2 h),if_pos h,hc2,if_pos (hAF n h)];unfold Mx;split<;> split<;> omega
      ·rw[if_neg (fun hh=>h ((hask n hk).1 hh)),if_neg h]
    ·unfold LS.fst;dsimp only;rw[t2,htk1];rfl
   ·refine ih y (B++[a]) _ hyR hPy hby (fun n hn=>?_) ?_ (fun n h=>?_) (LS.put_ok (LS.rst_ok o2 _) a (by omega)) (fun n=>?_) ?_
    ·dsimp only;have hne:a≠n:=fun e=>hna (by subst e;simp[hn])
     rw[K5,if_neg hne];unfold LS.rst;dsimp only;rw[Aj (fun k v=>if (x.ow A).I8 k then v-Mx v else v),hun2 n (by simp[hn])];rfl
    ·rw[List.nodup_append];refine⟨hBn,by simp,fun u hu v hv=>?_⟩;simp only[List.mem_singleton]at hv;subst hv;exact((hBm u).1 hu).2
    ·by_cases e:n=a
     ·simp[e]
     ·simp only[List.mem_append];exact .inl ((hBm n).2 ⟨h,e⟩)
    ·rw[LS.c_put];by_cases e:a=n
     ·subst e;rw[if_pos rfl,if_pos (by simp)]
     ·rw[if_neg e,LS.rst_c];have e':n≠a:=fun h=>e h.symm
      have hmem:n∈B++[a]↔n∈B:=by simp[e']
      by_cases hk:lkA s2.ct n=none
      ·have h0:=hcn n hk;have h1:=hc2 n;rw[h0]at h1;have:n ∉ B:=fun h=>by
        have:n∈F:=(hfr n).2 (.inr ((hBm n).1 h));rw[if_pos this]at h1;split at h1<;> omega
       rw[if_neg (fun hh=>this (hmem.1 hh)),h0];split<;> rfl
      ·have h1:=hc2 n;by_cases hA':n∈A
       ·rw[if_pos ((hask n hk).2 hA'),h1,if_pos (hAF n hA')];by_cases hB':n∈B
        ·rw[if_pos ((hDm n).2 ⟨hA',hB'⟩),if_pos (hmem.2 hB')];rfl
        ·rw[if_neg (fun h=>hB' ((hDm n).1 h).2),if_neg (fun h=>hB' (hmem.1 h))];rfl
       ·rw[if_neg (fun h=>hA' ((hask n hk).1 h)),h1,if_neg (fun h=>hA' ((hDm n).1 h).1)];by_cases hB':n∈B
        ·rw[if_pos ((hfr n).2 (.inr ((hBm n).1 hB'))),if_pos (hmem.2 hB')];rfl
        ·have:n ∉ F:=fun h=>by
          rcases(hfr n).1 h with h|h
          ·exact hA' ((hAm n).2 h)
          ·exact hB' ((hBm n).2 h)
         rw[if_neg this,if_neg (fun h=>hB' (hmem.1 h))];rfl
    ·show(s2.rst (x.ow A)).tk=[]
     unfold LS.rst;dsimp only;rw[t2,htk1];rfl
  ·have hvar:=isL_var h6 hP1;have hfx:∀n,(∃x∈xs,n∈x.free)↔∃x∈xs,x.nm=n:=fun n=>by
    refine⟨fun⟨x,h1,h2⟩=>⟨x,h1,?_⟩,fun⟨x,h1,h2⟩=>⟨x,h1,?_⟩⟩
    ·rw[(rt_var (hx x h1) (hvar x h1)).2.1]at h2;exact(List.mem_singleton.1 h2).symm
    ·rw[(rt_var (hx x h1) (hvar x h1)).2.1];simp[h2]
   have hfr:∀n,n∈(Tm.mk k n0 a b vs xs cs).free↔(k=1∧n=a)∨(∃x∈xs,x.nm=n)∨∃c∈cs,n∈c.Ev:=fun n=>by
    rw[Tm.free];by_cases e:k=1
    ·subst e;rw[if_pos rfl,rt_none hR' (.inl rfl),rt_nocs hR' (by omega)];simp
    ·rw[if_neg e,if_neg (by omega),if_neg (by omega),Qk0,mem_frees,hfx];simp[e]
   by_cases h7:k=7
   ·subst h7;obtain⟨x0,rfl,hx0⟩:=rt_one hR';have hx1:=hvar x0 (by simp);rw[if_neg (by omega),if_neg (by omega),if_pos rfl,owL_eq];have hnm:nmH [x0]=x0.nm:=rfl;rw[hnm];generalize hF:(Tm.mk 7 n0 a b vs [x0] cs).free=F at *;obtain⟨O,hO⟩:∃O,O=inN has F:=⟨_,rfl⟩
    rw[←hO];have hOm:∀n,n∈O↔n∈F:=fun n=>by
     rw[hO,V8];exact⟨fun h=>h.2,fun h=>⟨hfree n h,h⟩⟩
    have hOn:O.Nodup:=by rw[hO];exact hhn.sublist List.filter_sublist
    have hnF:x0.nm∈F:=(hfr _).2 (.inr (.inl ⟨x0,by simp,rfl⟩));have hkn:∀n∈F,lkA s1.ct n≠none:=fun n hn h=>by
     have:=known_of (s:=s1) (n:=n) (by rw[hc1,if_pos hn];omega);rw[h]at this;simp at this
    have hbd':(Tm.mk 7 n0 a b vs [x0] cs).bd=Cs.bdL cs:=by
     rw[Tm.bd,if_neg (by omega),Tm.bdL,Tm.bdL,(rt_var hx0 hx1).2.2.1];simp
    rw[hbd']at hbd hun1;refine lin7_of hx1 (by rw[hc1,if_pos hnF];omega) fun c hcm=>?_
    obtain⟨c0,hc0,rfl⟩:=List.mem_map.1 hcm;obtain⟨tg,ws,y⟩:=c0;have hyR:y.Rt d:=(hcR _ hc0).2;have hyP:=cisL_all hP2 tg ws y hc0;have hb1:(ws++y.bd).Nodup:=by
     have:∀l:List Cs,(Cs.bdL l).Nodup→Cs.mk tg ws y∈l→(ws++y.bd).Nodup:=by
      intro l;induction l with
      |nil=>intro _ h;cases h
      |cons c r ih2=>
       intro h1 h2;rw[Cs.bdL,List.nodup_append]at h1;rcases List.mem_cons.1 h2 with e|h2
       ·subst e;exact h1.1
       ·exact ih2 h1.2.1 h2
     exact this cs hbd hc0
    have hb2:∀n∈ws++y.bd,lkA s1.ct n=none:=fun n hn=>hun1 n (cbdL_mem.2 ⟨_,hc0,by rw[Cs.bd];exact hn⟩)
    rw[List.nodup_append]at hb1;obtain⟨hwn,hyn,hwy⟩:=hb1;obtain⟨e0,kd,ki⟩:=newL_of x0.nm ws hwn fun v hv=>hb2 v (by simp[hv])
    obtain⟨q1,q2,q3⟩:=LS.newL_ok x0.nm ws o1 e0;rw[Cs.ow,Cs.lin,if_neg (by simpa using e0)];generalize s1.G8 x0.nm ws=S at e0 kd ki q1 q2 q3;obtain⟨U,hU⟩:∃U,U=inN ws y.free:=⟨_,rfl⟩
    rw[←hU];have hUm:∀n,n∈U↔n∈ws∧n∈y.free:=fun n=>by rw[hU,V8]
    have hUn:U.Nodup:=by rw[hU];exact hwn.sublist List.filter_sublist
    obtain⟨s3,o3,c3,t3,i3,k3,step⟩:=cnt8_lin U (cnt 9 (if hasB y.free x0.nm then[]else[x0.nm]) (y.ow (if hasB y.free x0.nm then O++U else woN (O++U) [x0.nm]))) q1 fun n hn=>by
     unfold LS.there;rw[ki,if_pos ((hUm n).1 hn).1];dsimp only;rw[q2,q2,hc1,hc1,if_pos hnF];simp
    refine step ?_;clear step;have hUF:∀n∈U,n ∉ F:=fun n h hf=>hkn n hf (hb2 n (by simp[((hUm n).1 h).1]))
    have hc3:∀m,s3.c m=if m∈O++U then 1 else 0:=fun m=>by
     rw[c3,q2,hc1,F7 hUn];by_cases h1:m∈F
     ·rw[if_pos h1,if_neg (fun h=>hUF m h h1),if_pos (by simp[hOm,h1])];rfl
     ·rw[if_neg h1];by_cases h2:m∈U
      ·rw[if_pos h2,if_pos (by simp[h2])];rfl
      ·rw[if_neg h2,if_neg (by simp[hOm,h1,h2])];rfl
    have hOU:(O++U).Nodup:=by
     rw[List.nodup_append];exact⟨hOn,hUn,fun u hu v hv e=>hUF v hv (by rw[←e];exact(hOm u).1 hu)⟩
    have hun3:∀n∈y.bd,lkA s3.ct n=none:=fun n hn=>by
     have h1:=k3 n;rw[kd,hb2 n (by simp[hn])]at h1;have hw:n ∉ ws:=fun h=>hwy n h n hn rfl
     have hu:n ∉ U:=fun h=>hw ((hUm n).1 h).1
     simpa[hw,hu]using h1
    have hfy:∀n∈y.free,n∈O++U:=fun n hn=>by
     by_cases hw:n∈ws
     ·simp only[List.mem_append];exact .inr ((hUm n).2 ⟨hw,hn⟩)
     ·simp only[List.mem_append];exact .inl ((hOm n).2 ((hfr n).2 (.inr (.inr ⟨_,hc0,by rw[Cs.Ev,Xw];exact⟨hn,hw⟩⟩))))
    have ht3:s3.tk=[]:=by rw[t3,q3,htk1]
    by_cases hb:hasB y.free x0.nm=true
    ·rw[if_pos hb,if_pos hb];show(y.ow (O++U)).lin s3=0;exact ih y (O++U) s3 hyR hyP hyn hun3 hOU hfy o3 hc3 ht3
    ·rw[if_neg hb,if_neg hb];have hnf:x0.nm ∉ y.free:=fun h=>hb (X3.2 h)
     obtain⟨s4,o4,c4,t4,i4,k4,step⟩:=cnt9_lin [x0.nm] (y.ow (woN (O++U) [x0.nm])) o3 (by simp) fun n hn=>by
      simp only[List.mem_singleton]at hn;subst hn;rw[hc3,if_pos (by simp[hOm,hnF])];omega
     refine step (ih y _ s4 hyR hyP hyn (fun n hn=>?_) (hOU.sublist List.filter_sublist) (fun n hn=>?_) o4 (fun n=>?_) (t4.trans ht3))
     ·have:=k4 n;rw[hun3 n hn]at this;simpa using this
     ·exact Xw.2 ⟨hfy n hn,by simp;exact fun e=>hnf (by rw[←e];exact hn)⟩
     ·rw[c4,hc3];by_cases e:n=x0.nm
      ·subst e;rw[if_pos (by simp),if_pos (by simp[hOm,hnF]),if_neg (fun h=>(Xw.1 h).2 (by simp))];rfl
      ·rw[if_neg (by simp[e])];by_cases h:n∈O++U
       ·rw[if_pos h,if_pos (Xw.2 ⟨h,by simp[e]⟩)]
       ·rw[if_neg h,if_neg (fun hh=>h (Xw.1 hh).1)]
   ·have hcs:=rt_nocs hR' h7;subst hcs;rw[if_neg h6,if_neg h7];by_cases h3:k=3∨k=4∨k=5
    ·rw[if_pos h3];have hF:∀n,n∈(Tm.mk k n0 a b vs xs []).free↔∃x∈xs,x.nm=n:=fun n=>by
      rw[hfr];refine⟨fun h=>?_,fun h=>.inr (.inl h)⟩;rcases h with h|h|⟨c,h,_⟩
      ·omega
      ·exact h
      ·cases h
     obtain⟨s2,o2,c2,t2,i2,k2,step⟩:=cnt8_lin (R3 [] xs) (.mk k n0 a b vs xs []) o1 fun n hn=>by
      unfold LS.there;rw[hc1,if_pos ((hF n).2 (Aq xs [] n hn))];rfl
     refine step ?_;have hc2:∀m,s2.c m=occ xs m:=fun m=>by
      rw[c2,hc1,moreN_occ];by_cases h:∃x∈xs,x.nm=m
      ·rw[if_pos ((hF m).2 h),if_pos ⟨by simp,h⟩];omega
      ·rw[if_neg (fun hh=>h ((hF m).1 hh)),if_neg (fun hh=>h hh.2),occ_zero h];rfl
     have hu:=useL_of xs o2 hvar fun m=>by rw[hc2];exact Int.le_refl _
     obtain⟨g1,g2,g3⟩:=LS.useL_ok xs o2 hu;rw[lin345 h3,hu];unfold LS.Cq;rw[left_of g1 (fun m=>by rw[g2,hc2];omega) (by rw[g3,t2,htk1])];simp
    ·rw[if_neg h3];have h12:k=1∨k=2:=by omega
     have hxs:=rt_none hR' h12;subst hxs;rcases h12 with rfl|rfl
     ·have hF:∀n,n∈(Tm.mk 1 n0 a b vs [] []).free↔n=a:=fun n=>by rw[hfr];simp
      have hu:=use_of (s:=s1) (n:=a) (by rw[hc1,if_pos ((hF a).2 rfl)];omega);obtain⟨g1,g2,g3,-⟩:=LS.Qj2 o1 hu;rw[lin1,hu];unfold LS.Cq;rw[left_of g1 (fun m=>by
       rw[g2,hc1];by_cases e:a=m
       ·subst e;rw[if_pos rfl,if_pos ((hF a).2 rfl)];rfl
       ·rw[if_neg e,if_neg (fun h=>e ((hF m).1 h).symm)]) (by rw[g3,htk1])]
      simp
     ·have hF:∀n,n ∉ (Tm.mk 2 n0 a b vs [] []).free:=fun n=>by rw[hfr];simp
      rw[lin2];unfold LS.Cq;rw[left_of o1 (fun m=>by rw[hc1,if_neg (hF m)]) htk1];simp
end Go.Proofs.YtjpldhjgehoffaaGreatDoor
namespace Go.Proofs.YtjpldhjgehoffaaGreatDoor
open Go.RowKit
set_option linter.unusedVariables false
set_option linter.unusedSimpArgs false
structure LS.Sim (s s':LS):Prop where
 c:∀n,lkA s.ct n=lkA s'.ct n
 i:∀n,lkA s.inn n=lkA s'.inn n
 t:∀b,lkA s.tk b=lkA s'.tk b
theorem LS.Sim.cc {s s':LS} (h:s.Sim s') (n:ByteArray):s.c n=s'.c n:=by unfold LS.c;rw[h.c]
theorem left_iff {s:LS} (h:s.Ok):s.left=true↔(∃n k,lkA s.ct n=some k∧0<k)∨∃b k,lkA s.tk b=some k:=by
 unfold LS.left;rw[Bool.or_eq_true,List.any_eq_true];refine or_congr ⟨fun⟨p,h1,h2⟩=>⟨p.1,p.2,mem_lk h.kc h1,by simpa using h2⟩,fun⟨n,k,h1,h2⟩=>⟨(n,k),lk_mem h1,by simpa using h2⟩⟩ ⟨fun h1=>?_,fun⟨b,k,h1⟩=>?_⟩
 ·cases ht:s.tk with
  |nil=>rw[ht]at h1;simp at h1
  |cons p r=>exact⟨p.1,p.2,by obtain⟨x,y⟩:=p;rw[lkA,if_pos rfl]⟩
 ·cases ht:s.tk with
  |nil=>rw[ht]at h1;simp[lkA]at h1
  |cons p r=>simp
theorem LS.Sim.left {s s':LS} (h:s.Sim s') (hs:s.Ok) (hs':s'.Ok):s.left=s'.left:=by
 rw[Bool.eq_iff_iff,left_iff hs,left_iff hs'];simp only[h.c,h.t]
theorem LS.Sim.Cq {s s':LS} (h:s.Sim s') (hs:s.Ok) (hs':s'.Ok) (e:Int):s.Cq e=s'.Cq e:=by
 unfold LS.Cq;rw[h.left hs hs']
theorem LS.Sim.use {s s':LS} (h:s.Sim s') (n:ByteArray):(s.Y6 n).1=(s'.Y6 n).1∧(s.Y6 n).2.Sim (s'.Y6 n).2:=by
 unfold LS.Y6;rw[h.c n];cases lkA s'.ct n with
 |none=>exact⟨rfl,h⟩
 |some k=>
  dsimp only;split
  ·exact⟨rfl,h⟩
  ·exact⟨rfl,⟨fun m=>by dsimp only;rw[K5,K5,h.c],h.i,h.t⟩⟩
theorem LS.Sim.Uw:∀(xs:List Tm) {s s':LS},s.Sim s'→(s.Uw xs).1=(s'.Uw xs).1∧(s.Uw xs).2.Sim (s'.Uw xs).2
 |[],s,s',h=>⟨rfl,h⟩
 |x::r,s,s',h=>by
  obtain⟨h1,h2⟩:=h.use x.nm;rw[LS.Uw,LS.Uw];split
  ·exact⟨rfl,h⟩
  ·rw[h1];split
   ·exact⟨h1,h2⟩
   ·exact LS.Sim.Uw r h2
theorem Tz {s:LS} (h:s.Ok) (n:ByteArray):(s.Y6 n).2.Ok:=by
 by_cases h0:(s.Y6 n).1=0
 ·exact(LS.Qj2 h h0).1
 ·unfold LS.Y6 at h0⊢;cases hk:lkA s.ct n with
  |none=>exact h
  |some k=>
   rw[hk]at h0;dsimp only at h0⊢;by_cases h1:k<1
   ·rw[if_pos h1];exact h
   ·rw[if_neg h1]at h0;exact absurd rfl h0
theorem useL_okA:∀(xs:List Tm) {s:LS},s.Ok→(s.Uw xs).2.Ok
 |[],s,h=>h
 |x::r,s,h=>by
  rw[LS.Uw];split
  ·exact h
  ·split
   ·exact Tz h _
   ·exact useL_okA r (Tz h _)
theorem LS.Sim.inc {s s':LS} (h:s.Sim s') (n:ByteArray):(s.inc n).Sim (s'.inc n):=
 ⟨fun m=>by unfold LS.inc;dsimp only;rw[K5,K5,h.c,h.cc],h.i,h.t⟩
theorem LS.Sim.Uz (nm:ByteArray):∀(vs:List ByteArray) {s s':LS},s.Sim s'→(s.Uz nm vs).1=(s'.Uz nm vs).1∧(s.Uz nm vs).2.Sim (s'.Uz nm vs).2
 |[],s,s',h=>⟨rfl,h⟩
 |v::r,s,s',h=>by
  rw[LS.Uz,LS.Uz,h.i];split
  ·exact⟨rfl,h⟩
  ·exact LS.Sim.Uz nm r (h.inc v)
theorem openL_okA (nm:ByteArray):∀(vs:List ByteArray) {s:LS},s.Ok→(s.Uz nm vs).2.Ok
 |[],s,h=>h
 |v::r,s,h=>by
  rw[LS.Uz];split
  ·exact h
  ·exact openL_okA nm r (LS.inc_ok h v).1
theorem LS.Sim.Y4 {s s':LS} (h:s.Sim s') (nm:ByteArray) (vs:List ByteArray):(s.Y4 nm vs).1=(s'.Y4 nm vs).1∧(s.Y4 nm vs).2.Sim (s'.Y4 nm vs).2:=by
 obtain⟨h1,h2⟩:=LS.Sim.Uz nm vs h;unfold LS.Y4;rw[h1];split
 ·exact⟨h1,h2⟩
 ·exact h2.use nm
theorem D7 {s:LS} (h:s.Ok) (nm:ByteArray) (vs:List ByteArray):(s.Y4 nm vs).2.Ok:=by
 unfold LS.Y4;split
 ·exact openL_okA nm vs h
 ·exact Tz (openL_okA nm vs h) nm
theorem LS.Sim.G8 (nm:ByteArray):∀(vs:List ByteArray) {s s':LS},s.Sim s'→(s.G8 nm vs).1=(s'.G8 nm vs).1∧(s.G8 nm vs).2.Sim (s'.G8 nm vs).2
 |[],s,s',h=>⟨rfl,h⟩
 |v::r,s,s',h=>by
  rw[LS.G8,LS.G8,h.c];split
  ·exact⟨rfl,h⟩
  ·exact LS.Sim.G8 nm r ⟨fun m=>by dsimp only;rw[K5,K5,h.c],fun m=>by dsimp only;rw[K5,K5,h.i],h.t⟩
theorem LS.Sim.there {s s':LS} (h:s.Sim s') (n:ByteArray):s.there n=s'.there n:=by
 unfold LS.there;rw[h.cc,h.i];cases lkA s'.inn n with
 |none=>rfl
 |some up=>dsimp only;rw[h.cc]
theorem LS.Sim.fst {s s':LS} (h:s.Sim s') (t:Tm):(s.fst t).Sim (s'.fst t):=by
 unfold LS.fst;refine⟨fun n=>?_,h.i,fun b=>?_⟩
 ·dsimp only;rw[Aj (fun _ k=>Mx k),Aj (fun _ k=>Mx k),Vq,Vq,h.c]
 ·dsimp only;rw[Vq,Vq,h.t]
theorem LS.Sim.rst {s s':LS} (h:s.Sim s') (t:Tm) (a:ByteArray):({ s.rst t with ct:=Xj (s.rst t).ct a 1 }:LS).Sim { s'.rst t with ct:=Xj (s'.rst t).ct a 1 }:=by
 unfold LS.rst;refine⟨fun n=>?_,h.i,fun b=>?_⟩
 ·dsimp only;rw[K5,K5,Aj (fun k v=>if t.I8 k then v-Mx v else v),Aj (fun k v=>if t.I8 k then v-Mx v else v),h.c]
 ·dsimp only;rw[Vq (fun k=>!t.askT k),Vq (fun k=>!t.askT k),h.t]
theorem lin_sim:∀(N:Nat) (t:Tm),t.sz≤N→∀s s':LS,s.Ok→s'.Ok→s.Sim s'→t.lin s=0→t.lin s'=0:=by
 intro N;induction N with
 |zero=>intro t h;have:=t.sz_1;omega
 |succ N ih=>
  intro t hN s s' hs hs' he h;obtain⟨k,n,a,b,vs,xs,cs⟩:=t;rw[Tm.sz]at hN;rcases lin_kind h with rfl|rfl|hk|rfl|rfl|rfl|hk
  ·obtain⟨h1,h2⟩:=he.use a;rw[lin1]at h⊢;rw[←h1,←h2.Cq (Tz hs a) (Tz hs' a)];exact h
  ·rw[lin2]at h⊢;rw[←he.Cq hs hs'];exact h
  ·obtain⟨h1,h2⟩:=LS.Sim.Uw xs he;rw[lin345 hk]at h⊢;rw[←h1,←h2.Cq (useL_okA xs hs) (useL_okA xs hs')];exact h
  ·obtain⟨h1,h2⟩:=lin12 h;have he':({ s with tk:=M4 s.tk b }:LS).Sim { s' with tk:=M4 s'.tk b }:=⟨he.c,he.i,fun d=>by dsimp only;rw[lk_del,lk_del,he.t]⟩
   obtain⟨h3,h4⟩:=LS.Sim.Uw xs he';rw[Tm.lin,if_neg (by omega),if_neg (by omega),if_neg (by omega),if_pos rfl,if_neg (by rw[←he.t,h1];simp)];rw[←h3,←h4.Cq (useL_okA xs (LS.tk_ok hs (hs.kt.filter _))) (useL_okA xs (LS.tk_ok hs' (hs'.kt.filter _)))];exact h2
  ·obtain⟨x,y,rfl,h1,h2,h3⟩:=lin6 h;simp only[Tm.szs]at hN;have hxs:=x.sz_1;have hys:=y.sz_1;exact lin6_of (by rw[←he.c];exact h1) (ih x (by omega) _ _ (LS.fst_ok hs x) (LS.fst_ok hs' x) (he.fst x) h2) (ih y (by omega) _ _ (LS.put_ok (LS.rst_ok hs x) a (by omega)) (LS.put_ok (LS.rst_ok hs' x) a (by omega)) (he.rst x a) h3)
  ·obtain⟨x,rfl,hx,h1,h2⟩:=lin7 h;refine lin7_of hx (by rw[←he.cc];exact h1) fun c hc=>?_
   obtain⟨tg,ws,y⟩:=c;obtain⟨g1,g2⟩:=clin_inv (h2 _ hc);obtain⟨k1,k2⟩:=LS.Sim.G8 x.nm ws he;have hyN:y.sz≤N:=by
    have:(Cs.mk tg ws y).sz≤Cs.szs cs:=Cs.X0 hc;rw[Cs.sz]at this;omega
   rw[Cs.lin,if_neg (by rw[←k1];simpa using g1)];exact ih y hyN _ _ (LS.newL_ok _ ws hs g1).1 (LS.newL_ok _ ws hs' (by rw[←k1];exact g1)).1 k2 g2
  ·obtain⟨x,rfl,p8,p9,p13,p10,p11⟩:=linS hk h;have hxN:x.sz≤N:=by
    simp only[Tm.szs]at hN;omega
   rw[Tm.lin,if_neg (by omega),if_neg (by omega),if_neg (by omega),if_neg (by omega),if_neg (by omega),if_neg (by omega),if_pos hk,if_neg (by simp)];rcases hk with rfl|rfl|rfl|rfl|rfl
   ·obtain⟨g0,g⟩:=p8 rfl;rw[if_pos rfl,if_pos (by rw[←he.there];exact g0)];exact Vz (ih x hxN _ _ (LS.inc_ok hs a).1 (LS.inc_ok hs' a).1 (he.inc a) g)
   ·obtain⟨g0,g⟩:=p9 rfl;obtain⟨k1,k2⟩:=he.use a;rw[if_neg (by omega),if_pos rfl,if_neg (by rw[←k1];simpa using g0)];exact Vz (ih x hxN _ _ (Tz hs a) (Tz hs' a) k2 g)
   ·obtain⟨g0,g⟩:=p10 rfl;obtain⟨k1,k2⟩:=he.Y4 a vs;rw[if_neg (by omega),if_neg (by omega),if_neg (by omega),if_neg (by rw[←k1];simpa using g0),if_neg (by omega)];exact Vz (ih x hxN _ _ (D7 hs a vs) (D7 hs' a vs) k2 g)
   ·obtain⟨g0,gn,gb,g⟩:=p11 rfl;obtain⟨k1,k2⟩:=he.Y4 a vs;rw[if_neg (by omega),if_neg (by omega),if_neg (by omega),if_neg (by rw[←k1];simpa using g0),if_pos rfl,if_neg (by rw[←he.t,gn];simp[gb])];refine Vz (ih x hxN _ _ (LS.tk_ok (D7 hs a vs) ((D7 hs a vs).kt.put _ _)) (LS.tk_ok (D7 hs' a vs) ((D7 hs' a vs).kt.put _ _)) ⟨k2.c,k2.i,fun d=>?_⟩ g);dsimp only;rw[K5,K5,k2.t]
   ·obtain⟨g0,g⟩:=p13 rfl;rw[if_neg (by omega),if_neg (by omega),if_pos rfl,if_pos (by rw[←he.t];exact g0)];exact Vz (ih x hxN _ _ (LS.tk_ok hs (hs.kt.filter _)) (LS.tk_ok hs' (hs'.kt.filter _)) ⟨he.c,he.i,fun d=>(show lkA (M4 s.tk b) d=lkA (M4 s'.tk b) d by rw[lk_del,lk_del,he.t])⟩ g)
end Go.Proofs.YtjpldhjgehoffaaGreatDoor
namespace Go.Proofs.YtjpldhjgehoffaaGreatDoor
open Classical Go.RowKit
set_option linter.unusedVariables false
set_option linter.unusedSimpArgs false
mutual
def Tm.S1:Tm→Prop
 | .mk k n a b vs xs cs=>(k=8∨k=9∨k=10→(∃x,xs=[x])∧cs=[])∧Tm.S1L xs∧Cs.S1L cs
def Tm.S1L:List Tm→Prop
 |[]=>True
 |x::r=>x.S1∧Tm.S1L r
def Cs.S1L:List Cs→Prop
 |[]=>True
 |c::r=>c.S1∧Cs.S1L r
def Cs.S1:Cs→Prop
 | .mk t ws y=>y.S1
end
theorem Ox:∀{l:List Tm},Tm.S1L l↔∀x∈l,x.S1
 |[]=>by simp[Tm.S1L]
 |x::r=>by simp[Tm.S1L,Ox (l:=r)]
theorem F4:∀{l:List Cs},Cs.S1L l↔∀x∈l,x.S1
 |[]=>by simp[Cs.S1L]
 |x::r=>by simp[Cs.S1L,F4 (l:=r)]
theorem sr_all:∀(N:Nat) (t:Tm) (rest:List ByteArray),t.sz≤N→t.S1→∃used,(t.sr rest).2.S1∧(∀n∈used,n∈rest)∧(t.sr rest).1=woN rest used∧(rest.Nodup→used.Nodup)∧t.stN=used++(t.sr rest).2.stN∧t.V4=(t.sr rest).2.V4∧t.stT=(t.sr rest).2.stT∧
  ∀s:LS,s.Ok→t.lin s=0→∃s',s'.Ok∧(∀m,s'.c m=s.c m+occB used m)∧s'.tk=s.tk∧s'.inn=s.inn∧(∀m,(lkA s'.ct m).isSome=((lkA s.ct m).isSome||decide (m∈used)))∧(t.sr rest).2.lin s'=0:=by
 intro N;induction N with
 |zero=>intro t _ h;have:=t.sz_1;omega
 |succ N ih=>
  intro t rest hN hS;obtain⟨k,n,a,b,vs,xs,cs⟩:=t;rw[Tm.sr];by_cases hc:k=8∧hasB rest a=true
  ·rw[if_pos hc];obtain⟨⟨x,rfl⟩,rfl⟩:=hS.1 (.inl hc.1);obtain⟨rfl,ha⟩:=hc;have ha:=X3.1 ha;rw[Tm.srL];have hxN:x.sz≤N:=by
    rw[Tm.sz]at hN;simp only[Tm.szs]at hN;omega
   obtain⟨used,u1,u2,u3,u4,u5,u6,u7,u8⟩:=ih x (woN rest [a]) hxN hS.2.1.1;have hau:a ∉ used:=fun h=>(Xw.1 (u2 a h)).2 (by simp)
   refine⟨a::used,u1,fun m hm=>?_,?_,fun hn=>?_,?_,?_,?_,fun s hs h=>?_⟩
   ·rcases List.mem_cons.1 hm with rfl|hm
    ·exact ha
    ·exact(Xw.1 (u2 m hm)).1
   ·rw[u3];unfold woN;rw[List.filter_filter];refine List.filter_congr fun m _=>?_
    rw[Bool.eq_iff_iff];simp[X3,H7,and_comm,not_or]
   ·rw[List.nodup_cons];exact⟨hau,u4 (hn.sublist List.filter_sublist)⟩
   ·rw[Tm.stN,if_pos (by omega),Tm.Y9,Tm.Y9,Cs.Y9,u5];simp
   ·rw[Tm.V4,if_neg (by omega),if_neg (by omega),Tm.V5,Tm.V5,Cs.V5,u6];simp
   ·rw[Tm.stT,if_neg (by omega),Tm.K9,Tm.K9,Cs.K9,u7];simp
   ·obtain⟨x',e,p8,-⟩:=linS (by omega) h;injection e with e _;subst e;obtain⟨-,g⟩:=p8 rfl;obtain⟨q1,q2⟩:=LS.inc_ok hs a;obtain⟨s',r1,r2,r3,r4,r5,r6⟩:=u8 _ q1 g;refine⟨s',r1,fun m=>?_,r3,r4,fun m=>?_,r6⟩
    ·rw[r2,q2,Qz5];split<;> omega
    ·rw[r5];unfold LS.inc;dsimp only;rw[K5];by_cases e:a=m
     ·subst e;simp
     ·rw[if_neg e];have e':m≠a:=fun h=>e h.symm
      simp[e']
  ·rw[if_neg hc];refine⟨[],hS,by simp,?_,fun _=>List.nodup_nil,rfl,rfl,rfl,fun s hs h=>⟨s,hs,fun m=>by simp[occB],rfl,rfl,fun m=>by simp,h⟩⟩;unfold woN;exact(List.filter_eq_self.2 fun m _=>by simp[hasB]).symm
theorem newL_inv (nm:ByteArray):∀(ws:List ByteArray) {s:LS},(s.G8 nm ws).1=0→ws.Nodup∧∀v∈ws,lkA s.ct v=none
 |[],s,_=>⟨List.nodup_nil,by simp⟩
 |v::r,s,h=>by
  rw[LS.G8]at h;by_cases h1:(lkA s.ct v).isSome=true
  ·rw[if_pos h1]at h;simp at h
  ·rw[if_neg h1]at h;obtain⟨h2,h3⟩:=newL_inv nm r h;have h4:lkA s.ct v=none:=by simpa using h1
   refine⟨List.nodup_cons.2 ⟨fun hm=>?_,h2⟩,fun u hu=>?_⟩
   ·have:=h3 v hm;dsimp only at this;rw[K5,if_pos rfl]at this;simp at this
   ·rcases List.mem_cons.1 hu with rfl|hu
    ·exact h4
    ·have:=h3 u hu;dsimp only at this;rw[K5]at this;split at this
     ·simp at this
     ·exact this
theorem openL_of (nm:ByteArray):∀(vs:List ByteArray) {s:LS},(∀v∈vs,lkA s.inn v=some nm)→(s.Uz nm vs).1=0∧∀m,(lkA (s.Uz nm vs).2.ct m).isSome=((lkA s.ct m).isSome||decide (m∈vs))
 |[],s,_=>⟨rfl,fun m=>by simp[LS.Uz]⟩
 |v::r,s,h=>by
  obtain⟨h1,h2⟩:=openL_of nm r (s:=s.inc v) fun u hu=>h u (by simp[hu])
  rw[LS.Uz,if_neg (by rw[h v (by simp)];simp)];refine⟨h1,fun m=>?_⟩;rw[h2];unfold LS.inc;dsimp only;rw[K5];by_cases e:v=m
  ·subst e;simp
  ·rw[if_neg e];have e':m≠v:=fun h=>e h.symm
   simp[e']
theorem lin10_of {n:Int} {a b:ByteArray} {vs:List ByteArray} {x:Tm} {cs:List Cs} {s:LS} (h:(s.Y4 a vs).1=0) (h2:x.lin (s.Y4 a vs).2=0):(Tm.mk 10 n a b vs [x] cs).lin s=0:=by
 rw[Tm.lin,if_neg (by omega),if_neg (by omega),if_neg (by omega),if_neg (by omega),if_neg (by omega),if_neg (by omega),if_pos (by omega),if_neg (by simp),if_neg (by omega),if_neg (by omega),if_neg (by omega),if_neg (by simpa using h),if_neg (by omega)];exact Vz h2
theorem sim_of {s s':LS} (hc:∀n,s.c n=s'.c n) (hk:∀n,(lkA s.ct n).isSome=(lkA s'.ct n).isSome) (hi:s.inn=s'.inn) (ht:s.tk=s'.tk):s.Sim s':=by
 refine⟨fun n=>?_,fun n=>by rw[hi],fun b=>by rw[ht]⟩;have h1:=hc n;have h2:=hk n;unfold LS.c at h1;cases h3:lkA s.ct n with
 |none=>
  cases h4:lkA s'.ct n with
  |none=>rfl
  |some k=>rw[h3,h4]at h2;simp at h2
 |some j=>
  cases h4:lkA s'.ct n with
  |none=>rw[h3,h4]at h2;simp at h2
  |some k=>rw[h3,h4]at h1;simp at h1;rw[h1]
theorem fuOne_lin {nm:ByteArray} {ws:List ByteArray} {y:Tm} (hS:y.S1) {s:LS} (hs:s.Ok) (hw:ws.Nodup) (hi:∀v∈ws,lkA s.inn v=some nm) (hc:∀v∈ws,s.c v=0) (hkn:∀v∈ws,(lkA s.ct v).isSome=true) (hn:nm ∉ ws) (h:y.lin s=0):(Yv 7 1 nm ws y).lin s=0:=by
 unfold Yv;split
 ·rename_i hcond;obtain⟨-,-,-,h9,hnm⟩:=hcond;obtain⟨used,u1,u2,u3,u4,-,-,-,u8⟩:=sr_all y.sz y ws (Nat.le_refl _) hS;obtain⟨s1,o1,c1,t1,i1,k1,l1⟩:=u8 s hs h;generalize(y.sr ws).2=z at *;rw[u3];obtain⟨k,n,a,b,vs,xs,cs⟩:=z;rw[Tm.tk]at h9;rw[Tm.nm]at hnm;subst h9 hnm;obtain⟨⟨x,rfl⟩,rfl⟩:=u1.1 (.inr (.inl rfl));have ha0:(Tm.mk 9 n a b vs [x] []).a0=x:=rfl;rw[ha0];obtain⟨x',e,-,p9,-⟩:=linS (by omega) l1;injection e with e _;subst e;obtain⟨g0,g⟩:=p9 rfl;obtain⟨q1,q2,q3,q4,q5,q6⟩:=LS.Qj2 o1 g0;have hau:a ∉ used:=fun hm=>hn (u2 a hm)
  have hun:=u4 hw;have hca:1≤s.c a:=by
   have:=c1 a;rw[F7 hun,if_neg hau]at this;omega
  obtain⟨r1,r2⟩:=openL_of a ws (s:=s) hi;obtain⟨v1,v2,v3,v4⟩:=LS.openL_ok a ws hs r1;have hu:((s.Uz a ws).2.Y6 a).1=0:=use_of (by rw[v2,F7 hw,if_neg hn];omega);obtain⟨w1,w2,w3,w4,w5,-⟩:=LS.Qj2 v1 hu;have he:s.Y4 a ws=(s.Uz a ws).2.Y6 a:=by unfold LS.Y4;rw[if_neg (by simpa using r1)]
  refine lin10_of (by rw[he];exact hu) ?_;rw[he];obtain⟨s2,o2,c2,t2,i2,k2,step⟩:=cnt9_lin (woN ws used) x w1 (hw.sublist List.filter_sublist) fun m hm=>by
   have hmw:=(Xw.1 hm).1;rw[w2,v2,F7 hw,if_pos hmw,hc m hmw,if_neg (fun e=>hn (by rw[e];exact hmw))];omega
  refine step (lin_sim x.sz x (Nat.le_refl _) _ _ q1 o2 (sim_of (fun m=>?_) (fun m=>?_) ?_ ?_) g)
  ·rw[q2,c1,c2,w2,v2,F7 hun,F7 hw];by_cases e:a=m
   ·subst e;rw[if_pos rfl,if_neg hau,if_neg (fun hh=>hn (Xw.1 hh).1),if_pos rfl,if_neg hn]
   ·rw[if_neg e,if_neg e];by_cases h1:m∈ws
    ·by_cases h2:m∈used
     ·rw[if_pos h2,if_neg (fun hh=>(Xw.1 hh).2 h2),if_pos h1]
     ·rw[if_neg h2,if_pos (Xw.2 ⟨h1,h2⟩),if_pos h1];omega
    ·rw[if_neg (fun hh=>h1 (u2 m hh)),if_neg (fun hh=>h1 (Xw.1 hh).1),if_neg h1]
  ·rw[q5,k1,k2,w5,r2];by_cases h1:m∈ws
   ·rw[hkn m h1];rfl
   ·have h2:m ∉ used:=fun hh=>h1 (u2 m hh)
    simp[h1,h2]
  ·rw[q4,i1,i2,w4,v4]
  ·rw[q3,t1,t2,w3,v3]
 ·exact h
theorem Tm.fu_tk (t:Tm):t.fu.tk=t.tk:=by
 obtain⟨k,n,a,b,vs,xs,cs⟩:=t;rw[Tm.fu];rfl
theorem useL_fu:∀(xs:List Tm) (s:LS),s.Uw (Tm.fuL xs)=s.Uw xs
 |[],s=>rfl
 |x::r,s=>by
  rw[Tm.fuL,LS.Uw,LS.Uw,Tm.fu_tk,Tm.fu_nm,useL_fu r]
theorem fuL_length:∀xs:List Tm,(Tm.fuL xs).length=xs.length
 |[]=>rfl
 |x::r=>by rw[Tm.fuL,List.length_cons,List.length_cons,fuL_length r]
theorem cnt_S1 {k:Int}:∀(l:List ByteArray) {t:Tm},t.S1→(cnt k l t).S1
 |[],_,h=>h
 |s::r,t,h=>⟨fun _=>⟨⟨_,rfl⟩,rfl⟩,⟨cnt_S1 r h,trivial⟩,trivial⟩
theorem fuOne_st {k:Int} {na:Nat} {nm:ByteArray} {ws:List ByteArray} {y:Tm} (hS:y.S1):(Yv k na nm ws y).S1∧(∀n,n∈(Yv k na nm ws y).stN→n∈y.stN∨n∈ws)∧(∀n,n∈y.stN→n∈(Yv k na nm ws y).stN∨n∈ws)∧(Yv k na nm ws y).V4=y.V4∧(Yv k na nm ws y).stT=y.stT:=by
 unfold Yv;split
 ·rename_i hcond;obtain⟨-,-,-,h9,hnm⟩:=hcond;obtain⟨used,u1,u2,u3,u4,u5,u6,u7,-⟩:=sr_all y.sz y ws (Nat.le_refl _) hS;generalize(y.sr ws).2=z at *;rw[u3,u5,u6,u7];obtain⟨k,n,a,b,vs,xs,cs⟩:=z;rw[Tm.tk]at h9;rw[Tm.nm]at hnm;subst h9 hnm;obtain⟨⟨x,rfl⟩,rfl⟩:=u1.1 (.inr (.inl rfl));have ha0:(Tm.mk 9 n a b vs [x] []).a0=x:=rfl;rw[ha0];have e1:(Tm.mk 10 0 a .empty ws [cnt 9 (woN ws used) x] []).stN=a::(woN ws used++x.stN):=by
   rw[Tm.stN,if_pos (by omega),Tm.Y9,Tm.Y9,Cs.Y9,T9 (.inr rfl)];simp
  have e2:(Tm.mk 9 n a b vs [x] []).stN=a::x.stN:=by
   rw[Tm.stN,if_pos (by omega),Tm.Y9,Tm.Y9,Cs.Y9];simp
  refine⟨⟨fun _=>⟨⟨_,rfl⟩,rfl⟩,⟨cnt_S1 _ u1.2.1.1,trivial⟩,trivial⟩,fun m hm=>?_,fun m hm=>?_,?_,?_⟩
  ·rw[e1]at hm;rw[e2];simp only[List.mem_cons,List.mem_append]at hm⊢;rcases hm with h|h|h
   ·exact .inl (.inr (.inl h))
   ·exact .inr (Xw.1 h).1
   ·exact .inl (.inr (.inr h))
  ·rw[e2]at hm;rw[e1];simp only[List.mem_cons,List.mem_append]at hm⊢;rcases hm with h|h|h
   ·exact .inr (u2 m h)
   ·exact .inl (.inl h)
   ·exact .inl (.inr (.inr h))
  ·rw[Tm.V4,Tm.V4,if_neg (by omega),if_neg (by omega),if_neg (by omega),if_neg (by omega),Tm.V5,Tm.V5,Tm.V5,Tm.V5,F3 (.inr rfl)]
  ·rw[Tm.stT,Tm.stT,if_neg (by omega),if_neg (by omega),Tm.K9,Tm.K9,Tm.K9,Tm.K9,Pw (.inr rfl)]
 ·exact⟨hS,fun n h=>.inl h,fun n h=>.inl h,rfl,rfl⟩
theorem fu_st:∀(N:Nat) (t:Tm),t.sz≤N→t.S1→t.fu.S1∧(∀n,n∈t.fu.stN→n∈t.stN∨n∈t.V4)∧(∀n,n∈t.stN→n∈t.fu.stN∨n∈t.V4)∧t.fu.V4=t.V4∧t.fu.stT=t.stT:=by
 intro N;induction N with
 |zero=>intro t h;have:=t.sz_1;omega
 |succ N ih=>
  intro t hN hS;obtain⟨k,n,a,b,vs,xs,cs⟩:=t;obtain⟨h1,h2,h3⟩:=hS;rw[Tm.sz]at hN;have hX:∀l:List Tm,(∀x∈l,x∈xs)→Tm.S1L (Tm.fuL l)∧(∀n,n∈Tm.Y9 (Tm.fuL l)→n∈Tm.Y9 l∨n∈Tm.V5 l)∧(∀n,n∈Tm.Y9 l→n∈Tm.Y9 (Tm.fuL l)∨n∈Tm.V5 l)∧Tm.V5 (Tm.fuL l)=Tm.V5 l∧Tm.K9 (Tm.fuL l)=Tm.K9 l:=by
   intro l;induction l with
   |nil=>intro _;exact⟨trivial,by simp[Tm.fuL,Tm.Y9],by simp[Tm.Y9],rfl,rfl⟩
   |cons x r ih2=>
    intro hm;have hx:=hm x (by simp);obtain⟨a1,a2,a3,a4,a5⟩:=ih x (by have:=Tm.X0 hx;omega) (Ox.1 h2 x hx);obtain⟨b1,b2,b3,b4,b5⟩:=ih2 fun z hz=>hm z (by simp[hz])
    refine⟨⟨a1,b1⟩,fun m h=>?_,fun m h=>?_,by rw[Tm.fuL,Tm.V5,Tm.V5,a4,b4],by rw[Tm.fuL,Tm.K9,Tm.K9,a5,b5]⟩
    ·rw[Tm.fuL,Tm.Y9,List.mem_append]at h;rw[Tm.Y9,Tm.V5,List.mem_append,List.mem_append];rcases h with h|h
     ·exact(a2 m h).elim (fun h=>.inl (.inl h)) fun h=>.inr (.inl h)
     ·exact(b2 m h).elim (fun h=>.inl (.inr h)) fun h=>.inr (.inr h)
    ·rw[Tm.Y9,List.mem_append]at h;rw[Tm.fuL,Tm.Y9,Tm.V5,List.mem_append,List.mem_append];rcases h with h|h
     ·exact(a3 m h).elim (fun h=>.inl (.inl h)) fun h=>.inr (.inl h)
     ·exact(b3 m h).elim (fun h=>.inl (.inr h)) fun h=>.inr (.inr h)
  have hC:∀l:List Cs,(∀x∈l,x∈cs)→Cs.S1L (Cs.fuL k xs.length (nmH xs) l)∧(∀n,n∈Cs.Y9 (Cs.fuL k xs.length (nmH xs) l)→n∈Cs.Y9 l∨n∈Cs.V5 l)∧(∀n,n∈Cs.Y9 l→n∈Cs.Y9 (Cs.fuL k xs.length (nmH xs) l)∨n∈Cs.V5 l)∧Cs.V5 (Cs.fuL k xs.length (nmH xs) l)=Cs.V5 l∧Cs.K9 (Cs.fuL k xs.length (nmH xs) l)=Cs.K9 l:=by
   intro l;induction l with
   |nil=>intro _;exact⟨trivial,by simp[Cs.fuL,Cs.Y9],by simp[Cs.Y9],rfl,rfl⟩
   |cons c r ih2=>
    intro hm;have hc:=hm c (by simp);obtain⟨b1,b2,b3,b4,b5⟩:=ih2 fun z hz=>hm z (by simp[hz])
    obtain⟨t,ws,y⟩:=c;have hsz:(Cs.mk t ws y).sz≤Cs.szs cs:=Cs.X0 hc;rw[Cs.sz]at hsz;obtain⟨a1,a2,a3,a4,a5⟩:=ih y (by omega) (F4.1 h3 _ hc);obtain⟨c1,c2,c3,c4,c5⟩:=fuOne_st (k:=k) (na:=xs.length) (nm:=nmH xs) (ws:=ws) a1;have e:(Cs.mk t ws y).fu k xs.length (nmH xs)= .mk t ws (Yv k xs.length (nmH xs) ws y.fu):=by rw[Cs.fu]
    refine⟨⟨by rw[e];exact c1,b1⟩,fun m h=>?_,fun m h=>?_,by rw[Cs.fuL,Cs.V5,Cs.V5,e,b4,Cs.V4,Cs.V4,c4,a4],by rw[Cs.fuL,Cs.K9,Cs.K9,e,b5,Cs.stT,Cs.stT,c5,a5]⟩
    ·rw[Cs.fuL,Cs.Y9,List.mem_append,e,Cs.stN]at h;rw[Cs.Y9,Cs.V5,List.mem_append,List.mem_append,Cs.stN,Cs.V4,List.mem_append];rcases h with h|h
     ·rcases c2 m h with h|h
      ·exact(a2 m h).elim (fun h=>.inl (.inl h)) fun h=>.inr (.inl (.inr h))
      ·exact .inr (.inl (.inl h))
     ·exact(b2 m h).elim (fun h=>.inl (.inr h)) fun h=>.inr (.inr h)
    ·rw[Cs.Y9,List.mem_append,Cs.stN]at h;rw[Cs.fuL,Cs.Y9,Cs.V5,List.mem_append,List.mem_append,e,Cs.stN,Cs.V4,List.mem_append];rcases h with h|h
     ·rcases a3 m h with h|h
      ·rcases c3 m h with h|h
       ·exact .inl (.inl h)
       ·exact .inr (.inl (.inl h))
      ·exact .inr (.inl (.inr h))
     ·exact(b3 m h).elim (fun h=>.inl (.inr h)) fun h=>.inr (.inr h)
  obtain⟨x1,x2,x3,x4,x5⟩:=hX xs fun _ h=>h
  obtain⟨c1,c2,c3,c4,c5⟩:=hC cs fun _ h=>h
  rw[Tm.fu];refine⟨⟨fun hk=>?_,x1,c1⟩,fun m h=>?_,fun m h=>?_,by rw[Tm.V4,Tm.V4,x4,c4],by rw[Tm.stT,Tm.stT,x5,c5]⟩
  ·obtain⟨⟨x,rfl⟩,rfl⟩:=h1 hk;exact⟨⟨_,rfl⟩,rfl⟩
  ·rw[Tm.stN,List.mem_append,List.mem_append]at h;rw[Tm.stN,Tm.V4,List.mem_append,List.mem_append,List.mem_append,List.mem_append,List.mem_append];rcases h with h|h|h
   ·exact .inl (.inl h)
   ·exact(x2 m h).elim (fun h=>.inl (.inr (.inl h))) fun h=>.inr (.inr (.inr (.inl h)))
   ·exact(c2 m h).elim (fun h=>.inl (.inr (.inr h))) fun h=>.inr (.inr (.inr (.inr h)))
  ·rw[Tm.stN,List.mem_append,List.mem_append]at h;rw[Tm.stN,Tm.V4,List.mem_append,List.mem_append,List.mem_append,List.mem_append,List.mem_append];rcases h with h|h|h
   ·exact .inl (.inl h)
   ·exact(x3 m h).elim (fun h=>.inl (.inr (.inl h))) fun h=>.inr (.inr (.inr (.inl h)))
   ·exact(c3 m h).elim (fun h=>.inl (.inr (.inr h))) fun h=>.inr (.inr (.inr (.inr h)))
theorem fu_ask {t:Tm} (hS:t.S1):t.fu.I8=t.I8∧t.fu.askT=t.askT:=by
 obtain⟨-,h2,h3,h4,h5⟩:=fu_st t.sz t (Nat.le_refl _) hS;refine⟨funext fun n=>?_,funext fun b=>?_⟩
 ·unfold Tm.I8;rw[h4,Bool.eq_iff_iff,Bool.and_eq_true,Bool.and_eq_true,X3,X3];constructor
  ·rintro⟨h,hn⟩;refine⟨(h2 n h).resolve_right fun hh=>?_,hn⟩;rw[X3.2 hh]at hn;simp at hn
  ·rintro⟨h,hn⟩;refine⟨(h3 n h).resolve_right fun hh=>?_,hn⟩;rw[X3.2 hh]at hn;simp at hn
 ·unfold Tm.askT;rw[h4,h5]
theorem fu_lin:∀(N:Nat) (t:Tm),t.sz≤N→t.S1→∀s:LS,s.Ok→t.lin s=0→t.fu.lin s=0:=by
 intro N;induction N with
 |zero=>intro t h;have:=t.sz_1;omega
 |succ N ih=>
  intro t hN hS s hs h;obtain⟨k,n,a,b,vs,xs,cs⟩:=t;obtain⟨s1,s2,s3⟩:=hS;rw[Tm.sz]at hN;rw[Tm.fu];rcases lin_kind h with rfl|rfl|hk|rfl|rfl|rfl|hk
  ·rw[lin1]at h⊢;exact h
  ·rw[lin2]at h⊢;exact h
  ·rw[lin345 hk]at h⊢;rw[useL_fu];exact h
  ·obtain⟨h1,h2⟩:=lin12 h;rw[Tm.lin,if_neg (by omega),if_neg (by omega),if_neg (by omega),if_pos rfl,fuL_length,if_neg (by rw[h1];simp),useL_fu];exact h2
  ·obtain⟨x,y,rfl,h1,h2,h3⟩:=lin6 h;simp only[Tm.szs]at hN;have hxs:=x.sz_1;have hys:=y.sz_1;obtain⟨e1,e2⟩:=fu_ask s2.1;have e3:∀s:LS,s.fst x.fu=s.fst x:=fun s=>by unfold LS.fst;rw[e1,e2]
   have e4:∀s:LS,s.rst x.fu=s.rst x:=fun s=>by unfold LS.rst;rw[e1,e2]
   refine lin6_of h1 ?_ ?_
   ·rw[e3];exact ih x (by omega) s2.1 _ (LS.fst_ok hs x) h2
   ·rw[e4];exact ih y (by omega) s2.2.1 _ (LS.put_ok (LS.rst_ok hs x) a (by omega)) h3
  ·obtain⟨x,rfl,hx,h1,h2⟩:=lin7 h;have e:nmH [x]=x.nm:=rfl;rw[Cs.Ez,e];refine lin7_of (by rw[Tm.fu_tk];exact hx) (by rw[Tm.fu_nm];exact h1) fun c hc=>?_
   obtain⟨c0,hc0,rfl⟩:=List.mem_map.1 hc;obtain⟨tg,ws,y⟩:=c0;obtain⟨g1,g2⟩:=clin_inv (h2 _ hc0);obtain⟨n1,n2⟩:=newL_inv x.nm ws g1;obtain⟨-,m2,m3⟩:=newL_of x.nm ws (s:=s) n1 n2;obtain⟨q1,q2,q3⟩:=LS.newL_ok _ ws hs g1;have hyN:y.sz≤N:=by
    have:(Cs.mk tg ws y).sz≤Cs.szs cs:=Cs.X0 hc0;rw[Cs.sz]at this;omega
   have hyS:y.S1:=F4.1 s3 _ hc0;have hfl:=ih y hyN hyS _ q1 g2;rw[Cs.fu,Cs.lin,Tm.fu_nm,if_neg (by simpa using g1)];have hnw:x.nm ∉ ws:=fun hm=>by
    have:=n2 _ hm;unfold LS.c at h1;rw[this]at h1;simp at h1
   refine fuOne_lin (fu_st y.sz y (Nat.le_refl _) hyS).1 q1 n1 (fun v hv=>by rw[m3,if_pos hv]) (fun v hv=>?_) (fun v hv=>by rw[m2];simp[hv]) hnw hfl;rw[q2];unfold LS.c;rw[n2 v hv];rfl
  ·obtain⟨x,rfl,p8,p9,p13,p10,p11⟩:=linS hk h;have hxN:x.sz≤N:=by
    simp only[Tm.szs]at hN;omega
   have hxS:=s2.1;rw[Tm.fuL,Tm.fuL,Tm.lin,if_neg (by omega),if_neg (by omega),if_neg (by omega),if_neg (by omega),if_neg (by omega),if_neg (by omega),if_pos hk,if_neg (by simp)];rcases hk with rfl|rfl|rfl|rfl|rfl
   ·obtain⟨g0,g⟩:=p8 rfl;rw[if_pos rfl,if_pos g0];exact Vz (ih x hxN hxS _ (LS.inc_ok hs a).1 g)
   ·obtain⟨g0,g⟩:=p9 rfl;rw[if_neg (by omega),if_pos rfl,if_neg (by simpa using g0)];exact Vz (ih x hxN hxS _ (Tz hs a) g)
   ·obtain⟨g0,g⟩:=p10 rfl;rw[if_neg (by omega),if_neg (by omega),if_neg (by omega),if_neg (by simpa using g0),if_neg (by omega)];exact Vz (ih x hxN hxS _ (D7 hs a vs) g)
   ·obtain⟨g0,gn,gb,g⟩:=p11 rfl;rw[if_neg (by omega),if_neg (by omega),if_neg (by omega),if_neg (by simpa using g0),if_pos rfl,if_neg (by rw[gn];simp[gb])];exact Vz (ih x hxN hxS _ (LS.tk_ok (D7 hs a vs) ((D7 hs a vs).kt.put _ _)) g)
   ·obtain⟨g0,g⟩:=p13 rfl;rw[if_neg (by omega),if_neg (by omega),if_pos rfl,if_pos g0];exact Vz (ih x hxN hxS _ (LS.tk_ok hs (hs.kt.filter _)) g)
def kNm (c:Int):ByteArray:=⟨#[107]⟩++Gj c
mutual
def Tm.fits (m:Nat):Tm→Bool
 | .mk k n a b vs xs cs=>if k=3 then decide (xs.length=m)else if k=6 then Tm.fitL m xs else if k=7 then Cs.fitA m cs else if 8≤k∧k≠12 then Tm.fitH m xs else false
def Tm.fitL (m:Nat):List Tm→Bool
 |[]=>false
 |x::r=>(decide (x.tk=3) && decide (x.xs.length=m))||Tm.fitH m r
def Tm.fitH (m:Nat):List Tm→Bool
 |[]=>false
 |x::_=>x.fits m
def Cs.fitA (m:Nat):List Cs→Bool
 |[]=>false
 |c::r=>c.fits m||Cs.fitA m r
def Cs.fits (m:Nat):Cs→Bool
 | .mk t ws y=>y.fits m
end
mutual
def Tm.put (tok:ByteArray) (m:Nat):Tm→Tm
 | .mk k n a b vs xs cs=>
  if (Tm.mk k n a b vs xs cs).fits m=false then .mk 13 0 .empty tok [] [.mk k n a b vs xs cs] []
  else if k=3 then .mk 12 n a tok vs xs cs
  else if k=6 then .mk k n a b vs (Tm.putL tok m xs) cs
  else if k=7 then .mk k n a b vs xs (Cs.Xj tok m cs)
  else .mk k n a b vs (Tm.putH tok m xs) cs
def Tm.putL (tok:ByteArray) (m:Nat):List Tm→List Tm
 |[]=>[]
 |x::r=>if x.tk=3∧x.xs.length=m then x.put tok m::r else x::Tm.putH tok m r
def Tm.putH (tok:ByteArray) (m:Nat):List Tm→List Tm
 |[]=>[]
 |x::r=>x.put tok m::r
def Cs.Xj (tok:ByteArray) (m:Nat):List Cs→List Cs
 |[]=>[]
 |c::r=>c.put tok m::Cs.Xj tok m r
def Cs.put (tok:ByteArray) (m:Nat):Cs→Cs
 | .mk t ws y=>.mk t ws (y.put tok m)
end
theorem putA_eq (tok:ByteArray) (m:Nat):∀l:List Cs,Cs.Xj tok m l=l.map (Cs.put tok m)
 |[]=>rfl
 |c::r=>by rw[Cs.Xj,putA_eq tok m r];rfl
mutual
def Tm.NH:Tm→Prop
 | .mk k n a b vs xs cs=>k≠11∧Tm.NHL xs∧Cs.NHL cs
def Tm.NHL:List Tm→Prop
 |[]=>True
 |x::r=>x.NH∧Tm.NHL r
def Cs.NHL:List Cs→Prop
 |[]=>True
 |c::r=>c.NH∧Cs.NHL r
def Cs.NH:Cs→Prop
 | .mk t ws y=>y.NH
end
theorem NHL_iff:∀{l:List Tm},Tm.NHL l↔∀x∈l,x.NH
 |[]=>by simp[Tm.NHL]
 |x::r=>by simp[Tm.NHL,NHL_iff (l:=r)]
theorem Qx9:∀{l:List Cs},Cs.NHL l↔∀x∈l,x.NH
 |[]=>by simp[Cs.NHL]
 |x::r=>by simp[Cs.NHL,Qx9 (l:=r)]
theorem stTL_mem {n:ByteArray}:∀{l:List Tm},n∈Tm.K9 l↔∃x∈l,n∈x.stT
 |[]=>by simp[Tm.K9]
 |x::r=>by simp[Tm.K9,stTL_mem (l:=r)]
theorem cstTL_mem {n:ByteArray}:∀{l:List Cs},n∈Cs.K9 l↔∃x∈l,n∈x.stT
 |[]=>by simp[Cs.K9]
 |x::r=>by simp[Cs.K9,cstTL_mem (l:=r)]
abbrev LS.tok (s:LS) (b:ByteArray) (m:Nat):LS:={ s with tk:=Xj s.tk b (m:Int) }
theorem useE_tk (s:LS) (T:List (ByteArray×Int)) (n:ByteArray):({ s with tk:=T }:LS).Y6 n=((s.Y6 n).1,{ (s.Y6 n).2 with tk:=T }):=by
 unfold LS.Y6;dsimp only;cases lkA s.ct n with
 |none=>rfl
 |some k=>
  dsimp only;split<;> rfl
section
variable (f:Tm→Int→Tm×Int)
end
mutual
def Tm.dp:Tm→Nat
 | .mk k n a b vs xs cs=>(if k=10 then 2 else 1)+max (Tm.dpL xs) (Cs.dpL cs)
def Tm.dpL:List Tm→Nat
 |[]=>0
 |x::r=>max x.dp (Tm.dpL r)
def Cs.dpL:List Cs→Nat
 |[]=>0
 |c::r=>max c.dp (Cs.dpL r)
def Cs.dp:Cs→Nat
 | .mk t ws y=>y.dp
end
mutual
def Tm.nt:Tm→Nat
 | .mk k n a b vs xs cs=>(if k=10 then 1 else 0)+(Tm.ntL xs+Cs.ntL cs)
def Tm.ntL:List Tm→Nat
 |[]=>0
 |x::r=>x.nt+Tm.ntL r
def Cs.ntL:List Cs→Nat
 |[]=>0
 |c::r=>c.nt+Cs.ntL r
def Cs.nt:Cs→Nat
 | .mk t ws y=>y.nt
end
mutual
def Tm.Nx:Tm→Prop
 | .mk k n a b vs xs cs=>(k=1∨k=6∨k=8→∀d,a≠excl d)∧(k=10→∀v∈vs,∀d,v≠excl d)∧Tm.NxL xs∧Cs.NxL cs
def Tm.NxL:List Tm→Prop
 |[]=>True
 |x::r=>x.Nx∧Tm.NxL r
def Cs.NxL:List Cs→Prop
 |[]=>True
 |c::r=>c.Nx∧Cs.NxL r
def Cs.Nx:Cs→Prop
 | .mk t ws y=>(∀v∈ws,∀d,v≠excl d)∧y.Nx
end
theorem NxL_iff:∀{l:List Tm},Tm.NxL l↔∀x∈l,x.Nx
 |[]=>by simp[Tm.NxL]
 |x::r=>by simp[Tm.NxL,NxL_iff (l:=r)]
theorem Sv:∀{l:List Cs},Cs.NxL l↔∀x∈l,x.Nx
 |[]=>by simp[Cs.NxL]
 |x::r=>by simp[Cs.NxL,Sv (l:=r)]
end Go.Proofs.YtjpldhjgehoffaaGreatDoor
namespace Go.Proofs.YtjpldhjgehoffaaGreatDoor
open Classical Go.RowKit
set_option linter.unusedVariables false
set_option linter.unusedSimpArgs false
structure RuR (c:Int) (S O T:List ByteArray) (nt:Nat) (S' O' T':List ByteArray) (c':Int):Prop where
 lo:c≤c'
 hi:c'≤c+nt
 sn:∀n,n∈S'↔n∈S
 ow:∀n,n∈O'↔n∈O∨∃i,c<i∧i≤c'∧n=excl (kNm i)
 st:∀d,d∈T'→d∈T∨∃i,c<i∧i≤c'∧d=kNm i
 sb:∀d,d∈T→d∈T'
theorem RuR.refl (c:Int) (sn ow st:List ByteArray) (nt:Nat):RuR c sn ow st nt sn ow st c:=
 ⟨Int.le_refl _,by omega,fun n=>Iff.rfl,fun n=>⟨.inl,fun h=>h.elim id fun⟨i,h1,h2,_⟩=>by omega⟩,fun d h=>.inl h,fun d h=>h⟩
theorem RuR.append {c c1 c2:Int} {s1 o1 t1 s2 o2 t2 s1' o1' t1' s2' o2' t2':List ByteArray} {n1 n2:Nat} (h1:RuR c s1 o1 t1 n1 s1' o1' t1' c1) (h2:RuR c1 s2 o2 t2 n2 s2' o2' t2' c2):RuR c (s1++s2) (o1++o2) (t1++t2) (n1+n2) (s1'++s2') (o1'++o2') (t1'++t2') c2:=by
 have l1:=h1.lo;have l2:=h2.lo;have g1:=h1.hi;have g2:=h2.hi;refine⟨by omega,by push_cast;omega,fun n=>?_,fun n=>?_,fun d hd=>?_,fun d hd=>?_⟩
 ·rw[List.mem_append,List.mem_append,h1.sn,h2.sn]
 ·rw[List.mem_append,List.mem_append,h1.ow,h2.ow];constructor
  ·rintro((h|⟨i,a,b,e⟩)|(h|⟨i,a,b,e⟩))
   ·exact .inl (.inl h)
   ·exact .inr ⟨i,a,by omega,e⟩
   ·exact .inl (.inr h)
   ·exact .inr ⟨i,by omega,b,e⟩
  ·rintro((h|h)|⟨i,a,b,e⟩)
   ·exact .inl (.inl h)
   ·exact .inr (.inl h)
   ·by_cases hi:i≤c1
    ·exact .inl (.inr ⟨i,a,hi,e⟩)
    ·exact .inr (.inr ⟨i,by omega,b,e⟩)
 ·rcases List.mem_append.1 hd with hd|hd
  ·rcases h1.st d hd with h|⟨i,a,b,e⟩
   ·exact .inl (List.mem_append.2 (.inl h))
   ·exact .inr ⟨i,a,by omega,e⟩
  ·rcases h2.st d hd with h|⟨i,a,b,e⟩
   ·exact .inl (List.mem_append.2 (.inr h))
   ·exact .inr ⟨i,by omega,b,e⟩
 ·rcases List.mem_append.1 hd with hd|hd
  ·exact List.mem_append.2 (.inl (h1.sb d hd))
  ·exact List.mem_append.2 (.inr (h2.sb d hd))
end Go.Proofs.YtjpldhjgehoffaaGreatDoor
