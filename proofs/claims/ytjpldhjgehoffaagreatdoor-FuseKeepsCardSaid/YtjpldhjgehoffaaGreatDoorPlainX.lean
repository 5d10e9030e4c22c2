import Derived.Test.YtjpldhjgehoffaaGreatDoorOwnE
import Derived.Test.YtjpldhjgehoffaaGreatDoorNameO
import Derived.Test.YtjpldhjgehoffaaGreatDoorNameP
namespace Go.Proofs.YtjpldhjgehoffaaGreatDoor
open Go.RowKit
set_option linter.unusedVariables false
set_option linter.unusedSimpArgs false
structure LS where
 ct:List (ByteArray×Int)
 inn:List (ByteArray×ByteArray)
 tk:List (ByteArray×Int)
def lkA {α:Type}:List (ByteArray×α)→ByteArray→Option α
 |[],_=>none
 |(k,v)::r,s=>if k=s then some v else lkA r s
def Xj {α:Type} (l:List (ByteArray×α)) (s:ByteArray) (v:α):List (ByteArray×α):=(s,v)::l.filter fun p=>decide (p.1≠s)
def M4 {α:Type} (l:List (ByteArray×α)) (s:ByteArray):List (ByteArray×α):=l.filter fun p=>decide (p.1≠s)
def LS.c (s:LS) (n:ByteArray):Int:=(lkA s.ct n).getD 0
def LS.Y6 (s:LS) (n:ByteArray):Int×LS:=match lkA s.ct n with
 |none=>(6,s)
 |some k=>if k<1 then (16,s)else (0,{ s with ct:=Xj s.ct n (k-1) })
def LS.left (s:LS):Bool:=s.ct.any (fun p=>decide (0<p.2))|| !s.tk.isEmpty
def LS.Cq (s:LS) (e:Int):Int:=if e=0∧s.left=true then 15 else e
def LS.Uw (s:LS):List Tm→Int×LS
 |[]=>(0,s)
 |x::r=>if x.tk≠1 then (2,s)else if (s.Y6 x.nm).1≠0 then s.Y6 x.nm else (s.Y6 x.nm).2.Uw r
def LS.there (s:LS) (n:ByteArray):Bool:=decide (0<s.c n)||(match lkA s.inn n with|some up=>decide (0<s.c up)|none=>false)
def LS.inc (s:LS) (n:ByteArray):LS:={ s with ct:=Xj s.ct n (s.c n+1) }
def LS.Uz (s:LS) (nm:ByteArray):List ByteArray→Int×LS
 |[]=>(0,s)
 |v::r=>if (lkA s.inn v).getD .empty≠nm then (2,s)else (s.inc v).Uz nm r
def LS.Y4 (s:LS) (nm:ByteArray) (vs:List ByteArray):Int×LS:=if (s.Uz nm vs).1≠0 then s.Uz nm vs else (s.Uz nm vs).2.Y6 nm
def LS.G8 (s:LS) (nm:ByteArray):List ByteArray→Int×LS
 |[]=>(0,s)
 |v::r=>if (lkA s.ct v).isSome then (7,s)else ({ s with ct:=Xj s.ct v 0,inn:=Xj s.inn v nm }:LS).G8 nm r
def excl (b:ByteArray):ByteArray:=⟨#[33]⟩++b
mutual
def Tm.stN:Tm→List ByteArray
 | .mk k n a b vs xs cs=>(if k=1∨k=8∨k=9∨k=10∨k=11 then[a]else[])++(Tm.Y9 xs++Cs.Y9 cs)
def Tm.Y9:List Tm→List ByteArray
 |[]=>[]
 |x::r=>x.stN++Tm.Y9 r
def Cs.Y9:List Cs→List ByteArray
 |[]=>[]
 |c::r=>c.stN++Cs.Y9 r
def Cs.stN:Cs→List ByteArray
 | .mk t ws y=>y.stN
end
mutual
def Tm.stT:Tm→List ByteArray
 | .mk k n a b vs xs cs=>(if k=12∨k=13 then[b]else[])++(Tm.K9 xs++Cs.K9 cs)
def Tm.K9:List Tm→List ByteArray
 |[]=>[]
 |x::r=>x.stT++Tm.K9 r
def Cs.K9:List Cs→List ByteArray
 |[]=>[]
 |c::r=>c.stT++Cs.K9 r
def Cs.stT:Cs→List ByteArray
 | .mk t ws y=>y.stT
end
mutual
def Tm.V4:Tm→List ByteArray
 | .mk k n a b vs xs cs=>(if k=6 then[a]else[])++((if k=11 then[excl b]else[])++(Tm.V5 xs++Cs.V5 cs))
def Tm.V5:List Tm→List ByteArray
 |[]=>[]
 |x::r=>x.V4++Tm.V5 r
def Cs.V5:List Cs→List ByteArray
 |[]=>[]
 |c::r=>c.V4++Cs.V5 r
def Cs.V4:Cs→List ByteArray
 | .mk t ws y=>ws++y.V4
end
def Tm.I8 (t:Tm) (n:ByteArray):Bool:=hasB t.stN n && !hasB t.V4 n
def Tm.askT (t:Tm) (b:ByteArray):Bool:=hasB t.stT b && !hasB t.V4 (excl b)
def Mx (k:Int):Int:=if 1<k then 1 else k
def LS.fst (s:LS) (t:Tm):LS:=⟨(s.ct.filter fun p=>t.I8 p.1).map fun p=>(p.1,Mx p.2),s.inn,s.tk.filter fun p=>t.askT p.1⟩
def LS.rst (s:LS) (t:Tm):LS:=⟨s.ct.map fun p=>(p.1,if t.I8 p.1 then p.2-Mx p.2 else p.2),s.inn,s.tk.filter fun p=>!t.askT p.1⟩
def hdT0:List Tm→Tm
 |x::_=>x
 |[]=>.mk 0 0 .empty .empty [] [] []
mutual
def Tm.lin:Tm→LS→Int
 | .mk k n a b vs xs cs,s=>
  if k=1 then (s.Y6 a).2.Cq (s.Y6 a).1
  else if k=2 then s.Cq 0
  else if k=3∨k=4∨k=5 then (s.Uw xs).2.Cq (s.Uw xs).1
  else if k=12 then
   if (lkA s.tk b)≠some (xs.length:Int)then 6
   else (({ s with tk:=M4 s.tk b }:LS).Uw xs).2.Cq (({ s with tk:=M4 s.tk b }:LS).Uw xs).1
  else if k=6 then
   if xs.length≠2 then 2 else if (lkA s.ct a).isSome then 7
   else Tm.D8 xs [s.fst (hdT0 xs),{ s.rst (hdT0 xs)with ct:=Xj (s.rst (hdT0 xs)).ct a 1 }]
  else if k=7 then
   if xs.length≠1∨(hdT0 xs).tk≠1 then 2 else if s.c (hdT0 xs).nm<1 then 6 else Cs.D8 cs s (hdT0 xs).nm
  else if k=8∨k=9∨k=10∨k=11∨k=13 then
   if xs.length≠1 then 2
   else if k=8 then (if s.there a then Tm.D8 xs [s.inc a]else 6)
   else if k=9 then (if (s.Y6 a).1≠0 then (s.Y6 a).1 else Tm.D8 xs [(s.Y6 a).2])
   else if k=13 then (if (lkA s.tk b).isSome then Tm.D8 xs [{ s with tk:=M4 s.tk b }]else 6)
   else if (s.Y4 a vs).1≠0 then (s.Y4 a vs).1
   else if k=11 then (if (lkA s.tk b).isSome∨b= .empty then 7 else Tm.D8 xs [{ (s.Y4 a vs).2 with tk:=Xj (s.Y4 a vs).2.tk b (vs.length:Int) }])
   else Tm.D8 xs [(s.Y4 a vs).2]
  else 1
def Tm.D8:List Tm→List LS→Int
 |[],_=>0
 |x::r,ss=>if x.lin (ss.headD ⟨[],[],[]⟩)≠0 then x.lin (ss.headD ⟨[],[],[]⟩)else Tm.D8 r ss.tail
def Cs.D8:List Cs→LS→ByteArray→Int
 |[],_,_=>0
 |c::r,s,nm=>if c.lin s nm≠0 then c.lin s nm else Cs.D8 r s nm
def Cs.lin:Cs→LS→ByteArray→Int
 | .mk t ws y,s,nm=>if (s.G8 nm ws).1≠0 then (s.G8 nm ws).1 else y.lin (s.G8 nm ws).2
end
def Fn.lin (f:Fn):Int:=if f.params.Nodup then f.body.lin ⟨f.params.map fun p=>(p,1),[],[]⟩else 7
section
variable {α:Type}
def KN (l:List (ByteArray×α)):Prop:=(l.map (·.1)).Nodup
theorem KN.nil:KN ([]:List (ByteArray×α)):=List.nodup_nil
theorem KN.filter {l:List (ByteArray×α)} (h:KN l) (p:ByteArray×α→Bool):KN (l.filter p):=by
 unfold KN at h⊢;exact(List.filter_sublist.map _).nodup h
theorem KN.put {l:List (ByteArray×α)} (h:KN l) (s:ByteArray) (v:α):KN (Xj l s v):=by
 unfold Xj KN;rw[List.map_cons,List.nodup_cons];refine⟨fun hm=>?_,h.filter _⟩;obtain⟨p,hp,e⟩:=List.mem_map.1 hm;have:=(List.mem_filter.1 hp).2;simp at this;exact this e
theorem Vq (q:ByteArray→Bool):∀(l:List (ByteArray×α)) (s:ByteArray),lkA (l.filter fun p=>q p.1) s=if q s then lkA l s else none
 |[],s=>by simp[lkA]
 |(k,v)::r,s=>by
  have ih:=Vq q r s;by_cases hk:q k=true
  ·rw[List.filter_cons_of_pos (by simpa using hk),lkA,lkA,ih];by_cases e:k=s
   ·subst e;rw[if_pos rfl,if_pos rfl,if_pos hk]
   ·rw[if_neg e,if_neg e]
  ·rw[List.filter_cons_of_neg (by simpa using hk),ih,lkA];by_cases e:k=s
   ·subst e;rw[if_neg hk,if_neg hk]
   ·rw[if_neg e]
theorem K5 (l:List (ByteArray×α)) (s:ByteArray) (v:α) (n:ByteArray):lkA (Xj l s v) n=if s=n then some v else lkA l n:=by
 unfold Xj;rw[lkA,Vq (fun k=>decide (k≠s))];by_cases e:s=n
 ·rw[if_pos e,if_pos e]
 ·rw[if_neg e,if_neg e,if_pos (by simp;exact fun h=>e h.symm)]
theorem lk_del (l:List (ByteArray×α)) (s n:ByteArray):lkA (M4 l s) n=if s=n then none else lkA l n:=by
 unfold M4;rw[Vq (fun k=>decide (k≠s))];by_cases e:s=n
 ·rw[if_pos e,if_neg (by simp;exact e.symm)]
 ·rw[if_neg e,if_pos (by simp;exact fun h=>e h.symm)]
theorem Aj {β:Type} (f:ByteArray→α→β):∀(l:List (ByteArray×α)) (s:ByteArray),lkA (l.map fun p=>(p.1,f p.1 p.2)) s=(lkA l s).map (f s)
 |[],s=>rfl
 |(k,v)::r,s=>by
  rw[List.map_cons,lkA,lkA,Aj f r s];by_cases e:k=s
  ·subst e;rw[if_pos rfl,if_pos rfl];rfl
  ·rw[if_neg e,if_neg e]
theorem lk_mem {l:List (ByteArray×α)} {s:ByteArray} {v:α} (h:lkA l s=some v):(s,v)∈l:=by
 induction l with
 |nil=>simp[lkA]at h
 |cons p r ih=>
  obtain⟨k,u⟩:=p;rw[lkA]at h;by_cases e:k=s
  ·subst e;rw[if_pos rfl]at h;injection h with h;subst h;simp
  ·rw[if_neg e]at h;exact List.mem_cons_of_mem _ (ih h)
theorem mem_lk {l:List (ByteArray×α)} (hn:KN l) {s:ByteArray} {v:α} (h:(s,v)∈l):lkA l s=some v:=by
 induction l with
 |nil=>cases h
 |cons p r ih=>
  obtain⟨k,u⟩:=p;unfold KN at hn;rw[List.map_cons,List.nodup_cons]at hn;rw[lkA];rcases List.mem_cons.1 h with e|h
  ·injection e with e1 e2;subst e1 e2;rw[if_pos rfl]
  ·rw[if_neg (fun e=>hn.1 (by subst e;exact List.mem_map.2 ⟨_,h,rfl⟩)),ih hn.2 h]
end
structure LS.Ok (s:LS):Prop where
 kc:KN s.ct
 kt:KN s.tk
 nn:∀n,0≤s.c n
theorem LS.c_put (s:LS) (n:ByteArray) (v:Int) (m:ByteArray):({ s with ct:=Xj s.ct n v }:LS).c m=if n=m then v else s.c m:=by
 unfold LS.c;rw[K5];by_cases e:n=m
 ·rw[if_pos e,if_pos e];rfl
 ·rw[if_neg e,if_neg e]
theorem LS.Qj2 {s:LS} (h:s.Ok) {n:ByteArray} (h0:(s.Y6 n).1=0):(s.Y6 n).2.Ok∧(∀m,(s.Y6 n).2.c m=if n=m then s.c m-1 else s.c m)∧(s.Y6 n).2.tk=s.tk∧(s.Y6 n).2.inn=s.inn∧(∀m,(lkA (s.Y6 n).2.ct m).isSome=(lkA s.ct m).isSome)∧1≤s.c n:=by
 unfold LS.Y6 at h0⊢;cases hk:lkA s.ct n with
 |none=>rw[hk]at h0;simp at h0
 |some k=>
  rw[hk]at h0;dsimp only at h0⊢;by_cases hk1:k<1
  ·rw[if_pos hk1]at h0;simp at h0
  ·rw[if_neg hk1];have hc:s.c n=k:=by unfold LS.c;rw[hk];rfl
   have hm:∀m,({ s with ct:=Xj s.ct n (k-1) }:LS).c m=if n=m then s.c m-1 else s.c m:=fun m=>by
    rw[LS.c_put];by_cases e:n=m
    ·subst e;rw[if_pos rfl,if_pos rfl,hc]
    ·rw[if_neg e,if_neg e]
   refine⟨⟨h.kc.put _ _,h.kt,fun m=>?_⟩,hm,rfl,rfl,fun m=>?_,by omega⟩
   ·have:=h.nn m;rw[hm];by_cases e:n=m
    ·subst e;rw[if_pos rfl];omega
    ·rw[if_neg e];exact this
   ·dsimp only;rw[K5];by_cases e:n=m
    ·subst e;rw[if_pos rfl,hk];rfl
    ·rw[if_neg e]
def occ (l:List Tm) (n:ByteArray):Int:=((l.filter fun x=>decide (x.nm=n)).length:Int)
theorem occ_cons (x:Tm) (r:List Tm) (n:ByteArray):occ (x::r) n=(if x.nm=n then 1 else 0)+occ r n:=by
 unfold occ;by_cases h:x.nm=n
 ·rw[if_pos h,List.filter_cons_of_pos (by simpa using h),List.length_cons];omega
 ·rw[if_neg h,List.filter_cons_of_neg (by simpa using h)];omega
theorem LS.useL_ok:∀(xs:List Tm) {s:LS} (h:s.Ok) (h0:(s.Uw xs).1=0),(s.Uw xs).2.Ok∧(∀m,(s.Uw xs).2.c m=s.c m-occ xs m)∧(s.Uw xs).2.tk=s.tk
 |[],s,h,_=>⟨h,fun m=>by simp[LS.Uw,occ],rfl⟩
 |x::r,s,h,h0=>by
  rw[LS.Uw]at h0⊢;by_cases h1:x.tk≠1
  ·rw[if_pos h1]at h0;simp at h0
  ·rw[if_neg h1]at h0⊢;by_cases h2:(s.Y6 x.nm).1≠0
   ·rw[if_pos h2]at h0;exact absurd h0 h2
   ·rw[if_neg h2]at h0⊢;obtain⟨g1,g2,g3,-,-,-⟩:=LS.Qj2 h (Decidable.not_not.1 h2);obtain⟨k1,k2,k3⟩:=LS.useL_ok r g1 h0;refine⟨k1,fun m=>?_,k3.trans g3⟩;rw[k2,g2,occ_cons];split<;> omega
theorem LS.inc_ok {s:LS} (h:s.Ok) (n:ByteArray):(s.inc n).Ok∧∀m,(s.inc n).c m=if n=m then s.c m+1 else s.c m:=by
 have hm:∀m,(s.inc n).c m=if n=m then s.c m+1 else s.c m:=fun m=>by
  unfold LS.inc;rw[LS.c_put];by_cases e:n=m
  ·subst e;simp
  ·rw[if_neg e,if_neg e]
 refine⟨⟨h.kc.put _ _,h.kt,fun m=>?_⟩,hm⟩;have:=h.nn m;rw[hm];split<;> omega
def occB (l:List ByteArray) (n:ByteArray):Int:=((l.filter fun x=>decide (x=n)).length:Int)
theorem Qz5 (x:ByteArray) (r:List ByteArray) (n:ByteArray):occB (x::r) n=(if x=n then 1 else 0)+occB r n:=by
 unfold occB;by_cases h:x=n
 ·rw[if_pos h,List.filter_cons_of_pos (by simpa using h),List.length_cons];omega
 ·rw[if_neg h,List.filter_cons_of_neg (by simpa using h)];omega
theorem LS.openL_ok (nm:ByteArray):∀(vs:List ByteArray) {s:LS} (h:s.Ok) (h0:(s.Uz nm vs).1=0),(s.Uz nm vs).2.Ok∧(∀m,(s.Uz nm vs).2.c m=s.c m+occB vs m)∧(s.Uz nm vs).2.tk=s.tk∧(s.Uz nm vs).2.inn=s.inn
 |[],s,h,_=>⟨h,fun m=>by simp[LS.Uz,occB],rfl,rfl⟩
 |v::r,s,h,h0=>by
  rw[LS.Uz]at h0⊢;by_cases h1:(lkA s.inn v).getD .empty≠nm
  ·rw[if_pos h1]at h0;simp at h0
  ·rw[if_neg h1]at h0⊢;obtain⟨g1,g2⟩:=LS.inc_ok h v;obtain⟨k1,k2,k3,k4⟩:=LS.openL_ok nm r g1 h0;refine⟨k1,fun m=>?_,k3,k4⟩;rw[k2,g2,Qz5];split<;> omega
theorem LS.newL_ok (nm:ByteArray):∀(vs:List ByteArray) {s:LS} (h:s.Ok) (h0:(s.G8 nm vs).1=0),(s.G8 nm vs).2.Ok∧(∀m,(s.G8 nm vs).2.c m=s.c m)∧(s.G8 nm vs).2.tk=s.tk
 |[],s,h,_=>⟨h,fun m=>rfl,rfl⟩
 |v::r,s,h,h0=>by
  rw[LS.G8]at h0⊢;by_cases h1:(lkA s.ct v).isSome=true
  ·rw[if_pos h1]at h0;simp at h0
  ·rw[if_neg h1]at h0⊢;have hm:∀m,({ s with ct:=Xj s.ct v 0,inn:=Xj s.inn v nm }:LS).c m=s.c m:=fun m=>by
    show(lkA (Xj s.ct v 0) m).getD 0=s.c m;rw[K5];by_cases e:v=m
    ·subst e;rw[if_pos rfl];unfold LS.c;cases hk:lkA s.ct v with
     |none=>rfl
     |some k=>rw[hk]at h1;simp at h1
    ·rw[if_neg e];rfl
   obtain⟨k1,k2,k3⟩:=LS.newL_ok nm r (s:={ s with ct:=Xj s.ct v 0,inn:=Xj s.inn v nm }) ⟨h.kc.put _ _,h.kt,fun m=>by rw[hm];exact h.nn m⟩ h0;exact⟨k1,fun m=>by rw[k2,hm],k3⟩
theorem LS.fst_c (s:LS) (t:Tm) (n:ByteArray):(s.fst t).c n=if t.I8 n then Mx (s.c n)else 0:=by
 unfold LS.fst LS.c;dsimp only;rw[Aj (fun _ k=>Mx k),Vq t.I8];by_cases h:t.I8 n=true
 ·rw[if_pos h,if_pos h];cases lkA s.ct n<;> rfl
 ·rw[if_neg h,if_neg h];rfl
theorem LS.rst_c (s:LS) (t:Tm) (n:ByteArray):(s.rst t).c n=if t.I8 n then s.c n-Mx (s.c n)else s.c n:=by
 unfold LS.rst LS.c;dsimp only;rw[Aj (fun k v=>if t.I8 k then v-Mx v else v)];cases lkA s.ct n with
 |none=>
  show(0:Int)=_;split<;> rfl
 |some v=>
  show(if t.I8 n then v-Mx v else v)=_;rfl
theorem LS.fst_ok {s:LS} (h:s.Ok) (t:Tm):(s.fst t).Ok:=by
 refine⟨?_,h.kt.filter _,fun n=>?_⟩
 ·unfold LS.fst KN;dsimp only;rw[List.map_map];exact h.kc.filter fun p=>t.I8 p.1
 ·have:=h.nn n;rw[LS.fst_c];unfold Mx;split
  ·split<;> omega
  ·exact Int.le_refl _
theorem LS.rst_ok {s:LS} (h:s.Ok) (t:Tm):(s.rst t).Ok:=by
 refine⟨?_,h.kt.filter _,fun n=>?_⟩
 ·unfold LS.rst KN;dsimp only;rw[List.map_map];exact h.kc
 ·have:=h.nn n;rw[LS.rst_c];unfold Mx;split
  ·split<;> omega
  ·exact this
theorem LS.put_ok {s:LS} (h:s.Ok) (n:ByteArray) {v:Int} (hv:0≤v):({ s with ct:=Xj s.ct n v }:LS).Ok:=⟨h.kc.put _ _,h.kt,fun m=>by
 have:=h.nn m;rw[LS.c_put];split
 ·exact hv
 ·exact this⟩
theorem LS.tk_ok {s:LS} (h:s.Ok) {l:List (ByteArray×Int)} (hl:KN l):({ s with tk:=l }:LS).Ok:=⟨h.kc,hl,h.nn⟩
end Go.Proofs.YtjpldhjgehoffaaGreatDoor
namespace Go.Proofs.YtjpldhjgehoffaaGreatDoor
open Go.RowKit
set_option linter.unusedVariables false
set_option linter.unusedSimpArgs false
theorem digit_byte (u:Nat):∀b∈Lib.decDigits u,48≤b.toNat∧b.toNat≤57:=by
 induction u using Nat.strongRecOn with
 |_ u ih=>
  by_cases h:u<10
  ·rw[Lib.decDigits,dif_pos h];intro b hb;rw[List.mem_singleton.1 hb,UInt8.toNat_ofNat'];omega
  ·rw[Lib.decDigits,dif_neg h];intro b hb;rcases List.mem_append.1 hb with hb|hb
   ·exact ih (u / 10) (by omega) b hb
   ·rw[List.mem_singleton.1 hb,UInt8.toNat_ofNat'];omega
theorem digits_len:∀(n u:Nat),u<10 ^ (n+1)→(Lib.decDigits u).length≤n+1
 |0,u,h=>by
  rw[Lib.decDigits,dif_pos (by omega)];simp
 |n+1,u,h=>by
  by_cases h1:u<10
  ·rw[Lib.decDigits,dif_pos h1];simp
  ·have:=digits_len n (u / 10) (by rw[Nat.pow_succ]at h;omega);rw[Lib.decDigits,dif_neg h1,List.length_append,List.length_singleton];omega
theorem nameB_mk {c:UInt8} {l:List UInt8} (hc:97≤c.toNat∧c.toNat≤122) (hl:∀b∈l,48≤b.toNat∧b.toNat≤57) (h7:l.length≤7):R7 ⟨(c::l).toArray⟩=true:=by
 have hs:(⟨(c::l).toArray⟩:ByteArray).size=l.length+1:=by simp[ByteArray.size]
 unfold R7;rw[Bool.and_eq_true,List.all_eq_true,Bool.and_eq_true,decide_eq_true_eq,decide_eq_true_eq,hs];refine⟨fun j hj=>?_,by omega,by omega⟩;have hg:(⟨(c::l).toArray⟩:ByteArray)[j]? =(c::l)[j]?:=by
  by_cases hj2:j<l.length+1
  ·rw[getElem?_pos _ _ (by rw[hs];exact hj2),List.getElem?_eq_getElem (by simpa using hj2)];rfl
  ·rw[getElem?_neg _ _ (by rw[hs];exact hj2),List.getElem?_eq_none (by simp;omega)]
 rw[hg];rcases j with _|j
 ·simp only[List.getElem?_cons_zero];unfold chOk;simp;omega
 ·rw[List.getElem?_cons_succ];cases hq:l[j]? with
  |none=>rfl
  |some b=>
   have:=hl b (List.mem_of_getElem? hq);simp only;unfold chOk;simp;omega
theorem Qk5 {i:Int} (h:0≤i) (h2:i≤9999999):(∀b∈Lib.itoa i,48≤b.toNat∧b.toNat≤57)∧(Lib.itoa i).length≤7:=by
 unfold Lib.itoa;rw[if_neg (by omega)];exact⟨digit_byte _,digits_len 6 _ (by omega)⟩
theorem vNm_mk (i:Int):vNm i=⟨(118::Lib.itoa i).toArray⟩:=by
 unfold vNm Gj;apply ByteArray.ext;rw[ByteArray.data_append];simp
theorem wNm_mk (i:Int):wNm i=⟨(119::Lib.itoa i).toArray⟩:=by
 unfold wNm Gj;apply ByteArray.ext;rw[ByteArray.data_append];simp
theorem vNm_name {i:Int} (h:0≤i) (h2:i≤9999999):R7 (vNm i)=true:=by
 rw[vNm_mk];exact nameB_mk (by decide) (Qk5 h h2).1 (Qk5 h h2).2
theorem wNm_name {i:Int} (h:0≤i) (h2:i≤9999999):R7 (wNm i)=true:=by
 rw[wNm_mk];exact nameB_mk (by decide) (Qk5 h h2).1 (Qk5 h h2).2
theorem vNm_ne_wNm (i j:Int):vNm i≠wNm j:=by
 rw[vNm_mk,wNm_mk];intro h;have:=congrArg (fun x:ByteArray=>x.data.toList) h;simp at this
theorem wNm_inj {a b:Int} (ha:0≤a) (hb:0≤b) (h:wNm a=wNm b):a=b:=itoaB_inj ha hb (append_left_inj h)
theorem twB_of {l:List ByteArray} (h:l.Nodup):twB l=false:=by
 refine twB_no fun j hj x hx=>?_
 cases hq:hasB (l.take j) x with
 |false=>rfl
 |true=>
  exfalso;have h1:=X3.1 hq;obtain⟨i,hi,e⟩:=List.mem_take_iff_getElem.1 h1;have h2:=List.getElem?_eq_some_iff.1 hx;obtain⟨h3,h4⟩:=h2;have:=(List.getElem_inj h).1 (e.trans h4.symm);omega
theorem seqV_bad {c:Int} {n:Nat} (h:0≤c) (h2:c+n≤9999999):badB (Lj c n)=false:=by
 unfold badB;rw[List.any_eq_false];intro s hs;unfold Lj at hs;obtain⟨i,hi,rfl⟩:=List.mem_map.1 hs;have:=List.mem_range.1 hi;rw[vNm_name (by omega) (by omega)];simp
theorem Gw {f:Jj} {k n:Int} {a b:ByteArray} {vs names:List ByteArray} {xs:List Tm} {cs:List Cs} {deep:Int} (h1:deep≤24) (h2:1≤k) (h3:k≤7) (h4:X6 k xs.length cs.length=false) (h5:J9 f k n a names xs.length=0)
  (h6:Tm.J5 f k a names deep 0 xs=0) (h7:k=7→cs.length≠0∧cs.length≤5∧Cs.J5 f names deep [] cs=0):(Tm.mk k n a b vs xs cs).wrong f names deep=0:=by
 rw[Tm.wrong,if_neg (by omega),if_neg (by omega),h4,if_neg (by simp),if_neg (by rw[h5];simp),if_neg (by rw[h6];simp)];by_cases hk:k=7
 ·obtain⟨g1,g2,g3⟩:=h7 hk;rw[if_neg (by omega),if_neg (by omega),g3]
 ·rw[if_pos hk]
theorem Y0 {f:Jj} {k:Int} {a:ByteArray} {names:List ByteArray} {deep:Int} {i:Nat} {x:Tm} {r:List Tm}:Tm.J5 f k a names deep i (x::r)=0↔x.wrong f (if k=6∧i=1 then names++[a]else names) (deep+1)=0∧Tm.J5 f k a names deep (i+1) r=0:=by
 rw[Tm.J5];by_cases h:x.wrong f (if k=6∧i=1 then names++[a]else names) (deep+1)=0
 ·rw[if_neg (fun e=>e h)];exact⟨fun e=>⟨h,e⟩,fun e=>e.2⟩
 ·rw[if_pos h];exact⟨fun e=>absurd e h,fun e=>absurd e.1 h⟩
theorem Cz {f:Jj} {names:List ByteArray} {deep:Int} {had:List Int} {t:Int} {ws:List ByteArray} {y:Tm} {r:List Cs}:Cs.J5 f names deep had (.mk t ws y::r)=0↔
  ((¬(t<0∨9<t))∧had.contains t=false∧twB ws=false∧badB ws=false∧ws.length≤6∧y.wrong f (names++ws) (deep+1)=0)∧Cs.J5 f names deep (t::had) r=0:=by
 have key:Cs.wrongC f names deep had (.mk t ws y)=0↔((¬(t<0∨9<t))∧had.contains t=false∧twB ws=false∧badB ws=false∧ws.length≤6∧y.wrong f (names++ws) (deep+1)=0):=by
  rw[Cs.wrongC];by_cases g1:t<0∨9<t
  ·rw[if_pos g1];exact⟨fun e=>by omega,fun e=>absurd g1 e.1⟩
  rw[if_neg g1];by_cases g2:(had.contains t||twB ws||badB ws)=true
  ·rw[if_pos g2];refine⟨fun e=>by omega,fun e=>?_⟩;rw[e.2.1,e.2.2.1,e.2.2.2.1]at g2;simp at g2
  rw[if_neg g2];simp only[Bool.or_eq_true,not_or,Bool.not_eq_true]at g2;by_cases g3:6<ws.length
  ·rw[if_pos g3];exact⟨fun e=>by omega,fun e=>absurd e.2.2.2.2.1 (by omega)⟩
  rw[if_neg g3];exact⟨fun e=>⟨g1,g2.1.1,g2.1.2,g2.2,by omega,e⟩,fun e=>e.2.2.2.2.2⟩
 rw[Cs.J5];by_cases h:Cs.wrongC f names deep had (.mk t ws y)=0
 ·rw[if_neg (fun e=>e h)];exact⟨fun e=>⟨key.1 h,e⟩,fun e=>e.2⟩
 ·rw[if_pos h];exact⟨fun e=>absurd e h,fun e=>absurd (key.2 e.1) h⟩
theorem nowP_add (ps:Ps) (p:ByteArray×ByteArray) (s:ByteArray):nowP (ps++[p]) s=if p.1=s then p.2 else nowP ps s:=by
 unfold nowP;rw[List.foldl_append];rfl
def RnR (names names':List ByteArray) (ps:Ps):Prop:=∀s∈names,nowP ps s∈names'
theorem RnR.one {names names':List ByteArray} {ps:Ps} (h:RnR names names' ps) (a v:ByteArray):RnR (names++[a]) (names'++[v]) (ps++[(a,v)]):=fun s hs=>by
 rw[nowP_add];split
 ·exact List.mem_append_right _ (List.mem_singleton.2 rfl)
 ·rename_i hne;rcases List.mem_append.1 hs with hs|hs
  ·exact List.mem_append_left _ (h s hs)
  ·exact absurd (List.mem_singleton.1 hs).symm hne
theorem RnR.more {names names':List ByteArray} {ps:Ps} (h:RnR names names' ps):∀(ws vs:List ByteArray),ws.length=vs.length→RnR (names++ws) (names'++vs) (ps++ws.zip vs):=by
 intro ws;induction ws generalizing names names' ps with
 |nil=>
  intro vs hl;rcases vs with _|⟨v,vs⟩
  ·simpa using h
  ·simp at hl
 |cons w ws ih=>
  intro vs hl;rcases vs with _|⟨v,vs⟩
  ·simp at hl
  ·have:=ih (h.one w v) vs (by simpa using hl);simpa[List.append_assoc]using this
theorem rn_wrong (A:Jj):∀(d:Nat) (t:Tm) (names names':List ByteArray) (ps:Ps) (c deep:Int),t.Rt d→t.wrong A names deep=0→0≤c→c+t.bd.length≤9999999→RnR names names' ps→(t.rn ps c).1.wrong A names' deep=0:=by
 intro d;induction d with
 |zero=>intro t _ _ _ _ _ h;exact h.elim
 |succ d ih=>
 intro t names names' ps c deep hR hw h0 hb hr;have hbd:=bd_rn (d+1) t ps c hR h0 (by omega);obtain⟨k,n,a,b,vs,xs,cs⟩:=t;have hR':=hR;obtain⟨hk,hmany,_,hx,hc⟩:=hR';obtain⟨h1,h2,h3,h4,h5,h6,h7⟩:=Gv hw;rw[Tm.rn];by_cases hk1:k=1
 ·subst hk1;rw[if_pos rfl];unfold X6 at hmany;simp at hmany;obtain⟨rfl,rfl⟩:=hmany;refine Gw h1 h2 h3 h4 ?_ rfl (fun h=>by omega);unfold J9 at h5⊢;rw[if_pos rfl]at h5⊢;split at h5
  ·rename_i hh;rw[if_pos (X3.2 (hr a (X3.1 hh)))]
  ·cases h5
 rw[if_neg hk1];by_cases hk6:k=6
 ·obtain⟨x,y,rfl,rfl⟩:=rt_let hR hk6;subst hk6;have hl:(Tm.mk 6 n a b vs [x,y] []).bd.length=x.bd.length+(1+y.bd.length):=by simp[Tm.bd,Tm.bdL,Cs.bdL];omega
  rw[hl]at hb
  push_cast at hb
  rw[Y0,Y0,if_neg (by omega),if_pos (by omega)]at h6;obtain⟨_,e2⟩:=bd_rn d x ps c (hx x (by simp)) h0 (by omega);have hw1:wr (c+x.bd.length+1)=c+x.bd.length+1:=wr_of (by omega) (by omega);have g1:=ih x names names' ps c (deep+1) (hx x (by simp)) h6.1 h0 (by omega) hr;have g2:=ih y (names++[a]) (names'++[vNm (c+x.bd.length+1)]) (ps++[(a,vNm (c+x.bd.length+1))]) (c+x.bd.length+1) (deep+1) (hx y (by simp)) h6.2.1 (by omega) (by omega) (hr.one a _);have hE:Tm.rns 6 a ps 0 [x,y] a c=([(x.rn ps c).1,(y.rn (ps++[(a,vNm (c+x.bd.length+1))]) (c+x.bd.length+1)).1],vNm (c+x.bd.length+1),(y.rn (ps++[(a,vNm (c+x.bd.length+1))]) (c+x.bd.length+1)).2):=by simp[Tm.rns,e2,hw1]
  rw[hE,Cs.rnL];dsimp only;refine Gw h1 h2 h3 rfl ?_ ?_ (fun h=>by omega)
  ·unfold J9;rw[if_neg (by omega),if_neg (by omega),if_neg (by omega),if_neg (by omega),if_pos rfl,vNm_name (by omega) (by omega)];rfl
  ·rw[Y0,Y0,if_neg (by omega),if_pos (by omega)];exact⟨g1,g2,rfl⟩
 ·have hL:∀(ys:List Tm) (i:Nat) (nm:ByteArray) (c:Int),(∀y∈ys,y∈xs)→Tm.J5 A k a names deep i ys=0→0≤c→c+(Tm.bdL ys).length≤9999999→(∀a',Tm.J5 A k a' names' deep i (Tm.rns k a ps i ys nm c).1=0)∧(Tm.rns k a ps i ys nm c).1.length=ys.length∧(Tm.rns k a ps i ys nm c).2.2=c+(Tm.bdL ys).length:=by
   intro ys;induction ys with
   |nil=>intro i nm c _ _ _ _;exact⟨fun _=>rfl,rfl,by simp[Tm.rns,Tm.bdL]⟩
   |cons y r ih2=>
    intro i nm c hm hwr h0 hb;rw[Tm.bdL,List.length_append]at hb⊢
    push_cast at hb⊢
    rw[Y0,if_neg (fun h=>hk6 h.1)]at hwr;have hy:=hx y (hm y (List.mem_cons_self ..));obtain⟨_,e2⟩:=bd_rn d y ps c hy h0 (by omega);obtain⟨g1,g2,g3⟩:=ih2 (i+1) nm (c+y.bd.length) (fun z hz=>hm z (List.mem_cons_of_mem _ hz)) hwr.2 (by omega) (by omega);rw[Tm.rns,if_neg fun h=>hk6 h.1,e2];refine⟨fun a'=>?_,by simp[g2],by dsimp only;rw[g3];omega⟩;rw[Y0,if_neg (fun h=>hk6 h.1)];exact⟨ih y names names' ps c (deep+1) hy hwr.1 h0 (by omega) hr,g1 a'⟩
  have hC:k=7→∀(ys:List Cs) (had:List Int) (c:Int),(∀y∈ys,y∈cs)→Cs.J5 A names deep had ys=0→0≤c→c+(Cs.bdL ys).length≤9999999→Cs.J5 A names' deep had (Cs.rnL ys ps c).1=0∧(Cs.rnL ys ps c).1.length=ys.length:=by
   intro hk7 ys;induction ys with
   |nil=>intro had c _ _ _ _;exact⟨rfl,rfl⟩
   |cons y r ih2=>
    intro had c hm hwr h0 hb;have hy:=hm y (List.mem_cons_self ..);obtain⟨t,ws,y⟩:=y;rw[Cs.bdL,Cs.bd,List.length_append,List.length_append]at hb
    push_cast at hb
    rw[Cz]at hwr;obtain⟨⟨w1,w2,w3,w4,w5,w6⟩,w7⟩:=hwr;obtain⟨e1,e2⟩:=Px ws c h0 (by omega);obtain⟨_,e3⟩:=bd_rn d y (ps++ws.zip (J2 ws c)) (c+ws.length) (hc _ hy).2 (by omega) (by omega);obtain⟨g1,g2⟩:=ih2 (t::had) (c+ws.length+y.bd.length) (fun z hz=>hm z (List.mem_cons_of_mem _ hz)) w7 (by omega) (by omega);have g3:=ih y (names++ws) (names'++J2 ws c) (ps++ws.zip (J2 ws c)) (c+ws.length) (deep+1) (hc _ hy).2 w6 (by omega) (by omega) (hr.more ws _ (Wx ws c).symm);rw[Cs.rnL,Cs.rn,e2,e3];refine⟨?_,by simp[g2]⟩;dsimp only;rw[Cz];exact⟨⟨w1,w2,by rw[e1];exact twB_of (seqV_nodup h0 _),by rw[e1];exact seqV_bad h0 (by omega),by rw[Wx];exact w5,g3⟩,g1⟩
  have hl:(Tm.mk k n a b vs xs cs).bd.length=(Tm.bdL xs).length+(Cs.bdL cs).length:=by simp[Tm.bd,hk6]
  rw[hl]at hb
  push_cast at hb
  obtain⟨g1,g2,g3⟩:=hL xs 0 a c (fun _ h=>h) h6 h0 (by omega);have hno:=rns_no hk6 a ps xs 0 a c;rw[hno,g3];by_cases hk7:k=7
  ·obtain⟨q1,q2,q3⟩:=h7 hk7;obtain⟨g4,g5⟩:=hC hk7 cs [] (c+(Tm.bdL xs).length) (fun _ h=>h) q3 (by omega) (by omega);refine Gw h1 h2 h3 (by rw[g2,g5];exact h4) ?_ (g1 a) (fun _=>⟨by rw[g5];exact q1,by rw[g5];exact q2,g4⟩);subst hk7;rfl
  ·have hcs:cs=[]:=by
    unfold X6 at hmany;simp only[Bool.or_eq_false_iff,Bool.and_eq_false_iff,decide_eq_false_iff_not]at hmany;rcases hmany.2 with h|h
    ·exact absurd hk7 h
    ·exact List.eq_nil_of_length_eq_zero (by omega)
   subst hcs;refine Gw h1 h2 h3 (by rw[g2];exact h4) ?_ (g1 a) (fun h=>absurd h hk7);rw[g2];unfold J9 at h5⊢;rw[if_neg hk1]at h5⊢;exact h5
theorem var_wrong {A:Jj} {names names':List ByteArray} {deep deep':Int} {t:Tm} {d:Nat} (hR:t.Rt d) (h1:t.tk=1) (hw:t.wrong A names deep=0) (hn:∀s∈names,s∈names') (hd:deep'≤24):t.wrong A names' deep'=0:=by
 obtain⟨k,n,a,b,vs,xs,cs⟩:=t;simp only[Tm.tk]at h1;subst h1;rcases d with _|d
 ·exact hR.elim
 obtain⟨_,hmany,_⟩:=hR;obtain⟨_,h2,h3,h4,h5,_⟩:=Gv hw;unfold X6 at hmany;simp at hmany;obtain⟨rfl,rfl⟩:=hmany;refine Gw hd h2 h3 h4 ?_ rfl (fun h=>by omega);unfold J9 at h5⊢;rw[if_pos rfl]at h5⊢;split at h5
 ·rename_i hh;rw[if_pos (X3.2 (hn a (X3.1 hh)))]
 ·cases h5
theorem varT_wrong {A:Jj} {names:List ByteArray} {deep:Int} {s:ByteArray} (h:s∈names) (hd:deep≤24):(varT s).wrong A names deep=0:=by
 refine Gw hd (by omega) (by omega) rfl ?_ rfl (fun h=>by omega);unfold J9;rw[if_pos rfl,if_pos (X3.2 h)]
theorem pl_cnt:∀(d:Nat) (t:Tm) (c:Int),t.Rt d→0≤c→c+t.sz<9223372036854775807→c≤(t.pl c).2∧(t.pl c).2+1≤c+t.sz:=by
 intro d;induction d with
 |zero=>intro t _ h;exact h.elim
 |succ d ih=>
 intro t c hR h0 hb;obtain⟨k,n,a,b,vs,xs,cs⟩:=t;obtain⟨_,_,_,hx,hc⟩:=hR;simp only[Tm.sz]at hb⊢
 push_cast at hb⊢
 have hA:∀(ys:List Tm) (c:Int),(∀y∈ys,y∈xs)→0≤c→c+1+(Tm.szs ys:Nat)<9223372036854775807→c≤(Tm.ats ys c).2.2∧(Tm.ats ys c).2.2≤c+(Tm.szs ys:Nat):=by
  intro ys;induction ys with
  |nil=>intro c _ _ _;simp[Tm.ats,Tm.szs]
  |cons y r ih2=>
   intro c hm h0 hb;simp only[Tm.szs]at hb⊢
   push_cast at hb⊢
   have hsz:=sz_pos y;have hw:wr (c+1)=c+1:=wr_of (by omega) (by omega);rw[Tm.ats];split
   ·have:=ih2 c (fun z hz=>hm z (List.mem_cons_of_mem _ hz)) h0 (by omega);dsimp only;omega
   ·have h2:=ih y (c+1) (hx y (hm y (List.mem_cons_self ..))) (by omega) (by omega);rw[hw];have:=ih2 (y.pl (c+1)).2 (fun z hz=>hm z (List.mem_cons_of_mem _ hz)) (by omega) (by omega);dsimp only;omega
 have hL:∀(ys:List Tm) (c:Int),(∀y∈ys,y∈xs)→0≤c→c+(Tm.szs ys:Nat)<9223372036854775807→c≤(Tm.plL ys c).2∧(Tm.plL ys c).2≤c+(Tm.szs ys:Nat):=by
  intro ys;induction ys with
  |nil=>intro c _ _ _;simp[Tm.plL,Tm.szs]
  |cons y r ih2=>
   intro c hm h0 hb;simp only[Tm.szs]at hb⊢
   push_cast at hb⊢
   have h1:=ih y c (hx y (hm y (List.mem_cons_self ..))) h0 (by omega);have:=ih2 (y.pl c).2 (fun z hz=>hm z (List.mem_cons_of_mem _ hz)) (by omega) (by omega);rw[Tm.plL];dsimp only;omega
 have hC:∀(ys:List Cs) (c:Int),(∀y∈ys,y∈cs)→0≤c→c+(Cs.szs ys:Nat)<9223372036854775807→c≤(Cs.plL ys c).2∧(Cs.plL ys c).2≤c+(Cs.szs ys:Nat):=by
  intro ys;induction ys with
  |nil=>intro c _ _ _;simp[Cs.plL,Cs.szs]
  |cons y r ih2=>
   intro c hm h0 hb;have hy:=hc y (hm y (List.mem_cons_self ..));obtain⟨t,ws,y⟩:=y;simp only[Cs.szs,Cs.sz]at hb⊢
   push_cast at hb⊢
   have h1:=ih y c hy.2 h0 (by omega);have:=ih2 (y.pl c).2 (fun z hz=>hm z (List.mem_cons_of_mem _ hz)) (by omega) (by omega);rw[Cs.plL,Cs.pl];dsimp only;omega
 rw[Tm.pl];split
 ·have:=hA xs c (fun _ h=>h) h0 (by omega);dsimp only;omega
 split
 ·have:=hL xs c (fun _ h=>h) h0 (by omega);dsimp only;omega
 split
 ·have h1:=hA xs c (fun _ h=>h) h0 (by omega);have:=hC cs (Tm.ats xs c).2.2 (fun _ h=>h) (by omega) (by omega);dsimp only;omega
 ·dsimp only;omega
theorem pl_wrong (A:Jj):∀(d:Nat) (t:Tm) (names names':List ByteArray) (c deep deep':Int),t.Rt d→t.wrong A names deep=0→(∀s∈names,s∈names')→0≤c→c+t.sz≤9999999→deep'≤24-7 * (d:Int)→(t.pl c).1.wrong A names' deep'=0:=by
 intro d;induction d with
 |zero=>intro t _ _ _ _ _ h;exact h.elim
 |succ d ih=>
 intro t names names' c deep deep' hR hw hn h0 hb hd;have hR2:=hR;obtain⟨k,n,a,b,vs,xs,cs⟩:=t;obtain⟨hk,hmany,h6c,hx,hc⟩:=hR;obtain⟨h1,h2,h3,h4,h5,h6,h7⟩:=Gv hw;simp only[Tm.sz]at hb
 push_cast at hb hd
 -- what lies around
 have hA:∀(ys:List Tm) (i:Nat) (c:Int) (names':List ByteArray) (deep':Int),(∀y∈ys,y∈xs)→k≠6→Tm.J5 A k a names deep i ys=0→(∀s∈names,s∈names')→0≤c→c+1+(Tm.szs ys:Nat)≤9999999→deep'+ys.length≤24-7 * (d:Int)→
   ∀inner:Tm,(∀(names'':List ByteArray) (deep'':Int),(∀s∈names',s∈names'')→deep''≤deep'+ys.length→(∀(x:Tm),x∈(Tm.ats ys c).1→∀deep≤24,x.wrong A names'' deep=0)→inner.wrong A names'' deep''=0)→(around (Tm.ats ys c).2.1 inner).wrong A names' deep'=0:=by
  intro ys;induction ys with
  |nil=>intro i c names' deep' _ _ _ _ _ _ _ inner hi;exact hi names' deep' (fun _ h=>h) (by simp) (fun x h=>by simp[Tm.ats]at h)
  |cons y r ih2=>
   intro i c names' deep' hm hk6 hwr hn h0 hb hd inner hi;simp only[Tm.szs]at hb;rw[List.length_cons]at hd hi
   push_cast at hb hd hi
   rw[Y0,if_neg (fun h=>hk6 h.1)]at hwr;have hy:=hx y (hm y (List.mem_cons_self ..));have hsz:=sz_pos y;rw[Tm.ats]at hi⊢;by_cases hv:y.tk=1
   ·rw[if_pos hv]at hi⊢;dsimp only at hi⊢;refine ih2 (i+1) c names' deep' (fun z hz=>hm z (List.mem_cons_of_mem _ hz)) hk6 hwr.2 hn h0 (by omega) (by omega) inner fun names'' deep'' g1 g2 g3=>?_
    refine hi names'' deep'' g1 (by omega) fun x hx' e he=>?_
    rcases List.mem_cons.1 hx' with rfl|hx'
    ·exact var_wrong hy hv hwr.1 (fun s hs=>g1 s (hn s hs)) he
    ·exact g3 x hx' e he
   ·rw[if_neg hv]at hi⊢;have hw1:wr (c+1)=c+1:=wr_of (by omega) (by omega);rw[hw1]at hi⊢;have hcn:=pl_cnt d y (c+1) hy (by omega) (by omega);dsimp only at hi⊢;rw[around];have hy1:=ih y names names' (c+1) (deep+1) (deep'+1) hy hwr.1 hn (by omega) (by omega) (by omega);refine Gw (by omega) (by omega) (by omega) rfl ?_ ?_ (fun h=>by omega)
    ·unfold J9;rw[if_neg (by omega),if_neg (by omega),if_neg (by omega),if_neg (by omega),if_pos rfl,wNm_name (by omega) (by omega)];rfl
    ·rw[Y0,Y0,if_neg (by omega),if_pos (by omega)];refine⟨hy1,?_,rfl⟩;refine ih2 (i+1) (y.pl (c+1)).2 (names'++[wNm (c+1)]) (deep'+1) (fun z hz=>hm z (List.mem_cons_of_mem _ hz)) hk6 hwr.2 (fun s hs=>List.mem_append_left _ (hn s hs)) (by omega) (by omega) (by omega) inner fun names'' deep'' g1 g2 g3=>?_
     refine hi names'' deep'' (fun s hs=>g1 s (List.mem_append_left _ hs)) (by omega) fun x hx' e he=>?_
     rcases List.mem_cons.1 hx' with rfl|hx'
     ·exact varT_wrong (g1 _ (List.mem_append_right _ (List.mem_singleton.2 rfl))) he
     ·exact g3 x hx' e he
 have hall:∀(names'':List ByteArray) (a':ByteArray) (deep:Int) (l:List Tm) (i:Nat),k≠6→(∀x∈l,∀deep≤24,x.wrong A names'' deep=0)→deep+1≤24→Tm.J5 A k a' names'' deep i l=0:=by
  intro names'' a' deep l;induction l with
  |nil=>intro _ _ _ _;rfl
  |cons x r ih2=>
   intro i hk6 hl hd;rw[Y0,if_neg (fun h=>hk6 h.1)];exact⟨hl x (List.mem_cons_self ..) _ hd,ih2 (i+1) hk6 (fun z hz=>hl z (List.mem_cons_of_mem _ hz)) hd⟩
 have hlen:=ats_len xs c;have hxl:(xs.length:Int)≤6:=by omega
 rw[Tm.pl];by_cases k3:k=3∨k=4∨k=5
 ·rw[if_pos k3];have hcs:cs=[]:=by
   unfold X6 at hmany;simp only[Bool.or_eq_false_iff,Bool.and_eq_false_iff,decide_eq_false_iff_not]at hmany;rcases hmany.2 with h|h
   ·exact absurd (show k≠7 by omega) h
   ·exact List.eq_nil_of_length_eq_zero (by omega)
  subst hcs;refine hA xs 0 c names' deep' (fun _ h=>h) (by omega) h6 hn h0 (by omega) (by omega) _ fun names'' deep'' g1 g2 g3=>?_
  refine Gw (by omega) h2 h3 (by rw[hlen];exact h4) ?_ (hall names'' a deep'' _ 0 (by omega) g3 (by omega)) (fun h=>by omega);rw[hlen];unfold J9 at h5⊢;rw[if_neg (by omega)]at h5⊢;exact h5
 rw[if_neg k3];by_cases k6:k=6
 ·rw[if_pos k6];obtain⟨x,y,rfl,rfl⟩:=rt_let hR2 k6;subst k6;rw[Y0,Y0,if_neg (by omega),if_pos (by omega)]at h6;simp only[Tm.szs]at hb
  push_cast at hb
  have hcn:=pl_cnt d x c (hx x (by simp)) h0 (by omega);have g1:=ih x names names' c (deep+1) (deep'+1) (hx x (by simp)) h6.1 hn h0 (by omega) (by omega);have g2:=ih y (names++[a]) (names'++[a]) (x.pl c).2 (deep+1) (deep'+1) (hx y (by simp)) h6.2.1 (fun s hs=>by
   rcases List.mem_append.1 hs with h|h
   ·exact List.mem_append_left _ (hn s h)
   ·exact List.mem_append_right _ h) (by omega) (by omega) (by omega)
  rw[Tm.plL,Tm.plL,Tm.plL];dsimp only;refine Gw (by omega) (by omega) (by omega) rfl ?_ ?_ (fun h=>by omega)
  ·unfold J9 at h5⊢;rw[if_neg (by omega),if_neg (by omega),if_neg (by omega),if_neg (by omega),if_pos rfl]at h5⊢;exact h5
  ·rw[Y0,Y0,if_neg (by omega),if_pos (by omega)];exact⟨g1,g2,rfl⟩
 rw[if_neg k6];by_cases k7:k=7
 ·rw[if_pos k7];obtain⟨q1,q2,q3⟩:=h7 k7;have hxl1:xs.length=1:=by
   subst k7;unfold X6 at hmany;simp at hmany;exact hmany
  have hcn:0≤(Tm.ats xs c).2.2∧(Tm.ats xs c).2.2≤c+(Tm.szs xs:Nat):=by
   match xs,hxl1,hx with
   |[x],_,hx=>
    have hsz:=sz_pos x;simp only[Tm.szs]at hb⊢
    push_cast at hb⊢
    rw[Tm.ats];split
    ·dsimp only;rw[Tm.ats];dsimp only;omega
    ·have hw1:wr (c+1)=c+1:=wr_of (by omega) (by omega);have:=pl_cnt d x (c+1) (hx x (by simp)) (by omega) (by omega);rw[hw1];dsimp only;rw[Tm.ats];dsimp only;omega
  have hC:∀(ys:List Cs) (had:List Int) (c:Int) (names'':List ByteArray) (deep'':Int),(∀y∈ys,y∈cs)→Cs.J5 A names deep had ys=0→(∀s∈names,s∈names'')→0≤c→c+(Cs.szs ys:Nat)≤9999999→deep''+1≤24-7 * (d:Int)→Cs.J5 A names'' deep'' had (Cs.plL ys c).1=0∧(Cs.plL ys c).1.length=ys.length:=by
   intro ys;induction ys with
   |nil=>intro had c _ _ _ _ _ _ _;exact fun _=>⟨rfl,rfl⟩
   |cons y r ih2=>
    intro had c names'' deep'' hm hwr hn h0 hb hd;have hy:=hc y (hm y (List.mem_cons_self ..));obtain⟨t,ws,y⟩:=y;simp only[Cs.szs,Cs.sz]at hb
    push_cast at hb
    rw[Cz]at hwr;obtain⟨⟨w1,w2,w3,w4,w5,w6⟩,w7⟩:=hwr;have hcn:=pl_cnt d y c hy.2 h0 (by omega);obtain⟨g1,g2⟩:=ih2 (t::had) (y.pl c).2 names'' deep'' (fun z hz=>hm z (List.mem_cons_of_mem _ hz)) w7 hn (by omega) (by omega) hd;have g3:=ih y (names++ws) (names''++ws) c (deep+1) (deep''+1) hy.2 w6 (fun s hs=>by
     rcases List.mem_append.1 hs with h|h
     ·exact List.mem_append_left _ (hn s h)
     ·exact List.mem_append_right _ h) h0 (by omega) hd
    rw[Cs.plL,Cs.pl];refine⟨?_,by simp[g2]⟩;dsimp only;rw[Cz];exact⟨⟨w1,w2,w3,w4,w5,g3⟩,g1⟩
  refine hA xs 0 c names' deep' (fun _ h=>h) (by omega) h6 hn h0 (by omega) (by omega) _ fun names'' deep'' g1 g2 g3=>?_
  obtain⟨g4,g5⟩:=hC cs [] (Tm.ats xs c).2.2 names'' deep'' (fun _ h=>h) q3 (fun s hs=>g1 s (hn s hs)) (by omega) (by omega) (by omega);have h8:=hall names'' .empty deep'' (Tm.ats xs c).1 0 (by omega) g3 (by omega);subst k7;exact Gw (by omega) (by omega) (by omega) (by rw[hlen,g5];exact h4) rfl h8 (fun _=>⟨by rw[g5];exact q1,by rw[g5];exact q2,g4⟩)
 ·rw[if_neg k7];have hk12:k=1∨k=2:=by omega
  rcases hk12 with rfl|rfl
  ·exact var_wrong (d:=d+1) hR2 rfl hw hn (by omega)
  ·have hnil:xs=[]∧cs=[]:=by
    unfold X6 at hmany;simp at hmany;exact hmany
   obtain⟨rfl,rfl⟩:=hnil;exact Gw (by omega) h2 h3 h4 h5 rfl (fun h=>by omega)
def RnEv (names:List ByteArray) (ps:Ps) (c:Int) (env env':Env):Prop:=∀s∈names,(∃i,1≤i∧i≤c∧nowP ps s=vNm i)∧envVal env' (nowP ps s)=envVal env s
theorem Sq (a:ByteArray) (u:Vl) (env:Env) (s:ByteArray):envVal ((a,u)::env) s=if a=s then u else envVal env s:=by
 unfold envVal;rw[H9];split<;> rfl
theorem RnEv.mono {names:List ByteArray} {ps:Ps} {c e:Int} {env env':Env} (h:RnEv names ps c env env') (he:c≤e):RnEv names ps e env env':=fun s hs=>by
 obtain⟨⟨i,h1,h2,h3⟩,h4⟩:=h s hs;exact⟨⟨i,h1,by omega,h3⟩,h4⟩
theorem RnEv.one {names:List ByteArray} {ps:Ps} {c:Int} {env env':Env} (h:RnEv names ps c env env') (h0:0≤c) (a:ByteArray) (u:Vl):RnEv (names++[a]) (ps++[(a,vNm (c+1))]) (c+1) ((a,u)::env) ((vNm (c+1),u)::env'):=fun s hs=>by
 rw[nowP_add,Sq,Sq];by_cases e:a=s
 ·rw[if_pos e,if_pos e,if_pos rfl];exact⟨⟨c+1,by omega,by omega,rfl⟩,rfl⟩
 ·rw[if_neg e,if_neg e];have hs':s∈names:=(List.mem_append.1 hs).elim id fun h=>absurd (List.mem_singleton.1 h).symm e
  obtain⟨⟨i,h1,h2,h3⟩,h4⟩:=h s hs';rw[if_neg (fun q=>by
   rw[h3]at q;have:=vNm_inj (by omega) (by omega) q;omega)]
  exact⟨⟨i,h1,by omega,h3⟩,h4⟩
theorem Qv3 (w:ByteArray) (v:Vl) (ws:List ByteArray) (vs:List Vl) (env:Env):Oz (w::ws) (v::vs) env=Oz ws vs ((w,v)::env):=by
 unfold Oz;rw[List.zip_cons_cons,List.reverse_cons,List.append_assoc];rfl
theorem RnEv.more:∀{ws:List ByteArray} {vs:List Vl} {names:List ByteArray} {ps:Ps} {c:Int} {env env':Env},RnEv names ps c env env'→0≤c→c+ws.length<9223372036854775807→ws.length=vs.length→
  RnEv (names++ws) (ps++ws.zip (J2 ws c)) (c+ws.length) (Oz ws vs env) (Oz (J2 ws c) vs env')
 |[],[],names,ps,c,env,env',h,_,_,_=>by simpa[J2,Oz]using h
 |w::ws,v::vs,names,ps,c,env,env',h,h0,hb,hl=>by
  rw[List.length_cons]at hb
  push_cast at hb
  have hw:wr (c+1)=c+1:=wr_of (by omega) (by omega);have h1:=RnEv.more (h.one h0 w v) (by omega) (by omega) (by simpa using hl:ws.length=vs.length);rw[J2,hw,Qv3,Qv3,List.zip_cons_cons,List.length_cons];rw[List.append_assoc,List.append_assoc]at h1
  push_cast
  rw[show c+((ws.length:Int)+1)=c+1+ws.length from by omega];exact h1
 |[],_::_,_,_,_,_,_,_,_,_,hl=>by simp at hl
 |_::_,[],_,_,_,_,_,_,_,_,hl=>by simp at hl
structure RnOk (A:Jj) (x:Fn):Prop where
 rt:x.body.Rt 25
 wrong:x.body.wrong A x.params 0=0
 bd:x.params.length+x.body.bd.length≤9999999
theorem bd_le:∀(d:Nat) (t:Tm),t.Rt d→t.bd.length+6≤7 * t.sz:=by
 intro d;induction d with
 |zero=>intro t h;exact h.elim
 |succ d ih=>
 intro t hR;obtain⟨k,n,a,b,vs,xs,cs⟩:=t;obtain⟨hk,hmany,_,hx,hc⟩:=hR;have hL:∀ys:List Tm,(∀y∈ys,y∈xs)→(Tm.bdL ys).length≤7 * Tm.szs ys:=by
  intro ys;induction ys with
  |nil=>intro _;simp[Tm.bdL]
  |cons y r ih2=>
   intro hm;have h1:=ih y (hx y (hm y (List.mem_cons_self ..)));have h2:=ih2 fun z hz=>hm z (List.mem_cons_of_mem _ hz)
   rw[Tm.bdL,List.length_append,Tm.szs];omega
 have hC:∀ys:List Cs,(∀y∈ys,y∈cs)→(Cs.bdL ys).length≤7 * Cs.szs ys:=by
  intro ys;induction ys with
  |nil=>intro _;simp[Cs.bdL]
  |cons y r ih2=>
   intro hm;have hy:=hc y (hm y (List.mem_cons_self ..));obtain⟨t,ws,y⟩:=y;have h1:=ih y hy.2;have h2:=ih2 fun z hz=>hm z (List.mem_cons_of_mem _ hz)
   have h3:ws.length≤6:=hy.1;rw[Cs.bdL,Cs.bd,List.length_append,List.length_append,Cs.szs,Cs.sz];omega
 have h1:=hL xs fun _ h=>h
 have h2:=hC cs fun _ h=>h
 rw[Tm.bd,List.length_append,List.length_append,Tm.sz];have h3:(if k=6 then[a]else[]).length≤1:=by split<;> simp
 omega
theorem Fn.rn_plen (f:Fn):f.rn.params.length=f.params.length:=Wx _ _
theorem Fn.Right.rnOk {A:Jj} {x:Fn} (h:x.Right A) (hr:x.body.Rt 25):RnOk A x:=
 ⟨hr,h.wrong,by have:=bd_le 25 x.body hr;have:=h.sz;have:=h.params;omega⟩
theorem Fn.Right.rn {A:Jj} {x:Fn} (h:x.Right A) (hr:x.body.Rt 25):x.rn.Right A:=by
 have hb:=(h.rnOk hr).bd;obtain⟨e1,e2⟩:=Px x.params 0 (by omega) (by omega);have hp:x.rn.params=Lj 0 x.params.length:=e1;have hpa:=h.params;have hsz:=h.sz;have hs:x.rn.body.sz≤x.body.sz:=Tm.rn_sz _ _ _;refine⟨h.name,by rw[hp];exact twB_of (seqV_nodup (by omega) _),by rw[hp];exact seqV_bad (by omega) (by omega),by rw[x.rn_plen];exact hpa,by omega,?_⟩;have hR:RnR x.params (J2 x.params 0) (x.params.zip (J2 x.params 0)):=by
  have:=RnR.more (names:=[]) (names':=[]) (ps:=[]) (fun s hs=>by cases hs) x.params (J2 x.params 0) (Wx _ _).symm;simpa using this
 exact rn_wrong A 25 x.body x.params x.rn.params _ (U7 x.params 0) 0 hr h.wrong (by omega) (by omega) hR
theorem Tm.sz_1 (t:Tm):1≤t.sz:=by obtain⟨k,n,a,b,vs,xs,cs⟩:=t;simp only[Tm.sz];omega
mutual
def Tm.Sh:Tm→Prop
 | .mk k n a b vs xs cs=>(k=1∨k=2→xs=[])∧(k≠7→cs=[])∧(k=7→cs≠[])∧Tm.ShL xs∧Cs.ShL cs
def Tm.ShL:List Tm→Prop
 |[]=>True
 |x::r=>x.Sh∧Tm.ShL r
def Cs.ShL:List Cs→Prop
 |[]=>True
 |c::r=>c.Sh∧Cs.ShL r
def Cs.Sh:Cs→Prop
 | .mk t ws y=>y.Sh
end
structure LS.Eqv (s s':LS):Prop where
 c:∀n,s.c n=s'.c n
 t:∀b,(lkA s.tk b).isSome=(lkA s'.tk b).isSome
theorem LS.Eqv.symm {s s':LS} (h:s.Eqv s'):s'.Eqv s:=⟨fun n=>(h.c n).symm,fun b=>(h.t b).symm⟩
theorem LS.Eqv.trans {s s' s'':LS} (h:s.Eqv s') (h2:s'.Eqv s''):s.Eqv s'':=⟨fun n=>(h.c n).trans (h2.c n),fun b=>(h.t b).trans (h2.t b)⟩
theorem linL_cons (x:Tm) (r:List Tm) (s:LS) (ss:List LS):Tm.D8 (x::r) (s::ss)=if x.lin s≠0 then x.lin s else Tm.D8 r ss:=by rw[Tm.D8];rfl
theorem Qz7 {x:Tm} {s:LS} (h:Tm.D8 [x] [s]=0):x.lin s=0:=by
 rw[linL_cons]at h;by_cases h1:x.lin s≠0
 ·rw[if_pos h1]at h;exact h
 ·exact Decidable.not_not.1 h1
theorem linL_two {x y:Tm} {s u:LS} (h:Tm.D8 [x,y] [s,u]=0):x.lin s=0∧y.lin u=0:=by
 rw[linL_cons]at h;by_cases h1:x.lin s≠0
 ·rw[if_pos h1]at h;exact absurd h h1
 ·rw[if_neg h1]at h;exact⟨Decidable.not_not.1 h1,Qz7 h⟩
theorem Vz {x:Tm} {s:LS} (h:x.lin s=0):Tm.D8 [x] [s]=0:=by
 rw[linL_cons,if_neg (by simpa using h),Tm.D8]
theorem linL_two' {x y:Tm} {s u:LS} (h:x.lin s=0) (h2:y.lin u=0):Tm.D8 [x,y] [s,u]=0:=by
 rw[linL_cons,if_neg (by simpa using h)];exact Vz h2
theorem clinL_mem {s:LS} {nm:ByteArray}:∀{cs:List Cs},Cs.D8 cs s nm=0→∀c∈cs,c.lin s nm=0
 |c::r,h,d,hd=>by
  rw[Cs.D8]at h;split at h
  ·rename_i h1;exact absurd h h1
  ·rename_i h1;rcases List.mem_cons.1 hd with rfl|hd
   ·exact Decidable.not_not.1 h1
   ·exact clinL_mem h d hd
theorem clinL_all {s:LS} {nm:ByteArray}:∀{cs:List Cs},(∀c∈cs,c.lin s nm=0)→Cs.D8 cs s nm=0
 |[],_=>by rw[Cs.D8]
 |c::r,h=>by
  rw[Cs.D8,if_neg (by simpa using h c (by simp))];exact clinL_all fun d hd=>h d (by simp[hd])
theorem clin_inv {s:LS} {nm:ByteArray} {t:Int} {ws:List ByteArray} {y:Tm} (h:(Cs.mk t ws y).lin s nm=0):(s.G8 nm ws).1=0∧y.lin (s.G8 nm ws).2=0:=by
 rw[Cs.lin]at h;split at h
 ·rename_i h1;exact absurd h h1
 ·rename_i h1;exact⟨Decidable.not_not.1 h1,h⟩
section
variable {n:Int} {a b:ByteArray} {vs:List ByteArray} {xs:List Tm} {cs:List Cs} {s:LS}
theorem lin1:(Tm.mk 1 n a b vs xs cs).lin s=(s.Y6 a).2.Cq (s.Y6 a).1:=by rw[Tm.lin];rfl
theorem lin2:(Tm.mk 2 n a b vs xs cs).lin s=s.Cq 0:=by rw[Tm.lin];rfl
theorem lin345 {k:Int} (hk:k=3∨k=4∨k=5):(Tm.mk k n a b vs xs cs).lin s=(s.Uw xs).2.Cq (s.Uw xs).1:=by
 rw[Tm.lin,if_neg (by omega),if_neg (by omega),if_pos hk]
theorem lin12 (h:(Tm.mk 12 n a b vs xs cs).lin s=0):lkA s.tk b=some (xs.length:Int)∧(({ s with tk:=M4 s.tk b }:LS).Uw xs).2.Cq (({ s with tk:=M4 s.tk b }:LS).Uw xs).1=0:=by
 rw[Tm.lin,if_neg (by omega),if_neg (by omega),if_neg (by omega),if_pos rfl]at h;split at h
 ·simp at h
 ·rename_i h1;exact⟨Decidable.not_not.1 h1,h⟩
theorem lin6 (h:(Tm.mk 6 n a b vs xs cs).lin s=0):∃x y,xs=[x,y]∧lkA s.ct a=none∧x.lin (s.fst x)=0∧y.lin { s.rst x with ct:=Xj (s.rst x).ct a 1 }=0:=by
 rw[Tm.lin,if_neg (by omega),if_neg (by omega),if_neg (by omega),if_neg (by omega),if_pos rfl]at h;match xs,h with
 |[x,y],h=>
  rw[if_neg (by simp)]at h;split at h
  ·simp at h
  ·rename_i h1;have h2:=linL_two h;exact⟨x,y,rfl,by simpa using h1,h2.1,h2.2⟩
 |[],h=>simp at h
 |[_],h=>simp at h
 |_::_::_::_,h=>rw[if_pos (by simp)]at h;simp at h
theorem lin7 (h:(Tm.mk 7 n a b vs xs cs).lin s=0):∃x,xs=[x]∧x.tk=1∧1≤s.c x.nm∧∀c∈cs,c.lin s x.nm=0:=by
 rw[Tm.lin,if_neg (by omega),if_neg (by omega),if_neg (by omega),if_neg (by omega),if_neg (by omega),if_pos rfl]at h;match xs,h with
 |[x],h=>
  split at h
  ·simp at h
  ·rename_i h1;split at h
   ·simp at h
   ·rename_i h2;exact⟨x,rfl,by simpa[hdT0]using h1,by have h2:¬s.c x.nm<1:=h2;omega,clinL_mem h⟩
 |[],h=>simp at h
 |_::_::_,h=>rw[if_pos (by simp)]at h;simp at h
theorem linS {k:Int} (hk:k=8∨k=9∨k=10∨k=11∨k=13) (h:(Tm.mk k n a b vs xs cs).lin s=0):∃x,xs=[x]∧
  (k=8→s.there a=true∧x.lin (s.inc a)=0)∧(k=9→(s.Y6 a).1=0∧x.lin (s.Y6 a).2=0)∧(k=13→(lkA s.tk b).isSome=true∧x.lin { s with tk:=M4 s.tk b }=0)∧
  (k=10→(s.Y4 a vs).1=0∧x.lin (s.Y4 a vs).2=0)∧(k=11→(s.Y4 a vs).1=0∧lkA s.tk b=none∧b≠.empty∧x.lin { (s.Y4 a vs).2 with tk:=Xj (s.Y4 a vs).2.tk b (vs.length:Int) }=0):=by
 rw[Tm.lin,if_neg (by omega),if_neg (by omega),if_neg (by omega),if_neg (by omega),if_neg (by omega),if_neg (by omega),if_pos hk]at h;match xs,h with
 |[],h=>simp at h
 |_::_::_,h=>rw[if_pos (by simp)]at h;simp at h
 |[x],h=>
  rw[if_neg (by simp)]at h;refine⟨x,rfl,?_⟩;rcases hk with rfl|rfl|rfl|rfl|rfl
  ·rw[if_pos rfl]at h;refine⟨fun _=>?_,by omega,by omega,by omega,by omega⟩;split at h
   ·rename_i h1;exact⟨h1,Qz7 h⟩
   ·simp at h
  ·rw[if_neg (by omega),if_pos rfl]at h;refine⟨by omega,fun _=>?_,by omega,by omega,by omega⟩;split at h
   ·rename_i h1;exact absurd h h1
   ·rename_i h1;exact⟨Decidable.not_not.1 h1,Qz7 h⟩
  ·rw[if_neg (by omega),if_neg (by omega),if_neg (by omega)]at h;refine⟨by omega,by omega,by omega,fun _=>?_,by omega⟩;split at h
   ·rename_i h1;exact absurd h h1
   ·rename_i h1;rw[if_neg (by omega)]at h;exact⟨Decidable.not_not.1 h1,Qz7 h⟩
  ·rw[if_neg (by omega),if_neg (by omega),if_neg (by omega)]at h;refine⟨by omega,by omega,by omega,by omega,fun _=>?_⟩;by_cases h1:(s.Y4 a vs).1≠0
   ·rw[if_pos h1]at h;exact absurd h h1
   ·rw[if_neg h1,if_pos rfl]at h;by_cases h2:(lkA s.tk b).isSome=true∨b= .empty
    ·rw[if_pos h2]at h;simp at h
    ·rw[if_neg h2]at h;rw[not_or]at h2;exact⟨Decidable.not_not.1 h1,by simpa using h2.1,h2.2,Qz7 h⟩
  ·rw[if_neg (by omega),if_neg (by omega),if_pos rfl]at h;refine⟨by omega,by omega,fun _=>?_,by omega,by omega⟩;split at h
   ·rename_i h1;exact⟨h1,Qz7 h⟩
   ·simp at h
theorem lin_kind {k:Int} (h:(Tm.mk k n a b vs xs cs).lin s=0):k=1∨k=2∨(k=3∨k=4∨k=5)∨k=12∨k=6∨k=7∨(k=8∨k=9∨k=10∨k=11∨k=13):=by
 rw[Tm.lin]at h;repeat' split at h
 all_goals first|omega|simp_all
end
end Go.Proofs.YtjpldhjgehoffaaGreatDoor
namespace Go.Proofs.YtjpldhjgehoffaaGreatDoor
open Go.RowKit
set_option linter.unusedVariables false
set_option linter.unusedSimpArgs false
theorem ShL_iff:∀{l:List Tm},Tm.ShL l↔∀x∈l,x.Sh
 |[]=>by simp[Tm.ShL]
 |x::r=>by simp[Tm.ShL,ShL_iff (l:=r)]
theorem Qx8:∀{l:List Cs},Cs.ShL l↔∀x∈l,x.Sh
 |[]=>by simp[Cs.ShL]
 |x::r=>by simp[Cs.ShL,Qx8 (l:=r)]
theorem T9 {k:Int} (hk:k=8∨k=9):∀(l:List ByteArray) (t:Tm),(cnt k l t).stN=l++t.stN
 |[],_=>rfl
 |s::r,t=>by
  rw[cnt,Tm.stN,if_pos (by omega),Tm.Y9,Tm.Y9,Cs.Y9,T9 hk r t];simp
theorem F3 {k:Int} (hk:k=8∨k=9):∀(l:List ByteArray) (t:Tm),(cnt k l t).V4=t.V4
 |[],_=>rfl
 |s::r,t=>by
  rw[cnt,Tm.V4,if_neg (by omega),if_neg (by omega),Tm.V5,Tm.V5,Cs.V5,F3 hk r t];simp
theorem Pw {k:Int} (hk:k=8∨k=9):∀(l:List ByteArray) (t:Tm),(cnt k l t).stT=t.stT
 |[],_=>rfl
 |s::r,t=>by
  rw[cnt,Tm.stT,if_neg (by omega),Tm.K9,Tm.K9,Cs.K9,Pw hk r t];simp
theorem stNL_mem {n:ByteArray}:∀{l:List Tm},n∈Tm.Y9 l↔∃x∈l,n∈x.stN
 |[]=>by simp[Tm.Y9]
 |x::r=>by simp[Tm.Y9,stNL_mem (l:=r)]
theorem cstNL_mem {n:ByteArray}:∀{l:List Cs},n∈Cs.Y9 l↔∃x∈l,n∈x.stN
 |[]=>by simp[Cs.Y9]
 |x::r=>by simp[Cs.Y9,cstNL_mem (l:=r)]
theorem cbdL_mem {n:ByteArray}:∀{l:List Cs},n∈Cs.bdL l↔∃x∈l,n∈x.bd
 |[]=>by simp[Cs.bdL]
 |x::r=>by simp[Cs.bdL,cbdL_mem (l:=r)]
theorem isL_var {k:Int} (hk:k≠6):∀{l:List Tm},Tm.isL k l=true→∀x∈l,x.tk=1
 |y::r,h,x,hx=>by
  rw[Tm.isL,if_neg hk,Bool.and_eq_true]at h;rcases List.mem_cons.1 hx with rfl|hx
  ·exact of_decide_eq_true h.1
  ·exact isL_var hk h.2 x hx
theorem Qk6:∀{l:List Tm},Tm.isL 6 l=true→∀x∈l,x.isP=true
 |y::r,h,x,hx=>by
  rw[Tm.isL,if_pos rfl,Bool.and_eq_true]at h;rcases List.mem_cons.1 hx with rfl|hx
  ·exact h.1
  ·exact Qk6 h.2 x hx
theorem cisL_all:∀{l:List Cs},Cs.isL l=true→∀t ws y,Cs.mk t ws y∈l→y.isP=true
 |c::r,h,t,ws,y,hx=>by
  rw[Cs.isL,Bool.and_eq_true]at h;rcases List.mem_cons.1 hx with e|hx
  ·rw[←e,Cs.isP]at h;exact h.1
  ·exact cisL_all h.2 t ws y hx
theorem rt_var {d:Nat} {x:Tm} (hR:x.Rt d) (h1:x.tk=1):x.stN=[x.nm]∧x.free=[x.nm]∧x.bd=[]∧x.V4=[]∧x.stT=[]:=by
 cases d with
 |zero=>exact hR.elim
 |succ d=>
  obtain⟨k,n,a,b,vs,xs,cs⟩:=x;rw[Tm.tk]at h1;subst h1;obtain⟨-,h2,-,-,-⟩:=hR;unfold X6 at h2;simp at h2;obtain⟨e1,e2⟩:=h2;subst e1 e2;refine⟨?_,?_,?_,?_,?_⟩
  ·rw[Tm.stN];rfl
  ·rw[Tm.free];rfl
  ·rw[Tm.bd];rfl
  ·rw[Tm.V4];rfl
  ·rw[Tm.stT];rfl
theorem Aq:∀(xs:List Tm) (had:List ByteArray) (n:ByteArray),n∈R3 had xs→∃x∈xs,x.nm=n
 |x::r,had,n,h=>by
  rw[R3]at h;split at h
  ·rcases List.mem_cons.1 h with rfl|h
   ·exact⟨x,by simp,rfl⟩
   ·obtain⟨y,hy,e⟩:=Aq r _ n h;exact⟨y,by simp[hy],e⟩
  ·obtain⟨y,hy,e⟩:=Aq r _ n h;exact⟨y,by simp[hy],e⟩
theorem V8 {s:ByteArray} {l o:List ByteArray}:s∈inN l o↔s∈l∧s∈o:=by
 unfold inN;rw[List.mem_filter,X3]
theorem rt_two {d:Nat} {n:Int} {a b:ByteArray} {vs:List ByteArray} {xs:List Tm} {cs:List Cs} (h:(Tm.mk 6 n a b vs xs cs).Rt (d+1)):∃x y,xs=[x,y]∧cs=[]∧x.Rt d∧y.Rt d:=by
 obtain⟨-,h2,-,h4,-⟩:=h;unfold X6 at h2;simp at h2;match xs,h2 with
 |[x,y],h2=>exact⟨x,y,rfl,h2.2,h4 x (by simp),h4 y (by simp)⟩
theorem rt_one {d:Nat} {n:Int} {a b:ByteArray} {vs:List ByteArray} {xs:List Tm} {cs:List Cs} (h:(Tm.mk 7 n a b vs xs cs).Rt (d+1)):∃x,xs=[x]∧x.Rt d:=by
 obtain⟨-,h2,-,h4,-⟩:=h;unfold X6 at h2;simp at h2;match xs,h2 with
 |[x],h2=>exact⟨x,rfl,h4 x (by simp)⟩
theorem rt_none {d:Nat} {k n:Int} {a b:ByteArray} {vs:List ByteArray} {xs:List Tm} {cs:List Cs} (h:(Tm.mk k n a b vs xs cs).Rt (d+1)) (hk:k=1∨k=2):xs=[]:=by
 obtain⟨-,h2,-,-,-⟩:=h;unfold X6 at h2;rcases hk with rfl|rfl<;> simp at h2<;> exact h2.1
theorem rt_nocs {d:Nat} {k n:Int} {a b:ByteArray} {vs:List ByteArray} {xs:List Tm} {cs:List Cs} (h:(Tm.mk k n a b vs xs cs).Rt (d+1)) (hk:k≠7):cs=[]:=by
 obtain⟨-,h2,-,-,-⟩:=h;unfold X6 at h2;simp[hk]at h2;exact h2.2
theorem owL_eq (own:List ByteArray) (nm:ByteArray):∀l:List Cs,Cs.owL l own nm=l.map fun c=>c.ow own nm
 |[]=>rfl
 |c::r=>by rw[Cs.owL,owL_eq own nm r];rfl
theorem st_all:∀(d:Nat) (t:Tm) (has:List ByteArray),t.Rt d→t.isP=true→
  (∀n∈t.stN,n∈(t.ow has).stN)∧(∀n∈(t.ow has).stN,n∈t.stN∨n∈has∨n∈t.bd)∧(t.ow has).V4=t.bd∧(∀n∈t.free,n∈t.stN)∧(∀n∈t.stN,n∈t.free∨n∈t.bd)∧(t.ow has).stT=[]∧t.V4=t.bd:=by
 intro d;induction d with
 |zero=>intro t _ h;exact h.elim
 |succ d ih=>
  intro t has hR hP;obtain⟨k,n0,a,b,vs,xs,cs⟩:=t;have hR':=hR;obtain⟨hk,-,-,hx,hc⟩:=hR;rw[Tm.isP,Bool.and_eq_true]at hP;obtain⟨hP1,hP2⟩:=hP;by_cases h6:k=6
  ·subst h6;obtain⟨x,y,rfl,rfl,hxR,hyR⟩:=rt_two hR';have hPx:=Qk6 hP1 x (by simp);have hPy:=Qk6 hP1 y (by simp);rw[Tm.ow,if_neg (by omega),if_pos rfl];generalize hG:woN has (Tm.mk 6 n0 a b vs [x,y] []).free=G;generalize hO:inN has (Tm.mk 6 n0 a b vs [x,y] []).free=O;rw[letD,letH,Tm.owZ,Tm.owZ,Tm.owZ];simp only[List.headD_cons,List.tail_cons];obtain⟨x1,x2,x3,x4,x5,x6,x7⟩:=ih x (inN O x.free) hxR hPx;obtain⟨y1,y2,y3,y4,y5,y6,y7⟩:=ih y (inN O (woN y.free [a])++[a]) hyR hPy;have hGm:∀n∈G,n∈has:=fun n hn=>by rw[←hG]at hn;exact(Xw.1 hn).1
   have hOm:∀n∈O,n∈has:=fun n hn=>by rw[←hO]at hn;exact(V8.1 hn).1
   have hst:(Tm.mk 6 n0 a b vs [x,y] []).stN=x.stN++y.stN:=by rw[Tm.stN];simp[Tm.Y9,Cs.Y9]
   have hbd:(Tm.mk 6 n0 a b vs [x,y] []).bd=a::(x.bd++y.bd):=by rw[Tm.bd];simp[Tm.bdL,Cs.bdL]
   have hfr:∀n,n∈(Tm.mk 6 n0 a b vs [x,y] []).free↔n∈x.free∨(n∈y.free∧n≠a):=fun n=>by
    rw[Tm.free,if_neg (by omega),if_pos ⟨rfl,rfl⟩,Tm.freeL,Tm.freeB,Tj,Tj,Xw];simp
   rw[T9 (.inr rfl),T9 (.inl rfl),F3 (.inr rfl),F3 (.inl rfl),Pw (.inr rfl),Pw (.inl rfl),hst,hbd];have e1:(Tm.mk 6 0 a .empty [] [x.ow (inN O x.free),y.ow (inN O (woN y.free [a])++[a])] []).stN=(x.ow (inN O x.free)).stN++(y.ow (inN O (woN y.free [a])++[a])).stN:=by rw[Tm.stN];simp[Tm.Y9,Cs.Y9]
   have e2:(Tm.mk 6 0 a .empty [] [x.ow (inN O x.free),y.ow (inN O (woN y.free [a])++[a])] []).V4=a::(x.bd++y.bd):=by rw[Tm.V4,Tm.V5,Tm.V5,Tm.V5,Cs.V5,x3,y3];simp
   have e3:(Tm.mk 6 0 a .empty [] [x.ow (inN O x.free),y.ow (inN O (woN y.free [a])++[a])] []).stT=[]:=by rw[Tm.stT,Tm.K9,Tm.K9,Tm.K9,Cs.K9,x6,y6];simp
   rw[e1,e2,e3];refine⟨fun n hn=>?_,fun n hn=>?_,rfl,fun n hn=>?_,fun n hn=>?_,rfl,?_⟩
   ·simp only[List.mem_append]at hn⊢;exact hn.elim (fun h=>.inr (.inr (.inl (x1 n h)))) fun h=>.inr (.inr (.inr (y1 n h)))
   ·simp only[List.mem_append]at hn;simp only[List.mem_append,List.mem_cons];rcases hn with hn|hn|hn|hn
    ·exact .inr (.inl (hGm n hn))
    ·exact .inr (.inl (hOm n (V8.1 (V8.1 hn).1).1))
    ·rcases x2 n hn with h|h|h
     ·exact .inl (.inl h)
     ·exact .inr (.inl (hOm n (V8.1 h).1))
     ·exact .inr (.inr (.inr (.inl h)))
    ·rcases y2 n hn with h|h|h
     ·exact .inl (.inr h)
     ·rcases List.mem_append.1 h with h|h
      ·exact .inr (.inl (hOm n (V8.1 h).1))
      ·exact .inr (.inr (.inl (by simpa using h)))
     ·exact .inr (.inr (.inr (.inr h)))
   ·rw[hfr]at hn;simp only[List.mem_append];exact hn.elim (fun h=>.inl (x4 n h)) fun h=>.inr (y4 n h.1)
   ·simp only[List.mem_append]at hn;simp only[List.mem_cons,List.mem_append];rw[hfr];rcases hn with hn|hn
    ·rcases x5 n hn with h|h
     ·exact .inl (.inl h)
     ·exact .inr (.inr (.inl h))
    ·rcases y5 n hn with h|h
     ·by_cases e:n=a
      ·exact .inr (.inl e)
      ·exact .inl (.inr ⟨h,e⟩)
     ·exact .inr (.inr (.inr h))
   ·rw[Tm.V4,Tm.V5,Tm.V5,Tm.V5,Cs.V5,x7,y7];simp
  ·have hvar:=isL_var h6 hP1;have hxs:Tm.V5 xs=[]∧Tm.bdL xs=[]∧Tm.K9 xs=[]∧(∀n,n∈Tm.Y9 xs↔∃x∈xs,x.nm=n):=by
    have:∀l:List Tm,(∀x∈l,x∈xs)→Tm.V5 l=[]∧Tm.bdL l=[]∧Tm.K9 l=[]:=by
     intro l;induction l with
     |nil=>intro _;exact⟨rfl,rfl,rfl⟩
     |cons x r ih2=>
      intro hm;obtain⟨e1,e2,e3⟩:=ih2 fun z hz=>hm z (by simp[hz])
      obtain⟨-,-,q3,q4,q5⟩:=rt_var (hx x (hm x (by simp))) (hvar x (hm x (by simp)));rw[Tm.V5,Tm.bdL,Tm.K9,e1,e2,e3,q3,q4,q5];exact⟨rfl,rfl,rfl⟩
    obtain⟨e1,e2,e3⟩:=this xs fun _ h=>h
    refine⟨e1,e2,e3,fun n=>?_⟩;rw[stNL_mem];refine⟨fun⟨x,h1,h2⟩=>⟨x,h1,?_⟩,fun⟨x,h1,h2⟩=>⟨x,h1,?_⟩⟩
    ·rw[(rt_var (hx x h1) (hvar x h1)).1]at h2;exact(List.mem_singleton.1 h2).symm
    ·rw[(rt_var (hx x h1) (hvar x h1)).1];simp[h2]
   obtain⟨o1,o2,o3,o4⟩:=hxs;have hfx:∀n,(∃x∈xs,n∈x.free)↔∃x∈xs,x.nm=n:=fun n=>by
    refine⟨fun⟨x,h1,h2⟩=>⟨x,h1,?_⟩,fun⟨x,h1,h2⟩=>⟨x,h1,?_⟩⟩
    ·rw[(rt_var (hx x h1) (hvar x h1)).2.1]at h2;exact(List.mem_singleton.1 h2).symm
    ·rw[(rt_var (hx x h1) (hvar x h1)).2.1];simp[h2]
   by_cases h7:k=7
   ·subst h7;have hst:∀n,n∈(Tm.mk 7 n0 a b vs xs cs).stN↔(∃x∈xs,x.nm=n)∨∃c∈cs,n∈c.stN:=fun n=>by
     rw[Tm.stN,if_neg (by omega),List.nil_append,List.mem_append,o4,cstNL_mem]
    have hbd:∀n,n∈(Tm.mk 7 n0 a b vs xs cs).bd↔∃c∈cs,n∈c.bd:=fun n=>by
     rw[Tm.bd,if_neg (by omega),o2,List.nil_append,List.nil_append,cbdL_mem]
    have hfr:∀n,n∈(Tm.mk 7 n0 a b vs xs cs).free↔(∃x∈xs,x.nm=n)∨∃c∈cs,n∈c.Ev:=fun n=>by
     rw[Tm.free,if_neg (by omega),if_neg (by omega),if_neg (by omega),Qk0,mem_frees,hfx];simp
    rw[Tm.ow,if_neg (by omega),if_neg (by omega),if_pos rfl];generalize hG:woN has (Tm.mk 7 n0 a b vs xs cs).free=G;generalize hO:inN has (Tm.mk 7 n0 a b vs xs cs).free=O;have hGm:∀n∈G,n∈has:=fun n hn=>by rw[←hG]at hn;exact(Xw.1 hn).1
    have hOm:∀n∈O,n∈has:=fun n hn=>by rw[←hO]at hn;exact(V8.1 hn).1
    obtain⟨x0,rfl,hx0⟩:=rt_one hR';have hnm:nmH [x0]=x0.nm:=rfl;rw[T9 (.inr rfl),F3 (.inr rfl),Pw (.inr rfl),hnm,owL_eq]
    -- one case
    have hcase:∀t ws y,Cs.mk t ws y∈cs→∃H,(Cs.mk t ws y).ow O x0.nm= .mk t ws (cnt 8 (inN ws y.free) (cnt 9 (if hasB y.free x0.nm then[]else[x0.nm]) (y.ow H)))∧(∀n∈H,n∈has∨n∈ws)∧
      (∀n∈y.stN,n∈(y.ow H).stN)∧(∀n∈(y.ow H).stN,n∈y.stN∨n∈H∨n∈y.bd)∧(y.ow H).V4=y.bd∧(∀n∈y.free,n∈y.stN)∧(∀n∈y.stN,n∈y.free∨n∈y.bd)∧(y.ow H).stT=[]∧y.V4=y.bd:=fun t ws y hm=>by
     refine⟨if hasB y.free x0.nm then O++inN ws y.free else woN (O++inN ws y.free) [x0.nm],by rw[Cs.ow],fun n hn=>?_,ih y _ (hc _ hm).2 (cisL_all hP2 t ws y hm)⟩;have:n∈O++inN ws y.free:=by
      split at hn
      ·exact hn
      ·exact(Xw.1 hn).1
     rcases List.mem_append.1 this with h|h
     ·exact .inl (hOm n h)
     ·exact .inr (V8.1 h).1
    have ec:∀(t:Int) (ws:List ByteArray) (y:Tm) (H:List ByteArray),(Cs.mk t ws (cnt 8 (inN ws y.free) (cnt 9 (if hasB y.free x0.nm then[]else[x0.nm]) (y.ow H)))).stN=inN ws y.free++((if hasB y.free x0.nm then[]else[x0.nm])++(y.ow H).stN):=fun t ws y H=>by
     rw[Cs.stN,T9 (.inl rfl),T9 (.inr rfl)]
    have hst2:∀n,n∈(Tm.mk 7 0 .empty .empty [] [x0] (cs.map fun c=>c.ow O x0.nm)).stN↔n=x0.nm∨∃c∈cs,n∈(c.ow O x0.nm).stN:=fun n=>by
     rw[Tm.stN,if_neg (by omega),List.nil_append,List.mem_append,o4,cstNL_mem];constructor
     ·rintro(⟨x,h1,h2⟩|⟨c,h1,h2⟩)
      ·exact .inl (by rw[←h2,List.mem_singleton.1 h1])
      ·obtain⟨c0,hc0,rfl⟩:=List.mem_map.1 h1;exact .inr ⟨c0,hc0,h2⟩
     ·rintro(rfl|⟨c,h1,h2⟩)
      ·exact .inl ⟨x0,by simp,rfl⟩
      ·exact .inr ⟨_,List.mem_map.2 ⟨c,h1,rfl⟩,h2⟩
    refine⟨fun n hn=>?_,fun n hn=>?_,?_,fun n hn=>?_,fun n hn=>?_,?_,?_⟩
    ·rw[List.mem_append,hst2];rcases(hst n).1 hn with⟨x,h1,h2⟩|⟨c,h1,h2⟩
     ·simp only[List.mem_singleton]at h1;subst h1;exact .inr (.inl h2.symm)
     ·refine .inr (.inr ⟨c,h1,?_⟩);obtain⟨t,ws,y⟩:=c;obtain⟨H,e,-,p1,-⟩:=hcase t ws y h1;rw[e,ec];rw[Cs.stN]at h2;simp only[List.mem_append];exact .inr (.inr (p1 n h2))
    ·rw[List.mem_append,hst2]at hn;rw[hst,hbd];rcases hn with hn|hn|⟨c,h1,h2⟩
     ·exact .inr (.inl (hGm n hn))
     ·exact .inl (.inl ⟨x0,by simp,hn.symm⟩)
     ·obtain⟨t,ws,y⟩:=c;obtain⟨H,e,pH,p1,p2,-⟩:=hcase t ws y h1;rw[e,ec]at h2;simp only[List.mem_append]at h2;have hb:∀m,m∈ws→∃c∈cs,m∈c.bd:=fun m hm=>⟨_,h1,by rw[Cs.bd];simp[hm]⟩
      rcases h2 with h2|h2|h2
      ·exact .inr (.inr (hb n (V8.1 h2).1))
      ·have:n=x0.nm:=by
        split at h2
        ·simp at h2
        ·simpa using h2
       exact .inl (.inl ⟨x0,by simp,this.symm⟩)
      ·rcases p2 n h2 with h|h|h
       ·exact .inl (.inr ⟨_,h1,by rw[Cs.stN];exact h⟩)
       ·rcases pH n h with h|h
        ·exact .inr (.inl h)
        ·exact .inr (.inr (hb n h))
       ·exact .inr (.inr ⟨_,h1,by rw[Cs.bd];simp[h]⟩)
    ·rw[Tm.V4,if_neg (by omega),if_neg (by omega),o1,Tm.bd,if_neg (by omega),o2];simp only[List.nil_append];have:∀l:List Cs,(∀c∈l,c∈cs)→Cs.V5 (l.map fun c=>c.ow O x0.nm)=Cs.bdL l:=by
      intro l;induction l with
      |nil=>intro _;rfl
      |cons c r ih2=>
       intro hm;obtain⟨t,ws,y⟩:=c;obtain⟨H,e,-,-,-,p3,-⟩:=hcase t ws y (hm _ (by simp));rw[List.map_cons,Cs.V5,Cs.bdL,ih2 fun z hz=>hm z (by simp[hz]),e,Cs.V4,F3 (.inl rfl),F3 (.inr rfl),p3,Cs.bd]
     exact this cs fun _ h=>h
    ·rw[hst];rcases(hfr n).1 hn with h|⟨c,h1,h2⟩
     ·exact .inl h
     ·obtain⟨t,ws,y⟩:=c;obtain⟨H,-,-,-,-,-,p4,-⟩:=hcase t ws y h1;rw[Cs.Ev,Xw]at h2;exact .inr ⟨_,h1,by rw[Cs.stN];exact p4 n h2.1⟩
    ·rw[hfr,hbd];rcases(hst n).1 hn with h|⟨c,h1,h2⟩
     ·exact .inl (.inl h)
     ·obtain⟨t,ws,y⟩:=c;obtain⟨H,-,-,-,-,-,-,p5,-⟩:=hcase t ws y h1;rw[Cs.stN]at h2;rcases p5 n h2 with h|h
      ·by_cases hw:n∈ws
       ·exact .inr ⟨_,h1,by rw[Cs.bd];simp[hw]⟩
       ·exact .inl (.inr ⟨_,h1,by rw[Cs.Ev,Xw];exact⟨h,hw⟩⟩)
      ·exact .inr ⟨_,h1,by rw[Cs.bd];simp[h]⟩
    ·rw[Tm.stT,if_neg (by omega),o3];simp only[List.nil_append];have:∀l:List Cs,(∀c∈l,c∈cs)→Cs.K9 (l.map fun c=>c.ow O x0.nm)=[]:=by
      intro l;induction l with
      |nil=>intro _;rfl
      |cons c r ih2=>
       intro hm;obtain⟨t,ws,y⟩:=c;obtain⟨H,e,-,-,-,-,-,-,p6,-⟩:=hcase t ws y (hm _ (by simp));rw[List.map_cons,Cs.K9,ih2 fun z hz=>hm z (by simp[hz]),e,Cs.stT,Pw (.inl rfl),Pw (.inr rfl),p6];rfl
     exact this cs fun _ h=>h
    ·rw[Tm.V4,if_neg (by omega),if_neg (by omega),o1,Tm.bd,if_neg (by omega),o2];simp only[List.nil_append];have:∀l:List Cs,(∀c∈l,c∈cs)→Cs.V5 l=Cs.bdL l:=by
      intro l;induction l with
      |nil=>intro _;rfl
      |cons c r ih2=>
       intro hm;obtain⟨t,ws,y⟩:=c;obtain⟨H,-,-,-,-,-,-,-,-,p7⟩:=hcase t ws y (hm _ (by simp));rw[Cs.V5,Cs.bdL,ih2 fun z hz=>hm z (by simp[hz]),Cs.V4,p7,Cs.bd]
     exact this cs fun _ h=>h
   ·have hcs:=rt_nocs hR' h7;subst hcs;have hst:∀n,n∈(Tm.mk k n0 a b vs xs []).stN↔(k=1∧n=a)∨∃x∈xs,x.nm=n:=fun n=>by
     rw[Tm.stN,List.mem_append,Cs.Y9,List.append_nil,o4];by_cases e:k=1
     ·rw[if_pos (.inl e)];simp[e]
     ·rw[if_neg (by omega)];simp[e]
    have hbd:(Tm.mk k n0 a b vs xs []).bd=[]:=by rw[Tm.bd,if_neg h6,o2];rfl
    have how:(Tm.mk k n0 a b vs xs []).V4=[]:=by rw[Tm.V4,if_neg h6,if_neg (by omega),o1];rfl
    have hsT:(Tm.mk k n0 a b vs xs []).stT=[]:=by rw[Tm.stT,if_neg (by omega),o3];rfl
    have hfr:∀n,n∈(Tm.mk k n0 a b vs xs []).free↔(k=1∧n=a)∨∃x∈xs,x.nm=n:=fun n=>by
     rw[Tm.free];by_cases e:k=1
     ·subst e;rw[if_pos rfl,rt_none hR' (.inl rfl)];simp
     ·rw[if_neg e,if_neg (by omega),if_neg (by omega),Qk0,mem_frees,hfx];simp[e]
    have hGm:∀n∈woN has (Tm.mk k n0 a b vs xs []).free,n∈has:=fun n hn=>(Xw.1 hn).1
    rw[Tm.ow,if_neg h6,if_neg h7];by_cases h3:k=3∨k=4∨k=5
    ·rw[if_pos h3,T9 (.inr rfl),T9 (.inl rfl),F3 (.inr rfl),F3 (.inl rfl),Pw (.inr rfl),Pw (.inl rfl),hbd,how,hsT];refine⟨fun n hn=>by simp[hn],fun n hn=>?_,rfl,fun n hn=>by rw[hst];exact(hfr n).1 hn,fun n hn=>.inl ((hfr n).2 ((hst n).1 hn)),rfl,rfl⟩;simp only[List.mem_append]at hn;rcases hn with hn|hn|hn
     ·exact .inr (.inl (hGm n hn))
     ·rw[hst];exact .inl (.inr (Aq xs [] n hn))
     ·exact .inl hn
    ·rw[if_neg h3,T9 (.inr rfl),F3 (.inr rfl),Pw (.inr rfl),hbd,how,hsT];refine⟨fun n hn=>by simp[hn],fun n hn=>?_,rfl,fun n hn=>by rw[hst];exact(hfr n).1 hn,fun n hn=>.inl ((hfr n).2 ((hst n).1 hn)),rfl,rfl⟩;rcases List.mem_append.1 hn with hn|hn
     ·exact .inr (.inl (hGm n hn))
     ·exact .inl hn
def NW (s:ByteArray):Prop:=∀i,s≠wNm i
def AgE (env env':Env):Prop:=∀s,NW s→envVal env' s=envVal env s
theorem AgE.cons {env env':Env} (h:AgE env env') (a:ByteArray) (u:Vl):AgE ((a,u)::env) ((a,u)::env'):=fun s hs=>by
 rw[Sq,Sq];split
 ·rfl
 ·exact h s hs
theorem AgE.step {env env':Env} (h:AgE env env') (i:Int) (u:Vl):AgE env ((wNm i,u)::env'):=fun s hs=>by
 rw[Sq,if_neg fun e=>hs i e.symm];exact h s hs
theorem AgE.bind:∀{ws:List ByteArray} {vs:List Vl} {env env':Env},AgE env env'→AgE (Oz ws vs env) (Oz ws vs env')
 |[],vs,env,env',h=>by simpa[Oz]using h
 |w::ws,[],env,env',h=>by simpa[Oz]using h
 |w::ws,v::vs,env,env',h=>by
  rw[Qv3,Qv3];exact AgE.bind (h.cons w v)
structure PlOk (A:Jj) (x:Fn):Prop where
 rt:x.body.Rt 25
 wrong:x.body.wrong A x.params 0=0
 params:∀s∈x.params,NW s
 bd:∀s∈x.body.bd,NW s
 sz:(x.body.sz:Int)<9223372036854775807
theorem around_isP:∀(bs:Bs) (t:Tm),(∀b∈bs,b.2.isP=true)→t.isP=true→(around bs t).isP=true
 |[],t,_,h=>h
 |b::r,t,hb,h=>by
  have h1:=hb b (List.mem_cons_self ..);have h2:=around_isP r t (fun x hx=>hb x (List.mem_cons_of_mem _ hx)) h;simp[around,Tm.isP,Tm.isL,Cs.isL,h1,h2]
theorem isL_vars {k:Int} (hk:k≠6):∀l:List Tm,(∀x∈l,x.tk=1)→Tm.isL k l=true
 |[],_=>rfl
 |x::r,h=>by
  rw[Tm.isL,if_neg hk,isL_vars hk r fun y hy=>h y (List.mem_cons_of_mem _ hy),h x (List.mem_cons_self ..)];rfl
theorem ats_vars:∀(l:List Tm) (c:Int),∀x∈(Tm.ats l c).1,x.tk=1
 |[],c,x,hx=>by simp[Tm.ats]at hx
 |y::r,c,x,hx=>by
  rw[Tm.ats]at hx;by_cases h:y.tk=1
  ·rw[if_pos h]at hx;rcases List.mem_cons.1 hx with rfl|hx
   ·exact h
   ·exact ats_vars r _ x hx
  ·rw[if_neg h]at hx;rcases List.mem_cons.1 hx with rfl|hx
   ·rfl
   ·exact ats_vars r _ x hx
theorem pl_isP:∀(d:Nat) (t:Tm) (c:Int),t.Rt d→(t.pl c).1.isP=true:=by
 intro d;induction d with
 |zero=>intro t _ h;exact h.elim
 |succ d ih=>
 intro t c hR;obtain⟨k,n,a,b,vs,xs,cs⟩:=t;have hR':=hR;obtain⟨hk,hmany,_,hx,hc⟩:=hR';have hA:∀(ys:List Tm) (c:Int),(∀y∈ys,y∈xs)→∀b∈(Tm.ats ys c).2.1,b.2.isP=true:=by
  intro ys;induction ys with
  |nil=>intro c _ b hb;simp[Tm.ats]at hb
  |cons y r ih2=>
   intro c hm b hb;rw[Tm.ats]at hb;by_cases h:y.tk=1
   ·rw[if_pos h]at hb;exact ih2 _ (fun z hz=>hm z (List.mem_cons_of_mem _ hz)) b hb
   ·rw[if_neg h]at hb;rcases List.mem_cons.1 hb with rfl|hb
    ·exact ih y _ (hx y (hm y (List.mem_cons_self ..)))
    ·exact ih2 _ (fun z hz=>hm z (List.mem_cons_of_mem _ hz)) b hb
 have hL:∀(ys:List Tm) (c:Int),(∀y∈ys,y∈xs)→Tm.isL 6 (Tm.plL ys c).1=true:=by
  intro ys;induction ys with
  |nil=>intro c _;rfl
  |cons y r ih2=>
   intro c hm;rw[Tm.plL,Tm.isL,if_pos rfl,ih y _ (hx y (hm y (List.mem_cons_self ..))),ih2 _ fun z hz=>hm z (List.mem_cons_of_mem _ hz)];rfl
 have hC:∀(ys:List Cs) (c:Int),(∀y∈ys,y∈cs)→Cs.isL (Cs.plL ys c).1=true:=by
  intro ys;induction ys with
  |nil=>intro c _;rfl
  |cons y r ih2=>
   intro c hm;have hy:=hc y (hm y (List.mem_cons_self ..));obtain⟨t,ws,y⟩:=y;rw[Cs.plL,Cs.isL,ih2 _ fun z hz=>hm z (List.mem_cons_of_mem _ hz),Cs.pl,Cs.isP,ih y _ hy.2];rfl
 rw[Tm.pl];split
 ·rename_i h;refine around_isP _ _ (hA xs c fun _ h=>h) ?_;rw[Tm.isP,isL_vars (by omega) _ (ats_vars xs c)];rfl
 split
 ·rename_i h;rw[Tm.isP,hL xs c fun _ h=>h];rfl
 split
 ·rename_i h;refine around_isP _ _ (hA xs c fun _ h=>h) ?_;rw[Tm.isP,isL_vars (by omega) _ (ats_vars xs c),hC cs _ fun _ h=>h];rfl
 ·have h1:k=1∨k=2:=by omega
  have h2:xs=[]∧cs=[]:=by
   unfold X6 at hmany;rcases h1 with rfl|rfl<;> simpa using hmany
  obtain⟨rfl,rfl⟩:=h2;rfl
theorem seqV_nw {c:Int} {n:Nat}:∀s∈Lj c n,NW s:=fun s hs i=>by
 unfold Lj at hs;obtain⟨j,_,rfl⟩:=List.mem_map.1 hs;exact vNm_ne_wNm _ _
theorem Fn.Right.plOk {A:Jj} {x:Fn} (h:x.Right A) (hr:x.body.Rt 25):PlOk A x.rn:=by
 have hb:=(h.rnOk hr).bd;obtain⟨e1,e2⟩:=Px x.params 0 (by omega) (by omega);have hp:x.rn.params=Lj 0 x.params.length:=e1;have hR:=h.rn hr;have hsz:=hR.sz;obtain⟨h3,_⟩:=bd_rn 25 x.body (x.params.zip (J2 x.params 0)) (U7 x.params 0) hr (by omega) (by omega);exact⟨x.O6 hr,hR.wrong,by rw[hp];exact seqV_nw,fun s hs=>seqV_nw s (h3.mem_iff.1 hs),by omega⟩
theorem pl_body {l:List Fn} (hl:M9 l) (h:Kz l=0):∀y∈l.map Fn.pl,y.body.Ok∧y.body.Rt 175∧y.body.isP=true:=fun y hy=>by
 obtain⟨x,hx,rfl⟩:=List.mem_map.1 hy;obtain⟨h1,h2,h3⟩:=P9 hl h x hx;exact⟨(x.pl_ok h1 h2 h3).1,pl_rt 25 x.rn.body 0 (x.O6 h2),pl_isP 25 x.rn.body 0 (x.O6 h2)⟩
def Oj (c:Int) (n:Nat):List ByteArray:=(List.range n).map fun(i:Nat)=>wNm (c+1+(i:Int))
theorem seqW_add (c:Int) (m n:Nat):Oj c (m+n)=Oj c m++Oj (c+m) n:=by
 unfold Oj;rw[List.range_add,List.map_append,List.map_map];congr 1;refine List.map_congr_left fun i _=>?_
 simp only[Function.comp];congr 1
 push_cast
 omega
theorem seqW_one (c:Int):Oj c 1=[wNm (c+1)]:=by simp[Oj]
theorem seqW_nodup {c:Int} (hc:0≤c) (n:Nat):(Oj c n).Nodup:=by
 unfold Oj;rw[List.nodup_iff_pairwise_ne,List.pairwise_map];refine List.Pairwise.imp ?_ List.nodup_range;intro a b hab e;have:=wNm_inj (by omega) (by omega) e;omega
def bsBd:Bs→List ByteArray
 |[]=>[]
 |b::r=>b.1::(b.2.bd++bsBd r)
theorem around_bd:∀(bs:Bs) (t:Tm),(around bs t).bd=bsBd bs++t.bd
 |[],t=>rfl
 |b::r,t=>by simp[around,Tm.bd,Tm.bdL,Cs.bdL,bsBd,around_bd r t]
theorem bdL_nil:∀l:List Tm,(∀x∈l,x.bd=[])→Tm.bdL l=[]
 |[],_=>rfl
 |x::r,h=>by rw[Tm.bdL,h x (List.mem_cons_self ..),bdL_nil r fun y hy=>h y (List.mem_cons_of_mem _ hy)];rfl
theorem var_bd {d:Nat} {t:Tm} (hR:t.Rt d) (h:t.tk=1):t.bd=[]:=by
 obtain⟨k,n,a,b,vs,xs,cs⟩:=t;change k=1 at h;subst h;cases d with
 |zero=>exact hR.elim
 |succ d=>
  obtain⟨_,hmany,_⟩:=hR;unfold X6 at hmany;simp at hmany;obtain⟨rfl,rfl⟩:=hmany;rfl
theorem perm_mid {α:Type} {x a b c d:List α} (h1:x.Perm (a++b)):(x++(c++d)).Perm ((a++c)++(b++d)):=by
 refine(h1.append_right _).trans ?_;rw[List.append_assoc,List.append_assoc];refine List.Perm.append_left a ?_;rw[←List.append_assoc,←List.append_assoc];exact(List.perm_append_comm).append_right d
theorem pl_bd:∀(d:Nat) (t:Tm) (c:Int),t.Rt d→0≤c→c+t.sz<9223372036854775807→∃n:Nat,(t.pl c).2=c+n∧(t.pl c).1.bd.Perm (t.bd++Oj c n):=by
 intro d;induction d with
 |zero=>intro t _ h;exact h.elim
 |succ d ih=>
 intro t c hR h0 hb;obtain⟨k,n,a,b,vs,xs,cs⟩:=t;have hR':=hR;obtain⟨hk,hmany,_,hx,hc⟩:=hR';have hA:∀(ys:List Tm) (c:Int),(∀y∈ys,y∈xs)→0≤c→c+Tm.szs ys+1<9223372036854775807→∃m:Nat,(Tm.ats ys c).2.2=c+m∧m≤Tm.szs ys∧(bsBd (Tm.ats ys c).2.1).Perm (Tm.bdL ys++Oj c m)∧(∀x∈(Tm.ats ys c).1,x.bd=[]):=by
  intro ys;induction ys with
  |nil=>intro c _ _ _;exact⟨0,by simp[Tm.ats],by simp,by simp[Tm.ats,bsBd,Tm.bdL,Oj],by simp[Tm.ats]⟩
  |cons y r ih2=>
   intro c hm h0 hb;rw[Tm.szs]at hb⊢;have hy:=hx y (hm y (List.mem_cons_self ..));have hp:=sz_pos y;rw[Tm.ats];by_cases h:y.tk=1
   ·rw[if_pos h];obtain⟨m,g1,g2,g3,g4⟩:=ih2 c (fun z hz=>hm z (List.mem_cons_of_mem _ hz)) h0 (by push_cast at hb;omega);refine⟨m,g1,by omega,by rw[Tm.bdL,var_bd hy h,List.nil_append];exact g3,fun x hx=>?_⟩;rcases List.mem_cons.1 hx with rfl|hx
    ·exact var_bd hy h
    ·exact g4 x hx
   ·rw[if_neg h];have hw:wr (c+1)=c+1:=wr_of (by omega) (by push_cast at hb;omega);rw[hw];have hcnt:=pl_cnt d y (c+1) hy (by omega) (by push_cast at hb;omega);obtain⟨m1,e1,e2⟩:=ih y (c+1) hy (by omega) (by push_cast at hb;omega);rw[e1]at hcnt⊢;obtain⟨m2,g1,g2,g3,g4⟩:=ih2 (c+1+m1) (fun z hz=>hm z (List.mem_cons_of_mem _ hz)) (by omega) (by push_cast at hb;omega);refine⟨1+m1+m2,by dsimp only;rw[g1];push_cast;omega,by omega,?_,fun x hx=>?_⟩
    ·dsimp only;rw[bsBd,Tm.bdL,seqW_add,seqW_add,seqW_one];have h1:=perm_mid (c:=Tm.bdL r) (d:=Oj (c+1+m1) m2) e2;refine(List.Perm.cons _ (((List.Perm.refl _).append g3).trans h1)).trans ?_;rw[show c+((1+m1:Nat):Int)=c+1+m1 from by push_cast;omega,show c+((1:Nat):Int)=c+1 from by push_cast;omega];rw[List.append_assoc [wNm (c+1)]];exact(List.perm_middle (a:=wNm (c+1)) (l₁:=y.bd++Tm.bdL r) (l₂:=Oj (c+1) m1++Oj (c+1+m1) m2)).symm
    ·rcases List.mem_cons.1 hx with rfl|hx
     ·rfl
     ·exact g4 x hx
 have hL:∀(ys:List Tm) (c:Int),(∀y∈ys,y∈xs)→0≤c→c+Tm.szs ys<9223372036854775807→∃m:Nat,(Tm.plL ys c).2=c+m∧m≤Tm.szs ys∧(Tm.bdL (Tm.plL ys c).1).Perm (Tm.bdL ys++Oj c m):=by
  intro ys;induction ys with
  |nil=>intro c _ _ _;exact⟨0,by simp[Tm.plL],by simp,by simp[Tm.plL,Tm.bdL,Oj]⟩
  |cons y r ih2=>
   intro c hm h0 hb;rw[Tm.szs]at hb⊢;have hy:=hx y (hm y (List.mem_cons_self ..));have hcnt:=pl_cnt d y c hy (by omega) (by push_cast at hb;omega);obtain⟨m1,e1,e2⟩:=ih y c hy (by omega) (by push_cast at hb;omega);rw[Tm.plL];rw[e1]at hcnt⊢;obtain⟨m2,g1,g2,g3⟩:=ih2 (c+m1) (fun z hz=>hm z (List.mem_cons_of_mem _ hz)) (by omega) (by push_cast at hb;omega);refine⟨m1+m2,by dsimp only;rw[g1];push_cast;omega,by omega,?_⟩;dsimp only;rw[Tm.bdL,Tm.bdL,seqW_add];exact((List.Perm.refl _).append g3).trans (perm_mid e2)
 have hC:∀(ys:List Cs) (c:Int),(∀y∈ys,y∈cs)→0≤c→c+Cs.szs ys<9223372036854775807→∃m:Nat,(Cs.plL ys c).2=c+m∧m≤Cs.szs ys∧(Cs.bdL (Cs.plL ys c).1).Perm (Cs.bdL ys++Oj c m):=by
  intro ys;induction ys with
  |nil=>intro c _ _ _;exact⟨0,by simp[Cs.plL],by simp,by simp[Cs.plL,Cs.bdL,Oj]⟩
  |cons y r ih2=>
   intro c hm h0 hb;have hy:=hc y (hm y (List.mem_cons_self ..));obtain⟨t,ws,y⟩:=y;have hy:=hy.2;change y.Rt d at hy;rw[Cs.szs,Cs.sz]at hb⊢;have hcnt:=pl_cnt d y c hy (by omega) (by push_cast at hb;omega);obtain⟨m1,e1,e2⟩:=ih y c hy (by omega) (by push_cast at hb;omega);rw[Cs.plL,Cs.pl];dsimp only;rw[e1]at hcnt⊢;obtain⟨m2,g1,g2,g3⟩:=ih2 (c+m1) (fun z hz=>hm z (List.mem_cons_of_mem _ hz)) (by omega) (by push_cast at hb;omega);refine⟨m1+m2,by rw[g1];push_cast;omega,by omega,?_⟩;rw[Cs.bdL,Cs.bdL,Cs.bd,Cs.bd,seqW_add];refine((List.Perm.refl _).append g3).trans (perm_mid ?_);rw[List.append_assoc];exact(List.Perm.refl _).append e2
 have hs:((Tm.mk k n a b vs xs cs).sz:Int)=1+Tm.szs xs+Cs.szs cs:=by rw[Tm.sz];push_cast;omega
 rw[hs]at hb;rw[Tm.pl];split
 ·rename_i h;have hcs:cs=[]:=by
   unfold X6 at hmany;rcases h with rfl|rfl|rfl<;> simp at hmany<;> first|exact hmany.2|(cases cs with|nil=>rfl|cons _ _=>simp at hmany)
  subst hcs;obtain⟨m,g1,g2,g3,g4⟩:=hA xs c (fun _ h=>h) h0 (by omega);refine⟨m,g1,?_⟩;dsimp only;rw[around_bd,Tm.bd,Tm.bd,if_neg (by omega),bdL_nil _ g4];simpa[Cs.bdL]using g3
 split
 ·rename_i h;subst h;have hcs:cs=[]:=by
   unfold X6 at hmany;simp at hmany;exact hmany.2
  subst hcs;obtain⟨m,g1,g2,g3⟩:=hL xs c (fun _ h=>h) h0 (by omega);refine⟨m,g1,?_⟩;dsimp only;rw[Tm.bd,Tm.bd,if_pos rfl,Cs.bdL,List.append_nil,List.append_nil,List.append_assoc];exact(List.Perm.refl _).append g3
 split
 ·rename_i h;subst h;obtain⟨m,g1,g2,g3,g4⟩:=hA xs c (fun _ h=>h) h0 (by omega);rw[g1];obtain⟨m2,f1,f2,f3⟩:=hC cs (c+m) (fun _ h=>h) (by omega) (by omega);refine⟨m+m2,by dsimp only;rw[f1];push_cast;omega,?_⟩;dsimp only;rw[around_bd,Tm.bd,Tm.bd,if_neg (by omega),if_neg (by omega),bdL_nil _ g4,List.nil_append,List.nil_append,List.nil_append,seqW_add];exact((List.Perm.refl _).append f3).trans (perm_mid g3)
 ·exact⟨0,by simp,by simp[Oj]⟩
theorem Fn.Right.pl_bd {A:Jj} {x:Fn} (h:x.Right A) (hr:x.body.Rt 25):x.pl.bd.Nodup:=by
 have hO:=h.plOk hr;have hn:=x.rn_bd hr (by have:=bd_le 25 x.body hr;have:=h.sz;have:=h.params;unfold Fn.bd;rw[List.length_append];omega);obtain⟨m,_,hp⟩:=Go.Proofs.YtjpldhjgehoffaaGreatDoor.pl_bd 25 x.rn.body 0 (x.O6 hr) (by omega) (by have:=hO.sz;omega);have hp2:x.pl.bd.Perm (x.rn.bd++Oj 0 m):=by
  unfold Fn.bd;rw[List.append_assoc];exact(List.Perm.refl x.rn.params).append hp
 refine hp2.nodup_iff.2 (List.nodup_append.2 ⟨hn,seqW_nodup (by omega) m,fun s hs t ht e=>?_⟩);have hw:NW s:=by
  unfold Fn.bd at hs;rcases List.mem_append.1 hs with hs|hs
  ·exact hO.params s hs
  ·exact hO.bd s hs
 unfold Oj at ht;obtain⟨j,_,rfl⟩:=List.mem_map.1 ht;exact hw _ e
theorem Fn.Right.pl_free {A:Jj} {x:Fn} (h:x.Right A) (hr:x.body.Rt 25):∀s∈x.pl.body.free,s∈x.pl.params:=by
 have hR:=h.rn hr;have hsz:=hR.sz;exact wrong_free A _ x.pl.body x.pl.params (-151) (Nat.lt_succ_self _) (pl_wrong A 25 x.rn.body x.rn.params x.rn.params 0 0 (-151) (x.O6 hr) hR.wrong (fun _ h=>h) (by omega) (by omega) (by omega))
end Go.Proofs.YtjpldhjgehoffaaGreatDoor
