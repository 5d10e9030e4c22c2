import Derived.Test.YtjpldhjgehoffaaGreatDoorFreeA
import Derived.Test.YtjpldhjgehoffaaGreatDoorNameP
import Derived.Lib.AtoiAll
import Derived.Lib.AtoiAllCases
import Derived.Lib.AtoiErrMem
set_option maxRecDepth 100000
set_option maxHeartbeats 16000000
namespace Go.Proofs.YtjpldhjgehoffaaGreatDoor
open Go.RowKit
set_option linter.unusedVariables false
set_option linter.unusedSimpArgs false
abbrev PS:=Nat×Int
def isBl (c:UInt8):Bool:=c.toNat==32||(c.toNat==9||c.toNat==10)
def Qz9 (c:UInt8):Bool:=c.toNat==40||c.toNat==41
def nBl:List UInt8→Nat
 |[]=>0
 |c::r=>if isBl c then nBl r+1 else 0
def nWd:List UInt8→Nat
 |[]=>0
 |c::r=>if isBl c||Qz9 c then 0 else nWd r+1
def nPk:List UInt8→Nat
 |[]=>0
 |c::r=>if Qz9 c then 1 else nWd (c::r)
def pkA (s:ByteArray) (a:Nat):Nat:=a+nBl (s.data.toList.drop a)
def pkE (s:ByteArray) (a:Nat):Nat:=a+nPk (s.data.toList.drop a)
def pkW (s:ByteArray) (a:Nat):ByteArray:=s.extract (pkA s a) (pkE s (pkA s a))
def I6 (e x:Int):Int:=if e=0 then x else e
def nxS (s:ByteArray) (p:PS):PS:=(pkE s (pkA s p.1),if (pkW s p.1).size=0 then I6 p.2 8 else p.2)
def K3 (s w:ByteArray) (p:PS):PS:=if pkW s p.1=w then nxS s p else ((nxS s p).1,I6 (nxS s p).2 2)
def V7 (s:ByteArray) (p:PS):ByteArray×PS:=(pkW s p.1,if R7 (pkW s p.1)then nxS s p else ((nxS s p).1,I6 (nxS s p).2 7))
def numP (w:ByteArray):Int×Bool:=match Lib.atoiAll w.data.toList with
 | .ok v=>(v,decide (Gj v=w))
 | .range=>(Lib.atoiSat w.data.toList,false)
 |_=>(0,false)
def sharp (w:ByteArray):Bool:=match w.data.toList with
 |c::_=>c.toNat==35
 |[]=>false
def tagP (g:Bool) (s:ByteArray) (p:PS):Int×PS:=
 if decide (1<(pkW s p.1).size) && sharp (pkW s p.1) && (numP ((pkW s p.1).extract 1 (pkW s p.1).size)).2 then ((numP ((pkW s p.1).extract 1 (pkW s p.1).size)).1,nxS s p)
 else (if g && (decide (1<(pkW s p.1).size) && sharp (pkW s p.1))then (numP ((pkW s p.1).extract 1 (pkW s p.1).size)).1 else 0,((nxS s p).1,I6 (nxS s p).2 2))
theorem tagP_ref (s:ByteArray) (p:PS):tagP false s p=if decide (1<(pkW s p.1).size) && sharp (pkW s p.1) && (numP ((pkW s p.1).extract 1 (pkW s p.1).size)).2 then ((numP ((pkW s p.1).extract 1 (pkW s p.1).size)).1,nxS s p)
 else (0,((nxS s p).1,I6 (nxS s p).2 2)):=by
 unfold tagP;rw[Bool.false_and];rfl
abbrev rbr:ByteArray:=⟨#[41]⟩
abbrev lbr:ByteArray:=⟨#[40]⟩
def X7 {α:Type} (s:ByteArray) (one:PS→α×PS):Nat→PS→List α×PS
 |0,p=>([],p)
 |n+1,p=>
  if p.2=0 then
   if pkW s p.1=rbr then ([],K3 s rbr (pkA s p.1,p.2))
   else ((one (pkA s p.1,p.2)).1::(X7 s one n (one (pkA s p.1,p.2)).2).1,(X7 s one n (one (pkA s p.1,p.2)).2).2)
  else ([],K3 s rbr p)
def primsL:List ByteArray:=[⟨#[43]⟩,⟨#[45]⟩,⟨#[42]⟩,⟨#[60]⟩,⟨#[61]⟩]
def primI (w:ByteArray):List ByteArray→Int→Int→Int
 |[],_,r=>r
 |x::l,i,r=>primI w l (i+1) (if w=x then i+1 else r)
abbrev wLet:ByteArray:=⟨#[108,101,116]⟩
abbrev wMatch:ByteArray:=⟨#[109,97,116,99,104]⟩
def I5 (g:Bool) (s:ByteArray) (one:PS→Tm×PS) (p:PS):Cs×PS:=
 let t:=tagP g s (K3 s lbr p)
 let ws:=X7 s (V7 s) (s.size+2) (K3 s lbr t.2)
 let y:=one ws.2
 (.mk t.1 ws.1 y.1,K3 s rbr y.2)
def atomP (s:ByteArray) (p:PS):Tm×PS:=
 if (numP (pkW s p.1)).2 then (.mk 2 (numP (pkW s p.1)).1 .empty .empty [] [] [],nxS s p)
 else (.mk 1 0 (pkW s p.1) .empty [] [] [],if R7 (pkW s p.1)then nxS s p else ((nxS s p).1,I6 (nxS s p).2 7))
def formP (g:Bool) (s:ByteArray) (one:PS→Tm×PS) (w:ByteArray) (p:PS):Tm×PS:=
 if sharp w then
  let t:=tagP g s p
  let xs:=X7 s one (s.size+2) t.2
  (.mk 3 t.1 .empty .empty [] xs.1 [],xs.2)
 else if w=wLet then
  let nm:=V7 s (nxS s p)
  let x:=one nm.2
  let y:=one x.2
  (.mk 6 0 nm.1 .empty [] [x.1,y.1] [],K3 s rbr y.2)
 else if w=wMatch then
  let x:=one (nxS s p)
  let cs:=X7 s (I5 g s one) (s.size+2) x.2
  (.mk 7 0 .empty .empty [] [x.1] cs.1,cs.2)
 else if 0<primI w primsL 0 0 then
  let x:=one (nxS s p)
  let y:=one x.2
  (.mk 5 (primI w primsL 0 0) .empty .empty [] [x.1,y.1] [],K3 s rbr y.2)
 else
  let nm:=V7 s p
  let xs:=X7 s one (s.size+2) nm.2
  (.mk 4 0 nm.1 .empty [] xs.1 [],xs.2)
def Tm.ps (g:Bool) (s:ByteArray):Nat→PS→Tm×PS
 |0,p=>(.mk 0 0 .empty .empty [] [] [],(p.1,I6 p.2 9))
 |n+1,p=>
  if pkW s p.1=lbr then formP g s (Tm.ps g s n) (pkW s (nxS s p).1) (pkA s (nxS s p).1,(nxS s p).2)
  else atomP s (pkA s p.1,p.2)
abbrev wFn:ByteArray:=⟨#[102,110]⟩
def fnP (g:Bool) (s:ByteArray) (p:PS):Fn×PS:=
 let nm:=V7 s (K3 s wFn (K3 s lbr p))
 let ws:=X7 s (V7 s) (s.size+2) (K3 s lbr nm.2)
 let y:=Tm.ps g s 25 ws.2
 (⟨nm.1,ws.1,y.1⟩,K3 s rbr y.2)
def fnsP (g:Bool) (s:ByteArray):Nat→PS→List Fn×PS
 |0,p=>([],p)
 |n+1,p=>
  if p.2=0 then
   if (pkW s p.1).size=0 then ([],(pkA s p.1,p.2))
   else ((fnP g s (pkA s p.1,p.2)).1::(fnsP g s n (fnP g s (pkA s p.1,p.2)).2).1,(fnsP g s n (fnP g s (pkA s p.1,p.2)).2).2)
  else ([],p)
def parseP (g:Bool) (s:ByteArray):List Fn×Int:=
 if 1500<s.size then ([],4)
 else if (fnsP g s (s.size+2) (0,0)).2.2=0 then ((fnsP g s (s.size+2) (0,0)).1,0)else ([],(fnsP g s (s.size+2) (0,0)).2.2)
structure Stp (s:ByteArray) (p q:PS):Prop where
 le:p.1≤q.1
 sz:q.1≤s.size
 er:p.2≠0→q.2=p.2
structure Adv (s:ByteArray) (p q:PS):Prop extends Stp s p q where
 on:q.2≠0∨p.1<q.1
theorem Stp.trans {s:ByteArray} {p q r:PS} (h:Stp s p q) (h2:Stp s q r):Stp s p r:=⟨Nat.le_trans h.le h2.le,h2.sz,fun e=>by have h3:=h.er e;rw[h2.er (by rw[h3];exact e),h3]⟩
theorem Adv.trans {s:ByteArray} {p q r:PS} (h:Stp s p q) (h2:Adv s q r):Adv s p r:=⟨h.trans h2.toStp,h2.on.imp id fun h3=>Nat.lt_of_le_of_lt h.le h3⟩
theorem Adv.then {s:ByteArray} {p q r:PS} (h:Adv s p q) (h2:Stp s q r):Adv s p r:=⟨h.toStp.trans h2,by
 rcases h.on with h3|h3
 ·exact .inl (by rw[h2.er h3];exact h3)
 ·exact .inr (Nat.lt_of_lt_of_le h3 h2.le)⟩
theorem nBl_le:∀l:List UInt8,nBl l≤l.length
 |[]=>Nat.le_refl _
 |c::r=>by
  have:=nBl_le r;rw[nBl];split<;> simp<;> omega
theorem nWd_le:∀l:List UInt8,nWd l≤l.length
 |[]=>Nat.le_refl _
 |c::r=>by
  have:=nWd_le r;rw[nWd];split<;> simp<;> omega
theorem nPk_le:∀l:List UInt8,nPk l≤l.length
 |[]=>Nat.le_refl _
 |c::r=>by
  have:=nWd_le (c::r);rw[nPk];split
  ·simp
  ·exact this
theorem toList_size (s:ByteArray):s.data.toList.length=s.size:=Array.length_toList
theorem U5 {s:ByteArray} {a:Nat} (h:a≤s.size):a≤pkA s a∧pkA s a≤s.size:=by
 have:=nBl_le (s.data.toList.drop a);rw[List.length_drop,toList_size]at this;unfold pkA;omega
theorem pkE_le {s:ByteArray} {a:Nat} (h:a≤s.size):a≤pkE s a∧pkE s a≤s.size:=by
 have:=nPk_le (s.data.toList.drop a);rw[List.length_drop,toList_size]at this;unfold pkE;omega
theorem Qz4 {s:ByteArray} {a:Nat} (h:a≤s.size):(pkW s a).size=pkE s (pkA s a)-pkA s a:=by
 have h1:=U5 h;have h2:=pkE_le h1.2;unfold pkW;rw[ByteArray.size_extract];omega
theorem badE_ne {e x:Int} (hx:x≠0):I6 e x≠0:=by
 unfold I6;split<;> assumption
theorem badE_er {e x:Int} (h:e≠0):I6 e x=e:=if_neg h
theorem Stp.pk {s:ByteArray} {p:PS} (h:p.1≤s.size):Stp s p (pkA s p.1,p.2):=⟨(U5 h).1,(U5 h).2,fun _=>rfl⟩
theorem Stp.bad {s:ByteArray} {p q:PS} {x:Int} (h:Stp s p q):Stp s p (q.1,I6 q.2 x):=⟨h.le,h.sz,fun e=>by
 have h2:=h.er e;dsimp only;rw[badE_er (by rw[h2];exact e),h2]⟩
theorem Adv.bad {s:ByteArray} {p q:PS} {x:Int} (h:Adv s p q):Adv s p (q.1,I6 q.2 x):=⟨h.toStp.bad,by
 rcases h.on with h3|h3
 ·exact .inl (by dsimp only;rw[badE_er h3];exact h3)
 ·exact .inr h3⟩
theorem V6 {s:ByteArray} {p:PS} (h:p.1≤s.size):Adv s p (nxS s p):=by
 have h1:=U5 h;have h2:=pkE_le h1.2;have h3:=Qz4 h;unfold nxS;refine⟨⟨Nat.le_trans h1.1 h2.1,h2.2,fun e=>?_⟩,?_⟩
 ·dsimp only;split
  ·exact badE_er e
  ·rfl
 ·dsimp only;split
  ·exact .inl (badE_ne (by decide))
  ·exact .inr (by omega)
theorem K7 {s w:ByteArray} {p:PS} (h:p.1≤s.size):Adv s p (K3 s w p):=by
 unfold K3;split
 ·exact V6 h
 ·exact(V6 h).bad
theorem W9 {s:ByteArray} {p:PS} (h:p.1≤s.size):Adv s p (V7 s p).2:=by
 unfold V7;dsimp only;split
 ·exact V6 h
 ·exact(V6 h).bad
theorem tagP_adv {g:Bool} {s:ByteArray} {p:PS} (h:p.1≤s.size):Adv s p (tagP g s p).2:=by
 unfold tagP;split
 ·exact V6 h
 ·exact(V6 h).bad
theorem N9 {α:Type} {s:ByteArray} {one:PS→α×PS} (ho:∀p:PS,p.1≤s.size→Adv s p (one p).2):∀(n:Nat) (p:PS),p.1≤s.size→Stp s p (X7 s one n p).2∧(n≠0→Adv s p (X7 s one n p).2)∧(X7 s one n p).1.length≤n
 |0,p,h=>⟨⟨Nat.le_refl _,h,fun _=>rfl⟩,fun h=>absurd rfl h,Nat.le_refl _⟩
 |n+1,p,h=>by
  have key:Adv s p (X7 s one (n+1) p).2∧(X7 s one (n+1) p).1.length≤n+1:=by
   rw[X7];split
   ·split
    ·exact⟨Adv.trans (Stp.pk h) (K7 (U5 h).2),Nat.zero_le _⟩
    ·have h1:=ho (pkA s p.1,p.2) (U5 h).2;obtain⟨h2,_,h3⟩:=N9 ho n (one (pkA s p.1,p.2)).2 h1.sz;exact⟨Adv.trans (Stp.pk h) (h1.then h2),by simpa using h3⟩
   ·exact⟨K7 h,Nat.zero_le _⟩
  exact⟨key.1.toStp,fun _=>key.1,key.2⟩
theorem casP_adv {g:Bool} {s:ByteArray} {one:PS→Tm×PS} (ho:∀p:PS,p.1≤s.size→Adv s p (one p).2) {p:PS} (h:p.1≤s.size):Adv s p (I5 g s one p).2:=by
 unfold I5;dsimp only;have h1:=K7 (w:=lbr) h;have h2:=tagP_adv (g:=g) h1.sz;have h3:=K7 (w:=lbr) h2.sz;have h4:=(N9 (fun p h=>W9 h) (s.size+2) _ h3.sz).1;have h5:=ho _ h4.sz;exact(h1.then h2.toStp).then ((h3.toStp.trans h4).trans (h5.toStp.trans (K7 h5.sz).toStp))
theorem formP_adv {g:Bool} {s w:ByteArray} {one:PS→Tm×PS} (ho:∀p:PS,p.1≤s.size→Adv s p (one p).2) {p:PS} (h:p.1≤s.size):Adv s p (formP g s one w p).2:=by
 unfold formP;split
 ·have h1:=tagP_adv (g:=g) h;exact h1.then (N9 ho _ _ h1.sz).1
 split
 ·have h1:=V6 h;have h2:=W9 h1.sz;have h3:=ho _ h2.sz;have h4:=ho _ h3.sz;exact(h1.then h2.toStp).then (h3.toStp.trans (h4.toStp.trans (K7 h4.sz).toStp))
 split
 ·have h1:=V6 h;have h3:=ho _ h1.sz;exact h1.then (h3.toStp.trans (N9 (fun p h=>casP_adv ho h) _ _ h3.sz).1)
 split
 ·have h1:=V6 h;have h3:=ho _ h1.sz;have h4:=ho _ h3.sz;exact h1.then (h3.toStp.trans (h4.toStp.trans (K7 h4.sz).toStp))
 ·have h1:=W9 h;exact h1.then (N9 ho _ _ h1.sz).1
theorem Dx {g:Bool} {s:ByteArray}:∀(n:Nat) (p:PS),p.1≤s.size→Adv s p (Tm.ps g s n p).2
 |0,p,h=>⟨⟨Nat.le_refl _,h,fun e=>badE_er e⟩,.inl (badE_ne (by decide))⟩
 |n+1,p,h=>by
  rw[Tm.ps];split
  ·have h1:=V6 h;exact h1.then ((Stp.pk h1.sz).trans (formP_adv (Dx n) (U5 h1.sz).2).toStp)
  ·refine Adv.trans (Stp.pk h) ?_;have h1:=V6 (s:=s) (p:=(pkA s p.1,p.2)) (U5 h).2;unfold atomP;split
   ·exact h1
   ·dsimp only;split
    ·exact h1
    ·exact h1.bad
theorem fnP_adv {g:Bool} {s:ByteArray} {p:PS} (h:p.1≤s.size):Adv s p (fnP g s p).2:=by
 unfold fnP;dsimp only;have h1:=K7 (w:=lbr) h;have h2:=K7 (w:=wFn) h1.sz;have h3:=W9 h2.sz;have h4:=K7 (w:=lbr) h3.sz;have h5:=(N9 (fun p h=>W9 h) (s.size+2) _ h4.sz).1;have h6:=Dx (g:=g) 25 _ h5.sz;exact(h1.then h2.toStp).then ((h3.toStp.trans h4.toStp).trans (h5.trans (h6.toStp.trans (K7 h6.sz).toStp)))
theorem numP_in (s:ByteArray):inI (numP s).1:=by
 unfold numP;rcases h:Lib.atoiAll s.data.toList with v|_|_
 ·exact Lib.atoiAll_bounds h
 ·exact⟨by dsimp only;decide,by dsimp only;decide⟩
 ·exact Lib.atoiSat_bounds _
theorem number_calls (s : ByteArray) (hs : s.size≤281474976710656) (w : World) (hg : GI w) : Calls Tryz.prog 78 #[.string s] w fun e w'=>e = .returned (.tuple #[.int .i64 (numP s).1,.bool (numP s).2])∧Below w.heap.size w w':=by
 have gi : ∀ w' : World,Below w.heap.size w w'→GI w':=fun w' hB=>hg.keep fun b hb=>hB.block b (hg.lt hb)
 unfold numP
 rcases h : Lib.atoiAll s.data.toList with v | _ | _
 ·have hv:=Lib.atoiAll_bounds h
  go_enter Tryz.func78,Tryz.ntmps78
  go_wp2_with (first
   | (go_at_call 114;refine (Tryz.strconv_Atoi_ok s (by omega) v h _).mono ?_;rintro e w1 ⟨rfl,hw⟩;have hB : Below w.heap.size w w1:=(by rcases hw with rfl | ⟨t,rfl⟩ <;> first | exact Below.refl _ _ | exact Lib.bytesWorld_below _ _ _);clear hw;have hG:=(gi _ hB).pow)
   | (go_at_call 67;refine (Tryz.strconv_Itoa v hv.1 hv.2 _ (by assumption)).mono ?_;rintro e w2 ⟨rfl,k,os,rfl⟩))
  go_ret2
  refine ⟨?_,hB.trans ⟨rfl,rfl,rfl,by simp [Go.Sort.grow,World.drewN],fun b hb=>?_⟩⟩
  ·have e1 : (Lib.itoa v == s.toList) = decide ((⟨(Lib.itoa v).toArray⟩ : ByteArray) = s):=by
    have h2:=ByteArray.beq_toList (⟨(Lib.itoa v).toArray⟩ : ByteArray) s
    rwa [ByteArray.toList_eq (⟨(Lib.itoa v).toArray⟩ : ByteArray)] at h2
   show _ = Ending.returned (Value.tuple #[Value.int IntKind.i64 v,Value.bool (decide ((⟨(Lib.itoa v).toArray⟩ : ByteArray) = s))])
   rw [← e1]
   rfl
  simp only [Go.Sort.grow,World.drewN]
  rw [Array.getElem?_append_left (Nat.lt_of_lt_of_le hb hB.size)]
 ·obtain ⟨tp,p,hvar⟩:=hg.syn
  go_enter Tryz.func78,Tryz.ntmps78
  go_wp2_with (go_at_call 114;refine (Tryz.strconv_Atoi_syntax_var s hs h tp p _ hvar).mono ?_;rintro e w' ⟨N,rfl,_,_,hB⟩)
  go_ret2
  exact ⟨rfl,hB⟩
 ·obtain ⟨tp,p,hvar⟩:=hg.rng
  go_enter Tryz.func78,Tryz.ntmps78
  go_wp2_with (go_at_call 114;refine (Tryz.strconv_Atoi_range_var s hs h tp p _ hvar).mono ?_;rintro e w' ⟨N,rfl,_,_,hB⟩)
  go_ret2
  exact ⟨rfl,hB⟩
theorem sp_Number (s:ByteArray) (hs:s.size≤281474976710656):Z4 Tryz.prog 78 [.d (.str s)] (fun _=>.tuple [.d (.int (numP s).1),.d (.bool (numP s).2)]) none:=by
 refine⟨⟨_,Tryz.func78,rfl,rfl⟩,fun d=>rfl,fun _ d=>rfl,by simp,fun d w ok vals hgi hok hl hv=>?_⟩;match vals,hl with
 |⟨[v]⟩,_=>
 obtain⟨rfl,_⟩:=(hv 0 _ v rfl rfl).Zv.R9;refine(number_calls s hs w hgi).mono ?_;rintro e w' ⟨rfl,hB⟩;obtain⟨h1,h2⟩:=numP_in s;exact⟨_,ok,noG,rfl,hB,fun b h=>h,fun b h=>.inl h,.tuple _ _ rfl (fun i c v hc hv=>by
  rcases i with _|_|i<;> simp at hc hv<;> subst hc hv
  ·exact .d _ _ (.int _ h1 h2)
  ·exact .d _ _ (.bool _)),by simp⟩
end Go.Proofs.YtjpldhjgehoffaaGreatDoor
namespace Go.Proofs.YtjpldhjgehoffaaGreatDoor
open Go.RowKit
attribute [local simp] Iz mkRc ldOf stOf stOk Nw Mv Rw Kj V9 Yj Yw J3 Y8 Bz evA Vj Dz Value.oneCell' Zj Q4 Z7 Qx1 U6 Z5 AS.after Zq Kq J8 AV.ids Mj Qz.ids frNo Nv G6 Wj H6 Y1 Y3 Vx U1 U0 Yz toD1 Sw setAt U9 Ij Dj L8 Gz L9 binI AV.cells J4 Jq Gq Wq AV.kill Qz.kill AV.has AV.K6 Op.operands Call.operands Dq Dw Zw Qv2 Zx Xq E8 moQ Mk R4 Yk AV.ren E5 Qz.ren Qz.like kept Zz Mw AV.frz Pz Ik Ak F8 Uk AS.frz Tw Rq Qz.frz Hq Hz bleF Nat.ble_eq G9 G7 Yq D.Y5 N7 R8 Vv Vw phO Ew Dk Gx Uj Kv Low Ex
set_option linter.unusedVariables false
set_option linter.unusedSimpArgs false
abbrev nObj (c:Int):Qz:=.blk 141 [.d (.int c)]
theorem vsz (e:Int) (h:inI e):(vNm e).size≤22:=by
 have:=Rx h;show(⟨#[118]⟩++Gj e:ByteArray).size≤22;rw[ByteArray.size_append];have h1:(⟨#[118]⟩:ByteArray).size=1:=rfl;omega
theorem cs_fresh (ws:List ByteArray) (c:Int) (hw6:ws.length≤6):Qv Tryz.prog 90 [.ptr 1000 0,Zk ws] [(1000,nObj c)] (.tuple [Zk (J2 ws c),psAV (ws.zip (J2 ws c))]) [(1000,nObj (U7 ws c))]:=by
 obtain⟨US,hUS⟩:∃US,US=J2 ws c:=⟨_,rfl⟩
 obtain⟨PS,hPS⟩:∃PS,PS=ws.zip US:=⟨_,rfl⟩
 obtain⟨E,hE⟩:∃E,E=U7 ws c:=⟨_,rfl⟩
 rw[←hUS,←hPS,←hE];refine Qv.of Tryz.func90 rfl rfl (Nat.le_of_ble_eq_true rfl) ?_;show AWp _ _ (Qk _ Tryz.f90 _ _) (Zz 43 _ _);refine AWp.rg [] [] ?_ (hr:=by conv=>lhs;simp[psR,E9]);refine AWp.rg [] [] ?_ (hr:=by conv=>lhs;simp[psR,E9]);refine AWp.rg [] [] ?_ (hr:=by conv=>lhs;simp[psR,E9]);refine AWp.rg [] [] ?_ (hr:=by conv=>lhs;simp[psR,E9]);repeat (first|refine AWp.seq ?_|refine AWp.block ?_)
 refine AWp.le (Le.low [400,401] [] (fr:=[(0,.ptr 1000 0),(6,.arr 400 0 ([]:List ByteArray).length),(7,.arr 401 0 ([]:Ps).length),(11,.d (Q8 ws)),(12,.d (.int (ws.length:Int))),(13,.d (.int (0:Int)))]) (mem:=[(400,some (.arr 9 1 (([]:List ByteArray).map Z0))),(401,some (.arr 179 2 (([]:Ps).map psR))),(1000,some (.blk 141 [.d (.int (c:Int))]))]) rfl (by simp) (by simp)) ?_;refine AWp.loop (σ:=fun u:{u:Nat×List ByteArray×Ps×Int // u.1≤ws.length∧(J2 ws c=u.2.1++J2 (ws.drop u.1) u.2.2.2∧U7 ws c=U7 (ws.drop u.1) u.2.2.2∧u.2.1.length=u.1∧u.2.2.1=(ws.take u.1).zip u.2.1)}=>⟨43,[(0,.ptr 1000 0),(6,.arr 400 0 u.1.2.1.length),(7,.arr 401 0 u.1.2.2.1.length),(11,.d (Q8 ws)),(12,.d (.int (ws.length:Int))),(13,.d (.int (u.1.1:Int)))],[(400,some (.arr 9 1 (u.1.2.1.map Z0))),(401,some (.arr 179 2 (u.1.2.2.1.map psR))),(1000,some (.blk 141 [.d (.int u.1.2.2.2)]))]⟩)
  (μ:=fun u=>ws.length-u.1.1) ⟨(0,[],[],c),⟨Nat.zero_le _,⟨by simp,by simp,rfl,by simp⟩⟩⟩ (Le.sub (by simp) (by simp)) (fun⟨(i,us,ps,k),⟨hi4,hw⟩⟩=>?_)
 dsimp only at hi4 hw⊢;refine AWp.rg [] [] ?_ (hr:=by conv=>lhs;simp[psR,E9]);repeat (first|refine AWp.seq ?_|refine AWp.block ?_)
 refine AWp.cond rfl (fun hc=>?_) (fun hc=>?_)
 ·have hi1:i<ws.length:=by have:=of_decide_eq_true hc;omega
  clear hc;have h1x:ws[i]? =some ws[i]:=List.getElem?_eq_getElem hi1;have hmx:ws[i]∈ws:=List.getElem_mem hi1;have hdx:ws.drop i=ws[i]::ws.drop (i+1):=List.drop_eq_getElem_cons hi1;generalize ws[i]=x at h1x hmx hdx;obtain⟨hfr,hfc,hul,hps⟩:=hw;obtain⟨e,he⟩:∃e:Int,wr (k+1)=e:=⟨_,rfl⟩
  have heI:inI e:=by rw[←he];exact wr_in _
  have hit:=sp_Itoa e heI;have hsz:=Rx heI;have h1s:(⟨#[118]⟩:ByteArray).size=1:=rfl;have hpl:ps.length=i:=by rw[hps,List.length_zip,hul,List.length_take];omega
  refine AWp.skip ?_;refine AWp.rg [] [] ?_ (hr:=by conv=>lhs;simp[psR,E9,h1x,he]);refine AWp.rg [4] [] ?_ (hr:=by conv=>lhs;simp[psR,E9,h1x,he]);refine AWp.rg [] [.p (fun _=>.d (.str (Gj e))) none] ?_ (hr:=by conv=>lhs;simp[psR,E9,h1x,he]);refine AWp.rg [] [] ?_ (hr:=by conv=>lhs;simp[psR,E9,h1x,he]);refine AWp.rg [] [] ?_ (hr:=by conv=>lhs;simp[psR,E9,h1x,he]);refine AWp.rg [] [] ?_ (hr:=by conv=>lhs;simp[psR,E9,h1x,he]);refine⟨⟨(i+1,us++[vNm e],ps++[(x,vNm e)],e),hi1,⟨by rw[hfr,hdx,J2,he];simp,by rw[hfc,hdx,U7,he],by simp[hul],by rw[hps,List.take_add_one,h1x,List.zip_append (by rw[List.length_take,hul];omega)];rfl⟩⟩,by simp;omega,?_⟩;dsimp only;exact Le.sub (by simp[vNm,psR]) (by simp[vNm,psR])
 have hi1:i=ws.length:=by have:=of_decide_eq_false hc;omega
 subst hi1;clear hc;obtain⟨hfr,hfc,hul,hps⟩:=hw;rw[List.drop_length,J2,List.append_nil]at hfr;rw[List.drop_length,U7]at hfc;rw[List.take_length]at hps;obtain rfl:us=US:=by rw[hUS,hfr]
 obtain rfl:ps=PS:=by rw[hPS,hps]
 obtain rfl:k=E:=by rw[hE,hfc]
 clear hfr hfc hps hPS hUS hE;refine AWp.exit ?_;refine AWp.rg [] [] ?_ (hr:=by conv=>lhs;simp[psR,E9]);refine AWp.ret ?_;try dsimp only[Qq,Q6]
 apply Qk.retF [400,401]
 ·rfl
 ·conv=>lhs;simp
 ·conv=>lhs;simp[Q9,Tryz.results90]
 ·rfl
 ·simp[Qx,Q4]
theorem cs_fresh1 (s:ByteArray) (c:Int):Qv Tryz.prog 90 [.ptr 1000 0,.d (.sl [[.str s]])] [(1000,nObj c)] (.tuple [.d (.sl [[.str (vNm (wr (c+1)))]]),.d (.sl [[.str s,.str (vNm (wr (c+1)))]])]) [(1000,nObj (wr (c+1)))]:=by
 exact cs_fresh [s] c (by simp)
theorem nowP_snoc {ps:Ps} {i:Nat} {p:ByteArray×ByteArray} (h:ps[i]? =some p) (s:ByteArray):nowP (ps.take (i+1)) s=if p.1=s then p.2 else nowP (ps.take i) s:=by
 unfold nowP;rw[List.take_add_one,h,List.foldl_append];rfl
def RnE (N:Nat):Prop:=∀(t:Tm) (ps:Ps) (c:Int),t.Rt N→t.Ok→ps.length+6 * N≤1000→
 Qv Tryz.prog 91 [.ptr 1000 0,X9 t,psAV ps] [(1000,nObj c)] (X9 (t.rn ps c).1) [(1000,nObj (t.rn ps c).2)]
theorem rn_step (N:Nat) (ih:RnE N):RnE (N+1):=by
 intro t ps c hRt hO hps;obtain⟨R,hR⟩:∃R,R=t.rn ps c:=⟨_,rfl⟩
 rw[←hR];obtain⟨tk,tn,ta,tb,tvs,txs,tcs⟩:=t;obtain⟨hkk,hmany,h6,hxR,hcR⟩:=hRt;have hxO:∀x∈txs,x.Ok:=fun x hx=>Tm.X8.1 hO.2.2.1 x hx
 refine Qv.of Tryz.func91 rfl rfl (Nat.le_of_ble_eq_true rfl) ?_;show AWp _ _ (Qk _ Tryz.f91 _ _) (Zz 118 _ _);refine AWp.rg [] [] ?_ (hr:=by conv=>lhs;simp[Tm.row,Tm.Q3,Cs.Q3,psR]);refine AWp.rg [] [] ?_ (hr:=by conv=>lhs;simp[Tm.row,Tm.Q3,Cs.Q3,psR]);refine AWp.rg [] [] ?_ (hr:=by conv=>lhs;simp[Tm.row,Tm.Q3,Cs.Q3,psR]);by_cases q1:tk=1
 ·refine AWp.rg [] [] ?_ (hr:=by conv=>lhs;simp[Tm.row,Tm.Q3,Cs.Q3,psR,q1]);refine AWp.cy ?_;subst q1;obtain rfl:R=(.mk 1 tn (nowP ps ta) tb tvs [] [],c):=by rw[hR,Tm.rn,if_pos rfl]
  refine AWp.rg [] [] ?_ (hr:=by conv=>lhs;simp[Tm.row,Tm.Q3,Cs.Q3,psR]);repeat (first|refine AWp.seq ?_|refine AWp.block ?_)
  refine AWp.loop (σ:=fun u:{u:Nat // u≤ps.length}=>⟨118,[(4,.ptr 4 0),(6,.ptr 6 0),(7,.ptr 7 0),(25,.d (.sl (ps.map psR))),(26,.d (.int (ps.length:Int))),(27,.d (.int (u.1:Int)))],[(4,some (.blk 45 [.d (.int 1),.d (.int tn),.d (.str ta),.d (.str tb),.d (Q8 tvs),.d (.sl (txs.map Tm.row)),.d (.sl (tcs.map Cs.row))])),(6,some (.blk 45 [.d (.int 0),.d (.int 0),.d (.str ByteArray.empty),.d (.str ByteArray.empty),.lit (.slice none 0 0),.lit (.slice none 0 0),.lit (.slice none 0 0)])),(7,some (.blk 45 [.d (.int 1),.d (.int tn),.d (.str (nowP (ps.take u.1) ta)),.d (.str tb),.d (Q8 tvs),.lit (.slice none 0 0),.lit (.slice none 0 0)])),(1000,some (.blk 141 [.d (.int c)]))]⟩)
   (μ:=fun u=>ps.length-u.1) ⟨0,Nat.zero_le _⟩ (Le.sub (by simp[nowP]) (by simp[nowP])) (fun⟨i,hi5⟩=>?_)
  dsimp only;refine AWp.rg [] [] ?_ (hr:=by conv=>lhs;simp[Tm.row,Tm.Q3,Cs.Q3,psR]);repeat (first|refine AWp.seq ?_|refine AWp.block ?_)
  refine AWp.cond rfl (fun hc=>?_) (fun hc=>?_)
  ·have hi1:i<ps.length:=by have:=of_decide_eq_true hc;omega
   clear hc;have h1p:ps[i]? =some ps[i]:=List.getElem?_eq_getElem hi1;have hmp:ps[i]∈ps:=List.getElem_mem hi1;have hdp:ps.drop i=ps[i]::ps.drop (i+1):=List.drop_eq_getElem_cons hi1;generalize ps[i]=p at h1p hmp hdp;have hsn:=nowP_snoc h1p ta;generalize nowP (ps.take i) ta=nw at hsn⊢;obtain⟨pf,pg⟩:=p;refine AWp.skip ?_;refine AWp.rg [] [] ?_ (hr:=by conv=>lhs;simp[Tm.row,Tm.Q3,Cs.Q3,psR,h1p]);by_cases q2:pf=ta
   ·refine AWp.rg [] [] ?_ (hr:=by conv=>lhs;simp[Tm.row,Tm.Q3,Cs.Q3,psR,h1p,q2]);refine AWp.cy ?_;refine AWp.rg [] [] ?_ (hr:=by conv=>lhs;simp[Tm.row,Tm.Q3,Cs.Q3,psR,h1p,q2]);refine AWp.rg [] [] ?_ (hr:=by conv=>lhs;simp[Tm.row,Tm.Q3,Cs.Q3,psR,h1p,q2]);refine⟨⟨i+1,hi1⟩,by simp;omega,?_⟩;dsimp only;rw[if_pos (by assumption)]at hsn;rw[hsn];exact Le.sub (by simp) (by simp)
   refine AWp.rg [] [] ?_ (hr:=by conv=>lhs;simp[Tm.row,Tm.Q3,Cs.Q3,psR,h1p,q2]);refine AWp.cn ?_;refine AWp.skip ?_;refine AWp.rg [] [] ?_ (hr:=by conv=>lhs;simp[Tm.row,Tm.Q3,Cs.Q3,psR,h1p,q2]);refine⟨⟨i+1,hi1⟩,by simp;omega,?_⟩;dsimp only;rw[if_neg (by assumption)]at hsn;rw[hsn];exact Le.sub (by simp) (by simp)
  have hi1:i=ps.length:=by have:=of_decide_eq_false hc;omega
  subst hi1;clear hc;rw[List.take_length];refine AWp.exit ?_;refine AWp.rg [] [] ?_ (hr:=by conv=>lhs;simp[Tm.row,Tm.Q3,Cs.Q3,psR]);refine AWp.ret ?_;try dsimp only[Qq,Q6]
  apply Qk.ret
  ·rfl
  ·conv=>lhs;simp[Q9,Tryz.results91]
  ·rfl
  ·simp[Qx,Q4]
 refine AWp.rg [] [] ?_ (hr:=by conv=>lhs;simp[Tm.row,Tm.Q3,Cs.Q3,psR,q1]);refine AWp.cn ?_;refine AWp.skip ?_;rw[Tm.rn,if_neg q1]at hR;refine AWp.rg [] [] ?_ (hr:=by conv=>lhs;simp[Tm.row,Tm.Q3,Cs.Q3,psR,q1]);repeat (first|refine AWp.seq ?_|refine AWp.block ?_)
 refine AWp.le (Le.low [400] [] (fr:=[(0,.ptr 1000 0),(2,.d (.sl (ps.map psR))),(4,.ptr 4 0),(6,.ptr 6 0),(7,.ptr 7 0),(42,.d (.sl (txs.map Tm.row))),(43,.d (.int (txs.length:Int))),(44,.d (.int (0:Int)))]) (mem:=[(4,some (.blk 45 [.d (.int tk),.d (.int tn),.d (.str ta),.d (.str tb),.d (Q8 tvs),.d (.sl (txs.map Tm.row)),.d (.sl (tcs.map Cs.row))])),(6,some (.blk 45 [.d (.int 0),.d (.int 0),.d (.str ByteArray.empty),.d (.str ByteArray.empty),.lit (.slice none 0 0),.lit (.slice none 0 0),.lit (.slice none 0 0)])),(7,some (.blk 45 [.d (.int tk),.d (.int tn),.d (.str (ta:ByteArray)),.d (.str tb),.d (Q8 tvs),.arr 400 0 ([]:List Tm).length,.lit (.slice none 0 0)])),(400,some (.arr 45 7 (([]:List Tm).map Tm.row))),(1000,some (.blk 141 [.d (.int (c:Int))]))]) rfl (by simp) (by simp)) ?_;refine AWp.loop (σ:=fun u:{u:Nat×List Tm×ByteArray×Int // u.1≤txs.length∧(Tm.rns tk ta ps 0 txs ta c=(u.2.1++(Tm.rns tk ta ps u.1 (txs.drop u.1) u.2.2.1 u.2.2.2).1,(Tm.rns tk ta ps u.1 (txs.drop u.1) u.2.2.1 u.2.2.2).2)∧u.2.1.length=u.1)}=>⟨118,[(0,.ptr 1000 0),(2,.d (.sl (ps.map psR))),(4,.ptr 4 0),(6,.ptr 6 0),(7,.ptr 7 0),(42,.d (.sl (txs.map Tm.row))),(43,.d (.int (txs.length:Int))),(44,.d (.int (u.1.1:Int)))],[(4,some (.blk 45 [.d (.int tk),.d (.int tn),.d (.str ta),.d (.str tb),.d (Q8 tvs),.d (.sl (txs.map Tm.row)),.d (.sl (tcs.map Cs.row))])),(6,some (.blk 45 [.d (.int 0),.d (.int 0),.d (.str ByteArray.empty),.d (.str ByteArray.empty),.lit (.slice none 0 0),.lit (.slice none 0 0),.lit (.slice none 0 0)])),(7,some (.blk 45 [.d (.int tk),.d (.int tn),.d (.str u.1.2.2.1),.d (.str tb),.d (Q8 tvs),.arr 400 0 u.1.2.1.length,.lit (.slice none 0 0)])),(400,some (.arr 45 7 (u.1.2.1.map Tm.row))),(1000,some (.blk 141 [.d (.int u.1.2.2.2)]))]⟩)
  (μ:=fun u=>txs.length-u.1.1) ⟨(0,[],ta,c),⟨Nat.zero_le _,⟨by simp,rfl⟩⟩⟩ (Le.sub (by simp) (by simp)) (fun⟨(i,ys,nm,c1),⟨hi12,hw⟩⟩=>?_)
 dsimp only at hi12 hw⊢;refine AWp.rg [] [] ?_ (hr:=by conv=>lhs;simp[Tm.row,Tm.Q3,Cs.Q3,psR,q1]);repeat (first|refine AWp.seq ?_|refine AWp.block ?_)
 refine AWp.cond rfl (fun hc=>?_) (fun hc=>?_)
 ·have hi1:i<txs.length:=by have:=of_decide_eq_true hc;omega
  clear hc;have h1y:txs[i]? =some txs[i]:=List.getElem?_eq_getElem hi1;have hmy:txs[i]∈txs:=List.getElem_mem hi1;have hdy:txs.drop i=txs[i]::txs.drop (i+1):=List.drop_eq_getElem_cons hi1;generalize txs[i]=y at h1y hmy hdy;obtain⟨hap,hyl⟩:=hw;have hyR:=hxR y hmy;rw[hdy]at hap;refine AWp.skip ?_;by_cases hk6:tk=6
  ·by_cases hi1e:(i:Int)=1
   ·have hi1t:=eq_true hi1e;rw[Tm.rns,if_pos ⟨hk6,by omega⟩]at hap;obtain⟨e,he⟩:∃e:Int,e=wr (c1+1):=⟨_,rfl⟩
    rw[←he]at hap;have hfr:=cs_fresh1 ta c1;rw[←he]at hfr;obtain⟨v,hv⟩:∃v,v=vNm e:=⟨_,rfl⟩
    rw[←hv]at hfr hap;obtain⟨nw,hnw⟩:∃nw,nw=ps++[(ta,v)]:=⟨_,rfl⟩
    rw[←hnw]at hap;have hnw2:List.take (ps.length+1) (List.map psR ps++[[D.str ta,D.str v]])=List.map psR nw:=by rw[hnw,List.map_append,List.take_of_length_le (by simp)];rfl
    have hx:=ih y nw e hyR (hxO y hmy) (by rw[hnw,List.length_append,List.length_singleton];omega);generalize y.rn nw e=o at hx hap;obtain⟨z,c2⟩:=o;dsimp only at hx hap;obtain⟨yk,yn,ya,yb,yvs,yxs,ycs⟩:=y;obtain⟨zk,zn,za,zb,zvs,zxs,zcs⟩:=z;refine AWp.rg [] [] ?_ (hr:=by conv=>lhs;simp[Tm.row,Tm.Q3,Cs.Q3,psR,h1y,hnw2,q1,hk6,hi1t]);refine AWp.rg [] [] ?_ (hr:=by conv=>lhs;simp[Tm.row,Tm.Q3,Cs.Q3,psR,h1y,hnw2,q1,hk6,hi1t]);refine AWp.rg [] [] ?_ (hr:=by conv=>lhs;simp[Tm.row,Tm.Q3,Cs.Q3,psR,h1y,hnw2,q1,hk6,hi1t]);refine AWp.cy ?_;refine AWp.rg [3] [.c [] [.ptr 1000 0,.d (.sl [[.str ta]])] [(1000,.blk 141 [.d (.int c1)])] (.tuple [.d (.sl [[.str v]]),.d (.sl [[.str ta,.str v]])]) [(1000,.blk 141 [.d (.int e)])]] ?_ (hr:=by conv=>lhs;simp[Tm.row,Tm.Q3,Cs.Q3,psR,h1y,hnw2,q1,hk6,hi1t]);refine AWp.rg [] [] ?_ (hr:=by conv=>lhs;simp[Tm.row,Tm.Q3,Cs.Q3,psR,h1y,hnw2,q1,hk6,hi1t]);refine AWp.rg [4] [] ?_ (hr:=by conv=>lhs;simp[Tm.row,Tm.Q3,Cs.Q3,psR,h1y,hnw2,q1,hk6,hi1t]);refine AWp.dw [] [.c [] [.ptr 1000 0,.agg [.d (.int yk),.d (.int yn),.d (.str ya),.d (.str yb),.d (Q8 yvs),.d (.sl (yxs.map Tm.row)),.d (.sl (ycs.map Cs.row))],.d (.sl (nw.map psR))] [(1000,.blk 141 [.d (.int e)])] (.agg [.d (.int zk),.d (.int zn),.d (.str za),.d (.str zb),.d (Q8 zvs),.d (.sl (zxs.map Tm.row)),.d (.sl (zcs.map Cs.row))]) [(1000,.blk 141 [.d (.int c2)])]] mixed ?_ (hr:=by conv=>lhs;simp[Tm.row,Tm.Q3,Cs.Q3,psR,h1y,hnw2,q1,hk6,hi1t]);refine AWp.rg [] [] ?_ (hr:=by conv=>lhs;simp[Tm.row,Tm.Q3,Cs.Q3,psR,h1y,hnw2,q1,hk6,hi1t]);refine⟨⟨(i+1,ys++[.mk zk zn za zb zvs zxs zcs],v,c2),hi1,⟨by rw[hap];simp,by simp[hyl]⟩⟩,by simp;omega,?_⟩;dsimp only;exact Le.sub (by simp[Tm.row,Tm.Q3,Cs.Q3,hyl,hk6]) (by simp[Tm.row,Tm.Q3,Cs.Q3,hyl,hk6])
   have hi1n:=hi1e;rw[Tm.rns,if_neg (fun h=>hi1e (by have:=h.2;omega))]at hap;have hx:=ih y ps c1 hyR (hxO y hmy) (by omega);generalize y.rn ps c1=o at hx hap;obtain⟨z,c2⟩:=o;dsimp only at hx hap;obtain⟨yk,yn,ya,yb,yvs,yxs,ycs⟩:=y;obtain⟨zk,zn,za,zb,zvs,zxs,zcs⟩:=z;refine AWp.rg [] [] ?_ (hr:=by conv=>lhs;simp[Tm.row,Tm.Q3,Cs.Q3,psR,h1y,q1,hk6,hi1n]);refine AWp.rg [] [] ?_ (hr:=by conv=>lhs;simp[Tm.row,Tm.Q3,Cs.Q3,psR,h1y,q1,hk6,hi1n]);refine AWp.rg [] [] ?_ (hr:=by conv=>lhs;simp[Tm.row,Tm.Q3,Cs.Q3,psR,h1y,q1,hk6,hi1n]);refine AWp.cn ?_;refine AWp.skip ?_;refine AWp.dw [] [.c [] [.ptr 1000 0,.agg [.d (.int yk),.d (.int yn),.d (.str ya),.d (.str yb),.d (Q8 yvs),.d (.sl (yxs.map Tm.row)),.d (.sl (ycs.map Cs.row))],.d (.sl (ps.map psR))] [(1000,.blk 141 [.d (.int c1)])] (.agg [.d (.int zk),.d (.int zn),.d (.str za),.d (.str zb),.d (Q8 zvs),.d (.sl (zxs.map Tm.row)),.d (.sl (zcs.map Cs.row))]) [(1000,.blk 141 [.d (.int c2)])]] mixed ?_ (hr:=by conv=>lhs;simp[Tm.row,Tm.Q3,Cs.Q3,psR,h1y,q1,hk6,hi1n]);refine AWp.rg [] [] ?_ (hr:=by conv=>lhs;simp[Tm.row,Tm.Q3,Cs.Q3,psR,h1y,q1,hk6,hi1n]);refine⟨⟨(i+1,ys++[.mk zk zn za zb zvs zxs zcs],nm,c2),hi1,⟨by rw[hap];simp,by simp[hyl]⟩⟩,by simp;omega,?_⟩;dsimp only;exact Le.sub (by simp[Tm.row,Tm.Q3,Cs.Q3,hyl,hk6]) (by simp[Tm.row,Tm.Q3,Cs.Q3,hyl,hk6])
  rw[Tm.rns,if_neg (fun h=>hk6 h.1)]at hap;have hx:=ih y ps c1 hyR (hxO y hmy) (by omega);generalize y.rn ps c1=o at hx hap;obtain⟨z,c2⟩:=o;dsimp only at hx hap;obtain⟨yk,yn,ya,yb,yvs,yxs,ycs⟩:=y;obtain⟨zk,zn,za,zb,zvs,zxs,zcs⟩:=z;refine AWp.rg [] [] ?_ (hr:=by conv=>lhs;simp[Tm.row,Tm.Q3,Cs.Q3,psR,h1y,q1,hk6]);refine AWp.rg [] [] ?_ (hr:=by conv=>lhs;simp[Tm.row,Tm.Q3,Cs.Q3,psR,h1y,q1,hk6]);refine AWp.rg [] [] ?_ (hr:=by conv=>lhs;simp[Tm.row,Tm.Q3,Cs.Q3,psR,h1y,q1,hk6]);refine AWp.cn ?_;refine AWp.skip ?_;refine AWp.dw [] [.c [] [.ptr 1000 0,.agg [.d (.int yk),.d (.int yn),.d (.str ya),.d (.str yb),.d (Q8 yvs),.d (.sl (yxs.map Tm.row)),.d (.sl (ycs.map Cs.row))],.d (.sl (ps.map psR))] [(1000,.blk 141 [.d (.int c1)])] (.agg [.d (.int zk),.d (.int zn),.d (.str za),.d (.str zb),.d (Q8 zvs),.d (.sl (zxs.map Tm.row)),.d (.sl (zcs.map Cs.row))]) [(1000,.blk 141 [.d (.int c2)])]] mixed ?_ (hr:=by conv=>lhs;simp[Tm.row,Tm.Q3,Cs.Q3,psR,h1y,q1,hk6]);refine AWp.rg [] [] ?_ (hr:=by conv=>lhs;simp[Tm.row,Tm.Q3,Cs.Q3,psR,h1y,q1,hk6]);refine⟨⟨(i+1,ys++[.mk zk zn za zb zvs zxs zcs],nm,c2),hi1,⟨by rw[hap];simp,by simp[hyl]⟩⟩,by simp;omega,?_⟩;dsimp only;exact Le.sub (by simp[Tm.row,Tm.Q3,Cs.Q3,hyl]) (by simp[Tm.row,Tm.Q3,Cs.Q3,hyl])
 have hi1:i=txs.length:=by have:=of_decide_eq_false hc;omega
 subst hi1;clear hc;obtain⟨hap,hyl⟩:=hw;rw[List.drop_length,Tm.rns]at hap;simp only[List.append_nil]at hap;rw[hap]at hR;dsimp only at hR;clear hap;refine AWp.exit ?_;refine AWp.rg [] [] ?_ (hr:=by conv=>lhs;simp[Tm.row,Tm.Q3,Cs.Q3,psR,q1]);repeat (first|refine AWp.seq ?_|refine AWp.block ?_)
 refine AWp.le (Le.low [401] [] (fr:=[(0,.ptr 1000 0),(2,.d (.sl (ps.map psR))),(6,.ptr 6 0),(7,.ptr 7 0),(85,.d (.sl (tcs.map Cs.row))),(86,.d (.int (tcs.length:Int))),(87,.d (.int (0:Int)))]) (mem:=[(6,some (.blk 45 [.d (.int 0),.d (.int 0),.d (.str ByteArray.empty),.d (.str ByteArray.empty),.lit (.slice none 0 0),.lit (.slice none 0 0),.lit (.slice none 0 0)])),(7,some (.blk 45 [.d (.int tk),.d (.int tn),.d (.str nm),.d (.str tb),.d (Q8 tvs),.arr 400 0 ys.length,.arr 401 0 ([]:List Cs).length])),(400,some (.arr 45 7 (ys.map Tm.row))),(401,some (.arr 90 9 (([]:List Cs).map Cs.row))),(1000,some (.blk 141 [.d (.int (c1:Int))]))]) rfl (by simp) (by simp)) ?_;refine AWp.loop (σ:=fun u:{u:Nat×List Cs×Int // u.1≤tcs.length∧(Cs.rnL tcs ps c1=(u.2.1++(Cs.rnL (tcs.drop u.1) ps u.2.2).1,(Cs.rnL (tcs.drop u.1) ps u.2.2).2)∧u.2.1.length=u.1)}=>⟨118,[(0,.ptr 1000 0),(2,.d (.sl (ps.map psR))),(6,.ptr 6 0),(7,.ptr 7 0),(85,.d (.sl (tcs.map Cs.row))),(86,.d (.int (tcs.length:Int))),(87,.d (.int (u.1.1:Int)))],[(6,some (.blk 45 [.d (.int 0),.d (.int 0),.d (.str ByteArray.empty),.d (.str ByteArray.empty),.lit (.slice none 0 0),.lit (.slice none 0 0),.lit (.slice none 0 0)])),(7,some (.blk 45 [.d (.int tk),.d (.int tn),.d (.str nm),.d (.str tb),.d (Q8 tvs),.arr 400 0 ys.length,.arr 401 0 u.1.2.1.length])),(400,some (.arr 45 7 (ys.map Tm.row))),(401,some (.arr 90 9 (u.1.2.1.map Cs.row))),(1000,some (.blk 141 [.d (.int u.1.2.2)]))]⟩)
  (μ:=fun u=>tcs.length-u.1.1) ⟨(0,[],c1),⟨Nat.zero_le _,⟨by simp,rfl⟩⟩⟩ (Le.sub (by simp) (by simp)) (fun⟨(i,ds,c3),⟨hi22,hw2⟩⟩=>?_)
 dsimp only at hi22 hw2⊢;refine AWp.rg [] [] ?_ (hr:=by conv=>lhs;simp[Tm.row,Tm.Q3,Cs.Q3,psR,q1]);repeat (first|refine AWp.seq ?_|refine AWp.block ?_)
 refine AWp.cond rfl (fun hc=>?_) (fun hc=>?_)
 ·have hi1:i<tcs.length:=by have:=of_decide_eq_true hc;omega
  clear hc;have h1d:tcs[i]? =some tcs[i]:=List.getElem?_eq_getElem hi1;have hmd:tcs[i]∈tcs:=List.getElem_mem hi1;have hdd:tcs.drop i=tcs[i]::tcs.drop (i+1):=List.drop_eq_getElem_cons hi1;generalize tcs[i]=d at h1d hmd hdd;obtain⟨hap,hdl⟩:=hw2;rw[hdd,Cs.rnL]at hap;have hdR:=hcR d hmd;obtain⟨dt,dws,y⟩:=d;obtain⟨hw6,hyR⟩:=hdR;dsimp only at hw6 hyR;rw[Cs.rn]at hap;have hfr:=cs_fresh dws c3 hw6;obtain⟨e,he⟩:∃e:Int,e=U7 dws c3:=⟨_,rfl⟩
  rw[←he]at hfr hap;have hul:=Wx dws c3;generalize J2 dws c3=us at hfr hap hul;have hpxl:(dws.zip us).length=dws.length:=by rw[List.length_zip];omega
  generalize dws.zip us=PX at hfr hap hpxl;obtain⟨nw,hnw⟩:∃nw,nw=ps++PX:=⟨_,rfl⟩
  rw[←hnw]at hap;have hnw2:List.take (ps.length+PX.length) (List.map psR ps++List.map psR PX)=List.map psR nw:=by rw[hnw,List.map_append,List.take_of_length_le (by simp)]
  have hx:=ih y nw e hyR (Cs.X8.1 hO.2.2.2 _ hmd).2.2 (by rw[hnw,List.length_append];omega);generalize y.rn nw e=o at hx hap;obtain⟨z,c2⟩:=o;dsimp only at hx hap;obtain⟨dk,dn,da,db,dvs,dxs,dcs⟩:=y;obtain⟨zk,zn,za,zb,zvs,zxs,zcs⟩:=z;refine AWp.skip ?_;refine AWp.rg [] [] ?_ (hr:=by conv=>lhs;simp[Tm.row,Tm.Q3,Cs.Q3,psR,h1d,Cs.row,hnw2,q1]);refine AWp.rg [] [.c [] [.ptr 1000 0,.d (Q8 dws)] [(1000,.blk 141 [.d (.int c3)])] (.tuple [.d (Q8 us),.d (.sl (PX.map psR))]) [(1000,.blk 141 [.d (.int e)])]] ?_ (hr:=by conv=>lhs;simp[Tm.row,Tm.Q3,Cs.Q3,psR,h1d,Cs.row,hnw2,q1]);refine AWp.dw [12] [.c [] [.ptr 1000 0,.agg [.d (.int dk),.d (.int dn),.d (.str da),.d (.str db),.d (Q8 dvs),.d (.sl (dxs.map Tm.row)),.d (.sl (dcs.map Cs.row))],.d (.sl (nw.map psR))] [(1000,.blk 141 [.d (.int e)])] (.agg [.d (.int zk),.d (.int zn),.d (.str za),.d (.str zb),.d (Q8 zvs),.d (.sl (zxs.map Tm.row)),.d (.sl (zcs.map Cs.row))]) [(1000,.blk 141 [.d (.int c2)])]] mixed ?_ (hr:=by conv=>lhs;simp[Tm.row,Tm.Q3,Cs.Q3,psR,h1d,Cs.row,hnw2,q1]);refine AWp.rg [] [] ?_ (hr:=by conv=>lhs;simp[Tm.row,Tm.Q3,Cs.Q3,psR,h1d,Cs.row,hnw2,q1]);refine⟨⟨(i+1,ds++[.mk dt us (.mk zk zn za zb zvs zxs zcs)],c2),hi1,⟨by rw[hap];simp,by simp[hdl]⟩⟩,by simp;omega,?_⟩;dsimp only;exact Le.sub (by simp[Cs.row,Tm.row,Tm.Q3,Cs.Q3,hdl]) (by simp[Cs.row,Tm.row,Tm.Q3,Cs.Q3,hdl])
 have hi1:i=tcs.length:=by have:=of_decide_eq_false hc;omega
 subst hi1;clear hc;obtain⟨hap,hdl⟩:=hw2;rw[List.drop_length,Cs.rnL]at hap;simp only[List.append_nil]at hap;rw[hap]at hR;dsimp only at hR;subst hR;refine AWp.exit ?_;refine AWp.rg [] [] ?_ (hr:=by conv=>lhs;simp[Tm.row,Tm.Q3,Cs.Q3,psR,q1]);refine AWp.ret ?_;try dsimp only[Qq,Q6]
 apply Qk.retF [400,401]
 ·rfl
 ·conv=>lhs;simp
 ·conv=>lhs;simp[Q9,Tryz.results91]
 ·rfl
 ·simp[Qx,Q4]
theorem rn_all:∀N,RnE N
 |0=>fun _ _ _ h=>h.elim
 |N+1=>rn_step N (rn_all N)
theorem sp_pickI (l o:List ByteArray) (hl:l.length≤8796093022207) (ho:o.length≤8796093022208):Z4 Tryz.prog 95 [Zk l,Zk o,.d (.bool true)] (fun _=>Zk (inN l o)) none:=by
 refine Z4.of Tryz.func95 rfl rfl rfl (Nat.le_of_ble_eq_true rfl) ?_;show AWp _ _ (Z8 _ Tryz.f95 _ _ _) (Z7 27 _);refine AWp.rg [] [] ?_;refine AWp.rg [] [] ?_;refine AWp.rg [] [] ?_;repeat (first|refine AWp.seq ?_|refine AWp.block ?_)
 refine AWp.le (Le.low [400] [] (fr:=[(1,.d (Q8 o)),(2,.d (.bool true)),(7,.arr 400 0 ([]:List ByteArray).length),(10,.d (Q8 l)),(11,.d (.int (l.length:Int))),(12,.d (.int (0:Int)))]) (mem:=[(400,some (.arr 9 1 (([]:List ByteArray).map Z0)))]) rfl (by simp) (by simp)) ?_;refine AWp.loop (σ:=fun u:{u:Nat×List ByteArray // u.1≤l.length∧u.2=inN (l.take u.1) o}=>⟨27,[(1,.d (Q8 o)),(2,.d (.bool true)),(7,.arr 400 0 u.1.2.length),(10,.d (Q8 l)),(11,.d (.int (l.length:Int))),(12,.d (.int (u.1.1:Int)))],[(400,some (.arr 9 1 (u.1.2.map Z0)))]⟩)
  (μ:=fun u=>l.length-u.1.1) ⟨(0,[]),⟨Nat.zero_le _,by simp[inN]⟩⟩ (Le.sub (by simp) (by simp)) (fun⟨(i,us),⟨hi3,hw⟩⟩=>?_)
 dsimp only at hi3 hw⊢;refine AWp.rg [] [] ?_;repeat (first|refine AWp.seq ?_|refine AWp.block ?_)
 refine AWp.cond rfl (fun hc=>?_) (fun hc=>?_)
 ·have hi1:i<l.length:=by have:=of_decide_eq_true hc;omega
  clear hc;have h1x:l[i]? =some l[i]:=List.getElem?_eq_getElem hi1;have hmx:l[i]∈l:=List.getElem_mem hi1;have hdx:l.drop i=l[i]::l.drop (i+1):=List.drop_eq_getElem_cons hi1;generalize l[i]=x at h1x hmx hdx;have hul:us.length≤i:=by have:=Rj (l.take i) o;rw[hw];rw[List.length_take]at this;omega
  have hsn:=inN_snoc o h1x;rw[←hw]at hsn;have hc:=sp_Has o x ho;generalize hasB o x=q at hc hsn;refine AWp.skip ?_;refine AWp.rg [] [] ?_ (hr:=by conv=>lhs;simp[h1x]);cases q with
  |true=>
   refine AWp.rg [] [.p (fun _=>.d (.bool true)) none] ?_ (hr:=by conv=>lhs;simp[h1x]);refine AWp.cy ?_;refine AWp.rg [] [] ?_ (hr:=by conv=>lhs;simp[h1x]);refine AWp.rg [] [] ?_ (hr:=by conv=>lhs;simp[h1x]);refine⟨⟨(i+1,us++[x]),hi1,by rw[hsn];rfl⟩,by simp;omega,?_⟩;dsimp only;exact Le.sub (by simp) (by simp)
  |false=>
   refine AWp.rg [] [.p (fun _=>.d (.bool false)) none] ?_ (hr:=by conv=>lhs;simp[h1x]);refine AWp.cn ?_;refine AWp.skip ?_;refine AWp.rg [] [] ?_ (hr:=by conv=>lhs;simp[h1x]);refine⟨⟨(i+1,us),hi1,by rw[hsn];rfl⟩,by simp;omega,?_⟩;dsimp only;exact Le.sub (by simp) (by simp)
 have hi1:i=l.length:=by have:=of_decide_eq_false hc;omega
 subst hi1;clear hc;rw[List.take_length]at hw;subst hw;refine AWp.exit ?_;refine AWp.rg [] [] ?_;refine AWp.ret ?_;try dsimp only[Qq,Q6]
 apply Z8.retF [400]
 ·rfl
 ·conv=>lhs;simp
 ·conv=>lhs;simp[Q9,Tryz.results95]
 rfl
theorem sp_pickO (l o:List ByteArray) (hl:l.length≤8796093022207) (ho:o.length≤8796093022208):Z4 Tryz.prog 95 [Zk l,Zk o,.d (.bool false)] (fun _=>Zk (woN l o)) none:=by
 refine Z4.of Tryz.func95 rfl rfl rfl (Nat.le_of_ble_eq_true rfl) ?_;show AWp _ _ (Z8 _ Tryz.f95 _ _ _) (Z7 27 _);refine AWp.rg [] [] ?_;refine AWp.rg [] [] ?_;refine AWp.rg [] [] ?_;repeat (first|refine AWp.seq ?_|refine AWp.block ?_)
 refine AWp.le (Le.low [400] [] (fr:=[(1,.d (Q8 o)),(2,.d (.bool false)),(7,.arr 400 0 ([]:List ByteArray).length),(10,.d (Q8 l)),(11,.d (.int (l.length:Int))),(12,.d (.int (0:Int)))]) (mem:=[(400,some (.arr 9 1 (([]:List ByteArray).map Z0)))]) rfl (by simp) (by simp)) ?_;refine AWp.loop (σ:=fun u:{u:Nat×List ByteArray // u.1≤l.length∧u.2=woN (l.take u.1) o}=>⟨27,[(1,.d (Q8 o)),(2,.d (.bool false)),(7,.arr 400 0 u.1.2.length),(10,.d (Q8 l)),(11,.d (.int (l.length:Int))),(12,.d (.int (u.1.1:Int)))],[(400,some (.arr 9 1 (u.1.2.map Z0)))]⟩)
  (μ:=fun u=>l.length-u.1.1) ⟨(0,[]),⟨Nat.zero_le _,by simp[woN]⟩⟩ (Le.sub (by simp) (by simp)) (fun⟨(i,us),⟨hi3,hw⟩⟩=>?_)
 dsimp only at hi3 hw⊢;refine AWp.rg [] [] ?_;repeat (first|refine AWp.seq ?_|refine AWp.block ?_)
 refine AWp.cond rfl (fun hc=>?_) (fun hc=>?_)
 ·have hi1:i<l.length:=by have:=of_decide_eq_true hc;omega
  clear hc;have h1x:l[i]? =some l[i]:=List.getElem?_eq_getElem hi1;have hmx:l[i]∈l:=List.getElem_mem hi1;have hdx:l.drop i=l[i]::l.drop (i+1):=List.drop_eq_getElem_cons hi1;generalize l[i]=x at h1x hmx hdx;have hul:us.length≤i:=by have:=F5 (l.take i) o;rw[hw];rw[List.length_take]at this;omega
  have hsn:=woN_snoc o h1x;rw[←hw]at hsn;have hc:=sp_Has o x ho;generalize hasB o x=q at hc hsn;refine AWp.skip ?_;refine AWp.rg [] [] ?_ (hr:=by conv=>lhs;simp[h1x]);cases q with
  |true=>
   refine AWp.rg [] [.p (fun _=>.d (.bool true)) none] ?_ (hr:=by conv=>lhs;simp[h1x]);refine AWp.cn ?_;refine AWp.skip ?_;refine AWp.rg [] [] ?_ (hr:=by conv=>lhs;simp[h1x]);refine⟨⟨(i+1,us),hi1,by rw[hsn];rfl⟩,by simp;omega,?_⟩;dsimp only;exact Le.sub (by simp) (by simp)
  |false=>
   refine AWp.rg [] [.p (fun _=>.d (.bool false)) none] ?_ (hr:=by conv=>lhs;simp[h1x]);refine AWp.cy ?_;refine AWp.rg [] [] ?_ (hr:=by conv=>lhs;simp[h1x]);refine AWp.rg [] [] ?_ (hr:=by conv=>lhs;simp[h1x]);refine⟨⟨(i+1,us++[x]),hi1,by rw[hsn];rfl⟩,by simp;omega,?_⟩;dsimp only;exact Le.sub (by simp) (by simp)
 have hi1:i=l.length:=by have:=of_decide_eq_false hc;omega
 subst hi1;clear hc;rw[List.take_length]at hw;subst hw;refine AWp.exit ?_;refine AWp.rg [] [] ?_;refine AWp.ret ?_;try dsimp only[Qq,Q6]
 apply Z8.retF [400]
 ·rfl
 ·conv=>lhs;simp
 ·conv=>lhs;simp[Q9,Tryz.results95]
 rfl
theorem cnt_append (k:Int):∀(x y:List ByteArray) (t:Tm),cnt k (x++y) t=cnt k x (cnt k y t)
 |[],_,_=>rfl
 |b::r,y,t=>by simp only[List.cons_append,cnt,cnt_append k r y t]
theorem Ww (kd:Int) (l:List ByteArray) (tk tn:Int) (ta tb:ByteArray) (tvs:List ByteArray) (txs:List Tm) (tcs:List Cs) (hl:l.length≤8796093022207):Z4 Tryz.prog 96 [.d (.int kd),Zk l,X9 (.mk tk tn ta tb tvs txs tcs)] (fun _=>X9 (cnt kd l (.mk tk tn ta tb tvs txs tcs))) none:=by
 obtain⟨R,hR⟩:∃R,R=cnt kd l (.mk tk tn ta tb tvs txs tcs):=⟨_,rfl⟩
 rw[←hR];obtain⟨rk,rn,ra,rb,rvs,rxs,rcs⟩:=R;refine Z4.of Tryz.func96 rfl rfl rfl (Nat.le_of_ble_eq_true rfl) ?_;show AWp _ _ (Z8 _ Tryz.f96 _ _ _) (Z7 24 _);refine AWp.rg [] [] ?_ (hr:=by conv=>lhs;simp[Tm.row,Tm.Q3,Cs.Q3]);refine AWp.rg [] [] ?_ (hr:=by conv=>lhs;simp[Tm.row,Tm.Q3,Cs.Q3]);repeat (first|refine AWp.seq ?_|refine AWp.block ?_)
 refine AWp.loop (σ:=fun u:{u:Nat×Int×Int×ByteArray×ByteArray×List ByteArray×List Tm×List Cs // (cnt kd l (.mk tk tn ta tb tvs txs tcs)=cnt kd (l.take u.1) (.mk u.2.1 u.2.2.1 u.2.2.2.1 u.2.2.2.2.1 u.2.2.2.2.2.1 u.2.2.2.2.2.2.1 u.2.2.2.2.2.2.2)∧u.1≤l.length)}=>⟨24,[(0,.d (.int kd)),(1,.d (Q8 l)),(5,.ptr 5 0),(6,.ptr 6 0),(7,.d (.int ((u.1.1:Int)-1)))],[(5,some (.blk 45 [.d (.int u.1.2.1),.d (.int u.1.2.2.1),.d (.str u.1.2.2.2.1),.d (.str u.1.2.2.2.2.1),.d (Q8 u.1.2.2.2.2.2.1),.d (.sl (u.1.2.2.2.2.2.2.1.map Tm.row)),.d (.sl (u.1.2.2.2.2.2.2.2.map Cs.row))])),(6,some (.blk 45 [.d (.int 0),.d (.int 0),.d (.str ByteArray.empty),.d (.str ByteArray.empty),.lit (.slice none 0 0),.lit (.slice none 0 0),.lit (.slice none 0 0)]))]⟩)
  (μ:=fun u=>u.1.1) ⟨(l.length,tk,tn,ta,tb,tvs,txs,tcs),⟨by rw[List.take_length],Nat.le_refl _⟩⟩ (Le.sub (by simp) (by simp)) (fun⟨(j0,zk,zn,za,zb,zvs,zxs,zcs),hw⟩=>?_)
 dsimp only at hw⊢;obtain⟨hw,hj⟩:=hw;rcases j0 with _|j
 ·rw[show((0:Nat):Int)-1= -1 from rfl];refine AWp.rg [] [] ?_ (hr:=by conv=>lhs;simp[Tm.row,Tm.Q3,Cs.Q3]);refine AWp.cn ?_;refine AWp.exit ?_;rw[List.take_zero]at hw;obtain⟨rfl,rfl,rfl,rfl,rfl,rfl,rfl⟩:zk=rk∧zn=rn∧za=ra∧zb=rb∧zvs=rvs∧zxs=rxs∧zcs=rcs:=by simpa[cnt]using (hR.trans hw).symm
  refine AWp.rg [] [] ?_ (hr:=by conv=>lhs;simp[Tm.row,Tm.Q3,Cs.Q3]);refine AWp.ret ?_;try dsimp only[Qq,Q6]
  apply Z8.ret
  ·rfl
  ·conv=>lhs;simp[Q9,Tryz.results96]
  first|rfl|simp[Z6,X9]
 rw[show((j+1:Nat):Int)-1=(j:Int)by omega];have hk0:=eq_true (Int.natCast_nonneg j);have hk1:j<l.length:=by omega
 have h1p:l[j]? =some l[j]:=List.getElem?_eq_getElem hk1;have htk:l.take (j+1)=l.take j++[l[j]]:=by rw[List.take_add_one,h1p];rfl
 generalize l[j]=s at h1p htk;rw[htk,cnt_append]at hw;dsimp only[cnt]at hw;refine AWp.rg [] [] ?_ (hr:=by conv=>lhs;simp[Tm.row,Tm.Q3,Cs.Q3,h1p,hk0]);refine AWp.cy ?_;refine AWp.skip ?_;refine AWp.dw [6] [] mixed ?_ (hr:=by conv=>lhs;simp[Tm.row,Tm.Q3,Cs.Q3,h1p,hk0]);repeat (first|refine AWp.seq ?_|refine AWp.block ?_)
 refine AWp.le (Le.low [] [] (fr:=[(0,.d (.int kd)),(1,.d (Q8 l)),(5,.ptr 5 0),(6,.ptr 6 0),(7,.d (.int (j:Int)))]) (mem:=[(5,some (.blk 45 [.d (.int kd),.d (.int 0),.d (.str s),.d (.str ByteArray.empty),.d (.sl []),.d (.sl [[.int zk,.int zn,.str za,.str zb,Q8 zvs,.sl (zxs.map Tm.row),.sl (zcs.map Cs.row)]]),.d (.sl [])])),(6,some (.blk 45 [.d (.int 0),.d (.int 0),.d (.str ByteArray.empty),.d (.str ByteArray.empty),.lit (.slice none 0 0),.lit (.slice none 0 0),.lit (.slice none 0 0)]))]) rfl (by simp) (by simp)) ?_;refine AWp.rg [] [] ?_ (hr:=by conv=>lhs;simp[Tm.row,Tm.Q3,Cs.Q3,h1p,hk0]);refine⟨⟨(j,kd,0,s,.empty,[],[.mk zk zn za zb zvs zxs zcs],[]),⟨hw,by omega⟩⟩,by simp only[];omega,?_⟩;dsimp only;exact Le.sub (by simp[Tm.row,Tm.Q3,Cs.Q3,Q8]) (by simp[Tm.row,Tm.Q3,Cs.Q3,Q8])
theorem cs_Own (t:Tm) (hO:t.Ok):Qv Tryz.prog 66 [X9 t] [(500,.arr 0 1 []),(501,.arr 0 1 [])] (match t with| .mk k n a b vs xs cs=>.agg [.d (.int k),.d (.int n),.d (.str a),.d (.str b),.d (Q8 vs),.arr 500 0 xs.length,.arr 501 0 cs.length])
  (match t with| .mk k n a b vs xs cs=>[(500,.arr 45 7 (xs.map Tm.row)),(501,.arr 90 9 (cs.map Cs.row))]):=by
 obtain⟨tk,tn,ta,tb,tvs,txs,tcs⟩:=t;dsimp only;obtain⟨o1,o2,o3,o4,o5⟩:=hO.vars;have hxO:∀x∈txs,x.Ok:=Tm.X8.1 hO.2.2.1;have hcO:=Cs.X8.1 hO.2.2.2;have hcl:=Qz2 tvs (by omega);refine Qv.of Tryz.func66 rfl rfl (Nat.le_of_ble_eq_true rfl) ?_;show AWp _ _ (Qk _ Tryz.f66 _ _) (Zz 51 _ _);refine AWp.rg [] [] ?_ (hr:=by conv=>lhs;simp[Tm.row,Tm.Q3,Cs.row,Cs.Q3]);refine AWp.rg [2] [.p (fun d=>.arr d 0 tvs.length) (some (.arr 9 1 (tvs.map Z0)))] ?_ (hr:=by conv=>lhs;simp[Tm.row,Tm.Q3,Cs.row,Cs.Q3]);refine AWp.rg [] [] ?_ (hr:=by conv=>lhs;simp[Tm.row,Tm.Q3,Cs.row,Cs.Q3]);refine AWp.rg [] [] ?_ (hr:=by conv=>lhs;simp[Tm.row,Tm.Q3,Cs.row,Cs.Q3]);repeat (first|refine AWp.seq ?_|refine AWp.block ?_)
 refine AWp.le (Le.low [400] [] (fr:=[(1,.ptr 1 0),(2,.ptr 2 0),(3,.arr 400 0 ([]:List Tm).length),(14,.d (.sl (txs.map Tm.row))),(15,.d (.int (txs.length:Int))),(16,.d (.int (0:Int)))]) (mem:=[(1,some (.blk 45 [.d (.int tk),.d (.int tn),.d (.str ta),.d (.str tb),.d (Q8 tvs),.d (.sl (txs.map Tm.row)),.d (.sl (tcs.map Cs.row))])),(2,some (.blk 45 [.d (.int 0),.d (.int 0),.d (.str ByteArray.empty),.d (.str ByteArray.empty),.lit (.slice none 0 0),.lit (.slice none 0 0),.lit (.slice none 0 0)])),(400,some (.arr 45 7 (([]:List Tm).map Tm.row)))]) rfl (by simp) (by simp)) ?_;refine AWp.loop (σ:=fun u:{u:Nat×List Tm // u.1≤txs.length∧u.2=txs.take u.1}=>⟨51,[(1,.ptr 1 0),(2,.ptr 2 0),(3,.arr 400 0 u.1.2.length),(14,.d (.sl (txs.map Tm.row))),(15,.d (.int (txs.length:Int))),(16,.d (.int (u.1.1:Int)))],[(1,some (.blk 45 [.d (.int tk),.d (.int tn),.d (.str ta),.d (.str tb),.d (Q8 tvs),.d (.sl (txs.map Tm.row)),.d (.sl (tcs.map Cs.row))])),(2,some (.blk 45 [.d (.int 0),.d (.int 0),.d (.str ByteArray.empty),.d (.str ByteArray.empty),.lit (.slice none 0 0),.lit (.slice none 0 0),.lit (.slice none 0 0)])),(400,some (.arr 45 7 (u.1.2.map Tm.row)))]⟩)
  (μ:=fun u=>txs.length-u.1.1) ⟨(0,[]),⟨Nat.zero_le _,by simp⟩⟩ (Le.sub (by simp) (by simp)) (fun⟨(i,ys),⟨hi4,hw⟩⟩=>?_)
 dsimp only at hi4 hw⊢;refine AWp.rg [] [] ?_ (hr:=by conv=>lhs;simp[Tm.row,Tm.Q3,Cs.row,Cs.Q3]);repeat (first|refine AWp.seq ?_|refine AWp.block ?_)
 refine AWp.cond rfl (fun hc=>?_) (fun hc=>?_)
 ·have hi1:i<txs.length:=by have:=of_decide_eq_true hc;omega
  clear hc;have h1y:txs[i]? =some txs[i]:=List.getElem?_eq_getElem hi1;have hmy:txs[i]∈txs:=List.getElem_mem hi1;have hdy:txs.drop i=txs[i]::txs.drop (i+1):=List.drop_eq_getElem_cons hi1;generalize txs[i]=y at h1y hmy hdy;have hyl:ys.length=i:=by rw[hw,List.length_take];omega
  have hx:=sp_Own y (hxO y hmy);obtain⟨yk,yn,ya,yb,yvs,yxs,ycs⟩:=y;refine AWp.skip ?_;refine AWp.rg [] [] ?_ (hr:=by conv=>lhs;simp[Tm.row,Tm.Q3,Cs.row,Cs.Q3,h1y]);refine AWp.rg [] [.p (fun _=>.agg [.d (.int yk),.d (.int yn),.d (.str ya),.d (.str yb),.d (Q8 yvs),.d (.sl (yxs.map Tm.row)),.d (.sl (ycs.map Cs.row))]) none] ?_ (hr:=by conv=>lhs;simp[Tm.row,Tm.Q3,Cs.row,Cs.Q3,h1y]);refine AWp.rg [] [] ?_ (hr:=by conv=>lhs;simp[Tm.row,Tm.Q3,Cs.row,Cs.Q3,h1y]);refine⟨⟨(i+1,ys++[.mk yk yn ya yb yvs yxs ycs]),hi1,by rw[hw,List.take_add_one,h1y];rfl⟩,by simp;omega,?_⟩;dsimp only;exact Le.sub (by simp[Tm.row,Tm.Q3,Cs.Q3,hyl]) (by simp[Tm.row,Tm.Q3,Cs.Q3,hyl])
 have hi1:i=txs.length:=by have:=of_decide_eq_false hc;omega
 subst hi1;clear hc;rw[List.take_length]at hw;subst ys;refine AWp.exit ?_;refine AWp.rg [] [] ?_ (hr:=by conv=>lhs;simp[Tm.row,Tm.Q3,Cs.row,Cs.Q3]);refine AWp.rg [] [] ?_ (hr:=by conv=>lhs;simp[Tm.row,Tm.Q3,Cs.row,Cs.Q3]);repeat (first|refine AWp.seq ?_|refine AWp.block ?_)
 refine AWp.le (Le.low [401] [] (fr:=[(1,.ptr 1 0),(2,.ptr 2 0),(3,.arr 400 0 txs.length),(6,.arr 401 0 ([]:List Cs).length),(27,.d (.sl (tcs.map Cs.row))),(28,.d (.int (tcs.length:Int))),(29,.d (.int (0:Int)))]) (mem:=[(1,some (.blk 45 [.d (.int tk),.d (.int tn),.d (.str ta),.d (.str tb),.d (Q8 tvs),.d (.sl (txs.map Tm.row)),.d (.sl (tcs.map Cs.row))])),(2,some (.blk 45 [.d (.int 0),.d (.int 0),.d (.str ByteArray.empty),.d (.str ByteArray.empty),.lit (.slice none 0 0),.lit (.slice none 0 0),.lit (.slice none 0 0)])),(400,some (.arr 45 7 (txs.map Tm.row))),(401,some (.arr 90 9 (([]:List Cs).map Cs.row)))]) rfl (by simp) (by simp)) ?_;refine AWp.loop (σ:=fun u:{u:Nat×List Cs // u.1≤tcs.length∧u.2=tcs.take u.1}=>⟨51,[(1,.ptr 1 0),(2,.ptr 2 0),(3,.arr 400 0 txs.length),(6,.arr 401 0 u.1.2.length),(27,.d (.sl (tcs.map Cs.row))),(28,.d (.int (tcs.length:Int))),(29,.d (.int (u.1.1:Int)))],[(1,some (.blk 45 [.d (.int tk),.d (.int tn),.d (.str ta),.d (.str tb),.d (Q8 tvs),.d (.sl (txs.map Tm.row)),.d (.sl (tcs.map Cs.row))])),(2,some (.blk 45 [.d (.int 0),.d (.int 0),.d (.str ByteArray.empty),.d (.str ByteArray.empty),.lit (.slice none 0 0),.lit (.slice none 0 0),.lit (.slice none 0 0)])),(400,some (.arr 45 7 (txs.map Tm.row))),(401,some (.arr 90 9 (u.1.2.map Cs.row)))]⟩)
  (μ:=fun u=>tcs.length-u.1.1) ⟨(0,[]),⟨Nat.zero_le _,by simp⟩⟩ (Le.sub (by simp) (by simp)) (fun⟨(i,ds),⟨hi10,hw2⟩⟩=>?_)
 dsimp only at hi10 hw2⊢;refine AWp.rg [] [] ?_ (hr:=by conv=>lhs;simp[Tm.row,Tm.Q3,Cs.row,Cs.Q3]);repeat (first|refine AWp.seq ?_|refine AWp.block ?_)
 refine AWp.cond rfl (fun hc=>?_) (fun hc=>?_)
 ·have hi1:i<tcs.length:=by have:=of_decide_eq_true hc;omega
  clear hc;have h1d:tcs[i]? =some tcs[i]:=List.getElem?_eq_getElem hi1;have hmd:tcs[i]∈tcs:=List.getElem_mem hi1;have hdd:tcs.drop i=tcs[i]::tcs.drop (i+1):=List.drop_eq_getElem_cons hi1;generalize tcs[i]=d at h1d hmd hdd;obtain⟨dt,dws,⟨dk,dn,da,db,dvs,dxs,dcs⟩⟩:=d;have hyl:ds.length=i:=by rw[hw2,List.length_take];omega
  obtain⟨hc1,hc2,hc3⟩:=hcO _ hmd;have hx:=sp_Own (.mk dk dn da db dvs dxs dcs) hc3;have hcw:=Qz2 dws (by omega);refine AWp.skip ?_;refine AWp.rg [] [] ?_ (hr:=by conv=>lhs;simp[Tm.row,Tm.Q3,Cs.row,Cs.Q3,h1d]);refine AWp.dw [5] [.p (fun d=>.arr d 0 dws.length) (some (.arr 9 1 (dws.map Z0))),.p (fun _=>.agg [.d (.int dk),.d (.int dn),.d (.str da),.d (.str db),.d (Q8 dvs),.d (.sl (dxs.map Tm.row)),.d (.sl (dcs.map Cs.row))]) none] mixed ?_ (hr:=by conv=>lhs;simp[Tm.row,Tm.Q3,Cs.row,Cs.Q3,h1d]);refine AWp.rg [] [] ?_ (hr:=by conv=>lhs;simp[Tm.row,Tm.Q3,Cs.row,Cs.Q3,h1d]);refine⟨⟨(i+1,ds++[.mk dt dws (.mk dk dn da db dvs dxs dcs)]),hi1,by rw[hw2,List.take_add_one,h1d];rfl⟩,by simp;omega,?_⟩;dsimp only;exact Le.sub (by simp[Cs.row,Tm.row,Tm.Q3,Cs.Q3,hyl]) (by simp[Cs.row,Tm.row,Tm.Q3,Cs.Q3,hyl])
 have hi1:i=tcs.length:=by have:=of_decide_eq_false hc;omega
 subst hi1;clear hc;rw[List.take_length]at hw2;subst ds;refine AWp.exit ?_;refine AWp.rg [] [] ?_ (hr:=by conv=>lhs;simp[Tm.row,Tm.Q3,Cs.row,Cs.Q3]);refine AWp.rg [] [] ?_ (hr:=by conv=>lhs;simp[Tm.row,Tm.Q3,Cs.row,Cs.Q3]);refine AWp.ret ?_;try dsimp only[Qq,Q6]
 apply Qk.le (Le.give _ 400 500 rfl rfl rfl);apply Qk.le (Le.give _ 401 501 rfl rfl rfl);try dsimp only[Qq,Q6]
 apply Qk.ret
 ·rfl
 ·conv=>lhs;simp[Q9,Tryz.results66,AS.swap,swN]
 ·rfl
 ·simp[Qx,Q4,AS.swap,swN]
def Fn.rn (f:Fn):Fn:=⟨f.name,J2 f.params 0,(f.body.rn (f.params.zip (J2 f.params 0)) (U7 f.params 0)).1⟩
abbrev Iw:Fn→AV
 |⟨g,ps,.mk k n a b vs xs cs⟩=>.agg [.d (.str g),.d (Q8 ps),.d (.int k),.d (.int n),.d (.str a),.d (.str b),.d (Q8 vs),.d (.sl (xs.map Tm.row)),.d (.sl (cs.map Cs.row))]
theorem sp_Named (f:Fn) (hb:f.body.Ok) (hr:f.body.Rt 25) (hp:f.params.length≤6):Z4 Tryz.prog 59 [Iw f] (fun _=>Iw f.rn) none:=by
 have hfr:=cs_fresh f.params 0 hp;have hl:=Wx f.params 0;have hx:=rn_all 25 f.body (f.params.zip (J2 f.params 0)) (U7 f.params 0) hr hb (by rw[List.length_zip];omega);unfold Fn.rn;obtain⟨fg,fps,fy⟩:=f;dsimp only at *;generalize U7 fps 0=e at hfr hx⊢;generalize J2 fps 0=us at hfr hx hl⊢;generalize fps.zip us=px at hfr hx⊢;generalize fy.rn px e=o at hx⊢;obtain⟨z,c2⟩:=o;dsimp only at *;obtain⟨fk,fn,fa,fb,fvs,fxs,fcs⟩:=fy;obtain⟨zk,zn,za,zb,zvs,zxs,zcs⟩:=z;refine Z4.of Tryz.func59 rfl rfl rfl (Nat.le_of_ble_eq_true rfl) ?_;show AWp _ _ (Z8 _ Tryz.f59 _ _ _) (Z7 24 _);refine AWp.rg [] [] ?_ (hr:=by conv=>lhs;simp[Iw,Fn.row,Tm.row,Tm.Q3,Cs.Q3,psR]);refine AWp.rg [] [] ?_ (hr:=by conv=>lhs;simp[Iw,Fn.row,Tm.row,Tm.Q3,Cs.Q3,psR]);refine AWp.rg [] [.c [(1000,7)] [.ptr 1000 0,.d (Q8 fps)] [(1000,.blk 141 [.d (.int 0)])] (.tuple [.d (Q8 us),.d (.sl (px.map psR))]) [(1000,.blk 141 [.d (.int e)])]] ?_ (hr:=by conv=>lhs;simp[Iw,Fn.row,Tm.row,Tm.Q3,Cs.Q3,psR]);refine AWp.dw [] [.c [(1000,7)] [.ptr 1000 0,.agg [.d (.int fk),.d (.int fn),.d (.str fa),.d (.str fb),.d (Q8 fvs),.d (.sl (fxs.map Tm.row)),.d (.sl (fcs.map Cs.row))],.d (.sl (px.map psR))] [(1000,.blk 141 [.d (.int e)])] (.agg [.d (.int zk),.d (.int zn),.d (.str za),.d (.str zb),.d (Q8 zvs),.d (.sl (zxs.map Tm.row)),.d (.sl (zcs.map Cs.row))]) [(1000,.blk 141 [.d (.int c2)])]] mixed ?_ (hr:=by conv=>lhs;simp[Iw,Fn.row,Tm.row,Tm.Q3,Cs.Q3,psR]);refine AWp.ret ?_;try dsimp only[Qq,Q6]
 apply Z8.ret
 ·rfl
 ·conv=>lhs;simp[Q9,Tryz.results59]
 rfl
theorem maxLen_ge {s:ByteArray} (h:s.size≤140737488355328):s.size≤maxLen:=by unfold maxLen;omega
theorem moreN_mem {s:ByteArray}:∀{l:List Tm} {had:List ByteArray},s∈R3 had l→∃x∈l,s=x.nm
 |[],had,h=>by simp[R3]at h
 |x::r,had,h=>by
  rw[R3]at h;split at h
  ·rcases List.mem_cons.1 h with h|h
   ·exact⟨x,List.mem_cons_self ..,h⟩
   ·obtain⟨y,hy,e⟩:=moreN_mem h;exact⟨y,List.mem_cons_of_mem _ hy,e⟩
  ·obtain⟨y,hy,e⟩:=moreN_mem h;exact⟨y,List.mem_cons_of_mem _ hy,e⟩
theorem Tm.Ok.nm {x:Tm} (h:x.Ok):x.nm.size≤140737488355328:=by
 obtain⟨k,n,a,b,vs,xs,cs⟩:=x;exact h.1.1
theorem Tm.Fit.cs {k n:Int} {a b:ByteArray} {vs:List ByteArray} {xs:List Tm} {cs:List Cs} (h:(Tm.mk k n a b vs xs cs).Fit):∀c∈cs,(∀s∈c.2,s.size≤140737488355328)∧c.3.Fit:=fun c hc=>by
 obtain⟨t,ws,x⟩:=c;have h1:=Cs.X8.1 h.ok.2.2.2 _ hc;exact⟨h1.1,(h.case hc).1⟩
structure Fn.Pt (f:Fn):Prop where
 rt:f.body.Rt 175
 fit:f.body.Fit
 par:f.params.length≤6
 pars:∀s∈f.params,s.size≤140737488355328
end Go.Proofs.YtjpldhjgehoffaaGreatDoor
