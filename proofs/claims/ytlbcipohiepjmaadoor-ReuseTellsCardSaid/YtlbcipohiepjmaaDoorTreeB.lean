import Derived.Shelf.Strconv.Itoa0
import Derived.Shelf.Strconv.Itoa1
import Derived.Shelf.LaysM
import Derived.Shelf.Strconv.Itoa2
import Derived.Shelf.Strconv.Itoa3
import Derived.Shelf.LaysC
import Derived.Shelf.Strconv.AtoiAll
import Derived.Shelf.Strconv.ErrVarAll
import Derived.Test.YtlbcipohiepjmaaDoorEng2
import Derived.Maps.RangeRun
import Derived.Test.YtlbcipohiepjmaaDoorRows
import Derived.SizedLaws
import Derived.Deep.Slices
import Derived.Carry
import Derived.JoinedOf
import Derived.KernelRfl
set_option linter.unusedVariables false
set_option linter.unusedSimpArgs false
namespace Go.Proofs
open Go.Shelf
def Tryd.laysM171_ren:Go.Shelf.Ren:=⟨fun|171=>35|243=>52|246=>63|283=>65|284=>66|285=>67|286=>68|129=>72|317=>71|318=>73|319=>74|320=>75|337=>81|338=>82|n=>n,fun|3=>3|9=>9|2=>2|4=>4|171=>106|0=>0|53=>107|37=>110|5=>5|173=>111|212=>116|51=>117|20=>20|213=>118|46=>120|232=>135|233=>136|n=>n,fun|17=>0|18=>3|19=>4|n=>n⟩
theorem Tryd.laysM171:Go.Proofs.LaysM.n171 Tryd.prog Tryd.laysM171_ren:={
 mixed:=by kernel_rfl
 f129:=Tryd.func72.trans (congrArg some (by kernel_rfl))
 f171:=Tryd.func35.trans (congrArg some (by kernel_rfl))
 f243:=Tryd.func52.trans (congrArg some (by kernel_rfl))
 f246:=Tryd.func63.trans (congrArg some (by kernel_rfl))
 f283:=Tryd.func65.trans (congrArg some (by kernel_rfl))
 f284:=Tryd.func66.trans (congrArg some (by kernel_rfl))
 f285:=Tryd.func67.trans (congrArg some (by kernel_rfl))
 f286:=Tryd.func68.trans (congrArg some (by kernel_rfl))
 f317:=Tryd.func71.trans (congrArg some (by kernel_rfl))
 f318:=Tryd.func73.trans (congrArg some (by kernel_rfl))
 f319:=Tryd.func74.trans (congrArg some (by kernel_rfl))
 f320:=Tryd.func75.trans (congrArg some (by kernel_rfl))
 f337:=Tryd.func81.trans (congrArg some (by kernel_rfl))
 f338:=Tryd.func82.trans (congrArg some (by kernel_rfl))
 t0:=Tryd.underlying0
 a0:=Tryd.isAgg0
 z0:=Tryd.sizeOf0
 v0:=Tryd.zeroValue0
 t2:=Tryd.underlying2
 a2:=Tryd.isAgg2
 z2:=Tryd.sizeOf2
 v2:=Tryd.zeroValue2
 t3:=Tryd.underlying3
 a3:=Tryd.isAgg3
 z3:=Tryd.sizeOf3
 v3:=Tryd.zeroValue3
 t4:=Tryd.underlying4
 a4:=Tryd.isAgg4
 z4:=Tryd.sizeOf4
 v4:=Tryd.zeroValue4
 t5:=Tryd.underlying5
 a5:=Tryd.isAgg5
 z5:=Tryd.sizeOf5
 v5:=Tryd.zeroValue5
 t9:=Tryd.underlying9
 a9:=Tryd.isAgg9
 z9:=Tryd.sizeOf9
 v9:=Tryd.zeroValue9
 t20:=Tryd.underlying20
 a20:=Tryd.isAgg20
 z20:=Tryd.sizeOf20
 v20:=Tryd.zeroValue20
 t37:=Tryd.underlying110
 a37:=Tryd.isAgg110
 z37:=Tryd.sizeOf110
 v37:=Tryd.zeroValue110
 t46:=Tryd.underlying120
 a46:=Tryd.isAgg120
 z46:=Tryd.sizeOf120
 v46:=Tryd.zeroValue120
 t51:=Tryd.underlying117
 a51:=Tryd.isAgg117
 z51:=Tryd.sizeOf117
 v51:=Tryd.zeroValue117
 t53:=Tryd.underlying107
 a53:=Tryd.isAgg107
 z53:=Tryd.sizeOf107
 v53:=Tryd.zeroValue107
 t171:=Tryd.underlying106
 a171:=Tryd.isAgg106
 z171:=Tryd.sizeOf106
 v171:=Tryd.zeroValue106
 t173:=Tryd.underlying111
 a173:=Tryd.isAgg111
 z173:=Tryd.sizeOf111
 v173:=Tryd.zeroValue111
 t212:=Tryd.underlying116
 a212:=Tryd.isAgg116
 z212:=Tryd.sizeOf116
 v212:=Tryd.zeroValue116
 t213:=Tryd.underlying118
 a213:=Tryd.isAgg118
 z213:=Tryd.sizeOf118
 t232:=Tryd.underlying135
 a232:=Tryd.isAgg135
 z232:=Tryd.sizeOf135
 v232:=Tryd.zeroValue135
 t233:=Tryd.underlying136
 a233:=Tryd.isAgg136
 z233:=Tryd.sizeOf136
 v233:=Tryd.zeroValue136
 g17:=by kernel_rfl
 g18:=by kernel_rfl
 g19:=by kernel_rfl
 i0:=by kernel_rfl
 i2:=by kernel_rfl
 i3:=by kernel_rfl
 i4:=by kernel_rfl
 i5:=by kernel_rfl
 i9:=by kernel_rfl
 i20:=by kernel_rfl
 i37:=by kernel_rfl
 i46:=by kernel_rfl
 i51:=by kernel_rfl
 i53:=by kernel_rfl
 i171:=by kernel_rfl
 i173:=by kernel_rfl
 i212:=by kernel_rfl
 i232:=by kernel_rfl
 i233:=by kernel_rfl
 m17:=by kernel_rfl
 m18:=by kernel_rfl
 m19:=by kernel_rfl }
open Go.RowKit Go.Sort Go.Lib in
theorem Tryd.strconv_Itoa (n:Int) (h0: -9223372036854775808≤n) (h1:n≤9223372036854775807) (w:World) (htab:Lib.TabIs Tryd.prog w "internal/strconv.uint64pow10" .u64 Lib.pow10Tab):
  Calls Tryd.prog 35 #[.int .i64 n] w fun e w'=>e= .returned (.string ⟨(Lib.itoa n).toArray⟩)∧∃k os,w'=grow (w.drewN k) os:=Any.strconv_Itoa Tryd.laysM171 n h0 h1 w htab
end Go.Proofs
namespace Go.Proofs.YtlbcipohiepjmaaDoor
open Go.RowKit
open Go.ChangeMaps (setBlock)
def AOps (P:Program) (ops:Array Oper) (l:List Oper) (Q:Exit→AS→Prop) (s:AS):Prop:=
 ∀C a w,St C s a w→wpList P ops (fun e a' w'=>∃s',Q e s'∧St C s' a' w') l a w
section
variable {P:Program} {Q:Exit→AS→Prop} {s:AS} {ops:Array Oper}
end
section
variable {C:Cx} {w:World} {ok:Nat→Prop} {g:Gh} {m:Me}
end
section
variable {P:Program} {Q:Exit→AS→Prop} {s:AS} {ops:Array Oper}
theorem St.known {C:Cx} {a:Act} {w:World} (o:Nat) {x:Q6} (hs:St C s a w) (hx:Q5 s.mem o=some x):
  ∃ok g,OR w ok g (Q5 s.mem) o x∧∀x',x.like x'→(∀m',OR w ok g m' o x')→St C ⟨s.n,s.fr,(o,some x')::s.mem⟩ a w:=by
 obtain⟨ok,g,hM,h1,h2,h3⟩:=hs;refine⟨ok,g,hM.obj _ _ hx,fun x' hl hO=>?_⟩;have hget:∀i,Q5 ((o,some x')::s.mem) i=if o==i then some x' else Q5 s.mem i:=fun i=>by simp only[Q5]
 have hm:∀i y',(fun _=>false) i=false→Q5 ((o,some x')::s.mem) i=some y'→∃y,Q5 s.mem i=some y∧y.like y'∧g.bl i=g.bl i∧g.cp i=g.cp i:=fun i y' _ hy=>by
  rw[hget]at hy;split at hy
  ·rename_i e;obtain rfl:o=i:=by simpa using e
   cases hy;exact⟨x,hx,hl,rfl,rfl⟩
  ·exact⟨y',hy,Q6.Wq _,rfl,rfl⟩
 have hsome:∀i y,Q5 ((o,some x')::s.mem) i=some y→∃z,Q5 s.mem i=some z∧∀b,y.at_ g i b→z.at_ g i b:=fun i y hy=>by
  obtain⟨z,hz,hl,_⟩:=hm i y rfl hy;exact⟨z,hz,fun b=>(Q6.like_at hl).1⟩
 refine⟨ok,g,⟨fun i y hy=>?_,fun i j xi xj b hi hj hbi hbj=>?_,fun i y b hy hb=>?_,hM.okb,hM.okk,hM.size,hM.heap,hM.keep,hM.os,hM.tape,hM.output,hM.gi,hM.gb⟩,h1,h2,fun t=>(h3 t).mono (fun _=>false) (AV.V6 (fun _=>rfl) _) (fun _ _=>rfl) (fun _ h=>h) hm⟩
 ·have hy':=hy;rw[hget]at hy;split at hy
  ·rename_i e;obtain rfl:o=i:=by simpa using e
   cases hy;exact hO _
  ·refine(hM.obj i y hy).mono (fun _=>false) ?_ (fun _ _=>rfl) rfl rfl (fun _ _=>rfl) (fun _ h=>h) hm;cases y with
   |arr e sz rows=>trivial
   |map ks ag n ents=>trivial
   |raw r=>exact Q6.Fz (fun _=>rfl) _
   |blk t cs=>
    have:∀l:List AV,AV.Yj (fun _=>false) l=false:=fun l=>by
     induction l with
     |nil=>rfl
     |cons c r ih=>simp only[AV.Yj,ih,AV.V6 (fun _=>rfl) c,Bool.or_self]
    exact this cs
 ·obtain⟨zi,hzi,ai⟩:=hsome i xi hi;obtain⟨zj,hzj,aj⟩:=hsome j xj hj;exact hM.inj i j zi zj b hzi hzj (ai b hbi) (aj b hbj)
 ·obtain⟨z,hz,ai⟩:=hsome i y hy;exact hM.own i z b hz (ai b hb)
end
def swN (o p i:Nat):Nat:=if i==o then p else if i==p then o else i
theorem Wx (o p i:Nat):swN o p (swN o p i)=i:=by
 unfold swN;simp only[beq_iff_eq];repeat' split
 all_goals omega
theorem AV.ren_sw (o p:Nat) (c:AV):(c.ren (swN o p)).ren (swN o p)=c:=
 AV.rec (motive_1:=fun c=>(c.ren (swN o p)).ren (swN o p)=c) (motive_2:=fun l=>Ej (swN o p) (Ej (swN o p) l)=l) (by rfl) (fun _=>rfl) (fun _=>rfl) (fun _=>rfl) (fun i k=>by simp only[AV.ren,Wx]) (fun i k n=>by simp only[AV.ren,Wx]) (fun i k n=>by simp only[AV.ren,Wx]) (fun i=>by simp only[AV.ren,Wx])
  (fun cs h=>by simp only[AV.ren,h]) (fun cs h=>by simp only[AV.ren,h]) (fun _ cs h=>by simp only[AV.ren,h]) rfl (fun x r h1 h2=>by simp only[Ej,h1,h2]) c
theorem renL_sw (o p:Nat) (l:List AV):Ej (swN o p) (Ej (swN o p) l)=l:=by
 have:=AV.ren_sw o p (.agg l);simpa only[AV.ren,AV.agg.injEq]using this
theorem Q6.ren_sw (o p:Nat) (x:Q6):(x.ren (swN o p)).ren (swN o p)=x:=by
 rcases x with _|_|_|r
 ·simp only[Q6.ren,renL_sw]
 ·rfl
 ·rfl
 ·cases r with
  |own ty sz rows lk=>
   simp only[Q6.ren,Raw.ren,List.map_map];congr 2;refine(List.map_congr_left fun x _=>?_).trans (List.map_id _);simp[Function.comp,Wx]
  |births=>rfl
  |iter=>rfl
def AS.swap (s:AS) (o p:Nat):AS:=⟨s.n,s.fr.map fun x=>(x.1,x.2.ren (swN o p)),s.mem.map fun x=>(swN o p x.1,x.2.map (Q6.ren (swN o p)))⟩
theorem frGet_swap (o p:Nat) (f:List (Nat×AV)) (t:Nat):Z9 (f.map fun x=>(x.1,x.2.ren (swN o p))) t=(Z9 f t).ren (swN o p):=by
 induction f with
 |nil=>rfl
 |cons x r ih=>
  simp only[List.map_cons,Z9,ih];split<;> rfl
theorem memGet_swap (o p:Nat) (f:List (Nat×Option Q6)) (t:Nat):Q5 (f.map fun x=>(swN o p x.1,x.2.map (Q6.ren (swN o p)))) t=(Q5 f (swN o p t)).map (Q6.ren (swN o p)):=by
 induction f with
 |nil=>rfl
 |cons x r ih=>
  have e:(swN o p x.1==t)=(x.1==swN o p t):=by
   rw[Bool.eq_iff_iff,beq_iff_eq,beq_iff_eq];constructor
   ·rintro rfl;rw[Wx]
   ·intro h;rw[h,Wx]
  simp only[List.map_cons,Q5,ih,e];split<;> rfl
theorem swN_big {o p i:Nat} (ho:Nat.ble 500 o=false) (hp:Nat.ble 500 p=false) (hi:500≤i):swN o p i=i:=by
 have h1:¬500≤o:=fun h=>by rw[Nat.ble_eq_true_of_le h]at ho;cases ho
 have h2:¬500≤p:=fun h=>by rw[Nat.ble_eq_true_of_le h]at hp;cases hp
 unfold swN;simp only[beq_iff_eq];repeat' split
 all_goals omega
theorem Le.swap (s:AS) (o p:Nat) (ho:Nat.ble 500 o=false) (hp:Nat.ble 500 p=false):Le s (s.swap o p):=by
 rintro C a w ⟨ok,g,hM,h1,h2,h3⟩;have em:Q5 (s.swap o p).mem=fun i=>(Q5 s.mem (swN o p i)).map (Q6.ren (swN o p)):=funext fun i=>memGet_swap o p s.mem i
 have inv:∀{i x},Q5 (s.swap o p).mem i=some x→Q5 s.mem (swN o p i)=some (x.ren (swN o p)):=fun {i x} h=>by
  rw[em]at h;obtain⟨y,hy,rfl⟩:=Option.map_eq_some_iff.1 h;rw[hy,Q6.ren_sw]
 let g':Gh:=⟨fun i=>g.bl (swN o p i),fun i=>g.cp (swN o p i),fun i=>g.pv (swN o p i)⟩
 have vr:∀{c v},VR w ok g (Q5 s.mem) c v→VR w ok g' (Q5 (s.swap o p).mem) (c.ren (swN o p)) v:=fun {c v} h=>by
  refine VR.unren (g:=g) (M:=Q5 s.mem) (swN o p) (fun i x hx=>⟨inv hx,rfl,rfl⟩) ?_;rw[AV.ren_sw];exact h
 refine⟨ok,g',⟨fun i x hx=>?_,fun i j xi xj b hi hj hbi hbj=>?_,fun i x b hx hb=>?_,hM.okb,hM.okk,hM.size,hM.heap,fun i hi=>?_,hM.os,hM.tape,hM.output,hM.gi,hM.gb⟩,h1,h2,fun t=>?_⟩
 ·have hO:=hM.obj _ _ (inv hx);cases x with
  |blk t cs=>
   obtain⟨b,vs,k1,k2,k3,k4,k5⟩:=hO;refine⟨b,vs,k1,k2,by simpa[Rj]using k3,fun j c v hc hv=>?_,k5⟩;have:=vr (k4 j (c.ren (swN o p)) v (by rw[Rj,List.getElem?_map,hc];rfl) hv)
   rwa [AV.ren_sw]at this
  |arr e sz rows=>exact hO
  |map ks ag n ents=>exact hO
  |raw r=>exact RawR.back (swN o p) hO rfl rfl rfl fun i n v h=>by simpa[AV.ren,Wx]using vr h
 ·have:=hM.inj _ _ _ _ b (inv hi) (inv hj) (Q6.Ij.2 hbi) (Q6.Ij.2 hbj);rw[←Wx o p i,this,Wx]
 ·obtain⟨k1,k2,k3⟩:=hM.own _ _ b (inv hx) (Q6.Ij.2 hb);refine⟨k1,k2,?_⟩;rcases k3 with k3|⟨k3,k4⟩
  ·exact .inl k3
  ·refine .inr ⟨k3,?_⟩;rcases Nat.lt_or_ge i 500 with hi|hi
   ·exfalso;have h5:=swN_big ho hp k4;rw[Wx]at h5;omega
   ·exact hi
 ·have h5:swN o p i=i:=swN_big ho hp (by have:=Nat.le_of_ble_eq_true hi;omega);simp only[g',h5];exact hM.keep i hi
 ·have e:Z9 (s.swap o p).fr t=(Z9 s.fr t).ren (swN o p):=frGet_swap o p s.fr t;rw[e];exact vr (h3 t)
theorem Le.give (s:AS) (o p:Nat) (ho:Nat.ble 500 o=false) (hp:kept p=false) (hm:Q5 s.mem p=none):Le s (s.swap o p):=by
 rintro C a w ⟨ok,g,hM,h1,h2,h3⟩;have hol:o<500:=Nat.lt_of_not_le fun h=>by rw[Nat.ble_eq_true_of_le h]at ho;cases ho
 have hpl:p<1000:=Nat.lt_of_not_le fun h=>by unfold kept at hp;rw[Nat.ble_eq_true_of_le h]at hp;cases hp
 have em:Q5 (s.swap o p).mem=fun i=>(Q5 s.mem (swN o p i)).map (Q6.ren (swN o p)):=funext fun i=>memGet_swap o p s.mem i
 have inv:∀{i x},Q5 (s.swap o p).mem i=some x→Q5 s.mem (swN o p i)=some (x.ren (swN o p)):=fun {i x} h=>by
  rw[em]at h;obtain⟨y,hy,rfl⟩:=Option.map_eq_some_iff.1 h;rw[hy,Q6.ren_sw]
 let g':Gh:=⟨fun i=>g.bl (swN o p i),fun i=>g.cp (swN o p i),fun i=>g.pv (swN o p i)⟩
 have vr:∀{c v},VR w ok g (Q5 s.mem) c v→VR w ok g' (Q5 (s.swap o p).mem) (c.ren (swN o p)) v:=fun {c v} h=>by
  refine VR.unren (g:=g) (M:=Q5 s.mem) (swN o p) (fun i x hx=>⟨inv hx,rfl,rfl⟩) ?_;rw[AV.ren_sw];exact h
 have big:∀{i},i≠o→i≠p→swN o p i=i:=fun {i} h1 h2=>by
  unfold swN;simp only[beq_iff_eq,h1,h2,if_false]
 refine⟨ok,g',⟨fun i x hx=>?_,fun i j xi xj b hi hj hbi hbj=>?_,fun i x b hx hb=>?_,hM.okb,hM.okk,hM.size,hM.heap,fun i hi=>?_,hM.os,hM.tape,hM.output,hM.gi,hM.gb⟩,h1,h2,fun t=>?_⟩
 ·have hO:=hM.obj _ _ (inv hx);cases x with
  |blk t cs=>
   obtain⟨b,vs,k1,k2,k3,k4,k5⟩:=hO;refine⟨b,vs,k1,k2,by simpa[Rj]using k3,fun j c v hc hv=>?_,k5⟩;have:=vr (k4 j (c.ren (swN o p)) v (by rw[Rj,List.getElem?_map,hc];rfl) hv)
   rwa [AV.ren_sw]at this
  |arr e sz rows=>exact hO
  |map ks ag n ents=>exact hO
  |raw r=>exact RawR.back (swN o p) hO rfl rfl rfl fun i n v h=>by simpa[AV.ren,Wx]using vr h
 ·have:=hM.inj _ _ _ _ b (inv hi) (inv hj) (Q6.Ij.2 hbi) (Q6.Ij.2 hbj);rw[←Wx o p i,this,Wx]
 ·obtain⟨k1,k2,k3⟩:=hM.own _ _ b (inv hx) (Q6.Ij.2 hb);refine⟨k1,k2,?_⟩;rcases k3 with k3|⟨k3,k4⟩
  ·exact .inl k3
  ·by_cases e1:i=o
   ·subst e1;exfalso;have:=inv hx;rw[show swN i p i=p by unfold swN;simp,hm]at this;cases this
   ·by_cases e2:i=p
    ·subst e2;exfalso;rw[show swN o i i=o by unfold swN;simp[e1]]at k4;omega
    ·rw[big e1 e2]at k4;exact .inr ⟨k3,k4⟩
 ·have hi':1000≤i:=Nat.le_of_ble_eq_true hi;have h5:swN o p i=i:=big (by omega) (by omega);simp only[g',h5];exact hM.keep i hi
 ·have e:Z9 (s.swap o p).fr t=(Z9 s.fr t).ren (swN o p):=frGet_swap o p s.fr t;rw[e];exact vr (h3 t)
theorem AWp.D9 {P:Program} {c:Code} {Q:Exit→AS→Prop} {s s':AS} (l:List Nat) (h:D9 l s=some s') (k:AWp P c Q s'):AWp P c Q s:=AWp.le (Le.D9 l h) k
theorem Qv.nilArgs {P:Program} {k:Nat} {args:List AV} {r:Nat→AV} {x:Option Q6} (h:Qv P k (args.map AV.X7) r x):Qv P k args r x:=by
 refine⟨h.ent,h.rcl,h.nil,h.arr,fun d w ok vals hg hok hl hv=>h.run d w ok vals hg hok (by simpa using hl) fun i c v hc hv'=>?_⟩;rw[List.getElem?_map]at hc;obtain⟨c',hc',rfl⟩:=Option.map_eq_some_iff.1 hc;exact(hv i c' v hc' hv').X7
end Go.Proofs.YtlbcipohiepjmaaDoor
namespace Go.Proofs.YtlbcipohiepjmaaDoor
open Go.RowKit Go.ChangeShapes Go.WideShapes
inductive RT (P:Program):TypeId→List D→Prop where
 |int {t:TypeId} (n:Int) (h:P.underlying t=some (.int .i64)) (lo: -9223372036854775808≤n) (hi:n≤9223372036854775807):RT P t [.int n]
 |bool {t:TypeId} (b:Bool) (h:P.underlying t=some .bool):RT P t [.bool b]
 |str {t:TypeId} (s:ByteArray) (h:P.underlying t=some .string) (hs:s.size≤reachBytes):RT P t [.str s]
 |sl {t e:TypeId} (rows:List (List D)) (h:P.underlying t=some (.slice e)) (hl:rows.length * P.bytesOf e≤reachBytes) (hr:∀r∈rows,RT P e r):RT P t [.sl rows]
 |struct {t:TypeId} {fs:Array Field} (parts:List (List D)) (h:P.underlying t=some (.struct fs)) (hl:parts.length=fs.size)
   (hf:∀(i:Nat) (f:Field) (p:List D),fs[i]? =some f→parts[i]? =some p→RT P f.type p):RT P t parts.flatten
mutual
def D.bulk:D→Nat
 | .str s=>s.size+1
 | .sl rows=>D.Ak rows+1
 | .ptr row=>D.Kq row+1
 |_=>1
def D.Kq:List D→Nat
 |[]=>0
 |d::r=>D.bulk d+D.Kq r
def D.Ak:List (List D)→Nat
 |[]=>0
 |r::l=>D.Kq r+D.Ak l
end
theorem bulkRow_append (a b:List D):D.Kq (a++b)=D.Kq a+D.Kq b:=by
 induction a with
 |nil=>simp[D.Kq]
 |cons d r ih=>simp only[List.cons_append,D.Kq,ih];omega
def tiled (P:Program):Nat→List Field→Nat→Bool
 |n,[],m=>n==m
 |n,f::r,m=>f.offset==n && tiled P (n+P.cellsOf f.type) r m
def plainSet (P:Program) (S:List TypeId):Bool:=
 S.all fun t=>match P.underlying t with
  |some (.int .i64)=>true
  |some .bool=>true
  |some .string=>true
  |some (.slice e)=>S.contains e && decide (0<P.cellsOf e)
  |some (.struct fs)=>fs.toList.all (fun f=>S.contains f.type) && tiled P 0 fs.toList (P.cellsOf t)
  |_=>false
section
variable {H:Type} {enc:TypeId×Value→H} {P:Program} {w:World} {spare:Nat→Bool} {held:Bool}
def Reads (w:World) (cs:List Value) (ds:List D):Prop:=
 ds.length=cs.length∧∀(i:Nat) (d:D) (v:Value),ds[i]? =some d→cs[i]? =some v→Rep w (fun b=>b<w.heap.size) d v
theorem Reads.one {d:D} {v:Value} (h:Rep w (fun b=>b<w.heap.size) d v):Reads w [v] [d]:=by
 refine⟨rfl,fun i d' v' h1 h2=>?_⟩;match i with
 |0=>simp only[List.getElem?_cons_zero,Option.some.injEq]at h1 h2;subst h1;subst h2;exact h
 |i+1=>simp at h1
theorem Reads.append {cs cs':List Value} {ds ds':List D} (h:Reads w cs ds) (h':Reads w cs' ds'):Reads w (cs++cs') (ds++ds'):=by
 refine⟨by simp[h.1,h'.1],fun i d v h1 h2=>?_⟩;by_cases hi:i<ds.length
 ·rw[List.getElem?_append_left hi]at h1;rw[List.getElem?_append_left (by rw[←h.1];exact hi)]at h2;exact h.2 i d v h1 h2
 ·rw[List.getElem?_append_right (by omega)]at h1;rw[List.getElem?_append_right (by rw[←h.1];omega),←h.1]at h2;exact h'.2 _ d v h1 h2
theorem cell?_block_lt {p:Addr} {v:Value} (h:w.cell? p=some v):p.block<w.heap.size:=by
 unfold World.cell? at h;rcases Nat.lt_or_ge p.block w.heap.size with h1|h1
 ·exact h1
 ·rw[Array.getElem?_eq_none h1]at h;cases h
theorem weights_all {t:TypeId} {ds:List (DataW H)} {i:Nat} {d:DataW H} (h:(DataW.weightsAll P t ds).all (·≤reachBytes)=true) (hi:ds[i]? =some d):(d.weights P t).all (·≤reachBytes)=true:=by
 induction ds generalizing i with
 |nil=>simp at hi
 |cons x r ih=>
  simp only[DataW.weightsAll,List.all_append,Bool.and_eq_true]at h;match i with
  |0=>simp only[List.getElem?_cons_zero,Option.some.injEq]at hi;subst hi;exact h.1
  |i+1=>exact ih h.2 (by simpa using hi)
theorem weights_each {ts:List TypeId} {ds:List (DataW H)} {i:Nat} {t:TypeId} {d:DataW H} (h:(DataW.weightsEach P ts ds).all (·≤reachBytes)=true) (ht:ts[i]? =some t) (hi:ds[i]? =some d):(d.weights P t).all (·≤reachBytes)=true:=by
 refine List.all_eq_true.2 fun n hn=>?_
 exact List.all_eq_true.1 h n (DataW.weights_mem_each ht hi n hn)
theorem rep_of_trod {S:List TypeId} (hS:plainSet P S=true):∀(fuel:Nat) (t:TypeId) (cs:List Value) (x:DataW H×List MemPlace),t∈S→DataW.trod enc P w 0 spare held fuel t cs=some x→
  (x.1.weights P t).all (·≤reachBytes)=true→∃ds,Reads w cs ds∧RT P t ds∧D.Kq ds≤Rows.uptoBulk x.1:=by
 intro fuel;induction fuel with
 |zero=>intro t cs x _ h;simp[DataW.trod]at h
 |succ n ih=>
  intro t cs x hT h hw;have hp:=List.all_eq_true.1 hS t hT;cases hu:P.underlying t with
  |none=>simp[hu]at hp
  |some u=>
   rw[hu]at hp;cases u with
   |int k=>
    cases k<;> first|(simp at hp;done)|skip
    obtain⟨m,rfl,rfl,hwf⟩:=DataW.trod_int hu h;have hb: -9223372036854775808≤m∧m≤9223372036854775807:=by simpa[Lit.wf,IntKind.min,IntKind.max,IntKind.signed,IntKind.bits]using hwf
    exact⟨[.int m],Reads.one (.int m hb.1 hb.2),.int m hu hb.1 hb.2,by simp[D.Kq,D.bulk,Rows.uptoBulk]⟩
   |bool=>
    obtain⟨b,rfl,rfl⟩:=DataW.trod_bool hu h;exact⟨[.bool b],Reads.one (.bool b),.bool b hu,by simp[D.Kq,D.bulk,Rows.uptoBulk]⟩
   |string=>
    obtain⟨s,rfl,rfl,hs⟩:=DataW.trod_string hu h;refine⟨[.str s],Reads.one (.str s hs),.str s hu ?_,by simp[D.Kq,D.bulk,Rows.uptoBulk]⟩;simpa[DataW.weights]using hw
   |slice e=>
    simp only[Bool.and_eq_true,decide_eq_true_eq]at hp;have heS:e∈S:=by simpa using hp.1
    rcases DataW.trod_slice hu h with⟨rfl,rfl⟩|⟨a,len,cap,elems,rest,n',hn,rfl,rfl,hb,hl,hm,hlen,hel,_,_⟩
    ·exact⟨[.sl []],Reads.one (.empty none 0 (fun _=>rfl) (Nat.zero_le _)),.sl [] hu (by simp) (by simp),by simp[D.Kq,D.bulk,D.Ak,Rows.uptoBulk]⟩
    ·cases hn;simp only[DataW.weights,hu,List.all_cons,List.all_append,Bool.and_eq_true,decide_eq_true_eq,List.length_map]at hw;obtain⟨hw1,hw2,_⟩:=hw;have hex:∀i,i<len→∃q:List Value×List D,q.1.length=P.cellsOf e∧(∀j,j<P.cellsOf e→w.cell? ((a.add (i * P.cellsOf e)).add j)=q.1[j]?)∧Reads w q.1 q.2∧RT P e q.2∧∀y,elems[i]? =some y→D.Kq q.2≤Rows.uptoBulk y.1:=by
      intro i hi;have hb:=hel i hi;rw[List.getElem?_eq_getElem (by omega)]at hb;obtain⟨cs',h1,h2⟩:=Option.bind_eq_some_iff.1 hb;obtain⟨_,h3,h4⟩:=World.cells?_some h1;obtain⟨ds,h5,h6,h7⟩:=ih e cs' _ heS h2 (weights_all hw2 (i:=i) (by rw[List.getElem?_map,List.getElem?_eq_getElem (by omega)];rfl));exact⟨(cs',ds),h3,h4,h5,h6,fun y hy=>by rw[List.getElem?_eq_getElem (by omega)]at hy;cases hy;exact h7⟩
     obtain⟨q,hq⟩:=Deep.choose_lt hex;have hrows:∀(i:Nat) (r:List D),((List.range len).map fun i=>(q i).2)[i]? =some r→i<len∧r=(q i).2:=by
      intro i r hr;rw[List.getElem?_map]at hr;rcases Nat.lt_or_ge i len with hi|hi
      ·rw[List.getElem?_range hi]at hr;exact⟨hi,(Option.some.inj hr).symm⟩
      ·rw[List.getElem?_eq_none (by simpa using hi)]at hr;cases hr
     have hbk:∀(l:List (DataW H×List MemPlace)) (k:Nat),(∀i,i<l.length→∀y,l[i]? =some y→D.Kq (q (k+i)).2≤Rows.uptoBulk y.1)→D.Ak ((List.range' k l.length).map fun i=>(q i).2)≤Rows.uptoBulkAll (l.map (·.1)):=by
      intro l;induction l with
      |nil=>intro k _;simp[D.Ak]
      |cons y l ihl=>
       intro k hq';simp only[List.length_cons,List.range'_succ,List.map_cons,D.Ak,Rows.uptoBulkAll];have h1:=hq' 0 (by simp) y rfl;have h2:=ihl (k+1) fun i hi z hz=>by have:=hq' (i+1) (by simpa using hi) z (by simpa using hz);rw[show k+1+i=k+(i+1)from by omega];exact this
       rw[Nat.add_zero]at h1;omega
     have hb0:=hbk elems 0 fun i hi y hy=>by rw[Nat.zero_add];exact(hq i (by omega)).2.2.2.2 y hy
     rw[hlen,←List.range_eq_range']at hb0;refine⟨[.sl ((List.range len).map fun i=>(q i).2)],Reads.one ?_,.sl _ hu ?_ ?_,by simp only[D.Kq,D.bulk,Rows.uptoBulk];omega⟩
     ·rcases Nat.eq_zero_or_pos len with rfl|hpos
      ·exact .empty (some a) cap (by simp) hm
      ·obtain⟨b,o,sp⟩:=a;have hc0:=hq 0 hpos;have hv0:∃v,(q 0).1[0]? =some v:=⟨(q 0).1[0]'(by rw[hc0.1];exact hp.2),List.getElem?_eq_getElem _⟩
       obtain⟨v0,hv0⟩:=hv0;have hcell0:=(hc0.2.1 0 hp.2).trans hv0;have hsp:sp=none:=by simpa[Addr.add]using World.cell?_spot hcell0
       subst hsp;have hblt:=cell?_block_lt hcell0;have hrep:=Rep.sl (w:=w) (ok:=fun b=>b<w.heap.size) ((List.range len).map fun i=>(q i).2) (P.cellsOf e) b o cap (fun i j=>(q i).1.getD j .nilIface) (by simp;omega) (by simpa using hl) hm
        (fun i r hr=>by obtain⟨hi,rfl⟩:=hrows i r hr;rw[(hq i hi).2.2.1.1,(hq i hi).1]) (by simpa[Addr.add]using hblt) ?_ ?_
       ·simpa using hrep
       ·intro i j hi hj;have hi':i<len:=by simpa using hi
        have:=(hq i hi').2.1 j hj;rw[Deep.add_add,add_plain]at this;rw[this,List.getD,List.getElem?_eq_getElem (by rw[(hq i hi').1];exact hj)];rfl
       ·intro i j r d hr hd;obtain⟨hi,rfl⟩:=hrows i r hr;have hj:j<(q i).2.length:=(List.getElem?_eq_some_iff.1 hd).1;rw[(hq i hi).2.2.1.1]at hj;refine(hq i hi).2.2.1.2 j d _ hd ?_;rw[List.getD,List.getElem?_eq_getElem hj];rfl
     ·have:len * P.bytesOf e≤(elems.length+rest.length) * P.bytesOf e:=Nat.mul_le_mul_right _ (by omega);simp;omega
     ·intro r hr;obtain⟨i,hi⟩:=List.mem_iff_getElem?.1 hr;obtain⟨hi',rfl⟩:=hrows i r hi;exact(hq i hi').2.2.2.1
   |struct fs=>
    simp only[Bool.and_eq_true]at hp;obtain⟨xs,n',hn,rfl,hcl,hxl,hf⟩:=DataW.trod_struct hu h;cases hn;simp only[DataW.weights,hu]at hw;have key:∀(l:List Field) (k pos:Nat),(∀i,l[i]? =fs[k+i]?)→tiled P pos l (P.cellsOf t)=true→pos≤cs.length→∃parts:List (List D),parts.length=l.length∧Reads w (cs.drop pos) parts.flatten∧D.Kq parts.flatten≤Rows.uptoBulkAll ((xs.drop k).map (·.1))∧
      ∀(i:Nat) (f:Field) (p:List D),l[i]? =some f→parts[i]? =some p→RT P f.type p:=by
     intro l;induction l with
     |nil=>
      intro k pos _ ht hpos;simp only[tiled,beq_iff_eq]at ht;refine⟨[],rfl,?_,by simp[D.Kq],by simp⟩;rw[List.drop_of_length_le (by omega)];exact⟨rfl,by simp⟩
     |cons f r ihl=>
      intro k pos hl ht hpos;simp only[tiled,Bool.and_eq_true,beq_iff_eq]at ht;have hfk:fs[k]? =some f:=by have:=hl 0;simpa using this.symm
      have hfS:f.type∈S:=by
       have:=List.all_eq_true.1 hp.1 f (by have:=Array.mem_of_getElem? hfk;simpa using this);simpa using this
      have hx:=hf k f hfk;have hkx:k<xs.length:=by rw[hxl];exact(Array.getElem?_eq_some_iff.1 hfk).1
      rw[List.getElem?_eq_getElem hkx,ht.1]at hx;obtain⟨ds,h5,h6,h6b⟩:=ih f.type _ _ hfS hx (weights_each hw (i:=k) (by rw[List.getElem?_map];simp[hfk]) (by rw[List.getElem?_map,List.getElem?_eq_getElem hkx];rfl));have hle:pos+P.cellsOf f.type≤cs.length:=by
       have hm:∀(l:List Field) (p m:Nat),tiled P p l m=true→p≤m:=by
        intro l;induction l with
        |nil=>intro p m h;simp only[tiled,beq_iff_eq]at h;omega
        |cons g r ih=>intro p m h;simp only[tiled,Bool.and_eq_true]at h;have:=ih _ _ h.2;omega
       rw[hcl];exact hm _ _ _ ht.2
      obtain⟨parts,h7,h8,h8b,h9⟩:=ihl (k+1) (pos+P.cellsOf f.type) (fun i=>by have:=hl (i+1);rw[List.getElem?_cons_succ]at this;rw[this];congr 1;omega) ht.2 hle;refine⟨ds::parts,by simp[h7],?_,?_,?_⟩
      ·have e:cs.drop pos=(cs.drop pos).take (P.cellsOf f.type)++cs.drop (pos+P.cellsOf f.type):=by
        rw[←List.drop_drop,List.take_append_drop]
       rw[e,List.flatten_cons];exact h5.append h8
      ·rw[List.flatten_cons,bulkRow_append,List.drop_eq_getElem_cons hkx];simp only[List.map_cons,Rows.uptoBulkAll];omega
      ·intro i g p hg hpp;match i with
       |0=>simp only[List.getElem?_cons_zero,Option.some.injEq]at hg hpp;subst hg;subst hpp;exact h6
       |i+1=>exact h9 i g p (by simpa using hg) (by simpa using hpp)
    obtain⟨parts,h7,h8,h8b,h9⟩:=key fs.toList 0 0 (fun i=>by simp) hp.2 (Nat.zero_le _);refine⟨parts.flatten,by simpa using h8,.struct parts hu (by simpa using h7) fun i f p hfi hpi=>h9 i f p (by simpa using hfi) hpi,?_⟩;simp only[Rows.uptoBulk];simp only[List.drop_zero]at h8b;omega
   |_=>simp at hp
end
end Go.Proofs.YtlbcipohiepjmaaDoor
namespace Go.Proofs.YtlbcipohiepjmaaDoor
open Go.RowKit Go.ChangeShapes Go.WideShapes
inductive ArgRT (P:Program):TypeId→AV→Prop where
 |one {t:TypeId} {d:D} (h:RT P t [d]) (hn:∀fs,P.underlying t≠some (.struct fs)):ArgRT P t (.d d)
 |agg {t:TypeId} {ds:List D} {fs:Array Field} (h:RT P t ds) (hs:P.underlying t=some (.struct fs)):ArgRT P t (.agg (ds.map .d))
def AV.bulk:AV→Nat
 | .d x=>x.bulk
 | .agg cs=>D.Kq ((Ez cs).getD [])
 |_=>0
def avBulk:List AV→Nat
 |[]=>0
 |c::r=>c.bulk+avBulk r
theorem toDs_map (ds:List D):Ez (ds.map .d)=some ds:=by
 induction ds with
 |nil=>rfl
 |cons d r ih=>simp only[List.map_cons,Ez,toD1,ih]
def Qf (P:Program):List TypeId→List AV→Prop
 |[],[]=>True
 |t::ts,c::cs=>ArgRT P t c∧Qf P ts cs
 |_,_=>False
section
variable {H:Type} {enc:TypeId×Value→H} {P:Program} {w W W':World}
theorem reads_vr {cs:List Value} {ds:List D} (h:Reads w cs ds) (i:Nat) (c:AV) (v:Value) (hc:(ds.map AV.d)[i]? =some c) (hv:cs[i]? =some v):VR w (fun b=>b<w.heap.size) noG noM c v:=by
 rw[List.getElem?_map]at hc;cases hd:ds[i]? with
 |none=>rw[hd]at hc;cases hc
 |some d=>
  rw[hd]at hc;cases hc;exact .d d v (h.2 i d v hd hv)
theorem reads_cell {cs:List Value} {ds:List D} (h:Reads w cs ds) (i:Nat) (v:Value) (hv:cs[i]? =some v):v.oneCell'=true:=by
 have hi:i<ds.length:=by rw[h.1];exact(List.getElem?_eq_some_iff.1 hv).1
 exact(h.2 i ds[i] v (List.getElem?_eq_getElem hi) hv).oneCell
theorem arg_of_trod {S:List TypeId} (hS:plainSet P S=true) {spare:Nat→Bool} {held:Bool} {t:TypeId} {v:Value} {d:DataW H} {ps:List MemPlace} (hT:t∈S) {base:Nat} (hval:Value.okWide P w .any base t v)
  (h:DataW.Trod enc P w 0 spare held t v d ps) (hw:(d.weights P t).all (·≤reachBytes)=true):∃c,ArgRT P t c∧VR w (fun b=>b<w.heap.size) noG noM c v∧c.bulk≤Rows.uptoBulk d:=by
 obtain⟨n,hn⟩:=h;obtain⟨ds,h1,h2,hbk⟩:=rep_of_trod hS n t _ _ hT hn hw;have hone:(∀fs,P.underlying t≠some (.struct fs))→v.cells= #[v]→∃c,ArgRT P t c∧VR w (fun b=>b<w.heap.size) noG noM c v∧c.bulk≤Rows.uptoBulk d:=fun hns hcells=>by
  rw[hcells]at h1;have hl:=h1.1;match ds,hl with
  |[d],_=>exact⟨.d d,.one h2 hns,.d d v (h1.2 0 d v rfl rfl),by simpa[D.Kq,AV.bulk]using hbk⟩
 have hp:=List.all_eq_true.1 hS t hT;cases hu:P.underlying t with
 |none=>simp[hu]at hp
 |some u=>
  cases u with
  |int k=>obtain⟨_,rfl⟩:=okWide_int hu hval;exact hone (by simp[hu]) rfl
  |bool=>obtain⟨_,rfl⟩:=okWide_bool hu hval;exact hone (by simp[hu]) rfl
  |string=>obtain⟨_,rfl⟩:=okWide_string hu hval;exact hone (by simp[hu]) rfl
  |slice e=>obtain⟨_,_,_,rfl⟩:=okWide_slice hu hval;exact hone (by simp[hu]) rfl
  |struct fs=>
   obtain⟨cs,rfl,_⟩:=okWide_struct hu hval;have h1':Reads w cs.toList ds:=h1;refine⟨.agg (ds.map .d),.agg h2 hu,.agg _ _ (by have:=h1'.1;simpa using this) (fun i c v hc hv=>?_) (fun i v hv=>?_),by simp only[AV.bulk,toDs_map,Option.getD_some];exact hbk⟩
   ·exact reads_vr h1' i c v hc (by simpa using hv)
   ·exact reads_cell h1' i v (by simpa using hv)
  |_=>simp[hu]at hp
theorem args_of_trod {S:List TypeId} (hS:plainSet P S=true) {spare:Nat→Bool} {held:Bool} {base:Nat}:∀{ts:List TypeId} {vs:List Value} {ds:List (DataW H)} {ps:List MemPlace},(∀t∈ts,t∈S)→
  (∀(j:Nat) t v,ts[j]? =some t→vs[j]? =some v→Value.okWide P w .any base t v)→DataW.TrodAll enc P w 0 spare held ts vs ds ps→(DataW.weightsEach P ts ds).all (·≤reachBytes)=true→
  ∃cs,Qf P ts cs∧cs.length=vs.length∧(∀(i:Nat) (c:AV) (v:Value),cs[i]? =some c→vs[i]? =some v→VR w (fun b=>b<w.heap.size) noG noM c v)∧avBulk cs≤Rows.uptoBulkAll ds
 |[],[],[],_,_,_,_,_=>⟨[],trivial,rfl,fun i c v h=>by simp at h,by simp[avBulk]⟩
 |t::ts,v::vs,d::ds,ps,hT,hval,⟨p,q,h1,h2,e⟩,hw=>by
  simp only[DataW.weightsEach,List.all_append,Bool.and_eq_true]at hw;obtain⟨c,k1,k2,k2b⟩:=arg_of_trod hS (hT t (List.mem_cons_self ..)) (hval 0 t v rfl rfl) h1 hw.1;obtain⟨cs,k3,k4,k5,k6⟩:=args_of_trod hS (fun t ht=>hT t (List.mem_cons_of_mem _ ht)) (fun j t v ht hv=>hval (j+1) t v (by simpa using ht) (by simpa using hv)) h2 hw.2;refine⟨c::cs,⟨k1,k3⟩,by simp[k4],fun i c' v' hc hv=>?_,by simp only[avBulk,Rows.uptoBulkAll];omega⟩;match i with
  |0=>simp only[List.getElem?_cons_zero,Option.some.injEq]at hc hv;subst hc;subst hv;exact k2
  |i+1=>exact k5 i c' v' (by simpa using hc) (by simpa using hv)
theorem trodAll_below (hl:laidOutB P=true) (hb:Below W.heap.size W W'):∀{ts:List TypeId} {vs:List Value} {ds:List (DataW H)} {ps:List MemPlace},(∀t∈ts,P.readableRec t=true∧t<P.types.size)→
  DataW.TrodAll enc P W 0 (fun _=>true) true ts vs ds ps→(∀x∈ps,x.block<W.heap.size)→DataW.TrodAll enc P W' 0 (fun b=>decide (b<W.heap.size)) true ts vs ds ps
 |[],[],[],_,_,h,_=>h
 |t::ts,v::vs,d::ds,ps,hT,⟨p,q,h1,h2,e⟩,hlt=>by
  subst e;exact⟨p,q,Below.trod hl (hT t (List.mem_cons_self ..)).1 (hT t (List.mem_cons_self ..)).2 h1 hb (fun x hx=>hlt x (List.mem_append_left _ hx)),
   trodAll_below hl hb (fun t ht=>hT t (List.mem_cons_of_mem _ ht)) h2 (fun x hx=>hlt x (List.mem_append_right _ hx)),rfl⟩
theorem trodAll_len:∀{ts:List TypeId} {vs:List Value} {ds:List (DataW H)} {ps:List MemPlace} {b:Nat} {sp:Nat→Bool} {hd:Bool},DataW.TrodAll enc P W b sp hd ts vs ds ps→ds.length=ts.length
 |[],[],[],_,_,_,_,_=>rfl
 |t::ts,v::vs,d::ds,ps,_,_,_,⟨p,q,h1,h2,e⟩=>by simp[trodAll_len h2]
theorem law_contract {S:List TypeId} (hS:plainSet P S=true) {k:Nat} {fn:Func} (hp:∀t∈fn.params.toList,t∈S) {s:ChangeSpec} (hv:s.vars=[]) {tb:TypeId} (hrt:fn.resultTypes= #[tb]) (hub:P.underlying tb=some .bool)
  (hl:laidOutB P=true) (hr:∀t∈fn.params.toList,P.readableRec t=true∧t<P.types.size)
  (hs:∀ds:List (DataW H),ds.length=fn.params.toList.length→s.fn H ds={ results:=[.lit (.bool true)],args:=ds })
  {B:Nat} (hspec:∀cs:List AV,Qf P fn.params.toList cs→avBulk cs≤B→Qv P k cs (fun _=>.d (.bool true)) none)
  {base:Nat} {args:Array Value} {ds gs:List (DataW H)} {before:List MemPlace} (hbulk:Rows.uptoBulkAll ds≤B) (hval:∀(j:Nat) t v,fn.params[j]? =some t→args[j]? =some v→Value.okWide P W .any base t v)
  (hW:DataW.Whole enc P fn.params.toList s.vars false W args.toList ds gs before) (hw:(DataW.weightsEach P (fn.params.toList++s.plain.varTypes P) (ds++gs)).all (·≤reachBytes)=true) (hgi:GI W):
  Calls P k args W fun e W'=>∃v,e= .returned v∧s.post enc P fn false true false false W args v W':=by
 have hW':=hW;obtain⟨p,q,hA,hV,rfl,hfz,hnd⟩:=hW;rw[hv]at hV;obtain⟨hgs,rfl⟩:=trodVars_none hV;subst hgs;have hlen:=trodAll_len hA;have hw':(DataW.weightsEach P fn.params.toList ds).all (·≤reachBytes)=true:=by
  refine List.all_eq_true.2 fun n hn=>List.all_eq_true.1 hw n ?_
  rw[List.append_nil];have:∀(ts us:List TypeId) (ds:List (DataW H)),n∈DataW.weightsEach P ts ds→n∈DataW.weightsEach P (ts++us) ds:=by
   intro ts;induction ts with
   |nil=>intro us ds h;simp[DataW.weightsEach]at h
   |cons t r ih=>
    intro us ds h;cases ds with
    |nil=>simp[DataW.weightsEach]at h
    |cons d ds=>
     simp only[List.cons_append,DataW.weightsEach,List.mem_append]at h⊢;exact h.imp id (ih us ds)
  exact this _ _ _ hn
 obtain⟨cs,h1,h2,h3,h4⟩:=args_of_trod hS (base:=base) hp (fun j t v ht hv=>hval j t v (by simpa using ht) (by simpa using hv)) hA hw';refine((hspec cs h1 (by omega)).run 0 W (fun b=>b<W.heap.size) args hgi (fun b hb=>hb) (by simpa using h2) (fun i c v hc hv=>h3 i c v hc (by simpa using hv))).mono ?_;rintro e W' ⟨v,ok',g',rfl,hB,_,_,hvr,_⟩;have hvt:v= .bool true:=by
  cases hvr with
  |d _ _ h=>cases h;rfl
 subst hvt;have hlt:∀x∈p++[],x.block<W.heap.size:=hW'.lt;refine⟨_,rfl,ds,[],p++[],[],p++[],[],hW',?_,?_,?_,hB.frame _,fun h=>by cases h⟩
 ·rw[List.append_nil,hs ds hlen,hrt];exact trodAll_cons_mk (shut_bool hub _) trodAll_mk0
 ·rw[List.append_nil,hs ds hlen,List.append_nil];exact trodAll_below hl hB hr hA (by simpa using hlt)
 ·rw[List.append_nil,hs ds hlen,hv];rfl
end
end Go.Proofs.YtlbcipohiepjmaaDoor
namespace Go.Proofs.YtlbcipohiepjmaaDoor
section
variable {P:Program} {t e:TypeId} {ds:List D} {c:AV}
theorem RT.Xv (h:RT P t ds) (hu:P.underlying t=some (.int .i64)):∃n:Int,ds=[.int n]∧-9223372036854775808≤n∧n≤9223372036854775807:=by
 cases h<;> simp_all
theorem RT.D5 (h:RT P t ds) (hu:P.underlying t=some .string):∃s:ByteArray,ds=[.str s]∧s.size≤reachBytes:=by
 cases h<;> simp_all
theorem RT.sl_inv (h:RT P t ds) (hu:P.underlying t=some (.slice e)):∃rows:List (List D),ds=[.sl rows]∧rows.length * P.bytesOf e≤reachBytes∧∀r∈rows,RT P e r:=by
 cases h with
 |sl rows h hl hr=>
  rw[hu]at h;cases h;exact⟨rows,rfl,hl,hr⟩
 |_=>simp_all
theorem RT.struct_inv {fs:Array Field} (h:RT P t ds) (hu:P.underlying t=some (.struct fs)):∃parts:List (List D),ds=parts.flatten∧parts.length=fs.size∧
  ∀(i:Nat) (f:Field) (p:List D),fs[i]? =some f→parts[i]? =some p→RT P f.type p:=by
 cases h with
 |struct parts h hl hf=>
  rw[hu]at h;cases h;exact⟨parts,rfl,hl,hf⟩
 |_=>simp_all
theorem RT.struct3_inv {f0 f1 f2:Field} (h:RT P t ds) (hu:P.underlying t=some (.struct #[f0,f1,f2])):∃p0 p1 p2,ds=p0++(p1++p2)∧RT P f0.type p0∧RT P f1.type p1∧RT P f2.type p2:=by
 obtain⟨parts,rfl,hl,hf⟩:=h.struct_inv hu;match parts,hl with
 |[p0,p1,p2],_=>exact⟨p0,p1,p2,by simp,hf 0 f0 p0 rfl rfl,hf 1 f1 p1 rfl rfl,hf 2 f2 p2 rfl rfl⟩
theorem rows_inv {α:Type} {row:α→List D} {p:α→Prop}:∀{rows:List (List D)},(∀r∈rows,∃x,r=row x∧p x)→∃l:List α,rows=l.map row∧∀x∈l,p x
 |[],_=>⟨[],rfl,by simp⟩
 |r::rs,h=>by
  obtain⟨x,rfl,hx⟩:=h r (List.mem_cons_self ..);obtain⟨l,rfl,hl⟩:=rows_inv (rows:=rs) fun r hr=>h r (List.mem_cons_of_mem _ hr)
  exact⟨x::l,rfl,by simpa using⟨hx,hl⟩⟩
theorem RT.list_inv {α:Type} {row:α→List D} {p:α→Prop} (hinv:∀r,RT P e r→∃x,r=row x∧p x) (h:RT P t ds) (hu:P.underlying t=some (.slice e)):
  ∃l:List α,ds=[.sl (l.map row)]∧l.length * P.bytesOf e≤reachBytes∧∀x∈l,p x:=by
 obtain⟨rows,rfl,hl,hr⟩:=h.sl_inv hu;obtain⟨l,rfl,hp⟩:=rows_inv fun r h=>hinv r (hr r h)
 exact⟨l,rfl,by simpa using hl,hp⟩
theorem RT.strs_inv (h:RT P t ds) (hu:P.underlying t=some (.slice e)) (he:P.underlying e=some .string):
  ∃l:List ByteArray,ds=[.sl (l.map fun n=>[.str n])]∧l.length * P.bytesOf e≤reachBytes∧∀n∈l,n.size≤reachBytes:=
 RT.list_inv (fun r hr=>hr.D5 he) h hu
theorem ArgRT.one_inv (h:ArgRT P t c) (hn:∀fs,P.underlying t≠some (.struct fs)):∃d,c= .d d∧RT P t [d]:=by
 cases h with
 |one h _=>exact⟨_,rfl,h⟩
 |agg h hs=>exact absurd hs (hn _)
theorem ArgRT.list {α:Type} {row:α→List D} {p:α→Prop} (h:ArgRT P t c) (hinv:∀r,RT P e r→∃x,r=row x∧p x) (hu:P.underlying t=some (.slice e)):
  ∃l:List α,c= .d (.sl (l.map row))∧l.length * P.bytesOf e≤reachBytes∧∀x∈l,p x:=by
 obtain⟨d,rfl,hd⟩:=h.one_inv (by simp[hu]);obtain⟨l,hn,h1⟩:=RT.list_inv hinv hd hu;exact⟨l,by simpa using hn,h1⟩
theorem Qf.cons_inv {ts:List TypeId} {cs:List AV} (h:Qf P (t::ts) cs):∃c r,cs=c::r∧ArgRT P t c∧Qf P ts r:=by
 cases cs with
 |nil=>exact h.elim
 |cons c r=>exact⟨c,r,rfl,h.1,h.2⟩
theorem Qf.nil_inv {cs:List AV} (h:Qf P [] cs):cs=[]:=by
 cases cs with
 |nil=>rfl
 |cons c r=>exact h.elim
end
end Go.Proofs.YtlbcipohiepjmaaDoor
namespace Go.Proofs.YtlbcipohiepjmaaDoor
open Go.RowKit
section
variable {w:World} {ok:Nat→Prop} {g:Gh} {m m':Me}
end
theorem Zw.le {P:Program} {fn:Func} {r:AV} {m':Mo} {x:Exit} {s s':AS} (hl:Le s s') (h:Zw P fn r m' x s'):Zw P fn r m' x s:=by
 obtain⟨h1,s2,h2,h3⟩:=h;exact⟨h1,s2,hl.trans h2,h3⟩
end Go.Proofs.YtlbcipohiepjmaaDoor
namespace Go.Proofs.YtlbcipohiepjmaaDoor
open Go.RowKit
theorem G9.open_ {w:World} {ok Q:Nat→Prop} {ty:TypeId} {sz:Nat} {rows:List (List OD)} {v:Value} (h:G9 w ok Q (.own ty sz rows) v):
  ∃(ob:Option Nat) (c0:Nat) (Q0:Nat→Prop),(∀x,ob=some x∨Q0 x→Q x)∧(∀(g0:Gh) (m0:Me) (k:Nat),g0.bl k=ob→g0.cp k=c0→g0.pv k=Q0→RawR w ok g0 m0 k (.own ty sz rows []))∧
   ((ob=none∧v= .slice none 0 0∧rows=[])∨∃b,ob=some b∧v= .slice (some ⟨b,0,none⟩) rows.length c0):=by
 cases h with
 |nil _ _ _ h0=>
  refine⟨none,0,fun _=>False,?_,fun g0 m0 k h1 h2 h3=>⟨h0,by simp,.inl ⟨h1,rfl⟩,fun i j o' n h=>by cases h⟩,.inl ⟨rfl,rfl,rfl⟩⟩;rintro x (h|h)
  ·cases h
  ·exact h.elim
 |own _ _ _ _ b c cur S h0 hsz hb hlen hc hcs hQ hS hd hcell=>
  refine⟨some b,c,fun x=>Q x∧x≠b,?_,fun g0 m0 k h1 h2 h3=>⟨h0,hsz,.inr ⟨b,cur,S,h1,by rw[h3];simp,hb,by rw[h2];exact hlen,by rw[h2];exact hc,by rw[h2];exact hcs,fun i j x hx=>by rw[h3];exact hS i j x hx,hd,hcell⟩,fun i j o' n h=>by cases h⟩,.inr ⟨b,rfl,rfl⟩⟩;rintro x (h|h)
  ·cases h;exact hQ
  ·exact h.1
theorem G9.close_ {C:Cx} {w:World} {ok:Nat→Prop} {g:Gh} {m:Me} (hM:MS C w ok g m) {o:Nat} {ty:TypeId} {sz:Nat} {rows:List (List OD)} (hx:m o=some (.raw (.own ty sz rows []))) {v:Value} (hv:VR w ok g m (.arr o 0 rows.length) v):
  G9 w ok (fun x=>(Q6.raw (.own ty sz rows [])).at_ g o x) (.own ty sz rows) v:=by
 obtain⟨h0,h1,h2,_⟩:=hM.obj o _ hx;obtain⟨_,h4⟩:=hv.arr_invS hx rfl;rcases h4 with⟨hb,rfl,_,hn⟩|⟨b,hb,rfl⟩|⟨h,_⟩
 ·have:rows=[]:=List.eq_nil_of_length_eq_zero hn;subst this;exact .nil _ _ _ h0
 ·rcases h2 with⟨h2,_⟩|⟨b',cur,S,k1,k2,k3,k4,k5,k6,k7,k8,k9⟩
  ·rw[hb]at h2;cases h2
  ·rw[hb]at k1;obtain rfl:=Option.some.inj k1;rw[Nat.zero_mul,Nat.sub_zero];exact .own _ ty sz rows b _ cur S h0 h1 k3 k4 k5 k6 (.inl hb) (fun i j x hx=>⟨.inr (k7 i j x hx),fun e=>by subst e;exact k2 (k7 i j _ hx)⟩) k8 k9
 ·omega
theorem memU_two {a b:Nat} {x y:Option Q6} (i:Nat):X6 [(a,x),(b,y)] i=(a==i||b==i):=by simp[X6]
theorem Le.Yk {s:AS} (o o' i j:Nat) {ty ty':TypeId} {sz sz':Nat} {rows rows':List (List OD)} {lk:List (Nat×Nat×Nat×Nat)} {r:List OD} (hx:Q5 s.mem o=some (.raw (.own ty sz rows lk))) (hr:rows[i]? =some r) (hj:r[j]? =some (.own ty' sz' rows'))
  (hne:(o==o')=false) (hc:(!(Nat.ble 1000 o') && (!(Nat.ble 500 o)||Nat.ble 500 o'))=true) (hl:lkHas (fun k=>k==o') lk=false):
  Le s (s.after none .any ⟨[o'],[(o',some (.raw (.own ty' sz' rows' []))),(o,some (.raw (.own ty sz (rows.set i (r.set j .hole)) ((i,j,o',rows'.length)::lk))))]⟩):=by
 rintro C a w ⟨ok,g,hM,h1,h2,h3⟩;simp only[Bool.and_eq_true,Bool.not_eq_true',Bool.or_eq_true]at hc;obtain⟨hc1,hc2⟩:=hc;have hoo:o≠o':=by simpa using hne
 obtain⟨k0,k1,k2,k3⟩:=hM.obj o _ hx;have hi:i<rows.length:=(List.getElem?_eq_some_iff.1 hr).1;have hrl:=k1 i r hr;have hjl:j<sz:=by have:=(List.getElem?_eq_some_iff.1 hj).1;omega
 rcases k2 with⟨_,e⟩|⟨b0,cur,S,q1,q2,q3,q4,q5,q6,q7,q8,q9⟩
 ·rw[e]at hi;simp at hi
 have hcl:i * sz+j<cur.size:=by
  have:(i+1) * sz≤g.cp o * sz:=Nat.mul_le_mul_right _ (by omega);rw[Nat.add_mul]at this;omega
 have hcv:cur[i * sz+j]? =some (cur[i * sz+j]'hcl):=Array.getElem?_eq_getElem hcl;generalize(cur[i * sz+j]'hcl)=v at hcv;obtain⟨ob,c0,Q0,p1,p2,p3⟩:=(q9 i j r _ v hr hj hcv).open_
 let g':Gh:=⟨fun k=>if k=o' then ob else g.bl k,fun k=>if k=o' then c0 else g.cp k,fun k=>if k=o' then Q0 else if k=o then fun x=>g.pv o x∧¬S i j x else g.pv k⟩
 have gbo:g'.bl o'=ob:=by simp[g']
 have gco:g'.cp o'=c0:=by simp[g']
 have gpo:g'.pv o'=Q0:=by simp[g']
 have gb:∀k,k≠o'→g'.bl k=g.bl k:=fun k h=>by simp[g',h]
 have gc:∀k,k≠o'→g'.cp k=g.cp k:=fun k h=>by simp[g',h]
 have gp:g'.pv o=fun x=>g.pv o x∧¬S i j x:=by simp[g',hoo]
 have hS0:∀x,(Q6.raw (.own ty' sz' rows' [])).at_ g' o' x→S i j x:=fun x hx=>by
  refine p1 x ?_;rcases hx with hx|hx
  ·rw[gbo]at hx;exact .inl hx
  ·rw[gpo]at hx;exact .inr hx
 have hat0:∀x,S i j x→(Q6.raw (.own ty sz rows lk)).at_ g o x:=fun x hx=>.inr (q7 i j x hx)
 have hat1:∀lk2 rows2 x,(Q6.raw (.own ty sz rows2 lk2)).at_ g' o x→(Q6.raw (.own ty sz rows lk)).at_ g o x∧¬S i j x:=fun lk2 rows2 x hx=>by
  rcases hx with hx|hx
  ·rw[gb o hoo]at hx;refine⟨.inl hx,fun hs=>?_⟩;rw[q1]at hx;obtain rfl:=Option.some.inj hx;exact q2 (q7 i j _ hs)
  ·rw[gp]at hx;exact⟨.inr hx.1,hx.2⟩
 let R:List (List OD):=rows.set i (r.set j .hole)
 let ws:List (Nat×Option Q6):=[(o',some (.raw (.own ty' sz' rows' []))),(o,some (.raw (.own ty sz R ((i,j,o',rows'.length)::lk))))]
 have hU:∀k,X6 ws k=(o'==k||o==k):=fun k=>memU_two k
 have hN:∀k x,Q5 ws k=some x→(k=o'∧x= .raw (.own ty' sz' rows' []))∨(k=o∧x= .raw (.own ty sz R ((i,j,o',rows'.length)::lk))):=fun k x h=>by
  simp only[ws,Q5]at h;split at h
  ·rename_i e;cases h;exact .inl ⟨(by simpa using e:o'=k).symm,rfl⟩
  ·split at h
   ·rename_i e;cases h;exact .inr ⟨(by simpa using e:o=k).symm,rfl⟩
   ·cases h
 have hq:∀k,Qj [o'] k=(o'==k):=fun k=>Xq o' k
 have hmm:∀k x',Qj [o'] k=false→(Zq (Q5 s.mem) (X6 ws) (Qj [o']) (Q5 ws)) k=some x'→∃x,Q5 s.mem k=some x∧x.like x'∧g'.bl k=g.bl k∧g'.cp k=g.cp k:=fun k x' hk hx'=>by
  rw[hq]at hk;have hk':k≠o':=fun e=>by subst e;simp at hk
  unfold Zq at hx';split at hx'
  ·rcases hN k x' hx' with⟨e,_⟩|⟨rfl,rfl⟩
   ·exact absurd e hk'
   ·exact⟨_,hx,by simp[Q6.like,R],gb _ hk',gc _ hk'⟩
  ·obtain⟨x,hx,rfl⟩:=Option.map_eq_some_iff.1 hx';exact⟨x,hx,Q6.F9 _ x,gb _ hk',gc _ hk'⟩
 have hset:∀(a:Nat) (r':List OD),R[a]? =some r'→r'.length=sz∧∃r0,rows[a]? =some r0∧∀(c:Nat) (d:OD),r'[c]? =some d→(a=i∧c=j∧d= .hole)∨(¬(a=i∧c=j)∧r0[c]? =some d):=fun a r' hr'=>by
  by_cases ea:i=a
  ·subst ea;simp only[R]at hr';rw[List.getElem?_set_self hi]at hr';obtain rfl:=Option.some.inj hr';refine⟨by rw[List.length_set];exact hrl,r,hr,fun c d hd=>?_⟩;by_cases ec:j=c
   ·subst ec;rw[List.getElem?_set_self (by omega)]at hd;exact .inl ⟨rfl,rfl,(Option.some.inj hd).symm⟩
   ·rw[List.getElem?_set_ne ec]at hd;exact .inr ⟨fun h=>ec h.2.symm,hd⟩
  ·simp only[R]at hr';rw[List.getElem?_set_ne ea]at hr';exact⟨k1 a r' hr',r',hr',fun c d hd=>.inr ⟨fun h=>ea h.1.symm,hd⟩⟩
 have hE:=MS.eff (w':=w) (ok':=ok) (g':=g') hM (X6 ws) (Qj [o']) (Q5 ws)
  (fun k hk=>by rw[hq]at hk;rw[hU,hk];rfl)
  (fun k x hUk hNk=>by
   rcases hN k x hNk with⟨rfl,rfl⟩|⟨rfl,rfl⟩
   ·exact p2 g' _ _ gbo gco gpo
   ·refine⟨k0,fun a r' hr'=>(hset a r' hr').1,.inr ⟨b0,cur,fun a c x=>S a c x∧¬(a=i∧c=j),by rw[gb _ hoo];exact q1,by rw[gp];exact fun h=>q2 h.1,q3,by rw[gc _ hoo];simpa[R]using q4,by rw[gc _ hoo];exact q5,by rw[gc _ hoo];exact q6,fun a c x hx=>?_,fun a c a' c' x hx hx'=>q8 a c a' c' x hx.1 hx'.1,fun a c r' d u hr' hd hu=>?_⟩,fun a c o2 n hmem=>?_⟩
    ·rw[gp];refine⟨q7 a c x hx.1,fun hs=>hx.2 ?_⟩;exact q8 a c i j x hx.1 hs
    ·obtain⟨hl',r0,hr0,hcase⟩:=hset a r' hr';rcases hcase c d hd with⟨rfl,rfl,rfl⟩|⟨hn,hd0⟩
     ·rw[hcv]at hu;obtain rfl:=Option.some.inj hu;exact .hole _ _ (q9 _ _ r _ _ hr hj hcv).oneCell
     ·exact(q9 a c r0 d u hr0 hd0 hu).keep (fun _ _=>rfl) (fun _ h=>h) (fun _ _=>rfl) fun x hx=>⟨hx,hn⟩
    ·rcases List.mem_cons.1 hmem with hmem|hmem
     ·cases hmem;have hRi:R[i]? =some (r.set j .hole):=by simp only[R];exact List.getElem?_set_self hi
      refine⟨_,b0,v,hRi,hjl,by rw[gb _ hoo];exact q1,by rw[cell_of_row w b0 _ cur _ (0,0) q3];exact hcv,.arr _ _ _ _ (q9 i j r _ _ hr hj hcv).oneCell fun x sz2 L hx2 hs=>?_⟩;have hx3:Q5 ws o'=some x:=by
       unfold Zq at hx2;rw[hU]at hx2;simpa using hx2
      simp only[ws,Q5,beq_self_eq_true,if_true,Option.some.injEq]at hx3;subst hx3;cases hs;refine⟨by omega,?_⟩;rcases p3 with⟨r1,r2,r3⟩|⟨b,r1,r2⟩
      ·exact .inl ⟨by rw[gbo];exact r1,r2,rfl,by rw[r3];rfl⟩
      ·exact .inr (.inl ⟨b,by rw[gbo];exact r1,by rw[r2,gco];simp⟩)
     ·obtain⟨r0,b,u,t1,t2,t3,t4,t5⟩:=k3 a c o2 n hmem;have ha:a<R.length:=by simp only[R,List.length_set];exact(List.getElem?_eq_some_iff.1 t1).1
      refine⟨_,b,u,List.getElem?_eq_getElem ha,t2,by rw[gb _ hoo];exact t3,t4,?_⟩;refine t5.mono (Qj [o']) ?_ (fun _ _=>rfl) (fun _ h=>h) hmm;have:=F7 hl hmem;rw[AV.has,hq];rw[Bool.eq_false_iff]at this⊢;intro h
      exact this (by have : o' = o2 := by simpa using h
                     simp[this]))
  (fun k hk=>by
   rw[hq]at hk;have hk':k≠o':=fun e=>by subst e;simp at hk
   exact⟨gb k hk',gc k hk'⟩)
  (fun k x' hUk hk hNk=>by
   rw[hq]at hk;rcases hN k x' hNk with⟨rfl,_⟩|⟨rfl,rfl⟩
   ·simp at hk
   ·exact⟨_,hx,by simp[Q6.like,R]⟩)
  (fun k x b _ _ _=>rfl) (fun b _=>rfl) (fun b h=>h) (fun b h=>.inl h)
  (fun k x b hUk hNk hb=>by
   have hold:(Q6.raw (.own ty sz rows lk)).at_ g o b:=by
    rcases hN k x hNk with⟨rfl,rfl⟩|⟨rfl,rfl⟩
    ·exact hat0 b (hS0 b hb)
    ·exact(hat1 _ _ b hb).1
   obtain⟨t1,t2,t3⟩:=hM.own o _ b hx hold;refine⟨t1,t2,?_,fun k2 y hUk2 hy hb2=>?_,fun k2 y hUk2 hNk2 hb2=>?_⟩
   ·rcases t3 with t3|⟨t3,t4⟩
    ·exact .inl t3
    ·refine .inr ⟨t3,?_⟩;rcases hN k x hNk with⟨rfl,_⟩|⟨rfl,_⟩
     ·rcases hc2 with hc2|hc2
      ·have:=T9 hc2;omega
      ·exact Nat.le_of_ble_eq_true hc2
     ·exact t4
   ·have:=hM.inj k2 o y _ b hy hx hb2 hold;subst this;rw[hU]at hUk2;simp at hUk2
   ·rcases hN k x hNk with⟨rfl,rfl⟩|⟨rfl,rfl⟩<;> rcases hN k2 y hNk2 with⟨rfl,rfl⟩|⟨rfl,rfl⟩
    ·rfl
    ·exact absurd (hS0 b hb) (hat1 _ _ b hb2).2
    ·exact absurd (hS0 b hb2) (hat1 _ _ b hb).2
    ·rfl)
  (fun k hk=>by
   rw[hq]at hk;have:o'=k:=by simpa using hk
   rw[←this];unfold kept;exact hc1)
  (Nat.le_refl _) (fun b _ _=>rfl) rfl rfl rfl
  (fun k hk=>by
   rw[hU,Bool.or_eq_false_iff]at hk;have e1:k≠o':=fun e=>by subst e;simp at hk
   have e2:k≠o:=fun e=>by subst e;simp at hk
   simp[g',e1,e2])
 exact St.after (ok':=ok) (g':=g') h1 h2 h3 none (fun d hd=>by cases hd) .any undef ⟨[o'],ws⟩ hE (fun h=>absurd rfl h)
theorem Le.X8 {s:AS} (o o' i j:Nat) {ty ty':TypeId} {sz sz' n:Nat} {rows rows':List (List OD)} {lk:List (Nat×Nat×Nat×Nat)} {r:List OD} (hx:Q5 s.mem o=some (.raw (.own ty sz rows lk))) (hx':Q5 s.mem o'=some (.raw (.own ty' sz' rows' []))) (hr:rows[i]? =some r)
  (hm:(i,j,o',n)∈lk) (hn:n=rows'.length) (hne:(o==o')=false) (hc:(!(Nat.ble 1000 o') && (!(Nat.ble 500 o')||Nat.ble 500 o))=true):
  Le s (s.after none .any ⟨[o'],[(o',none),(o,some (.raw (.own ty sz (rows.set i (r.set j (.own ty' sz' rows'))) (Kz (fun k=>k==o') lk))))]⟩):=by
 subst hn;rintro C a w ⟨ok,g,hM,h1,h2,h3⟩;simp only[Bool.and_eq_true,Bool.not_eq_true',Bool.or_eq_true]at hc;obtain⟨hc1,hc2⟩:=hc;have hoo:o≠o':=by simpa using hne
 obtain⟨k0,k1,k2,k3⟩:=hM.obj o _ hx;obtain⟨rq,bq,v,v1,hjl,v3,v4,v5⟩:=k3 i j o' _ hm;have hi:i<rows.length:=(List.getElem?_eq_some_iff.1 hr).1;have hrl:=k1 i r hr;rcases k2 with⟨_,e⟩|⟨b0,cur,S,q1,q2,q3,q4,q5,q6,q7,q8,q9⟩
 ·rw[e]at hi;simp at hi
 rw[q1]at v3;obtain rfl:=Option.some.inj v3;have hcv:cur[i * sz+j]? =some v:=by rw[←v4,cell_of_row w b0 _ cur _ (0,0) q3]
 have hO:=G9.close_ hM hx' v5
 let A:Nat→Prop:=fun x=>(Q6.raw (.own ty' sz' rows' [])).at_ g o' x
 have hAo:∀x,A x→¬(Q6.raw (.own ty sz rows lk)).at_ g o x:=fun x h1 h2=>hoo (hM.inj o o' _ _ x hx hx' h2 h1)
 let g':Gh:=⟨g.bl,g.cp,fun k=>if k=o then fun x=>g.pv o x∨A x else g.pv k⟩
 have gp:g'.pv o=fun x=>g.pv o x∨A x:=by simp[g']
 let R:List (List OD):=rows.set i (r.set j (.own ty' sz' rows'))
 let ws:List (Nat×Option Q6):=[(o',none),(o,some (.raw (.own ty sz R (Kz (fun k=>k==o') lk))))]
 have hU:∀k,X6 ws k=(o'==k||o==k):=fun k=>memU_two k
 have hN:∀k x,Q5 ws k=some x→k=o∧x= .raw (.own ty sz R (Kz (fun k=>k==o') lk)):=fun k x h=>by
  simp only[ws,Q5]at h;split at h
  ·cases h
  ·split at h
   ·rename_i e;cases h;exact⟨(by simpa using e:o=k).symm,rfl⟩
   ·cases h
 have hq:∀k,Qj [o'] k=(o'==k):=fun k=>Xq o' k
 have hmm:∀k x',Qj [o'] k=false→(Zq (Q5 s.mem) (X6 ws) (Qj [o']) (Q5 ws)) k=some x'→∃x,Q5 s.mem k=some x∧x.like x'∧g'.bl k=g.bl k∧g'.cp k=g.cp k:=fun k x' hk hx'=>by
  unfold Zq at hx';split at hx'
  ·obtain⟨rfl,rfl⟩:=hN k x' hx';exact⟨_,hx,by simp[Q6.like,R],rfl,rfl⟩
  ·obtain⟨x,hx,rfl⟩:=Option.map_eq_some_iff.1 hx';exact⟨x,hx,Q6.F9 _ x,rfl,rfl⟩
 have hat1:∀lk2 rows2 x,(Q6.raw (.own ty sz rows2 lk2)).at_ g' o x→(Q6.raw (.own ty sz rows lk)).at_ g o x∨A x:=fun lk2 rows2 x hx=>by
  rcases hx with hx|hx
  ·exact .inl (.inl hx)
  ·rw[gp]at hx;rcases hx with hx|hx
   ·exact .inl (.inr hx)
   ·exact .inr hx
 have hset:∀(a:Nat) (r':List OD),R[a]? =some r'→r'.length=sz∧∃r0,rows[a]? =some r0∧∀(c:Nat) (d:OD),r'[c]? =some d→(a=i∧c=j∧d= .own ty' sz' rows')∨(¬(a=i∧c=j)∧r0[c]? =some d):=fun a r' hr'=>by
  by_cases ea:i=a
  ·subst ea;simp only[R]at hr';rw[List.getElem?_set_self hi]at hr';obtain rfl:=Option.some.inj hr';refine⟨by rw[List.length_set];exact hrl,r,hr,fun c d hd=>?_⟩;by_cases ec:j=c
   ·subst ec;rw[List.getElem?_set_self (by omega)]at hd;exact .inl ⟨rfl,rfl,(Option.some.inj hd).symm⟩
   ·rw[List.getElem?_set_ne ec]at hd;exact .inr ⟨fun h=>ec h.2.symm,hd⟩
  ·simp only[R]at hr';rw[List.getElem?_set_ne ea]at hr';exact⟨k1 a r' hr',r',hr',fun c d hd=>.inr ⟨fun h=>ea h.1.symm,hd⟩⟩
 have hE:=MS.eff (w':=w) (ok':=ok) (g':=g') hM (X6 ws) (Qj [o']) (Q5 ws)
  (fun k hk=>by rw[hq]at hk;rw[hU,hk];rfl)
  (fun k x hUk hNk=>by
   obtain⟨rfl,rfl⟩:=hN k x hNk;refine⟨k0,fun a r' hr'=>(hset a r' hr').1,.inr ⟨b0,cur,fun a c x=>if a=i∧c=j then A x else S a c x,q1,by rw[gp];exact fun h=>h.elim q2 fun h=>hAo b0 h (.inl q1),q3,by simpa[R]using q4,q5,q6,fun a c x hx=>?_,fun a c a' c' x hx hx'=>?_,fun a c r' d u hr' hd hu=>?_⟩,fun a c o2 n hmem=>?_⟩
   ·rw[gp];dsimp only at hx;split at hx
    ·exact .inr hx
    ·exact .inl (q7 a c x hx)
   ·dsimp only at hx hx';split at hx<;> split at hx'
    ·rename_i e1 e2;exact⟨e1.1.trans e2.1.symm,e1.2.trans e2.2.symm⟩
    ·exact absurd (.inr (q7 _ _ x hx')) (hAo x hx)
    ·exact absurd (.inr (q7 _ _ x hx)) (hAo x hx')
    ·exact q8 a c a' c' x hx hx'
   ·obtain⟨hl',r0,hr0,hcase⟩:=hset a r' hr';rcases hcase c d hd with⟨rfl,rfl,rfl⟩|⟨hn,hd0⟩
    ·rw[hcv]at hu;obtain rfl:=Option.some.inj hu;refine hO.keep (fun _ _=>rfl) (fun _ h=>h) (fun _ _=>rfl) fun x hx=>?_
     dsimp only;rw[if_pos ⟨rfl,rfl⟩];exact hx
    ·refine(q9 a c r0 d u hr0 hd0 hu).keep (fun _ _=>rfl) (fun _ h=>h) (fun _ _=>rfl) fun x hx=>?_
     dsimp only;rw[if_neg hn];exact hx
   ·have hmem':=Sj hmem;obtain⟨r0,b,u,t1,t2,t3,t4,t5⟩:=k3 a c o2 n hmem';have ha:a<R.length:=by simp only[R,List.length_set];exact(List.getElem?_eq_some_iff.1 t1).1
    refine⟨_,b,u,List.getElem?_eq_getElem ha,t2,t3,t4,?_⟩;refine t5.mono (Qj [o']) ?_ (fun _ _=>rfl) (fun _ h=>h) hmm;have:=F7 (Sk _ lk) hmem;rw[AV.has,hq];rw[Bool.eq_false_iff]at this⊢;intro h
    exact this (by have : o' = o2 := by simpa using h
                   simp[this]))
  (fun k hk=>⟨rfl,rfl⟩)
  (fun k x' hUk hk hNk=>by
   obtain⟨rfl,rfl⟩:=hN k x' hNk;exact⟨_,hx,by simp[Q6.like,R]⟩)
  (fun k x b _ _ _=>rfl) (fun b _=>rfl) (fun b h=>h) (fun b h=>.inl h)
  (fun k x b hUk hNk hb=>by
   obtain⟨rfl,rfl⟩:=hN k x hNk;have last:∀j' xj,X6 ws j'=true→Q5 ws j'=some xj→xj.at_ g' j' b→k=j':=fun j' xj _ h _=>(hN j' xj h).1.symm
   rcases hat1 _ _ b hb with hb|hb
   ·obtain⟨t1,t2,t3⟩:=hM.own k _ b hx hb;refine⟨t1,t2,t3,fun k2 y hUk2 hy hb2=>?_,last⟩;have hk2:k2≠k:=fun e=>by subst e;rw[hU]at hUk2;simp at hUk2
    have:=hM.inj k2 k y _ b hy hx ((Q6.Dz rfl (by simp[g',hk2])).1 hb2) hb;exact hk2 this
   ·obtain⟨t1,t2,t3⟩:=hM.own o' _ b hx' hb;refine⟨t1,t2,?_,fun k2 y hUk2 hy hb2=>?_,last⟩
    ·rcases t3 with t3|⟨t3,t4⟩
     ·exact .inl t3
     ·refine .inr ⟨t3,?_⟩;rcases hc2 with hc2|hc2
      ·have:=T9 hc2;omega
      ·exact Nat.le_of_ble_eq_true hc2
    ·have hk2:k2≠k:=fun e=>by subst e;rw[hU]at hUk2;simp at hUk2
     have hk3:k2≠o':=fun e=>by subst e;rw[hU]at hUk2;simp at hUk2
     have:=hM.inj k2 o' y _ b hy hx' ((Q6.Dz rfl (by simp[g',hk2])).1 hb2) hb;exact hk3 this)
  (fun k hk=>by
   rw[hq]at hk;have:o'=k:=by simpa using hk
   rw[←this];unfold kept;exact hc1)
  (Nat.le_refl _) (fun b _ _=>rfl) rfl rfl rfl
  (fun k hk=>by
   rw[hU,Bool.or_eq_false_iff]at hk;have e2:k≠o:=fun e=>by subst e;simp at hk
   simp[g',e2])
 exact St.after (ok':=ok) (g':=g') h1 h2 h3 none (fun d hd=>by cases hd) .any undef ⟨[o'],ws⟩ hE (fun h=>absurd rfl h)
def OdLe (c c':OD):Prop:=∀(w:World) (ok Q:Nat→Prop) (v:Value),G9 w ok Q c v→G9 w ok Q c' v
theorem OdLe.refl (c:OD):OdLe c c:=fun _ _ _ _ h=>h
theorem OdLe.nilO {ty:TypeId} {sz:Nat} (h0:0<sz):OdLe .nil (.own ty sz []):=fun _ _ _ _ h=>by cases h;exact .nil _ _ _ h0
def odLes:List OD→List OD→Prop
 |[],[]=>True
 |c::r,c'::r'=>OdLe c c'∧odLes r r'
 |_,_=>False
theorem odLes_get:∀{l l':List OD},odLes l l'→l.length=l'.length∧∀(i:Nat) (c':OD),l'[i]? =some c'→∃c,l[i]? =some c∧OdLe c c'
 |[],[],_=>by simp
 |c::r,c'::r',h=>by
  obtain⟨h1,h2⟩:=odLes_get h.2;refine⟨by simp[h1],fun i d hd=>?_⟩;rcases i with _|i
  ·simp at hd;subst hd;exact⟨c,rfl,h.1⟩
  ·exact h2 i d (by simpa using hd)
 |[],_::_,h=>h.elim
 |_::_,[],h=>h.elim
theorem Le.odrow {s:AS} (o i:Nat) {ty:TypeId} {sz:Nat} {rows:List (List OD)} {r r':List OD} (hx:Q5 s.mem o=some (.raw (.own ty sz rows []))) (hr:rows[i]? =some r) (hl:odLes r r'):
  Le s ⟨s.n,s.fr,(o,some (.raw (.own ty sz (rows.set i r') [])))::s.mem⟩:=by
 intro C a w hs;obtain⟨ok,g,hO,hk⟩:=hs.known o hx;obtain⟨l1,l2⟩:=odLes_get hl;have hi:i<rows.length:=(List.getElem?_eq_some_iff.1 hr).1;obtain⟨k0,k1,k2,k3⟩:=hO;have hset:∀(a:Nat) (r0:List OD),(rows.set i r')[a]? =some r0→∃r1,rows[a]? =some r1∧r1.length=r0.length∧∀(c:Nat) (d':OD),r0[c]? =some d'→∃d,r1[c]? =some d∧OdLe d d':=fun a r0 h=>by
  by_cases ea:i=a
  ·subst ea;rw[List.getElem?_set_self hi]at h;obtain rfl:=Option.some.inj h;exact⟨r,hr,l1,l2⟩
  ·rw[List.getElem?_set_ne ea]at h;exact⟨r0,h,rfl,fun c d hd=>⟨d,hd,OdLe.refl d⟩⟩
 refine hk _ (by simp[Q6.like]) fun m'=>⟨k0,fun a r0 h=>?_,?_,fun i j o' n h=>by cases h⟩
 ·obtain⟨r1,h1,h2,_⟩:=hset a r0 h;rw[←h2];exact k1 a r1 h1
 ·rcases k2 with⟨_,e⟩|⟨b0,cur,S,q1,q2,q3,q4,q5,q6,q7,q8,q9⟩
  ·rw[e]at hi;simp at hi
  ·refine .inr ⟨b0,cur,S,q1,q2,q3,by simpa using q4,q5,q6,q7,q8,fun a c r0 d v h0 hd hv=>?_⟩;obtain⟨r1,h1,_,h3⟩:=hset a r0 h0;obtain⟨d0,hd0,hle⟩:=h3 c d hd;exact hle _ _ _ _ (q9 a c r1 d0 v h1 hd0 hv)
theorem Qv.toOwn {P:Program} {k:Nat} {args:List AV} {n:Nat} {e:TypeId} {sz:Nat} {rows:List (List D)} (hS:Qv P k args (fun d=>.arr d 0 n) (some (.arr e sz rows))):
  Y9 P k args [(500,.arr 0 1 [])] (.arr 500 0 n) [(500,.raw (.own e sz (rows.map fun r=>r.map OD.d) []))]:=by
 refine⟨hS.ent,fun w ok g vals hM hl hv=>?_⟩;refine(hS.run 500 w ok vals hM.giw (fun b hb=>(hM.okb b hb).1) hl (fun i c v hc hvi=>(hv i c v hc hvi).toNo)).mono ?_;rintro ex w' ⟨v,ok',g',rfl,hb,hok,hokn,hr,hx⟩;obtain⟨⟨k0,k1,k2⟩,k3⟩:=hx _ rfl
 let g2:Gh:=⟨fun i=>if i=500 then g'.bl 500 else g.bl i,fun i=>if i=500 then g'.cp 500 else g.cp i,fun _ _=>False⟩
 let X:Q6:=.raw (.own e sz (rows.map fun r=>r.map OD.d) [])
 have hget:∀i x,X3 [(500,X)] i=some x→i=500∧x=X:=fun i x h=>by
  simp only[X3]at h;split at h
  ·rename_i e;cases h;exact⟨(by simpa using e:500=i).symm,rfl⟩
  ·cases h
 have hat:∀b,X.at_ g2 500 b→g'.bl 500=some b:=fun b h=>by
  rcases h with h|h
  ·simpa[g2]using h
  ·exact h.elim
 have hrow:∀(i:Nat) (r:List OD),(rows.map fun r=>r.map OD.d)[i]? =some r→∃r0,rows[i]? =some r0∧r=r0.map OD.d:=fun i r h=>by
  rw[List.getElem?_map]at h;obtain⟨r0,h0,rfl⟩:=Option.map_eq_some_iff.1 h;exact⟨r0,h0,rfl⟩
 refine⟨v,ok',g2,rfl,⟨fun i x hx=>?_,fun i j xi xj b hi hj _ _=>?_,fun i x b hx hb'=>?_,fun b hb'=>?_,hok,hb.size,fun b hbs _=>hb.block b hbs,fun i hi=>?_,hb.os,hb.tape,hb.output,hM.gi,hM.gb⟩,?_⟩
 ·obtain⟨rfl,rfl⟩:=hget i x hx;refine⟨k0,fun a r hr=>?_,?_,fun a c o' n h=>by cases h⟩
  ·obtain⟨r0,h0,rfl⟩:=hrow a r hr;rw[List.length_map];exact k1 a r0 h0
  ·rcases k2 with⟨h1,rfl⟩|⟨b,cur,h1,h2,h3,h4,h5,h6⟩
   ·exact .inl ⟨by simpa[g2]using h1,rfl⟩
   ·refine .inr ⟨b,cur,fun _ _ _=>False,by simpa[g2]using h1,fun h=>h,h2,by simpa[g2]using h3,by simpa[g2]using h4,by simpa[g2]using h5,fun _ _ _ h=>h,fun _ _ _ _ _ h=>h.elim,fun a c r d u hr hd hu=>?_⟩;obtain⟨r0,h0,rfl⟩:=hrow a r hr;rw[List.getElem?_map]at hd;obtain⟨d0,hd0,rfl⟩:=Option.map_eq_some_iff.1 hd;exact .d _ _ _ (h6 a c r0 d0 u h0 hd0 hu)
 ·rw[(hget i xi hi).1,(hget j xj hj).1]
 ·obtain⟨rfl,rfl⟩:=hget i x hx;obtain⟨q1,q2,q3⟩:=k3 b (hat b hb');exact⟨q1,q3,.inl q2⟩
 ·rcases hokn b hb' with h|⟨h1,h2⟩
  ·exact⟨by have:=(hM.okb b h).1;have:=hb.size;omega,.inl h⟩
  ·exact⟨h2,.inr h1⟩
 ·have:i≠500:=fun e=>by subst e;cases hi
  exact⟨if_neg this,if_neg this⟩
 ·cases hr with
  |arr _ _ _ _ hv1 hr=>
   refine .arr _ _ _ _ hv1 fun x sz' L hx hs=>?_
   obtain⟨_,rfl⟩:=hget _ x hx;cases hs;obtain⟨r1,r2⟩:=hr (.arr e sz rows) sz _ (by simp[oneM]) rfl;rw[List.length_map];refine⟨r1,?_⟩;have e1:g2.bl 500=g'.bl 500:=by simp[g2]
   have e2:g2.cp 500=g'.cp 500:=by simp[g2]
   rw[e1,e2];exact r2
mutual
def OD.flat:OD→Prop
 | .d d=>d.flat
 | .own _ _ rows=>E5 rows
 | .hole=>True
 | .nil=>True
def flatRow:List OD→Prop
 |[]=>True
 |c::r=>OD.flat c∧flatRow r
def E5:List (List OD)→Prop
 |[]=>True
 |c::r=>flatRow c∧E5 r
end
theorem flatRow_get:∀{l:List OD},flatRow l→∀(i:Nat) (c:OD),l[i]? =some c→c.flat
 |[],_,i,c,hc=>by simp at hc
 |x::r,h,i,c,hc=>by
  rcases i with _|i
  ·simp at hc;subst hc;exact h.1
  ·exact flatRow_get h.2 i c (by simpa using hc)
theorem Oj:∀{l:List (List OD)},E5 l→∀(i:Nat) (c:List OD),l[i]? =some c→flatRow c
 |[],_,i,c,hc=>by simp at hc
 |x::r,h,i,c,hc=>by
  rcases i with _|i
  ·simp at hc;subst hc;exact h.1
  ·exact Oj h.2 i c (by simpa using hc)
theorem G9.flat {w:World} {ok ok' Q:Nat→Prop} {c:OD} {v:Value} (h:G9 w ok Q c v) (hf:c.flat):G9 w ok' Q c v:=by
 induction h with
 |d Q d v h=>exact .d _ d v (h.flat hf)
 |hole Q v h=>exact .hole _ v h
 |nil Q ty sz h0=>exact .nil _ ty sz h0
 |nl Q=>exact .nl _
 |own Q ty sz rows b c cur S h0 hsz hb hlen hc hcs hQb hS hd hcell ih=>
  exact .own _ ty sz rows b c cur S h0 hsz hb hlen hc hcs hQb hS hd fun i j r d v hr hd hv=>ih i j r d v hr hd hv (flatRow_get (Oj hf i r hr) j d hd)
end Go.Proofs.YtlbcipohiepjmaaDoor
