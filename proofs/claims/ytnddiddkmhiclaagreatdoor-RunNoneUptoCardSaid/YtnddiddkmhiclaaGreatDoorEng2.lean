import Derived.Test.YtnddiddkmhiclaaGreatDoorEngM
import Derived.Orders
set_option maxHeartbeats 1000000
set_option linter.unusedVariables false
namespace Go.Proofs.YtnddiddkmhiclaaGreatDoor
section
open Go.RowKit
def U4(sz:Nat)(f:Operand->AV):Nat->List (Nat×Operand)->Option (List (List D))
 |_,[]=>some []
 |k,(i,x)::r=>match (f x).cells with
  |some cs=>match ZQ cs,U4 sz f (k+1) r with
   |some g,some rows=>if i=k/\g.length=sz then some (g::rows)else none
   |_,_=>none
  |none=>none
def Zd(P:Program)(t:TypeId):Option (Nat×Nat):=
 match P.info? t with
 |some i=>match i.zero with
  |some z=>if z.cells.size=i.size/\0<i.size then some (i.size,i.bytes)else none
  |none=>none
 |none=>none
def Vj(P:Program)(m:Me)(f:Operand->AV)(g:Option Nat)(C:Op):Option (AV×Eff×Prop):=
 match C with
 | .alloc t=>match g,Uz P t with
  |some d,some z=>if Nat.ble 500 d then none else if AV.Uv (Z5 [d]) z then none else some (.ptr d 0,⟨[d],[(d,some (.blk t z))]⟩,True)
  |_,_=>none
 | .box t x=>match g,(f x).cells with
  |some d,some cs=>if Nat.ble 500 d then none else if AV.Uv (Z5 [d]) cs then none else some (.ptr d 0,⟨[d],[(d,some (.blk t cs))]⟩,True)
  |_,_=>none
 | .buildSlice t len j=>match g,H7 P t with
  |some d,some (e,_)=>match Zd P e with
   |some (sz,_)=>match U4 sz f 0 j.toList with
    |some rows=>if Nat.ble 500 d then none else if rows.length=len/\len * sz<=16777216 then some (.arr d 0 len,⟨[d],[(d,some (.arr e sz rows))]⟩,True)else none
    |none=>none
   |none=>none
  |_,_=>none
 | .makeSlice t l c=>match g,H7 P t,f l,f c with
  |some d,some (e,_),.d (.int n),.d (.int T)=>match Zd P e,Uz P e with
   |some (sz,i),some z=>match ZQ z with
    |some U=>if Nat.ble 500 d then none else some (.arr d 0 n.toNat,⟨[d],[(d,some (.arr e sz (List.replicate n.toNat U)))]⟩,0<=n/\T=n/\n * i<=140737488355328/\n<=9223372036854775807)
    |none=>none
   |_,_=>none
  |_,_,_,_=>none
 | .store t p x=>match Vw P t,(f x).cells with
  |some (_,n),some cs=>if cs.length=n then (match V9 m (f p) cs with
   |some (o,x')=>some (.any,⟨[],[(o,some x')]⟩,True)
   |none=>none)else none
  |_,_=>none
 | .call c=>match c.callee,c.args.toList,c.argTypes.toList with
  | .builtin .append,[a,b],[t,I]=>match g,H7 P t with
   |some d,some (e,_)=>match Zd P e with
    |some (sz,i)=>match D6 m sz (f b)with
     |some (rows2,p)=>match f a with
      | .arr o 0 n=>match m o with
       |some (.arr e' J rows)=>if t=I/\e'=e/\J=sz/\Nat.ble 1000 o=false then
         some (.arr o 0 (rows.length+rows2.length),⟨[o],[(o,some (.arr e sz (rows++rows2)))]⟩,p/\n=rows.length/\rows.length+rows2.length<=maxLen/\(rows.length+rows2.length) * i<=140737488355328)else none
       |_=>none
      | .lit (.slice none 0 0)=>if t=I/\Nat.ble 500 d=false then
        some (.arr d 0 rows2.length,⟨[d],[(d,some (.arr e sz rows2))]⟩,p/\rows2.length<=maxLen/\rows2.length * i<=140737488355328)else none
      | .fl rows=>if t=I/\Nat.ble 500 d=false then
        some (.arr d 0 (rows.length+rows2.length),⟨[d],[(d,some (.arr e sz (rows++rows2)))]⟩,p/\(∀(k:Nat) (r:List D),rows[k]? =some r->r.length=sz)/\0<rows2.length/\rows.length+rows2.length<=maxLen/\(rows.length+rows2.length) * i<=140737488355328)else none
      |_=>none
     |none=>none
    |none=>none
   |_,_=>none
  |_,_,_=>match Y4 P m f (.call c)with
   |some (v,p)=>some (v,⟨[],[]⟩,p)
   |none=>none
 |C=>match Y4 P m f C with
  |some (v,p)=>some (v,⟨[],[]⟩,p)
  |none=>none
section
variable {P:Program} {C:Cx} {w:World} {ok:Nat->Prop} {g:Gh} {m:Me}
theorem WV{a b:Nat}(h:Nat.ble a b=false):b<a:=by
 rcases Nat.lt_or_ge b a with f|f
 ·exact f
 ·rw[Nat.ble_eq_true_of_le f]at h;cases h
theorem Ej{d:Nat}(h:Nat.ble 500 d=false):kept d=false:=by
 have:=WV h;unfold kept;rcases hk:Nat.ble 1000 d
 ·rfl
 ·have:=Nat.le_of_ble_eq_true hk;omega
theorem WM(m:Me):J7 m (Kz []) (Z5 []) (Q4 [])=m:=by
 funext i;have:(Q9.kill (Z5 ([]:List Nat)))=id:=funext λx=>Q9.QS (λ_=>rfl) x
 simp[J7,Kz,this]
theorem Wo{t:TypeId}{sz b:Nat}(h:Zd P t=some (sz,b)):∃i z,P.info? t=some i/\i.zero=some z/\z.cells.size=i.size/\0<i.size/\i.size=sz/\i.bytes=b:=by
 unfold Zd at h;split at h
 ·rename_i i g;split at h
  ·rename_i z j;split at h
   ·rename_i f;simp at h;exact⟨i,z,g,j,f.1,f.2,h.1,h.2⟩
   ·cases h
  ·cases h
 ·cases h
theorem Dl{f:Operand->AV}{T:Operand->Value}(hf:∀x,VR w ok g m (f x) (T x)){sz:Nat}:∀(l:List (Nat×Operand)) (k:Nat) (rows:List (List D)) (t:Array Value),U4 sz f k l=some rows->(k+l.length) * sz<=t.size->
  ∃vs:Array Value,Instr.fill (λi=>some (i * sz,sz)) t (l.map λx=>(x.1,T x.2))=some vs/\vs.size=t.size/\rows.length=l.length/\(∀(i:Nat) (r:List D),rows[i]? =some r->r.length=sz)/\(∀i,i<k * sz->vs[i]? =t[i]?)/\
   ∀(i j:Nat) (r:List D) (d:D) (v:Value),rows[i]? =some r->r[j]? =some d->vs[(k+i) * sz+j]? =some v->Xk w ok d v
 |[],k,rows,t,h,hs=>by
  simp[U4]at h;subst h;exact⟨t,rfl,rfl,rfl,by simp,λ_ _=>rfl,by simp⟩
 |(i,x)::l,k,rows,t,h,hs=>by
  unfold U4 at h;split at h
  ·rename_i cs a2;split at h
   ·rename_i ds C a3 I;split at h
    ·rename_i a4;obtain⟨rfl,a5⟩:=a4;simp at h;subst h;have hv:=(hf x).cells a2;obtain⟨k1,k2⟩:=VL a3;have a6:=hv.1;simp at a6;simp only[List.length_cons]at hs;have a7:(i+1+l.length) * sz<=t.size:=by rw[show i+1+l.length=i+(l.length+1)from by omega];exact hs
     have a8:i * sz+sz<=t.size:=by
      have:(i+1) * sz<=(i+(l.length+1)) * sz:=Nat.mul_le_mul_right _ (by omega);rw[Nat.add_mul]at this;omega
     let J:=(T x).cells.zipIdx.foldl (λcs (y:Value×Nat)=>cs.setIfInBounds (i * sz+y.2) y.1) t
     have P:J.toList=setAt t.toList (i * sz) (T x).cells.toList:=foldl_set (i * sz) (T x).cells t;have U:J.size=t.size:=by
      have:=congrArg List.length P;rw[Ck]at this;simpa using this
     obtain⟨vs,h1,h2,h3,h4,h5,h6⟩:=Dl hf l (i+1) C J I (by rw[U];exact a7);refine⟨vs,?_,by rw[h2,U],by simpa using h3,λa r hr=>?_,λa ha=>?_,λa j r d v hr hd o=>?_⟩
     ·simp only[List.map_cons,Instr.fill];rw[if_neg (by simp;omega)];exact h1
     ·rcases a with _|a
      ·simp at hr;subst hr;exact a5
      ·exact h4 a r (by simpa using hr)
     ·have:i * sz<=(i+1) * sz:=Nat.mul_le_mul_right _ (by omega);rw[h5 a (by omega),<-Array.getElem?_toList,P,Zh _ _ _ (by simp;omega),List.getElem?_append,List.getElem?_append];simp only[List.length_append,List.length_take,Array.length_toList];rw[Nat.min_eq_left (by omega),if_pos (by omega),if_pos (by omega),List.getElem?_take,if_pos (by omega)];simp
     ·rcases a with _|a
      ·simp at hr;subst hr;have hj:j<sz:=by have:=(List.getElem?_eq_some_iff.1 hd).1;omega
       rw[Nat.add_zero]at o;have e1:(i+1) * sz=i * sz+sz:=by rw[Nat.add_mul];omega
       rw[h5 _ (by omega),<-Array.getElem?_toList,P,Zh _ _ _ (by simp;omega),List.getElem?_append,List.getElem?_append]at o;simp only[List.length_append,List.length_take,Array.length_toList]at o;rw[Nat.min_eq_left (by omega),if_pos (by omega),if_neg (by omega)]at o;rw[show i * sz+j-i * sz=j from by omega]at o;have a1:cs[j]? =some (cs[j]'(by omega)):=List.getElem?_eq_getElem _;exact VM (k2 j _ d a1 hd) (hv.2.1 j _ v a1 o)
      ·exact h6 a j r d v (by simpa using hr) hd (by rw[show i+1+a=i+(a+1)from by omega];exact o)
    ·cases h
   ·cases h
  ·cases h
theorem Qh8{s:AS}{a:Act}{o:Oper}(h:St C s a w){c:AV}{e:Eff}{p:Prop}(f:Vj P (Q4 s.mem) (V5 s.fr) o.dst o.op=some (c,e,p))(hp:p)(hd:∀d,o.dst=some d->d<s.n):
  ∃v w',((execOp a.eval o).run P w= .ok (.value v) w'\/((execOp a.eval o).run P w= .ok .skip w'/\v=undef))/\St C (s.after o.dst c e) (a.put o.dst v) w':=by
 obtain⟨ok,g,hM,hs,a4,hf⟩:=h;have U:∀x,VR w ok g (Q4 s.mem) (V5 s.fr x) (a.eval x):=WT hf;have pure:∀{op:Op},o.op=op->(match Y4 P (Q4 s.mem) (V5 s.fr) op with|some (v,p)=>some (v,(⟨[],[]⟩:Eff),p)|none=>none)=some (c,e,p)->
   ∃v w',((execOp a.eval o).run P w= .ok (.value v) w'\/((execOp a.eval o).run P w= .ok .skip w'/\v=undef))/\St C (s.after o.dst c e) (a.put o.dst v) w':=λ{op} ho h=>by
  split at h
  ·rename_i v p' d3;simp only[Option.some.injEq,Prod.mk.injEq]at h;obtain⟨rfl,rfl,rfl⟩:=h;rw[<-ho]at d3;obtain⟨v,hv,hr⟩:=Ic hM U d3 hp;refine⟨v,w,.inl hv,St.after (ok:=ok) (g:=g) (ok':=ok) (g':=g) hs a4 hf o.dst hd _ v ⟨[],[]⟩ ?_ (λ_=>?_)⟩
   ·rw[WM];exact⟨hM,λc v _ h=>h⟩
   ·rw[WM];exact hr
  ·cases h
 obtain⟨f5,op,ty,pos,after,guard⟩:=o;dsimp only at f hd pure⊢;unfold Vj at f;split at f
 ·rename_i t;split at f
  ·rename_i d z hz;split at f
   ·cases f
   ·rename_i a1;split at f
    ·cases f
    ·rename_i b2;simp only[Option.some.injEq,Prod.mk.injEq]at f;obtain⟨rfl,rfl,rfl⟩:=f;obtain⟨zv,b8,b0⟩:=Wm hz w;have a2:Nat.ble 500 d=false:=by rw[<-Bool.not_eq_true];exact a1
     obtain⟨g',k1,_,k2⟩:=MS.new hM d (Ej a2) t zv.cells (.blk t z) 0 ⟨rfl,b0 w ok g _,by simpa using b2⟩;refine⟨.pointer (some ⟨w.heap.size,0,none⟩),_,.inl ?_,St.after hs a4 hf (some d) hd _ _ ⟨[d],[(d,some (.blk t z))]⟩ k2 (λ_=>.ptr _ _ _ rfl λx hx=>⟨_,k1,rfl⟩)⟩;simp only[execOp,Instr.alloc,Sem.run_bind,b8,Result.andThen_ok,newVar,newRow,run_newObj,Sem.run_pure];rfl
  ·cases f
 ·rename_i t x;split at f
  ·rename_i d cs c6;split at f
   ·cases f
   ·rename_i a1;split at f
    ·cases f
    ·rename_i b2;simp only[Option.some.injEq,Prod.mk.injEq]at f;obtain⟨rfl,rfl,rfl⟩:=f;have a2:Nat.ble 500 d=false:=by rw[<-Bool.not_eq_true];exact a1
     obtain⟨g',k1,_,k2⟩:=MS.new hM d (Ej a2) t (a.eval x).cells (.blk t cs) 0 ⟨rfl,(U x).cells c6,by simpa using b2⟩;refine⟨.pointer (some ⟨w.heap.size,0,none⟩),_,.inl ?_,St.after hs a4 hf (some d) hd _ _ ⟨[d],[(d,some (.blk t cs))]⟩ k2 (λ_=>.ptr _ _ _ rfl λx hx=>⟨_,k1,rfl⟩)⟩;simp only[execOp,Instr.box,Sem.run_bind,Result.andThen_ok,newVar,newRow,run_newObj,Sem.run_pure];rfl
  ·cases f
 ·rename_i t len a7;split at f
  ·rename_i d e' d4 a8;split at f
   ·rename_i sz bb a6;split at f
    ·rename_i rows a5;split at f
     ·cases f
     ·rename_i a1;split at f
      ·rename_i d5;simp only[Option.some.injEq,Prod.mk.injEq]at f;obtain⟨rfl,rfl,rfl⟩:=f;have a2:Nat.ble 500 d=false:=by rw[<-Bool.not_eq_true];exact a1
       obtain⟨hu,i0,d6,_⟩:=Ze a8;obtain⟨i,z,hi,hz,a9,I,rfl,rfl⟩:=Wo a6;obtain⟨f7,f8⟩:=d5;have f9:rows.length=a7.size:=by
        have:∀(l:List (Nat×Operand)) (k:Nat) (rows:List (List D)),U4 i.size (V5 s.fr) k l=some rows->rows.length=l.length:=λl=>by
         induction l with
         |nil=>intro k rows h;simp[U4]at h;subst h;rfl
         |cons q l ih=>
          intro k rows h;obtain⟨q1,q2⟩:=q;unfold U4 at h;split at h
          ·split at h
           ·rename_i ds g0 i3 a5;split at h
            ·simp at h;subst h;simp[ih _ _ a5]
            ·cases h
           ·cases h
          ·cases h
        simpa using this _ _ _ a5
       obtain⟨vs,f1,f2,f3,f4,_,f6⟩:=Dl U a7.toList 0 rows ((Array.range (len * i.size)).map ((if len * i.size=0 then #[]else z.cells)[· % (if len * i.size=0 then #[]else z.cells).size]!)) a5 (by simp;rw[<-f9,f7];exact Nat.le_refl _);have c7:vs.size=len * i.size:=by rw[f2];simp
       obtain⟨g',k1,k3,k2⟩:=MS.new hM d (Ej a2) e' vs (.arr e' i.size rows) len ⟨rfl,I,f4,by omega,by
        have:len<=16777216:=Nat.le_trans (Nat.le_mul_of_pos_right _ I) f8;rw[Ve];omega,c7,λa b r c v hr hc hv=>f6 a b r c v hr hc (by simpa using hv)⟩
       refine⟨.slice (some ⟨w.heap.size,0,none⟩) len len,_,.inl ?_,St.after hs a4 hf (some d) hd _ _ ⟨[d],[(d,some (.arr e' i.size rows))]⟩ k2 (λ_=>.arr _ _ _ _ rfl λe2 d7 rows2 hx=>?_)⟩
       ·have b9:Instr.fill (λk=>some (k * i.size,i.size)) ((Array.range (len * i.size)).map ((if len * i.size=0 then #[]else z.cells)[· % (if len * i.size=0 then #[]else z.cells).size]!)) (a7.map λ(i,x)=>(i,a.eval x)).toList=some vs:=by
         rw[<-f1];congr 1;simp
        have a3:(sizeOf e').run P w= .ok i.size w:=by simp[sizeOf,typeInfo,hi]
        have b0:(zeroValue e').run P w= .ok z w:=by simp[zeroValue,typeInfo,hi,hz]
        simp only[execOp,Instr.buildSlice,Sem.run_bind,run_underlying hu,Result.andThen_ok,a3];rw[if_neg (by omega)];by_cases c1:len * i.size=0
        ·rw[if_pos c1]at b9⊢;simp only[Sem.run_bind,Sem.run_pure,Result.andThen_ok,b9,newRow,run_newObj];rfl
        ·rw[if_neg c1]at b9⊢;simp only[Sem.run_bind,Sem.run_pure,Result.andThen_ok,b0,b9,newRow,run_newObj];rfl
       ·simp only[J7,Zx,beq_self_eq_true,if_true,Q4]at hx;cases hx;refine⟨by omega,.inr (.inl ⟨_,k1,?_⟩)⟩;rw[k3];simp
      ·cases f
    ·cases f
   ·cases f
  ·cases f
 ·rename_i t l c0;split at f
  ·rename_i d e' d4 n J a8 hl hc;split at f
   ·rename_i sz bb z a6 hz;split at f
    ·rename_i zd g4;split at f
     ·cases f
     ·rename_i a1;simp only[Option.some.injEq,Prod.mk.injEq]at f;obtain⟨rfl,rfl,rfl⟩:=f;have a2:Nat.ble 500 d=false:=by rw[<-Bool.not_eq_true];exact a1
      obtain⟨i4,rfl,g5,g6⟩:=hp;obtain⟨hu,i0,d6,_⟩:=Ze a8;obtain⟨i,d8,hi,c1,a9,I,rfl,rfl⟩:=Wo a6;obtain⟨zv,b8,b0⟩:=Wm hz w;have c8:zv=d8:=by
       have:(zeroValue e').run P w= .ok d8 w:=by simp[zeroValue,typeInfo,hi,c1]
       rw[b8]at this;exact(Result.ok.inj this).1
      subst c8;obtain⟨k1,k2⟩:=VL g4;have b2:=(b0 w ok g (Q4 s.mem)).1;simp at b2
      let zs:=(if J.toNat * i.size=0 then #[]else zv.cells)
      let vs:=(Array.range (J.toNat * i.size)).map (zs[· % zs.size]!)
      have c7:vs.size=J.toNat * i.size:=by simp[vs]
      have c9:∀(a b:Nat) (r:List D) (c:D) (v:Value),(List.replicate J.toNat zd)[a]? =some r->r[b]? =some c->vs[a * i.size+b]? =some v->Xk w ok c v:=λa b r c v hr d9 hv=>by
       have ha:a<J.toNat:=by have:=(List.getElem?_eq_some_iff.1 hr).1;simpa using this
       have g7:r=zd:=by rw[List.getElem?_replicate,if_pos ha]at hr;exact(Option.some.inj hr).symm
       subst g7;have hb:b<i.size:=by have:=(List.getElem?_eq_some_iff.1 d9).1;omega
       have d0:¬J.toNat * i.size=0:=by
        have:=Nat.mul_pos (show 0<J.toNat by omega) I;omega
       have e0:zs=zv.cells:=by simp[zs,d0]
       have g8:a * i.size+b<J.toNat * i.size:=by
        have:(a+1) * i.size<=J.toNat * i.size:=Nat.mul_le_mul_right _ ha;rw[Nat.add_mul]at this;omega
       have e1:(a * i.size+b) % zv.cells.size=b:=by rw[a9];exact(DI hb).2
       have e2:vs[a * i.size+b]? =some (zv.cells[b]'(by omega)):=by
        simp only[vs,e0,Array.getElem?_map];rw[Array.getElem?_eq_getElem (by simpa using g8)];simp[e1,show b<zv.cells.size by omega]
       rw[e2]at hv;obtain rfl:=Option.some.inj hv;have e3:z[b]? =some (z[b]'(by omega)):=List.getElem?_eq_getElem _;exact VM (k2 b _ c e3 d9) ((b0 w ok g (Q4 s.mem)).2.1 b _ _ e3 (by simp[show b<zv.cells.size by omega]))
      have e4:J.toNat<=maxLen:=by rw[Ve];omega
      obtain⟨g',q1,q3,q2⟩:=MS.new hM d (Ej a2) e' vs (.arr e' i.size (List.replicate J.toNat zd)) J.toNat ⟨rfl,I,λa r hr=>by
       have ha:a<J.toNat:=by have:=(List.getElem?_eq_some_iff.1 hr).1;simpa using this
       rw[List.getElem?_replicate,if_pos ha]at hr;obtain rfl:=Option.some.inj hr;omega,by simp,e4,c7,c9⟩
      have e5:=U l;rw[hl]at e5;have e6:=U c0;rw[hc]at e6;refine⟨.slice (some ⟨w.heap.size,0,none⟩) J.toNat J.toNat,_,.inl ?_,St.after hs a4 hf (some d) hd _ _ ⟨[d],[(d,some (.arr e' i.size (List.replicate J.toNat zd)))]⟩ q2 (λ_=>.arr _ _ _ _ rfl λe2 d7 rows2 hx=>?_)⟩
      ·have hw:=Za (n:=J) ⟨by omega,g6⟩;have i5:(i.bytes:Int) * J<=140737488355328:=by rw[Int.mul_comm];exact g5
       have a3:(sizeOf e').run P w= .ok i.size w:=by simp[sizeOf,typeInfo,hi]
       have e7:(typeInfo e').run P w= .ok i w:=by simp[typeInfo,hi]
       simp only[execOp,Instr.makeSlice,e5.Zj.X5.1,e6.Zj.X5.1,Sem.run_bind,run_underlying hu,Result.andThen_ok,asInt,asIntOf,Sem.run_pure,e7,hw];have c2:(decide (J<0)||decide ((i.bytes:Int) * J > 2 ^ 48))=false:=by
        simp only[Bool.or_eq_false_iff,decide_eq_false_iff_not];exact⟨by omega,by omega⟩
       have d1:((decide (J<0)||decide ((i.bytes:Int) * J > 2 ^ 48))||decide (J<0)||decide (J > J))=false:=by
        rw[c2];simp;omega
       rw[if_neg (by simpa using d1)];by_cases c3:J.toNat * i.size=0
       ·simp only[Sem.run_bind,run_askRoom,Result.andThen_ok,a3,Sem.run_pure,if_pos c3,newRow,run_newObj];simp only[vs,zs,if_pos c3];rfl
       ·simp only[Sem.run_bind,run_askRoom,Result.andThen_ok,a3,Sem.run_pure,if_neg c3,b8,newRow,run_newObj];simp only[vs,zs,if_neg c3];rfl
      ·simp only[J7,Zx,beq_self_eq_true,if_true,Q4]at hx;cases hx;refine⟨by simp,.inr (.inl ⟨_,q1,?_⟩)⟩;rw[q3];simp
    ·cases f
   ·cases f
  ·cases f
 ·rename_i t pp x;split at f
  ·rename_i b n cs a8 c6;split at f
   ·rename_i i6;split at f
    ·rename_i o x' g9;simp only[Option.some.injEq,Prod.mk.injEq]at f;obtain⟨rfl,rfl,rfl⟩:=f;have hv:=(U x).cells c6;obtain⟨b,i7,w',h6,h7,k⟩:=MS.wr (P:=P) hM g9 (U pp) hv;refine⟨undef,w',.inr ⟨?_,rfl⟩,St.after hs a4 hf f5 hd .any undef ⟨[],[(o,some x')]⟩ k (λ_=>.any _)⟩;have hl:=hv.1;simp at hl;have a3:=(YN a8 w).2;have d0:¬(a.eval x).cells.size≠n:=by omega
     simp only[execOp,Instr.storeAt,h6,Instr.sureAddr,Sem.run_bind,Sem.run_pure,Result.andThen_ok,storeVar,a3,if_neg d0,h7]
    ·cases f
   ·cases f
  ·cases f
 ·rename_i cc;split at f
  ·rename_i sa sb t t' c4 b3 c5;obtain⟨callee,args,argTypes⟩:=cc;dsimp only at c4 b3 c5;subst c4;have ha:args= #[sa,sb]:=by rw[<-Array.toArray_toList (xs:=args),b3]
   have a8:argTypes= #[t,t']:=by rw[<-Array.toArray_toList (xs:=argTypes),c5]
   subst ha a8;split at f
   ·rename_i d e' d4 e8;obtain⟨hu,i0,d6,_⟩:=Ze e8;split at f
    ·rename_i sz bb a6;obtain⟨i,z,hi,hz,a9,I,rfl,rfl⟩:=Wo a6;split at f
     ·rename_i rows2 p' b4;have hx:=U sa;split at f
      ·rename_i o n ex;rw[ex]at hx;split at f
       ·rename_i e2 d7 rows hm;split at f
        ·rename_i hc;obtain⟨rfl,rfl,rfl,h8⟩:=hc;simp only[Option.some.injEq,Prod.mk.injEq]at f;obtain⟨rfl,rfl,rfl⟩:=f;obtain⟨b5,d2,b6,b7⟩:=hp;subst d2;obtain⟨q1,A,b1,news,q2,q3,q4,q5,q6⟩:=KO hM b4 b5 (U sb);obtain⟨h0,h1,h2⟩:=hM.obj o _ hm;obtain⟨h3,h4⟩:=hx.UR hm;have h9:∃xs,w.ownsRow 0 e2 i.size (a.eval sa) rows.length xs/\(∀b,(a.eval sa).ownBlock=some b->g.bl o=some b/\∃x,Q4 s.mem o=some x)/\
           ∀(k j:Nat) (r:List D) (d:D) (u:Value),rows[k]? =some r->r[j]? =some d->xs[k * i.size+j]? =some u->Xk w ok d u:=by
          rcases h2 with⟨hb,rfl⟩|⟨b,e9,hb,hw,c2,d1,i1,i2⟩
          ·rcases h4 with⟨_,hv,_⟩|⟨b,T,_⟩|⟨h5,_⟩
           ·exact⟨[],by rw[hv];exact World.ownsRow_nil w 0 e2 i.size,(λb hb=>by rw[hv]at hb;cases hb),by simp⟩
           ·rw[hb]at T;cases T
           ·omega
          ·rcases h4 with⟨T,_⟩|⟨b',T,hv⟩|⟨h5,_⟩
           ·rw[hb]at T;cases T
           ·rw[hb]at T;obtain rfl:=Option.some.inj T;simp only[Nat.zero_mul,Nat.sub_zero]at hv;refine⟨e9.toList.take (rows.length * i.size),⟨?_,.inr ⟨b,g.cp o,e9,hv,Nat.zero_le _,hw,c2,d1,i1,rfl⟩⟩,(λb' T=>?_),(λk j r d u hr hd hu=>?_)⟩
            ·have:rows.length * i.size<=g.cp o * i.size:=Nat.mul_le_mul_right _ c2;simp;omega
            ·rw[hv]at T;simp[Value.ownBlock]at T;subst T;exact⟨hb,_,hm⟩
            ·rw[List.getElem?_take]at hu;split at hu
             ·exact i2 k j r d u hr hd (by simpa using hu)
             ·cases hu
           ·omega
         obtain⟨xs,g1,g2,g3⟩:=h9;have hk:kept o=false:=h8;obtain⟨v',w',g',r1,r2,r3,r4⟩:=MS.app (P:=P) (tr:=ty) (cc:=b1) hM o hk hu hi hz a9 I g1 g2 rfl h1 g3 q1 q3 q4 q5 q6 b6 b7;refine⟨v',w',.inl ?_,St.after hs a4 hf (some d) hd _ _ ⟨[o],[(o,some (.arr e2 i.size (rows++rows2)))]⟩ ⟨r2,r3⟩ (λ_=>r4)⟩;simp only[execOp,resolve,invoke,builtin,Sem.run_bind,Sem.run_pure,Result.andThen_ok,List.map_toArray,List.map_cons,List.map_nil,q2,r1]
        ·cases f
       ·cases f
      ·rename_i ex;rw[ex]at hx;split at f
       ·rename_i hc;obtain⟨rfl,a1⟩:=hc;simp only[Option.some.injEq,Prod.mk.injEq]at f;obtain⟨rfl,rfl,rfl⟩:=f;obtain⟨b5,b6,b7⟩:=hp;obtain⟨q1,A,b1,news,q2,q3,q4,q5,q6⟩:=KO hM b4 b5 (U sb);have hv:=hx.Fw.1;obtain⟨v',w',g',r1,r2,r3,r4⟩:=MS.app (P:=P) (tr:=ty) (cc:=b1) (rows:=[]) (v:=a.eval sa) (n:=0) (xs:=[]) hM d (Ej a1) hu hi hz a9 I (by rw[hv];exact World.ownsRow_nil w 0 e' i.size) (λb hb=>by rw[hv]at hb;cases hb) rfl (by simp) (by simp) q1 q3 q4 q5 q6 (by simpa using b6) (by simpa using b7);simp only[List.nil_append,List.length_nil,Nat.zero_add]at r2 r3 r4;refine⟨v',w',.inl ?_,St.after hs a4 hf (some d) hd _ _ ⟨[d],[(d,some (.arr e' i.size rows2))]⟩ ⟨r2,r3⟩ (λ_=>r4)⟩;simp only[execOp,resolve,invoke,builtin,Sem.run_bind,Sem.run_pure,Result.andThen_ok,List.map_toArray,List.map_cons,List.map_nil,q2,r1]
       ·cases f
      ·rename_i rows ex;rw[ex]at hx;split at f
       ·rename_i hc;obtain⟨rfl,a1⟩:=hc;simp only[Option.some.injEq,Prod.mk.injEq]at f;obtain⟨rfl,rfl,rfl⟩:=f;obtain⟨b5,f0,d2,b6,b7⟩:=hp;obtain⟨q1,A,b1,news,q2,q3,q4,q5,q6⟩:=KO hM b4 b5 (U sb);obtain⟨⟨a0,hv⟩,hR⟩:=hx.CG;rw[hv]at hR;obtain⟨xs,n1,n2,n3,n4⟩:=hR.news f0;obtain⟨v',w',g',r1,r2,r3,r4⟩:=MS.app0 (P:=P) (tr:=ty) (cc:=b1) (v:=a.eval sa) (ob:=none) hM d (Ej a1) hu hi hz a9 I n1 (λb hb=>by cases hb) rfl f0 n4 q1 q3 q4 q5 q6
         (by rw[hv];exact RQ w t ty e' i z hu hi hz a9 I a0 rows.length xs n1 n2 A rows2.length b1 news q3 q4 q5 d2 b6 b7)
        refine⟨v',w',.inl ?_,St.after hs a4 hf (some d) hd _ _ ⟨[d],[(d,some (.arr e' i.size (rows++rows2)))]⟩ ⟨r2,r3⟩ (λ_=>r4)⟩;simp only[execOp,resolve,invoke,builtin,Sem.run_bind,Sem.run_pure,Result.andThen_ok,List.map_toArray,List.map_cons,List.map_nil,q2,r1]
       ·cases f
      ·cases f
     ·cases f
    ·cases f
   ·cases f
  ·exact pure rfl f
 ·exact pure rfl f
end
end
section
open Go.RowKit
def FP(d:Nat)(x:Option Q9):Me:=λi=>if d==i then x else none
def FQ:Me:=λ_=>none
def Ug:Gh:=⟨λ_=>none,λ_=>0⟩
structure Qv (P:Program) (k:Nat) (args:List AV) (r:Nat->AV) (x:Option Q9):Prop where
 ent:∃fn,P.funcs[k]? =some fn/\(fn.name== "runtime.NumGoroutine")=false/\fn.body.isNone=false
 rcl:∀d,(r d).has (λi=>!(d==i))=false
 nil:x=none->∀d,(r d).has (λ_=>true)=false
 arr:∀y,x=some y->∃e sz rows,y= .arr e sz rows
 run:∀(d:Nat) (w:World) (ok:Nat->Prop) (vals:Array Value),GI w->(∀b,ok b->b<w.heap.size)->args.length=vals.size->(∀(i:Nat) (c:AV) (v:Value),args[i]? =some c->vals[i]? =some v->VR w ok Ug FQ c v)->
  Calls P k vals w λe w'=>∃v ok' g',e= .returned v/\Below w.heap.size w w'/\(∀b,ok b->ok' b)/\(∀b,ok' b->ok b\/(w.heap.size<=b/\b<w'.heap.size))/\VR w' ok' g' (FP d x) (r d) v/\
   (∀y,x=some y->OR w' ok' g' (FP d x) d y/\∀b,g'.bl d=some b->¬ok' b/\w.heap.size<=b/\b<w'.heap.size)
theorem VR.Jq3{w:World}{ok:Nat->Prop}{g g':Gh}{m:Me}{c:AV}{v:Value}(h:VR w ok g m c v):VR w ok g' FQ c v:=
 h.mono (λ_=>false) (AV.Gq (λ_=>rfl) c) (λ_ _=>rfl) (λ_ h=>h) λo i _ f=>by cases f
def Yv(d:Nat)(x:Option Q9):Eff:=match x with|some y=>⟨[d],[(d,some y)]⟩|none=>⟨[],[]⟩
theorem Qv.step{P:Program}{C:Cx}{k:Nat}{args:List AV}{r:Nat→AV}{x:Option Q9}(hS:Qv P k args r x){s:AS}{a:Act}{w:World}{ok:Nat→Prop}{g:Gh}(hM:MS C w ok g (Q4 s.mem))(hs:a.tmps.size=s.n)(hdf:a.defers=[])
  (hf:∀t,VR w ok g (Q4 s.mem) (X4 s.fr t) (a.tmps.getD t undef)) (dst:Option Nat) (hd:∀d,dst=some d→d<s.n) (d:Nat) (hdd:x≠none→Nat.ble 500 d=false)
  {vals:Array Value} (hl:args.length=vals.size) (hv:∀(i:Nat) (c:AV) (v:Value),args[i]? =some c→vals[i]? =some v→VR w ok g (Q4 s.mem) c v):
  Calls P k vals w fun e w'=>∃v,e= .returned v∧St C (s.after dst (r d) (Yv d x)) (a.put dst v) w':=by
 refine(hS.run d w ok vals hM.giw (fun b hb=>(hM.okb b hb).1) hl (fun i c v hc hvi=>(hv i c v hc hvi).Jq3)).mono ?_;rintro e w' ⟨v,ok',g',rfl,hb,hok,hokn,hr,hx⟩;refine⟨v,rfl,?_⟩;have hokc:∀b,ok b→w'.heap[b]? =w.heap[b]?:=fun b h=>hb.block b (hM.okb b h).1
 let g2:Gh:=⟨fun i=>if (d==i && x.isSome)=true then g'.bl d else g.bl i,fun i=>if (d==i && x.isSome)=true then g'.cp d else g.cp i⟩
 have hUd:∀i,Kz (Yv d x).ws i=(d==i && x.isSome):=fun i=>by
  cases x with
  |none=>simp[Yv,Kz]
  |some y=>simp[Yv,Zx]
 have hqd:∀i,Z5 (Yv d x).q i=(d==i && x.isSome):=fun i=>by
  cases x with
  |none=>simp[Yv,Z5]
  |some y=>simp[Yv,G9]
 have hNd:∀i y,Q4 (Yv d x).ws i=some y→d=i∧x=some y:=fun i y hy=>by
  cases x with
  |none=>cases hy
  |some z=>
   simp only[Yv,Q4]at hy;split at hy
   ·rename_i h;exact⟨by simpa using h,hy⟩
   ·cases hy
 have hdi:∀i,(d==i && x.isSome)=true→d=i∧x≠none:=fun i hi=>by
  simp only[Bool.and_eq_true,beq_iff_eq]at hi;exact⟨hi.1,by rintro rfl;simp at hi⟩
 have hMS:=MS.Zg7 (w':=w') (ok':=ok') (g':=g2) hM (Kz (Yv d x).ws) (Z5 (Yv d x).q) (Q4 (Yv d x).ws)
  (fun i hi=>by rw[hqd]at hi;rw[hUd];exact hi)
  (fun i y hU hN=>by
   obtain⟨rfl,hxy⟩:=hNd i y hN;obtain⟨e,sz,rows,rfl⟩:=hS.arr y hxy;have hss:x.isSome=true:=by rw[hxy];rfl
   refine(hx _ hxy).1.mono (fun _=>true) trivial (fun _ _=>rfl) (by simp[g2,hss]) (by simp[g2,hss]) (fun _ _=>rfl) (fun _ h=>h) (fun i y hi hy=>by cases hi))
  (fun i hq=>by rw[hqd]at hq;simp[g2,hq])
  (fun i y hU hq hN=>by rw[hUd]at hU;rw[hqd]at hq;rw[hU]at hq;cases hq)
  (fun i y b hU hy hbi=>hb.block b (hM.own i y b hy hbi).2.1)
  hokc hok
  (fun b hb'=>by
   rcases hokn b hb' with h|⟨h1,h2⟩
   ·exact .inl h
   ·refine .inr ⟨h2,by have:=hM.size;omega,fun i y _ hy hbi=>?_⟩;have:=(hM.own i y b hy hbi).2.1;omega)
  (fun i y b hU hN hbi=>by
   obtain⟨rfl,hxy⟩:=hNd i y hN;have hss:x.isSome=true:=by rw[hxy];rfl
   have hbd:g'.bl d=some b:=by simpa[g2,hss]using hbi
   obtain⟨k1,k2,k3⟩:=(hx y hxy).2 b hbd;refine⟨k1,k3,.inl (by have:=hM.size;omega),fun j xj hUj hj hbj=>?_,fun j xj hUj _ _=>?_⟩
   ·have:=(hM.own j xj b hj hbj).2.1;omega
   ·rw[hUd]at hUj;exact(hdi j hUj).1)
  (fun i hi=>by
   rw[hqd]at hi;obtain⟨rfl,hne⟩:=hdi i hi;exact Ej (hdd hne))
  hb.size
  (fun b hbs _=>hb.block b (by have:=hM.size;omega))
  hb.os hb.tape hb.output
 refine St.after (ok':=ok') (g':=g2) hs hdf hf dst hd (r d) v (Yv d x) hMS (fun _=>?_);cases hx0:x with
 |none=>
  subst hx0;exact hr.mono (fun _=>true) (hS.nil rfl d) (fun _ _=>rfl) (fun _ h=>h) (fun o x' hq _=>by cases hq)
 |some y=>
  subst hx0;refine hr.mono (fun i=>!(d==i)) (hS.rcl d) (fun _ _=>rfl) (fun _ h=>h) (fun o x' hq hx'=>?_);have e2:d=o:=by simpa using hq
  subst e2;simp only[Yv,J7,Zx,beq_self_eq_true,if_true,Q4]at hx';exact⟨x',by simpa[FP]using hx',Q9.O6 _,by simp[g2],by simp[g2]⟩
def K9:AV->Option (Nat×List AV)
 | .d (.fn k)=>some (k,[])
 | .clo k cap=>some (k,cap)
 |_=>none
abbrev Au:=(Nat->AV)×Option Q9
def Qd0(P:Program)(s:AS)(o:Oper)(g:List Au):Option (AS×Prop×List Au):=
 match Vj P (Q4 s.mem) (V5 s.fr) o.dst o.op with
 |some (c,e,p)=>some (s.after o.dst c e,p,g)
 |none=>match o.op,g with
  | .call cc,(r,x)::g=>match cc.callee with
   | .value f=>match K9 (V5 s.fr f)with
    |some (k,cap)=>
     let d:=o.dst.getD 0
     if x.isSome && Nat.ble 500 d then none else
     some (s.after o.dst (r d) (Yv d x),Qv P k (cc.args.toList.map (V5 s.fr)++cap) r x,g)
    |none=>none
   |_=>none
  |_,_=>none
def Pv(s:AS)(o:Oper):Bool:=match o.dst with|some d=>Nat.ble (d+1) s.n|none=>true
theorem Ag{P:Program}{C:Cx}{s s':AS}{o:Oper}{h h':List Au}{p:Prop}(hd:Pv s o=true)(t:Qd0 P s o h=some (s',p,h'))(hp:p){a:Act}{w:World}(a2:St C s a w){K:Act->World->Prop}{Q:Exit->Act->World->Prop}(hK:∀a w,St C s' a w->K a w):o.wp P a w K Q:=by
 have a3:∀d,o.dst=some d->d<s.n:=λd h=>by
  simp only[Pv,h]at hd;exact Nat.lt_of_succ_le (Nat.le_of_ble_eq_true hd)
 unfold Qd0 at t;split at t
 ·rename_i c e p' a4;simp only[Option.some.injEq,Prod.mk.injEq]at t;obtain⟨rfl,rfl,rfl⟩:=t;obtain⟨v,w',j,I⟩:=Qh8 a2 a4 hp a3;unfold Oper.wp;rcases j with j|⟨j,rfl⟩
  ·rw[j];exact hK _ _ I
  ·rw[j];exact hK _ _ I
 ·split at t
  ·rename_i cc r x b9 a9;split at t
   ·rename_i f T;split at t
    ·rename_i k cap hk;dsimp only at t;split at t
     ·cases t
     ·rename_i hx;simp only[Option.some.injEq,Prod.mk.injEq]at t;obtain⟨rfl,rfl,rfl⟩:=t;obtain⟨ok,g,hM,hs,b0,hf⟩:=a2;have a5:∀x,VR w ok g (Q4 s.mem) (V5 s.fr x) (a.eval x):=WT hf;obtain⟨fn,b1,b2,a6⟩:=hp.ent;have a7:¬fn.name= "runtime.NumGoroutine":=by simpa using b2
      have a8:¬fn.body=none:=λe=>by rw[e]at a6;cases a6
      have J:=a5 f;obtain⟨l,b3,b4,b5⟩:∃l:Array Value,a.eval f= .func (.func k) #[] l/\cap.length=l.size/\∀(i:Nat) (c:AV) (v:Value),cap[i]? =some c->l[i]? =some v->VR w ok g (Q4 s.mem) c v:=by
       unfold K9 at hk;split at hk
       ·rename_i k' ek;rw[ek]at J;simp only[Option.some.injEq,Prod.mk.injEq]at hk;obtain⟨rfl,rfl⟩:=hk;have U:=J.Zj;generalize a.eval f=vv at U⊢;cases U with
        |fn f=>exact⟨#[],rfl,rfl,by simp⟩
       ·rename_i k' b8 ek;rw[ek]at J;simp only[Option.some.injEq,Prod.mk.injEq]at hk;obtain⟨rfl,rfl⟩:=hk;obtain⟨vs,h1,h2,h3⟩:=J.Gr;exact⟨vs,h1,h2,h3⟩
       ·cases hk
      obtain⟨c0,b6⟩:=VR.map a5 cc.args;have a1:=hp.step hM hs b0 hf o.dst a3 (o.dst.getD 0) (λb7=>by
       cases x with
       |none=>exact absurd rfl b7
       |some y=>
        rcases hb:Nat.ble 500 (o.dst.getD 0)
        ·rfl
        ·simp[hb]at hx) (vals:=cc.args.map a.eval++l) (by simp[b4]) (λi c v hc hv=>by
       rw[List.getElem?_append]at hc;rw[Array.getElem?_append]at hv;simp only[List.length_map,Array.length_toList]at hc;simp only[Array.size_map]at hv;split at hc
       ·rw[if_pos (by assumption)]at hv;exact b6 i c v hc hv
       ·rw[if_neg (by assumption)]at hv;exact b5 _ c v hc hv)
      have j:(execOp a.eval o).run P w= .ok (.enter k (cc.args.map a.eval++l)) w:=by
       unfold execOp;rw[a9];obtain⟨callee,args,argTypes⟩:=cc;dsimp only at T;subst T;simp[resolve,Deferred.ofValue,b3,invoke,callFunc,b1,a7,a8]
      unfold Oper.wp;rw[j];refine Calls.mono a1 ?_;rintro e w' ⟨v,rfl,I⟩;exact hK _ _ I
    ·cases t
   ·cases t
  ·cases t
end
section
open Go.RowKit
def zAt:List (Nat×List Nat)->Nat->List Nat
 |[],_=>[]
 |(i,l)::r,k=>if i==k then l else zAt r k
def Hw:List Nat->AS->Option AS
 |[],s=>some s
 |o::r,s=>if Nat.ble 500 o then none else Hw r (s.F7 o)
def Uw(ops:Array Oper)(s:AS)(o:Oper):Option Bool:=
 match o.guard with
 |none=>some true
 |some (j,f)=>match (ops[j]?).bind (·.dst)with
  |some t=>match X4 s.fr t with
   | .d (.bool b)=>some (b==f)
   | .tuple []=>some false
   |_=>none
  |none=>none
def Jz3(P:Program)(ops:Array Oper)(z:List (Nat×List Nat)):List Oper->Nat->List Au->AS->Option (AS×Prop)
 |[],_,_,s=>some (s,True)
 |o::f,k,h,s=>match Hw (zAt z k) s with
  |none=>none
  |some s=>if Pv s o then (match Uw ops s o with
   |some true=>match Qd0 P s o h with
    |some (s',p,h')=>match Jz3 P ops z f (k+1) h' s' with
     |some (g,i)=>some (g,p/\i)
     |none=>none
    |none=>none
   |some false=>Jz3 P ops z f (k+1) h (s.after o.dst .any ⟨[],[]⟩)
   |none=>none)else none
theorem Ac{C:Cx}:∀(l:List Nat) {s s':AS},Hw l s=some s'->∀{a:Act} {w:World},St C s a w->St C s' a w
 |[],s,s',h,a,w,f=>by simp[Hw]at h;subst h;exact f
 |o::r,s,s',h,a,w,f=>by
  unfold Hw at h;split at h
  ·cases h
  ·rename_i g;exact Ac r h (f.F7 o (by rw[<-Bool.not_eq_true];exact g))
theorem Cr{C:Cx}{ops:Array Oper}{s:AS}{o:Oper}{b:Bool}(h:Uw ops s o=some b){a:Act}{w:World}(T:St C s a w):Region.wanted o (yielded ops a.tmps)=b:=by
 unfold Uw at h;unfold Region.wanted;split at h
 ·rename_i r;simp at h;subst h;simp[r]
 ·rename_i j U r;rw[r];split at h
  ·rename_i t ht;split at h
   ·rename_i b' J;simp at h;subst h;obtain⟨ok,g,hM,h1,h2,P⟩:=T;have:=P t;rw[J]at this;have i:=this.Zj.ZL;have r:a.tmps[t]? =some (.bool b'):=by
     rcases Nat.lt_or_ge t a.tmps.size with f|l
     ·rw[Array.getElem?_eq_getElem f];simp[f]at i;rw[i]
     ·simp[l,undef]at i
    simp[yielded,ht,r]
   ·rename_i J;simp at h;subst h;obtain⟨ok,g,hM,h1,h2,P⟩:=T;have i:=P t;rw[J]at i;have I:a.tmps.getD t undef= .tuple #[]:=by
     generalize a.tmps.getD t undef=v at i;cases i with
     |tuple cs vs hl h=>
      have:vs= #[]:=Array.eq_empty_of_size_eq_zero (by simpa using hl.symm);rw[this]
    have hy:yielded ops a.tmps j=none:=by
     unfold yielded;rw[ht];simp only[Option.bind_some];rcases Nat.lt_or_ge t a.tmps.size with f|l
     ·rw[Array.getElem?_eq_getElem f];simp[f]at I;rw[I]
     ·simp[l]
    dsimp only;rw[hy];rfl
   ·cases h
  ·cases h
theorem St.Jq9{C:Cx}{s:AS}{a:Act}{w:World}(h:St C s a w)(f:Option Nat)(l:∀d,f=some d->d<s.n):St C (s.after f (.tuple []) ⟨[],[]⟩) (a.put f undef) w:=by
 obtain⟨ok,g,o,r,j,t⟩:=h;refine St.after (ok:=ok) (g:=g) (ok':=ok) (g':=g) r j t f l (.tuple []) undef ⟨[],[]⟩ ?_ (λ_=>.tuple [] #[] rfl (λi c v I=>by simp at I));rw[WM];exact⟨o,λc v _ h=>h⟩
theorem UE{s:AS}{o:Oper}(f:Pv s o=true):∀d,o.dst=some d->d<s.n:=λd h=>by
 simp only[Pv,h]at f;exact Nat.lt_of_succ_le (Nat.le_of_ble_eq_true f)
def Le(s s':AS):Prop:=∀(C:Cx) (a:Act) (w:World),St C s a w->St C s' a w
theorem Le.refl(s:AS):Le s s:=λ_ _ _ h=>h
theorem Le.trans{a b c:AS}(h:Le a b)(k:Le b c):Le a c:=λC x w f=>k C x w (h C x w f)
theorem Le.Hw{s s':AS}(l:List Nat)(h:Hw l s=some s'):Le s s':=λ_ _ _ f=>Ac l h f
def Qf(f:List (Nat×AV)):List Nat->List (Nat×AV)
 |[]=>[]
 |t::r=>(t,X4 f t)::Qf f r
def QB(f:List (Nat×Option Q9)):List Nat->List (Nat×Option Q9)
 |[]=>[]
 |t::r=>(t,Q4 f t)::QB f r
theorem IE(f:List (Nat×AV))(l:List Nat)(t:Nat):X4 (Qf f l) t= .any\/X4 (Qf f l) t=X4 f t:=by
 induction l with
 |nil=>exact .inl rfl
 |cons u r g=>
  simp only[Qf,X4];by_cases h:(u==t)=true
  ·rw[if_pos h];have:u=t:=by simpa using h
   rw[this];exact .inr rfl
  ·rw[if_neg h];exact g
theorem IC(f:List (Nat×Option Q9))(l:List Nat)(o:Nat)(x:Q9)(h:Q4 (QB f l) o=some x):Q4 f o=some x:=by
 induction l with
 |nil=>cases h
 |cons u r g=>
  simp only[QB,Q4]at h;split at h
  ·rename_i i;have:u=o:=by simpa using i
   rw[<-this];exact h
  ·exact g h
theorem Le.keep(s:AS)(f g:List Nat):Le s ⟨s.n,Qf s.fr f,QB s.mem g⟩:=λ_ _ _ h=>
 h.weak rfl (λt=>IE s.fr f t) (λo x=>IC s.mem g o x)
def X8(P:Program)(c:Code)(Q:Exit->AS->Prop)(s:AS):Prop:=
 ∀(C:Cx) (a:Act) (w:World),St C s a w->c.wp P (λe f w'=>∃s',Q e s'/\St C s' f w') a w
def Q8(K:AS->Prop)(Q:Exit->AS->Prop):Exit->AS->Prop
 | .normal,s=>K s
 |e,s=>Q e s
def Q5(id:Nat)(Q:Exit->AS->Prop):Exit->AS->Prop
 | .exit f,s=>if f=id then Q .normal s else Q (.exit f) s
 |e,s=>Q e s
section
variable {P:Program} {Q:Exit->AS->Prop} {s:AS}
theorem X8.mono{c:Code}{f:Exit->AS->Prop}(h:X8 P c Q s)(g:∀e s,Q e s->f e s):X8 P c f s:=λC a w i=>wp_mono (h C a w i) λe a w ⟨s',j,l⟩=>⟨s',g e s' j,l⟩
theorem X8.le{c:Code}{s':AS}(f:Le s s')(h:X8 P c Q s'):X8 P c Q s:=λC a w g=>h C a w (f C a w g)
theorem Ws(h:Q .normal s):X8 P .skip Q s:=λC a w f=>wp_skip ⟨s,h,f⟩
theorem We{id:Nat}(h:Q (.exit id) s):X8 P (.exit id) Q s:=λC a w f=>wp_exit ⟨s,h,f⟩
theorem Wt(h:Q .ret s):X8 P .ret Q s:=λC a w f=>wp_ret ⟨s,h,f⟩
theorem Wq{x y:Code}(h:X8 P x (Q8 (X8 P y Q) Q) s):X8 P (.seq x y) Q s:=λC a w i=>
 wp_seq (wp_mono (h C a w i) λe j w' ⟨s',f,g⟩=>by
  cases e with
  |normal=>exact f C j w' g
  |_=>exact⟨s',f,g⟩)
theorem Wk{id:Nat}{c:Code}(h:X8 P c (Q5 id Q) s):X8 P (.block id c) Q s:=λC a w j=>
 wp_block (wp_mono (h C a w j) λe o w' ⟨s',g,i⟩=>by
  cases e with
  |exit l=>
   simp only[Exit.inBlock,Q5]at g⊢;split
   ·rename_i f;rw[if_pos f]at g;exact⟨s',g,i⟩
   ·rename_i f;rw[if_neg f]at g;exact⟨s',g,i⟩
  |_=>exact⟨s',g,i⟩)
theorem Wc{c:Operand}{x y:Code}{t:Bool}(i:V5 s.fr c= .d (.bool t))(j:t=true->X8 P x Q s)(l:t=false->X8 P y Q s):X8 P (.cond c x y) Q s:=λC a w f=>by
 have o:a.eval c= .bool t:=by
  obtain⟨ok,g,I,J,T,r⟩:=f;have:=WT r c;rw[i]at this;exact this.Zj.ZL
 exact wp_cond_split o (λh=>j h C a w f) (λh=>l h C a w f)
theorem Wl{c:Code}{T:Type}(σ:T->AS)(μ:T->Nat)(i0:T)(h0:Le s (σ i0))(round:∀i,X8 P c (Q8 (λs'=>∃j,μ j<μ i/\Le s' (σ j)) Q) (σ i)):X8 P (.loop c) Q s:=λC a w hs=>by
 have key:∀n i a w,μ i=n->St C (σ i) a w->∀(b:Frame) (k:List Item) (cs:List Frame),∃e J w',(∃s',Q e s'/\St C s' J w')/\Arrives P (lone (b.at a (.code c:: .inLoop c::k)) cs w) b k cs e J w':=by
  intro n;induction n using Nat.strongRecOn with
  |_ n ih=>
   intro i a w hn hi b k cs;obtain⟨e,r,t,⟨s',o,g⟩,f⟩:=round i C a w hi b (.inLoop c::k) cs;cases e with
   |normal=>
    obtain⟨j,U,a3⟩:=o;obtain⟨e2,a2,w2,a4,I⟩:=ih (μ j) (hn▸U) j r t rfl (a3 C r t g) b k cs;exact⟨e2,a2,w2,a4,.of_steps (Steps.trans f (.one step_inLoop)) I⟩
   |exit id=>exact⟨_,r,t,⟨s',o,g⟩,.pass (x:=.inLoop c) rfl (λ_ _=>.inl (by simp)) f⟩
   |goto l=>exact⟨_,r,t,⟨s',o,g⟩,.pass (x:=.inLoop c) rfl (λ_ _=>.inl (by simp)) f⟩
   |ret=>exact⟨_,r,t,⟨s',o,g⟩,.pass (x:=.inLoop c) rfl (λ_ _=>.inl (by simp)) f⟩
   |panic ch=>exact⟨_,r,t,⟨s',o,g⟩,.pass (x:=.inLoop c) rfl (λ_ _=>.inl (by simp)) f⟩
   |outgrown=>exact⟨_,r,t,⟨s',o,g⟩,.pass (x:=.inLoop c) rfl (λ_ _=>.inl (by simp)) f⟩
 intro b k cs;obtain⟨e,J,w',o,f⟩:=key _ i0 a w rfl (h0 C a w hs) b k cs;exact⟨e,J,w',o,.of_steps (.one step_loop) f⟩
end
def Yn:Nat->List AV->List (Nat×AV)
 |_,[]=>[]
 |k,c::r=>(k,c)::Yn (k+1) r
theorem EE(l:List AV)(k t:Nat):X4 (Yn k l) t=if k<=t then (l[t-k]?).getD .any else .any:=by
 induction l generalizing k with
 |nil=>simp[Yn,X4]
 |cons c r g=>
  simp only[Yn,X4,g];by_cases h:k=t
  ·subst h;simp
  ·have h':(k==t)=false:=by simpa using h
   rw[h'];simp only[Bool.false_eq_true,if_false];by_cases f:k<=t
   ·have e:t-k=(t-(k+1))+1:=by omega
    rw[if_pos f,if_pos (by omega),e];simp
   ·rw[if_neg f,if_neg (by omega)]
def Q7(P:Program)(s:AS):List ResultVar->Option (List AV)
 |[]=>some []
 | .tmp t::r=>match Q7 P s r with
  |some l=>some (X4 s.fr t::l)
  |none=>none
 | .cell t f::r=>match Vw P f with
  |some (b,n)=>match Kk (Q4 s.mem) (X4 s.fr t) n with
   |some cs=>match Lx b cs,Q7 P s r with
    |some c,some l=>some (c::l)
    |_,_=>none
   |none=>none
  |none=>none
def Zv:List AV->AV
 |[c]=>c
 |l=>.tuple l
def WH(a:Act):ResultVar->Sem Value
 | .tmp t=>pure (a.tmps.getD t undef)
 | .cell t f=>do loadVar f (<-asAddr (a.tmps.getD t undef))
theorem GX{P:Program}{C:Cx}{s:AS}{a:Act}{w:World}{ok:Nat->Prop}{g:Gh}(U:MS C w ok g (Q4 s.mem))(T:∀t,VR w ok g (Q4 s.mem) (X4 s.fr t) (a.tmps.getD t undef)):
  ∀(l:List ResultVar) (cs:List AV),Q7 P s l=some cs->∃vs:List Value,(l.mapM (WH a)).run P w= .ok vs w/\cs.length=vs.length/\∀(i:Nat) (c:AV) (v:Value),cs[i]? =some c->vs[i]? =some v->VR w ok g (Q4 s.mem) c v
 |[],cs,h=>by simp[Q7]at h;subst h;exact⟨[],rfl,rfl,by simp⟩
 | .tmp t::r,cs,h=>by
  unfold Q7 at h;split at h
  ·rename_i l hl;simp at h;subst h;obtain⟨vs,h1,h2,h3⟩:=GX U T r l hl;refine⟨a.tmps.getD t undef::vs,?_,by simpa using h2,λi c v f j=>?_⟩
   ·rw[List.mapM_cons];simp only[WH,Sem.run_bind,Sem.run_pure,Result.andThen_ok,h1]
   ·rcases i with _|i
    ·obtain rfl:X4 s.fr t=c:=Option.some.inj f;obtain rfl:a.tmps.getD t undef=v:=Option.some.inj j;exact T t
    ·exact h3 i c v f j
  ·cases h
 | .cell t ty::r,cs,h=>by
  unfold Q7 at h;split at h
  ·rename_i b n a1;split at h
   ·rename_i a7 a2;split at h
    ·rename_i c l f hl;simp at h;subst h;obtain⟨vs,h1,h2,h3⟩:=GX U T r l hl;obtain⟨bb,a3,us,j,a4,o,a5⟩:=U.rd (T t) a2;obtain⟨k1,k2⟩:=De f a5;obtain⟨l1,l2⟩:=JU (P:=P) a1 a4 o;have J:∃v,(loadVar ty ⟨bb,a3,none⟩).run P w= .ok v w/\VR w ok g (Q4 s.mem) c v:=by
      cases b
      ·obtain⟨v,I,hr⟩:=k2 rfl;exact⟨v,l2 rfl v I,hr⟩
      ·exact⟨_,l1 rfl,k1 rfl⟩
     obtain⟨v,I,a6⟩:=J;refine⟨v::vs,?_,by simpa using h2,λi c v f j=>?_⟩
     ·rw[List.mapM_cons];simp only[WH,Sem.run_bind,j,asAddr,Sem.run_pure,Result.andThen_ok,I,h1]
     ·rcases i with _|i
      ·simp at f j;subst f j;exact a6
      ·exact h3 i c v f j
    ·cases h
   ·cases h
  ·cases h
theorem KU{P:Program}{C:Cx}{s:AS}{a:Act}{w:World}{ok:Nat->Prop}{g:Gh}(o:MS C w ok g (Q4 s.mem))(r:∀t,VR w ok g (Q4 s.mem) (X4 s.fr t) (a.tmps.getD t undef))
  {fn:Func} {cs:List AV} (h:Q7 P s fn.results.toList=some cs):∃v,(results fn a.tmps).run P w= .ok v w/\VR w ok g (Q4 s.mem) (Zv cs) v:=by
 obtain⟨vs,I,j,f⟩:=GX o r _ cs h;refine⟨if h:vs.toArray.size=1 then vs.toArray[0]else .tuple vs.toArray,?_,?_⟩
 ·have e:∀l:Array ResultVar,(do
    let vs<-l.mapM (WH a)
    (Pure.pure (if h:vs.size=1 then vs[0]else .tuple vs):Sem Value)).run P w=((l.toList.mapM (WH a)).run P w).andThen λvs w=>.ok (if h:vs.toArray.size=1 then vs.toArray[0]else .tuple vs.toArray) w:=λl=>by
   rw[<-Array.toArray_toList (xs:=l),List.mapM_toArray];simp only[Sem.run_bind,Sem.run_map,Sem.run_pure];cases(l.toList.mapM (WH a)).run P w<;> rfl
  refine(e fn.results).trans ?_;simp only[I,Result.andThen_ok]
 ·match cs,vs,j,f with
  |[c],[v],_,f=>exact f 0 c v rfl rfl
  |[],[],_,f=>exact .tuple _ _ rfl (by simp)
  |c::U::cs,v::v'::vs,j,f=>
   simp only[Zv,List.size_toArray,List.length_cons];rw[dif_neg (by omega)];exact .tuple _ _ (by simpa using j) (λi c v J T=>f i c v J (by simpa using T))
def Z6(n:Nat)(args:List AV):AS:=⟨n,Yn 0 args,[]⟩
mutual
def AV.Jk:AV->AV
 | .lit (.slice none 0 0)=>.d (.sl [])
 | .agg cs=>.agg (K5 cs)
 | .tuple cs=>.tuple (K5 cs)
 |c=>c
def K5:List AV->List AV
 |[]=>[]
 |c::cs=>AV.Jk c::K5 cs
end
theorem SS(cs:List AV):K5 cs=cs.map AV.Jk:=by
 induction cs with
 |nil=>rfl
 |cons c cs f=>simp only[K5,List.map_cons,f]
theorem VR.Jk{w:World}{ok:Nat->Prop}{g:Gh}{m:Me}{c:AV}{v:Value}(h:VR w ok g m c v):VR w ok g m c.Jk v:=by
 induction h with
 |any v=>exact .any v
 |d d v h=>exact .d d v h
 |lit v h=>
  unfold AV.Jk;split
  ·rename_i e;cases e;exact .d _ _ (.empty none 0 (λ_=>rfl) (Nat.zero_le _))
  ·rename_i e;cases e
  ·rename_i e;cases e
  ·exact .lit v h
 |fl rows v h hr=>exact .fl rows v h hr
 |ptr o P v r h=>exact .ptr o P v r h
 |arr o l n v r h=>exact .arr o l n v r h
 |Rx o i j v r h=>exact .Rx o i j v r h
 |mp o v r h=>exact .mp o v r h
 |agg cs vs C h U J=>
  simp only[AV.Jk,SS];refine .agg _ _ (by simpa using C) (λi c v I r=>?_) U;rw[List.getElem?_map]at I;obtain⟨T,t,rfl⟩:=Option.map_eq_some_iff.1 I;exact J i T v t r
 |tuple cs vs C h J=>
  simp only[AV.Jk,SS];refine .tuple _ _ (by simpa using C) (λi c v I r=>?_);rw[List.getElem?_map]at I;obtain⟨T,t,rfl⟩:=Option.map_eq_some_iff.1 I;exact J i T v t r
 |clo f cs vs C h J=>exact .clo f cs vs C h
def Z7(P:Program)(fn:Func)(r:Nat->AV)(x:Option Q9)(o:Nat):Exit->AS->Prop:=λe s=>
 (e= .ret\/e= .normal)/\∃s',Le s s'/\∃cs,Q7 P s' fn.results.toList=some cs/\(Zv cs).Jk=(r o).Jk/\(r o).Jk=r o/\(∀y,x=some y->Q4 s'.mem o=some y/\Nat.ble 500 o=false)
theorem Qv.of{P:Program}{k:Nat}{fn:Func}{c:Code}(hf:P.funcs[k]? =some fn)(a2:(fn.name== "runtime.NumGoroutine")=false)(f:fn.body=some c){args:List AV}{r:AV}(a3:r.has (λ_=>true)=false)(hn:args.length<=fn.ntmps)
  (h:X8 P c (Z7 P fn (λ_=>r) none 0) (Z6 fn.ntmps args)):Qv P k args (λ_=>r) none:=by
 have C:∀q:Nat->Bool,r.has q=false:=by
  have key:∀c:AV,c.has (λ_=>true)=false->∀q:Nat->Bool,c.has q=false:=λc=>
   AV.rec (motive_1:=λc=>c.has (λ_=>true)=false->∀q:Nat->Bool,c.has q=false) (motive_2:=λl=>AV.Uv (λ_=>true) l=false->∀q:Nat->Bool,AV.Uv q l=false)
    (λ_ _=>rfl) (λ_ _ _=>rfl) (λ_ _ _=>rfl) (λ_ _ _=>rfl) (λo b4 h=>by simp[AV.has]at h) (λo l n h=>by simp[AV.has]at h) (λo i j h=>by simp[AV.has]at h) (λo h=>by simp[AV.has]at h)
    (λcs U h q=>U h q) (λcs U h q=>U h q) (λ_ cs U h q=>U h q) (λ_ _=>rfl) (λx l h1 h2 h q=>by
     simp only[AV.Uv,Bool.or_eq_false_iff]at h⊢;exact⟨h1 h.1 q,h2 h.2 q⟩) c
  exact key r a3
 refine⟨⟨fn,hf,a2,by rw[f];rfl⟩,λd=>C _,λ_ d=>C _,by simp,λd w ok vals a4 a5 hl hv=>?_⟩;refine calls_of_wp hf f ?_;have a6:St ⟨w,ok,λ_=>False,Ug⟩ (Z6 fn.ntmps args) { tmps:=vals++Array.replicate (fn.ntmps-vals.size) undef,defers:=[] } w:=by
  refine⟨ok,Ug,⟨(λo x hx=>by cases hx),(λi j xi xj b hi=>by cases hi),(λi x b hi=>by cases hi),λb f=>⟨a5 b f,.inl f⟩,λb f=>f,Nat.le_refl _,λb _ _=>rfl,λi _=>⟨rfl,rfl⟩,rfl,rfl,rfl,a4,λ_ _ h=>h⟩,by simp[Z6];omega,rfl,λt=>?_⟩;simp only[Z6,EE,Nat.zero_le,if_true,Nat.sub_zero];rcases Nat.lt_or_ge t args.length with a7|a8
  ·have e1:args[t]? =some args[t]:=List.getElem?_eq_getElem a7;have e2:vals[t]? =some (vals[t]'(by omega)):=Array.getElem?_eq_getElem (by omega);rw[e1];have e3:(vals++Array.replicate (fn.ntmps-vals.size) undef).getD t undef=vals[t]'(by omega):=by
    simp[Array.getElem?_append,show t<vals.size by omega]
   rw[e3];exact hv t _ _ e1 e2
  ·rw[List.getElem?_eq_none a8];exact .any _
 refine wp_mono (h _ _ w a6) ?_;rintro e a' w' ⟨s,⟨he,s',a9,cs,a1,hr,b0,_⟩,hs⟩;have b1:=a9 _ _ _ hs;obtain⟨ok',g,J,h1,h2,h3⟩:=b1;obtain⟨v,b2,I⟩:=KU J h3 a1;have T:a'.defers=[]/\∃v,(results fn a'.tmps).run P w'= .ok v w'/\∃v' ok' g',Ending.returned v= .returned v'/\Below w.heap.size w w'/\(∀b,ok b->ok' b)/\(∀b,ok' b->ok b\/(w.heap.size<=b/\b<w'.heap.size))/\VR w' ok' g' (FP d none) r v'/\
   (∀y,(none:Option Q9)=some y->OR w' ok' g' (FP d none) d y/\∀b,g'.bl d=some b->¬ok' b/\w.heap.size<=b/\b<w'.heap.size):=by
  refine⟨h2,v,b2,v,ok',Ug,rfl,⟨J.os,J.tape,J.output,J.size,λb f=>J.heap b f (λh=>h)⟩,J.okk,λb f=>?_,?_,by simp⟩
  ·obtain⟨k1,k2⟩:=J.okb b f;rcases k2 with k2|k2
   ·exact .inl k2
   ·exact .inr ⟨k2,k1⟩
  ·have I:=I.Jk;rw[hr,b0]at I;exact I.mono (λ_=>false) (C _) (λ_ _=>rfl) (λ_ h=>h) λo x' _ b3=>by simp[FP]at b3
 rcases he with rfl|rfl
 ·exact T
 ·exact T
end
section
open Go.RowKit
mutual
def AV.ids:AV->List Nat
 | .ptr o _=>[o]
 | .arr o _ _=>[o]
 | .Rx o _ _=>[o]
 | .mp o=>[o]
 | .agg cs=>ZB cs
 | .tuple cs=>ZB cs
 | .clo _ cs=>ZB cs
 |_=>[]
def ZB:List AV->List Nat
 |[]=>[]
 |c::cs=>AV.ids c++ZB cs
end
def Q9.ids:Q9->List Nat
 | .blk _ cs=>ZB cs
 | .arr _ _ _=>[]
 | .map _ _ _ _=>[]
 | .raw _=>[]
theorem AV.Ak(q:Nat->Bool)(c:AV):c.has q=c.ids.any q:=
 AV.rec (motive_1:=λc=>c.has q=c.ids.any q) (motive_2:=λl=>AV.Uv q l=(ZB l).any q) rfl (λ_=>rfl) (λ_=>rfl) (λ_=>rfl) (λo _=>by simp[AV.has,AV.ids]) (λo _ _=>by simp[AV.has,AV.ids]) (λo _ _=>by simp[AV.has,AV.ids]) (λo=>by simp[AV.has,AV.ids])
  (λcs h=>h) (λcs h=>h) (λ_ cs h=>h) rfl (λx r f g=>by simp only[AV.Uv,ZB,List.any_append,f,g]) c
theorem Dw{l:List Nat}{i:Nat}:Z5 l i=true<->i∈l:=by
 unfold Z5;rw[List.any_eq_true];constructor
 ·rintro⟨j,f,h⟩;have:j=i:=by simpa using h
  rw[<-this];exact f
 ·intro h;exact⟨i,h,by simp⟩
theorem Zu{l:List (Nat×Option Q9)}{i:Nat}:Kz l i=true<->i∈l.map (·.1):=by
 unfold Kz;rw[List.any_eq_true,List.mem_map];constructor
 ·rintro⟨x,f,h⟩;exact⟨x,f,by simpa using h⟩
 ·rintro⟨x,f,h⟩;exact⟨x,f,by simpa using h⟩
def K7(m:Me):List Nat->List Nat
 |[]=>[]
 |i::r=>(match m i with|some x=>x.ids|none=>[])++K7 m r
def Uj(f:Operand->AV):List Operand->List Nat
 |[]=>[]
 |x::r=>(f x).ids++Uj f r
mutual
def AV.ren(g:Nat->Nat):AV->AV
 | .ptr o k=>.ptr (g o) k
 | .arr o l n=>.arr (g o) l n
 | .Rx o i j=>.Rx (g o) i j
 | .mp o=>.mp (g o)
 | .agg cs=>.agg (ZU g cs)
 | .tuple cs=>.tuple (ZU g cs)
 | .clo f cs=>.clo f (ZU g cs)
 | .any=>.any
 | .d d=>.d d
 | .lit v=>.lit v
 | .fl r=>.fl r
def ZU(g:Nat->Nat):List AV->List AV
 |[]=>[]
 |c::cs=>AV.ren g c::ZU g cs
end
theorem Bz(f:Nat->Nat)(cs:List AV):ZU f cs=cs.map (AV.ren f):=by
 induction cs with
 |nil=>rfl
 |cons c cs g=>simp only[ZU,List.map_cons,g]
def Q9.ren(g:Nat->Nat):Q9->Q9
 | .blk t cs=>.blk t (ZU g cs)
 | .arr e sz rows=>.arr e sz rows
 | .map i j n f=>.map i j n f
 | .raw r=>.raw r
theorem VR.OP{w:World}{ok:Nat→Prop}{g g0:Gh}{M m:Me}(ρ:Nat→Nat)(hm:∀o x,m o=some x→M (ρ o)=some (x.ren ρ)∧g0.bl o=g.bl (ρ o)∧g0.cp o=g.cp (ρ o)){c0:AV}{v:Value}(h:VR w ok g M (c0.ren ρ) v):VR w ok g0 m c0 v:=by
 have key:∀c0:AV,∀v,VR w ok g M (c0.ren ρ) v→VR w ok g0 m c0 v:=fun c0=>
  AV.rec (motive_1:=fun c0=>∀v,VR w ok g M (c0.ren ρ) v→VR w ok g0 m c0 v) (motive_2:=fun l=>∀(i:Nat) (c:AV),l[i]? =some c→∀v,VR w ok g M (c.ren ρ) v→VR w ok g0 m c v)
   (fun v _=>.any v) (fun d v h=>.d d v h.Zj) (fun u v h=>by obtain⟨h1,h2⟩:=VR.Fw h;rw[h1];exact .lit u h2)
   (fun rows v h=>by obtain⟨h1,h2⟩:=VR.CG h;exact .fl rows v h1 h2)
   (fun o off v h=>by
    cases h with
    |ptr _ _ _ hv h=>
     refine .ptr o off v hv fun x hx=>?_
     obtain⟨h1,h2,_⟩:=hm o x hx;rw[h2];exact h _ h1)
   (fun o l n v h=>by
    cases h with
    |arr _ _ _ _ hv h=>
     refine .arr o l n v hv fun e sz rows hx=>?_
     obtain⟨h1,h2,h3⟩:=hm o _ hx;rw[h2,h3];exact h _ _ _ h1)
   (fun o i j v h=>by
    cases h with
    |Rx _ _ _ _ hv h=>
     refine .Rx o i j v hv fun e sz rows hx=>?_
     obtain⟨h1,h2,h3⟩:=hm o _ hx;rw[h2];exact h _ _ _ h1)
   (fun o v h=>by
    cases h with
    |mp _ _ hv h=>
     refine .mp o v hv fun x hx=>?_
     obtain⟨h1,h2,_⟩:=hm o x hx;rw[h2];exact h _ h1)
   (fun cs ih v h=>by
    obtain⟨vs,rfl,hl,h1,h2⟩:=VR.Ju h;rw[Bz]at hl h1;exact .agg cs vs (by simpa using hl) (fun i c v hc hv=>ih i c hc v (h1 i _ v (by rw[List.getElem?_map,hc];rfl) hv)) h2)
   (fun cs ih v h=>by
    obtain⟨vs,rfl,hl,h1⟩:=VR.Wp h;rw[Bz]at hl h1;exact .tuple cs vs (by simpa using hl) (fun i c v hc hv=>ih i c hc v (h1 i _ v (by rw[List.getElem?_map,hc];rfl) hv)))
   (fun f cs ih v h=>by
    obtain⟨vs,rfl,hl,h1⟩:=VR.Gr h;rw[Bz]at hl h1;exact .clo f cs vs (by simpa using hl) (fun i c v hc hv=>ih i c hc v (h1 i _ v (by rw[List.getElem?_map,hc];rfl) hv)))
   (fun i c hc=>by simp at hc)
   (fun c l h1 h2 i c' hc' v h=>by
    rcases i with _|i
    ·simp at hc';subst hc';exact h1 v h
    ·exact h2 i c' (by simpa using hc') v h) c0
 exact key c0 v h
theorem VR.Qj0{w:World}{ok:Nat->Prop}{g g0:Gh}{M m:Me}(ρ:Nat->Nat){c0:AV}{v:Value}(h:VR w ok g0 m c0 v)(hm:∀o∈c0.ids,∃x,m o=some x/\M (ρ o)=some (x.ren ρ)/\g0.bl o=g.bl (ρ o)/\g0.cp o=g.cp (ρ o)):VR w ok g M (c0.ren ρ) v:=by
 have r:∀(l:List AV) (i:Nat) (c:AV),l[i]? =some c->∀o∈c.ids,o∈ZB l:=λl=>by
  induction l with
  |nil=>intro i c I;simp at I
  |cons a l ih=>
   intro i c I o U;simp only[ZB];rcases i with _|i
   ·simp at I;subst I;exact List.mem_append_left _ U
   ·exact List.mem_append_right _ (ih i c (by simpa using I) o U)
 induction h with
 |any v=>exact .any v
 |d d v h=>exact .d d v h
 |lit v h=>exact .lit v h
 |fl rows v h hr=>exact .fl rows v h hr
 |ptr o a2 v J h=>
  obtain⟨x,T,h2,h3,_⟩:=hm o (by simp[AV.ids]);refine .ptr _ a2 v J λy _=>?_
  rw[<-h3];exact h x T
 |arr o l n v J h=>
  obtain⟨x,T,h2,h3,h4⟩:=hm o (by simp[AV.ids]);refine .arr _ l n v J λe sz rows P=>?_
  rw[h2]at P;cases x with
  |blk t cs=>cases P
  |map _ _ _ _=>cases P
  |raw _=>cases P
  |arr e' a3 a1=>
   cases P;rw[<-h3,<-h4];exact h _ _ _ T
 |Rx o i j v J h=>
  obtain⟨x,T,h2,h3,h4⟩:=hm o (by simp[AV.ids]);refine .Rx _ i j v J λe sz rows P=>?_
  rw[h2]at P;cases x with
  |blk t cs=>cases P
  |map _ _ _ _=>cases P
  |raw _=>cases P
  |arr e' a3 a1=>
   cases P;rw[<-h3];exact h _ _ _ T
 |mp o v J h=>
  obtain⟨x,T,h2,h3,_⟩:=hm o (by simp[AV.ids]);refine .mp _ v J λy _=>?_
  rw[<-h3];exact h x T
 |agg cs vs hl h T ih=>
  simp only[AV.ren,Bz];refine .agg _ _ (by simpa using hl) (λi c v I J=>?_) T;rw[List.getElem?_map]at I;obtain⟨c',C,rfl⟩:=Option.map_eq_some_iff.1 I;exact ih i c' v C J λo U=>hm o (r cs i c' C o U)
 |tuple cs vs hl h ih=>
  simp only[AV.ren,Bz];refine .tuple _ _ (by simpa using hl) (λi c v I J=>?_);rw[List.getElem?_map]at I;obtain⟨c',C,rfl⟩:=Option.map_eq_some_iff.1 I;exact ih i c' v C J λo U=>hm o (r cs i c' C o U)
 |clo f cs vs hl h ih=>
  simp only[AV.ren,Bz];refine .clo f _ _ (by simpa using hl) (λi c v I J=>?_);rw[List.getElem?_map]at I;obtain⟨c',C,rfl⟩:=Option.map_eq_some_iff.1 I;exact ih i c' v C J λo U=>hm o (r cs i c' C o U)
abbrev Mo:=List (Nat×Q9)
def Jv:Mo->Nat->Option Q9
 |[],_=>none
 |(i,x)::r,j=>if i==j then some x else Jv r j
structure Z0 (P:Program) (k:Nat) (args:List AV) (m:Mo) (r:AV) (m':Mo):Prop where
 ent:∃fn,P.funcs[k]? =some fn/\(fn.name== "runtime.NumGoroutine")=false/\fn.body.isNone=false
 run:∀(w:World) (ok:Nat->Prop) (g:Gh) (vals:Array Value),MS ⟨w,ok,λb=>∃i x,Jv m i=some x/\g.bl i=some b,g⟩ w ok g (Jv m)->args.length=vals.size->(∀(i:Nat) (c:AV) (v:Value),args[i]? =some c->vals[i]? =some v->VR w ok g (Jv m) c v)->
  Calls P k vals w λe w'=>∃v ok' g',e= .returned v/\MS ⟨w,ok,λb=>∃i x,Jv m i=some x/\g.bl i=some b,g⟩ w' ok' g' (Jv m')/\VR w' ok' g' (Jv m') r v
def Zw:List (Nat×Nat)->Nat->Nat
 |[],i=>i
 |(a,b)::r,i=>if a==i then b else Zw r i
def ZV(f:Nat->Nat)(m':Mo):Mo->List (Nat×Option Q9)
 |[]=>[]
 |(i,_)::r=>(f i,(Jv m' i).map (Q9.ren f))::ZV f m' r
def NE(f:Nat->Nat):Mo->List Nat
 |[]=>[]
 |(i,_)::r=>if Nat.ble 1000 i then NE f r else f i::NE f r
def Qt(f:Nat->Nat)(m m':Mo):Eff:=⟨NE f m,ZV f m' m⟩
def Mj(m':Mo):Mo->Prop
 |[]=>True
 |(i,x)::r=>(kept i=true->∃y,Jv m' i=some y/\x.like y)/\Mj m' r
def Km(f:Nat->Nat)(m:Mo)(r:AV)(m':Mo):Bool:=
 (m.all λx=>Nat.ble 500 x.1) && (m.all λx=>m.all λy=>!(f x.1==f y.1)||x.1==y.1) && (m'.all λx=>(Jv m x.1).isSome) &&
 (r.ids.all λi=>(Jv m' i).isSome) && (m'.all λx=>x.2.ids.all λi=>(Jv m' i).isSome) && ((m.all λx=>Nat.ble 1000 x.1||Nat.ble 500 (f x.1))||(m.all λx=>Nat.ble 1000 x.1|| !(Nat.ble 500 (f x.1)))) &&
 (m.all λx=>Nat.ble 1000 x.1|| !(Nat.ble 1000 (f x.1)))
theorem G5{m:Mo}{i:Nat}{x:Q9}(h:Jv m i=some x):(i,x)∈m:=by
 induction m with
 |nil=>cases h
 |cons y r f=>
  obtain⟨j,z⟩:=y;simp only[Jv]at h;split at h
  ·rename_i g;have:j=i:=by simpa using g
   subst this;cases h;simp
  ·exact List.mem_cons_of_mem _ (f h)
theorem Va{m:Mo}{i:Nat}{x:Q9}(h:(i,x)∈m):∃y,Jv m i=some y:=by
 induction m with
 |nil=>cases h
 |cons y r f=>
  obtain⟨j,z⟩:=y;simp only[Jv];split
  ·exact⟨z,rfl⟩
  ·rename_i g;rcases List.mem_cons.1 h with h|h
   ·cases h;simp at g
   ·exact f h
theorem Db{m m':Mo}(h:Mj m' m){i:Nat}{x:Q9}(f:(i,x)∈m)(g:kept i=true):∃y,Jv m' i=some y/\x.like y:=by
 induction m with
 |nil=>cases f
 |cons y r l=>
  obtain⟨j,z⟩:=y;rcases List.mem_cons.1 f with f|f
  ·cases f;exact h.1 g
  ·exact l h.2 f
theorem Ul{o:Nat->Nat}{m:Mo}{j:Nat}:j∈NE o m<->∃i x,(i,x)∈m/\kept i=false/\o i=j:=by
 induction m with
 |nil=>simp[NE]
 |cons y r t=>
  obtain⟨i,x⟩:=y;simp only[NE];split
  ·rename_i l;rw[t];constructor
   ·rintro⟨a,b,f,g⟩;exact⟨a,b,List.mem_cons_of_mem _ f,g⟩
   ·rintro⟨a,b,f,g⟩;rcases List.mem_cons.1 f with f|f
    ·cases f;unfold kept at g;rw[l]at g;cases g.1
    ·exact⟨a,b,f,g⟩
  ·rename_i l;rw[List.mem_cons,t];constructor
   ·rintro(rfl|⟨a,b,f,g⟩)
    ·exact⟨i,x,by simp,by unfold kept;rw[<-Bool.not_eq_true];exact l,rfl⟩
    ·exact⟨a,b,List.mem_cons_of_mem _ f,g⟩
   ·rintro⟨a,b,f,g⟩;rcases List.mem_cons.1 f with f|f
    ·cases f;exact .inl g.2.symm
    ·exact .inr ⟨a,b,f,g⟩
theorem Ea(f:Nat->Nat)(m' m:Mo):(ZV f m' m).map (·.1)=m.map λx=>f x.1:=by
 induction m with
 |nil=>rfl
 |cons y r g=>obtain⟨i,x⟩:=y;simp only[ZV,List.map_cons,g]
theorem Eb{l:Nat->Nat}{m' m:Mo}{i:Nat}{x:Q9}(g:(i,x)∈m)(f:∀a y,(a,y)∈m->l a=l i->a=i):Q4 (ZV l m' m) (l i)=(Jv m' i).map (Q9.ren l):=by
 induction m with
 |nil=>cases g
 |cons y r t=>
  obtain⟨j,z⟩:=y;simp only[ZV,Q4];split
  ·rename_i o;have:j=i:=f j z (by simp) (by simpa using o);rw[this]
  ·rename_i o;rcases List.mem_cons.1 g with g|g
   ·cases g;simp at o
   ·exact t g λa y C=>f a y (List.mem_cons_of_mem _ C)
theorem Q9.Qw5(f:Nat->Nat){x y:Q9}(h:x.like y):(x.ren f).like (y.ren f):=by cases x<;> cases y<;> exact h
theorem Z0.step{P:Program}{C:Cx}{k:Nat}{args:List AV}{m m':Mo}{r:AV}(hS:Z0 P k args m r m'){s:AS}{a:Act}{w:World}{ok:Nat→Prop}{g:Gh}(hM:MS C w ok g (Q4 s.mem))(hs:a.tmps.size=s.n)(hdf:a.defers=[])
  (hf:∀t,VR w ok g (Q4 s.mem) (X4 s.fr t) (a.tmps.getD t undef)) (dst:Option Nat) (hd:∀d,dst=some d→d<s.n) (ρ:Nat→Nat) (hc:Km ρ m r m'=true) (hlk:Mj m' m) (hob:∀i x,Jv m i=some x→Q4 s.mem (ρ i)=some (x.ren ρ))
  {vals:Array Value} (hl:args.length=vals.size) (hv:∀(i:Nat) (c:AV) (v:Value),args[i]? =some c→vals[i]? =some v→VR w ok g (Q4 s.mem) (c.ren ρ) v):
  Calls P k vals w fun e w'=>∃v,e= .returned v∧St C (s.after dst (r.ren ρ) (Qt ρ m m')) (a.put dst v) w':=by
 unfold Km at hc;simp only[Bool.and_eq_true]at hc;obtain⟨⟨⟨⟨⟨⟨c1,c2⟩,c3⟩,c5⟩,c6⟩,c7⟩,c8⟩:=hc;have h500:∀i x,(i,x)∈m→500≤i:=fun i x h=>Nat.le_of_ble_eq_true (List.all_eq_true.1 c1 _ h)
 have hinj:∀i x j y,(i,x)∈m→(j,y)∈m→ρ i=ρ j→i=j:=fun i x j y hi hj e=>by
  have:=List.all_eq_true.1 (List.all_eq_true.1 c2 _ hi) _ hj;simp only[Bool.or_eq_true,Bool.not_eq_true',beq_eq_false_iff_ne,beq_iff_eq]at this;rcases this with h|h
  ·exact absurd e h
  ·exact h
 have hsub:∀i x,Jv m' i=some x→∃y,Jv m i=some y:=fun i x h=>by
  have:=List.all_eq_true.1 c3 _ (G5 h);exact Option.isSome_iff_exists.1 this
 have hrid:∀i∈r.ids,∃x,Jv m' i=some x:=fun i h=>Option.isSome_iff_exists.1 (List.all_eq_true.1 c5 i h)
 have hxid:∀i x,Jv m' i=some x→∀j∈x.ids,∃y,Jv m' j=some y:=fun i x h j hj=>Option.isSome_iff_exists.1 (List.all_eq_true.1 (List.all_eq_true.1 c6 _ (G5 h)) j hj)
 let g0:Gh:=⟨fun i=>g.bl (ρ i),fun i=>g.cp (ρ i)⟩
 have hmm:∀o x,Jv m o=some x→Q4 s.mem (ρ o)=some (x.ren ρ)∧g0.bl o=g.bl (ρ o)∧g0.cp o=g.cp (ρ o):=fun o x h=>⟨hob o x h,rfl,rfl⟩
 have hM0:MS ⟨w,ok,fun b=>∃i x,Jv m i=some x∧g0.bl i=some b,g0⟩ w ok g0 (Jv m):=by
  refine⟨fun o x hx=>?_,fun i j xi xj b hi hj hbi hbj=>?_,fun i x b hx hb=>?_,fun b hb=>⟨(hM.okb b hb).1,.inl hb⟩,fun b hb=>hb,Nat.le_refl _,fun b _ _=>rfl,fun i _=>⟨rfl,rfl⟩,rfl,rfl,rfl,hM.giw,fun b hb ⟨i,x,hx,hbi⟩=>by
   rcases(hM.own _ _ b (hob i x hx) hbi).2.2 with h|h
   ·have:=hM.gi.lt hb;omega
   ·exact hM.gb b hb h.1⟩
  ·have hO:=hM.obj _ _ (hob o x hx);cases x with
   |blk t cs=>
    obtain⟨b,vs,h1,h2,h3⟩:=hO;rw[Bz]at h3;exact⟨b,vs,h1,h2,by simpa using h3.1,fun i c v hci hvi=>VR.OP ρ hmm (h3.2.1 i _ v (by rw[List.getElem?_map,hci];rfl) hvi),h3.2.2⟩
   |arr e sz rows=>exact hO
   |map ks ag n ents=>exact hO
   |raw r=>exact hO
  ·exact hinj i xi j xj (G5 hi) (G5 hj) (hM.inj _ _ _ _ b (hob i xi hi) (hob j xj hj) hbi hbj)
  ·obtain⟨h1,h2,h3⟩:=hM.own _ _ b (hob i x hx) hb;exact⟨h1,h2,.inr ⟨⟨i,x,hx,hb⟩,h500 i x (G5 hx)⟩⟩
 refine(hS.run w ok g0 vals hM0 hl fun i c v hci hvi=>VR.OP ρ hmm (hv i c v hci hvi)).mono ?_;rintro e w' ⟨v,ok',g',rfl,hM',hr⟩;refine⟨v,rfl,?_⟩
 -- the names' way back
 let σ:Nat→Nat:=fun j=>((m.find? fun x=>ρ x.1==j).map (·.1)).getD 0
 have hσ:∀i x,(i,x)∈m→σ (ρ i)=i:=fun i x hx=>by
  have:∃y,m.find? (fun x=>ρ x.1==ρ i)=some y:=Option.isSome_iff_exists.1 (by rw[List.find?_isSome];exact⟨(i,x),hx,by simp⟩);obtain⟨y,hy⟩:=this;have h1:=List.find?_some hy;have h2:=List.mem_of_find?_eq_some hy;show((m.find? fun x=>ρ x.1==ρ i).map (·.1)).getD 0=i;rw[hy];exact hinj y.1 y.2 i x h2 hx (by simpa using h1)
 have hUm:∀j,Kz (ZV ρ m' m) j=true↔∃i x,(i,x)∈m∧ρ i=j:=fun j=>by
  rw[Zu,Ea,List.mem_map];constructor
  ·rintro⟨⟨i,x⟩,h1,h2⟩;exact⟨i,x,h1,h2⟩
  ·rintro⟨i,x,h1,h2⟩;exact⟨(i,x),h1,h2⟩
 let U:=Kz (ZV ρ m' m)
 let g2:Gh:=⟨fun j=>if U j=true then g'.bl (σ j)else g.bl j,fun j=>if U j=true then g'.cp (σ j)else g.cp j⟩
 have hNj:∀j y,U j=true→Q4 (ZV ρ m' m) j=some y→∃i x x',(i,x)∈m∧ρ i=j∧Jv m' i=some x'∧y=x'.ren ρ∧σ j=i:=fun j y hU hy=>by
  obtain⟨i,x,h1,rfl⟩:=(hUm j).1 hU;rw[Eb h1 (fun b z hb e=>hinj b z i x hb h1 e)]at hy;obtain⟨x',hx',rfl⟩:=Option.map_eq_some_iff.1 hy;exact⟨i,x,x',h1,rfl,hx',rfl,hσ i x h1⟩
 have hres:∀i x',Jv m' i=some x'→J7 (Q4 s.mem) U (Z5 (NE ρ m)) (Q4 (ZV ρ m' m)) (ρ i)=some (x'.ren ρ)∧g'.bl i=g2.bl (ρ i)∧g'.cp i=g2.cp (ρ i):=fun i x' hx'=>by
  obtain⟨x,hx⟩:=hsub i x' hx';have hxm:=G5 hx;have hU:U (ρ i)=true:=(hUm _).2 ⟨i,x,hxm,rfl⟩;refine⟨?_,by simp only[g2];rw[if_pos hU,hσ i x hxm],by simp only[g2];rw[if_pos hU,hσ i x hxm]⟩;unfold J7;rw[if_pos hU,Eb hxm (fun b z hb e=>hinj b z i x hb hxm e),hx'];rfl
 have hTU:∀b,(∃i x,Jv m i=some x∧g0.bl i=some b)→∀j xj,U j=false→Q4 s.mem j=some xj→g.bl j≠some b:=fun b ⟨i,x,hx,hb⟩ j xj hUj hj hbj=>by
  have:ρ i=j:=hM.inj _ _ _ _ b (hob i x hx) hj hb hbj;have:U j=true:=(hUm j).2 ⟨i,x,G5 hx,this⟩;rw[this]at hUj;cases hUj
 have hkb:∀i x,Jv m i=some x→kept i=true→g'.bl i=g.bl (ρ i)∧g'.cp i=g.cp (ρ i):=fun i x _ hk=>hM'.keep i hk
 have hokc:∀b,ok b→w'.heap[b]? =w.heap[b]?:=fun b hb=>hM'.heap b (hM.okb b hb).1 fun⟨i,x,hx,hbi⟩=>(hM.own _ _ b (hob i x hx) hbi).1 hb
 have hEff:=MS.Zg7 (w':=w') (ok':=ok') (g':=g2) hM U (Z5 (NE ρ m)) (Q4 (ZV ρ m' m))
  (fun j hj=>by
   obtain⟨i,x,h1,_,h3⟩:=Ul.1 (Dw.1 hj);exact(hUm j).2 ⟨i,x,h1,h3⟩)
  (fun j y hU hy=>by
   obtain⟨i,x,x',h1,rfl,hx',rfl,hsj⟩:=hNj j y hU hy;obtain⟨_,e1,e2⟩:=hres i x' hx';have hO:=hM'.obj i x' hx';cases x' with
   |blk t cs=>
    obtain⟨b,vs,k1,k2,k3⟩:=hO;refine⟨b,vs,by rw[←e1];exact k1,k2,by rw[Bz];simpa using k3.1,fun n c v hci hvi=>?_,k3.2.2⟩;rw[Bz,List.getElem?_map]at hci;obtain⟨c',hc',rfl⟩:=Option.map_eq_some_iff.1 hci;refine VR.Qj0 ρ (k3.2.1 n c' v hc' hvi) fun o ho=>?_
    have hoid:o∈(Q9.blk t cs).ids:=by
     have idsL_mem:∀(l:List AV) (i:Nat) (c:AV),l[i]? =some c→∀o∈c.ids,o∈ZB l:=fun l=>by
      induction l with
      |nil=>intro i c hc;simp at hc
      |cons a l ih=>
       intro i c hc o ho;simp only[ZB];rcases i with _|i
       ·simp at hc;subst hc;exact List.mem_append_left _ ho
       ·exact List.mem_append_right _ (ih i c (by simpa using hc) o ho)
     exact idsL_mem cs n c' hc' o ho
    obtain⟨y,hy⟩:=hxid i _ hx' o hoid;obtain⟨f1,f2,f3⟩:=hres o y hy;exact⟨y,hy,f1,f2,f3⟩
   |arr e sz rows=>
    obtain⟨k0,k1,k2⟩:=hO;refine⟨k0,k1,?_⟩;rw[←e1,←e2];exact k2
   |map ks ag n ents=>
    obtain⟨b,es,clock,k1,k2⟩:=hO;exact⟨b,es,clock,by rw[←e1];exact k1,k2⟩
   |raw r=>exact RV.at' hO e1.symm)
  (fun j hq=>by
   by_cases hU:U j=true
   ·obtain⟨i,x,h1,rfl⟩:=(hUm j).1 hU;have hk:kept i=true:=by
     rcases hk:kept i
     ·have:Z5 (NE ρ m) (ρ i)=true:=Dw.2 (Ul.2 ⟨i,x,h1,hk,rfl⟩);rw[this]at hq;cases hq
     ·rfl
    obtain⟨y,hy⟩:=Va h1;have:=hkb i y hy hk;simp only[g2];rw[if_pos hU,if_pos hU,hσ i x h1];exact this
   ·simp only[g2];rw[if_neg hU,if_neg hU];exact⟨rfl,rfl⟩)
  (fun j y hU hq hy=>by
   obtain⟨i,x,x',h1,rfl,hx',rfl,hsj⟩:=hNj j y hU hy;have hk:kept i=true:=by
    rcases hk:kept i
    ·have:Z5 (NE ρ m) (ρ i)=true:=Dw.2 (Ul.2 ⟨i,x,h1,hk,rfl⟩);rw[this]at hq;cases hq
    ·rfl
   obtain⟨z,hz⟩:=Va h1;obtain⟨y',hy',hlike⟩:=Db hlk (G5 hz) hk;rw[hx']at hy';obtain rfl:=Option.some.inj hy';exact⟨_,hob i z hz,Q9.Qw5 ρ hlike⟩)
  (fun j xj b hUj hj hbj=>by
   obtain⟨_,h2,_⟩:=hM.own j xj b hj hbj;exact hM'.heap b h2 fun hT=>hTU b hT j xj hUj hj hbj)
  hokc hM'.okk
  (fun b hb=>by
   obtain⟨h1,h2⟩:=hM'.okb b hb;rcases h2 with h2|h2
   ·exact .inl h2
   ·refine .inr ⟨h1,Nat.le_trans hM.size h2,fun i x _ hi hbi=>?_⟩;have:=(hM.own i x b hi hbi).2.1;have h2':w.heap.size≤b:=h2;omega)
  (fun j y b hU hy hb=>by
   obtain⟨i,x,x',h1,rfl,hx',rfl,hsj⟩:=hNj j y hU hy;obtain⟨_,e1,e2⟩:=hres i x' hx';rw[←e1]at hb;obtain⟨k1,k2,k3⟩:=hM'.own i x' b hx' hb;refine⟨k1,k2,?_,fun j' xj hUj hj hbj=>?_,fun j' y' hUj hj hbj=>?_⟩
   ·rcases k3 with k3|⟨hT,k3⟩
    ·exact .inl (Nat.le_trans hM.size k3)
    ·obtain⟨i2,x2,hx2,hb2⟩:=hT;obtain⟨_,_,q3⟩:=hM.own _ _ b (hob i2 x2 hx2) hb2;rcases q3 with q3|⟨q3,q4⟩
     ·exact .inl q3
     ·right;refine⟨q3,?_⟩
      -- whose block is it now?
      rcases hk:kept i
      ·rcases hk2:kept i2
       ·have hx1':=h1;rcases(Bool.or_eq_true _ _).mp c7 with c|c
        ·have:=List.all_eq_true.1 c _ h1;simp only[Bool.or_eq_true]at this;rcases this with t|t
         ·unfold kept at hk;rw[t]at hk;cases hk
         ·exact Nat.le_of_ble_eq_true t
        ·have:=List.all_eq_true.1 c _ (G5 hx2);simp only[Bool.or_eq_true,Bool.not_eq_true']at this;rcases this with t|t
         ·unfold kept at hk2;rw[t]at hk2;cases hk2
         ·have:=WV t;omega
       ·obtain⟨y2,hy2,_⟩:=Db hlk (G5 hx2) hk2;have:=(hkb i2 x2 hx2 hk2).1;have e3:i=i2:=hM'.inj i i2 x' y2 b hx' hy2 hb (by rw[this];exact hb2);rw[e3]at hk;rw[hk]at hk2;cases hk2
      ·obtain⟨z,hz⟩:=Va h1;have:=(hkb i z hz hk).1;rw[this]at hb;have e3:ρ i=ρ i2:=hM.inj _ _ _ _ b (hob i z hz) (hob i2 x2 hx2) hb hb2;rw[e3];exact q4
   ·rcases k3 with k3|⟨hT,k3⟩
    ·have k3':w.heap.size≤b:=k3;have:=(hM.own j' xj b hj hbj).2.1;omega
    ·exact hTU b hT j' xj hUj hj hbj
   ·obtain⟨i2,x2,x2',h12,rfl,hx2',_,hs2⟩:=hNj j' y' hUj hj;obtain⟨_,e12,_⟩:=hres i2 x2' hx2';rw[←e12]at hbj;rw[hM'.inj i i2 x' x2' b hx' hx2' hb hbj])
  (fun j hj=>by
   obtain⟨i,x,h1,h2,rfl⟩:=Ul.1 (Dw.1 hj);have:=List.all_eq_true.1 c8 _ h1;simp only[Bool.or_eq_true,Bool.not_eq_true']at this;rcases this with t|t
   ·unfold kept at h2;rw[t]at h2;cases h2
   ·exact t)
  hM'.size
  (fun b hb hT=>hM'.heap b (Nat.lt_of_lt_of_le hb hM.size) fun ⟨i,x,hx,hbi⟩=>by
   obtain⟨_,_,q3⟩:=hM.own _ _ b (hob i x hx) hbi;rcases q3 with q3|⟨q3,_⟩
   ·omega
   ·exact hT q3)
  hM'.os hM'.tape hM'.output
 refine St.after (ok':=ok') (g':=g2) hs hdf hf dst hd (r.ren ρ) v (Qt ρ m m') hEff (fun _=>?_);refine VR.Qj0 ρ hr fun o ho=>?_
 obtain⟨x,hx⟩:=hrid o ho;obtain⟨f1,f2,f3⟩:=hres o x hx;exact⟨x,hx,f1,f2,f3⟩
end
section
open Go.RowKit
inductive Hint where
 |p (r:Nat->AV) (x:Option Q9)
 |c (π:List (Nat×Nat)) (args:List AV) (mo:Mo) (r:AV) (mo':Mo)
 |n (π:List (Nat×Nat)) (args:List AV) (mo:Mo) (r:AV) (mo':Mo) (ph:List Nat)
def Ki:List Nat->Mo
 |[]=>[]
 |i::r=>(i,.arr 0 1 [])::Ki r
def X3(m:Me)(f:Operand->AV)(g:Op):List Nat:=(Uj f g.operands.toList++K7 m (Uj f g.operands.toList))++K7 m (K7 m (Uj f g.operands.toList))
def Vv(m:Me)(f:Nat->Nat):Mo->Prop
 |[]=>True
 |(i,x)::r=>m (f i)=some (x.ren f)/\Vv m f r
def V8(P:Program)(m:Me)(f:Operand->AV)(o:Oper)(h:Option Hint):Option (AV×Eff×Prop):=
 match o.op,h with
 | .call cc,some (.p r x)=>match cc.callee with
  | .value g=>match K9 (f g)with
   |some (k,cap)=>if x.isSome && Nat.ble 500 (o.dst.getD 0)then none else some (r (o.dst.getD 0),Yv (o.dst.getD 0) x,Qv P k (cc.args.toList.map f++cap) r x)
   |none=>none
  |_=>none
 | .call cc,some (.c π args mo r j)=>match cc.callee with
  | .value g=>match K9 (f g)with
   |some (k,cap)=>if Km (Zw π) mo r j && (mo.all λx=>Z5 (X3 m f (.call cc)) (Zw π x.1))then some (r.ren (Zw π),Qt (Zw π) mo j,Z0 P k args mo r j/\cc.args.toList.map f++cap=args.map (AV.ren (Zw π))/\Mj j mo/\Vv m (Zw π) mo)else none
   |none=>none
  |_=>none
 | .call cc,some (.n π args mo r j ph)=>match cc.callee with
  | .value g=>match K9 (f g)with
   |some (k,cap)=>if (Km (Zw π) (mo++Ki ph) r j && (mo.all λx=>Z5 (X3 m f (.call cc)) (Zw π x.1))) && ((ph.all λi=>!(Nat.ble 1000 i) && !(Nat.ble 500 (Zw π i))) && (!(AV.Uv (Z5 (ph.map (Zw π))) (cc.args.toList.map f++cap)) && (mo.all λx=>!(Z5 (ph.map (Zw π)) (Zw π x.1)) && !((x.2.ren (Zw π)).ids.any (Z5 (ph.map (Zw π)))))))
     then some (r.ren (Zw π),Qt (Zw π) (mo++Ki ph) j,Z0 P k args (mo++Ki ph) r j/\cc.args.toList.map f++cap=args.map (AV.ren (Zw π))/\Mj j (mo++Ki ph)/\Vv m (Zw π) mo)else none
   |none=>none
  |_=>none
 |_,_=>none
def Vk(P:Program)(m:Me)(f:Operand->AV)(o:Oper)(h:Option Hint):Option (AV×Eff×Prop):=
 match Vj P m f o.dst o.op with
 |some r=>some r
 |none=>match U6 P m f o.dst o.op with
  |some r=>some r
  |none=>match Rw P f o.op with
   |some (v,p)=>some (v,⟨[],[]⟩,p)
   |none=>V8 P m f o h
def Xo:Option (AV×Eff×Prop)->Option (AV×Eff×Prop)
 |some (c,⟨q,[(o,some x)]⟩,p)=>if Nat.ble 500 o then none else some (c.F7 o x,⟨o::q,[(o,none)]⟩,p)
 |_=>none
def Wv(P:Program)(m:Me)(f:Operand->AV)(o:Oper)(h:Option Hint)(z:Bool):Option (AV×Eff×Prop):=
 if z then (match H6 f o.op with
  |some v=>some (v,⟨[],[]⟩,True)
  |none=>Xo (Vk P m f o h))else Vk P m f o h
section
variable {P:Program} {m m1:Me} {f f1:Operand->AV}
def YD(m m1:Me)(c:AV):Prop:=∀i,c.has (λj=>j==i)=true->m1 i=m i
theorem YD.ptr{o f:Nat}(h:YD m m1 (.ptr o f)):m1 o=m o:=h o (by simp[AV.has])
theorem YD.arr{o l n:Nat}(h:YD m m1 (.arr o l n)):m1 o=m o:=h o (by simp[AV.has])
theorem YD.Rx{o i j:Nat}(h:YD m m1 (.Rx o i j)):m1 o=m o:=h o (by simp[AV.has])
theorem YD.mp{o:Nat}(h:YD m m1 (.mp o)):m1 o=m o:=h o (by simp[AV.has])
theorem SB{p:AV}(h:YD m m1 p)(n:Nat):Kk m1 p n=Kk m p n:=by
 unfold Kk;cases p<;> try rfl
 case d d=>cases d<;> rfl
 case ptr o off=>simp only[h.ptr]
 case Rx o i j=>simp only[h.Rx]
theorem TE{p:AV}(h:YD m m1 p)(cs:List AV):V9 m1 p cs=V9 m p cs:=by
 unfold V9;cases p<;> try rfl
 case ptr o off=>simp only[h.ptr]
 case Rx o i j=>simp only[h.Rx]
theorem EG{p:AV}(h:YD m m1 p)(n:Nat):Gz m1 n p=Gz m n p:=by
 unfold Gz;cases p<;> try rfl
 case d d=>cases d<;> rfl
 case ptr o off=>simp only[h.ptr]
 case Rx o i j=>simp only[h.Rx]
theorem EB{p:AV}(h:YD m m1 p)(n:Nat)(k:Int):D8 m1 n p k=D8 m n p k:=by
 unfold D8;cases p<;> try rfl
 case d d=>cases d<;> rfl
 case arr o l n=>simp only[h.arr]
theorem TP{p:AV}(h:YD m m1 p)(n:Nat):D6 m1 n p=D6 m n p:=by
 unfold D6;cases p<;> try rfl
 case d d=>cases d<;> rfl
 case lit v=>first|rfl|(cases v<;> first|rfl|(rename_i a b c;cases a<;> first|rfl|(cases b<;> first|rfl|(cases c<;> rfl))))
 case arr o l n=>simp only[h.arr]
theorem KA(sz:Nat):∀(l:List (Nat×Operand)) (k:Nat),(∀x∈l,f1 x.2=f x.2)->U4 sz f1 k l=U4 sz f k l
 |[],k,_=>rfl
 |(i,x)::l,k,h=>by
  unfold U4;rw[h (i,x) (by simp),KA sz l (k+1) (λy g=>h y (by simp[g]))]
theorem Jd{x:Option Operand}(h:∀y,x=some y->f1 y=f y):Je f1 x=Je f x:=by
 cases x with
 |none=>rfl
 |some y=>simp only[Je,h y rfl]
theorem LW{C:Op}(j:∀x∈C.operands,f1 x=f x)(J:∀x∈C.operands,YD m m1 (f x)):Y4 P m1 f1 C=Y4 P m f C:=by
 cases C<;> simp only[Op.operands]at j J<;> try rfl
 case move x=>simp only[Y4,j x (by simp)]
 case assign x=>simp only[Y4,j x (by simp)]
 case pick c a b=>simp only[Y4,j c (by simp),j a (by simp),j b (by simp)]
 case build t parts=>
  simp only[Y4];rw[List.map_congr_left (λx I=>by rw[j x.2 (by simp;exact⟨x.1,by simpa using I⟩)])]
 case fieldAddr s x k=>simp only[Y4,j x (by simp),EG (J x (by simp))]
 case field s x k=>simp only[Y4,j x (by simp)]
 case indexAddr t x i=>simp only[Y4,j x (by simp),j i (by simp),EB (J x (by simp))]
 case extract x i=>simp only[Y4,j x (by simp)]
 case binOp C t x y t2=>simp only[Y4,j x (by simp),j y (by simp)]
 case unOp C t x=>cases C<;> simp only[Y4,j x (by simp)]
 case makeFunc k first cap=>
  cases k<;> simp only[Y4]
  rw[List.map_congr_left (λx I=>j x (by simp at I⊢;exact .inr I))]
 case load t x=>simp only[Y4,j x (by simp),SB (J x (by simp))]
 case slice t x lo hi mx=>
  cases mx with
  |some y=>rfl
  |none=>
   simp only[Y4];rw[Jd (x:=lo) (λy U=>j y (by simp[U])),Jd (x:=hi) (λy U=>j y (by simp[U])),j x (by simp)];have h:=J x (by simp);generalize f x=c at h;cases c<;> try rfl
   case d d=>cases d<;> rfl
   case arr o l n=>simp only[h.arr]
 case call c=>
  obtain⟨callee,args,T⟩:=c;cases callee with
  |value g=>rfl
  |invoke g n=>rfl
  |builtin b=>
   cases b<;> try rfl
   simp only[Y4];rcases ha:args.toList with _|⟨x,_|⟨y,r⟩⟩<;> try rfl
   rcases T.toList with _|⟨t,_|⟨t',r'⟩⟩<;> try rfl
   have I:x∈(Op.call ⟨.builtin .len,args,T⟩).operands:=by
    simp only[Op.operands,Call.operands,Array.mem_append];exact .inr (by rw[<-Array.mem_toList_iff,ha];simp)
   dsimp only;rw[j x I];have h:=J x I;generalize f x=cc at h;cases cc<;> try rfl
   case d d=>cases d<;> rfl
   case lit v=>first|rfl|(cases v<;> first|rfl|(rename_i a b c;cases a<;> first|rfl|(cases b<;> first|rfl|(cases c<;> rfl))))
   case arr o l n=>simp only[h.arr]
theorem Ob{I:Op}(J:Option Nat)(i:∀x∈I.operands,f1 x=f x)(j:∀x∈I.operands,YD m m1 (f x)):Vj P m1 f1 J I=Vj P m f J I:=by
 have hp:=LW (P:=P) i j;cases I<;> try (simp only[Vj,hp];done)
 case box t x=>
  simp only[Op.operands]at i j;simp only[Vj,i x (by simp)]
 case buildSlice t n parts=>
  simp only[Op.operands]at i j;simp only[Vj];have:=λsz=>KA (f:=f) (f1:=f1) sz parts.toList 0 (λx hx=>i x.2 (by simp;exact⟨x.1,by simpa using hx⟩))
  simp only[this]
 case makeSlice t l c=>
  simp only[Op.operands]at i j;simp only[Vj,i l (by simp),i c (by simp)]
 case store t p x=>
  simp only[Op.operands]at i j;simp only[Vj,i x (by simp),i p (by simp),TE (j p (by simp))]
 case call c=>
  obtain⟨callee,args,C⟩:=c;cases callee with
  |value g=>simp only[Vj,hp]
  |invoke g n=>simp only[Vj,hp]
  |builtin bb=>
   by_cases hb:bb= .append
   ·subst hb;rcases ha:args.toList with _|⟨a,_|⟨b,_|⟨y,r⟩⟩⟩
    ·simp only[Vj,ha,hp]
    ·simp only[Vj,ha,hp]
    ·rcases ht:C.toList with _|⟨t,_|⟨t',_|⟨t2,r'⟩⟩⟩
     ·simp only[Vj,ha,ht,hp]
     ·simp only[Vj,ha,ht,hp]
     ·have T:a∈(Op.call ⟨.builtin .append,args,C⟩).operands:=by
       simp only[Op.operands,Call.operands,Array.mem_append];exact .inr (by rw[<-Array.mem_toList_iff,ha];simp)
      have U:b∈(Op.call ⟨.builtin .append,args,C⟩).operands:=by
       simp only[Op.operands,Call.operands,Array.mem_append];exact .inr (by rw[<-Array.mem_toList_iff,ha];simp)
      simp only[Vj,ha,ht];have a1:=λsz=>TP (j b U) sz
      rw[i a T,i b U];simp only[a1];have h:=j a T;generalize f a=ca at h;cases ca<;> try rfl
      case lit v=>first|rfl|(cases v<;> first|rfl|(rename_i a b c;cases a<;> first|rfl|(cases b<;> first|rfl|(cases c<;> rfl))))
      case arr o l n=>
       have h':=h.arr;cases l<;> first|rfl|(simp only[h'])
     ·simp only[Vj,ha,ht,hp]
    ·simp only[Vj,ha,hp]
   ·cases bb<;> first|exact absurd rfl hb|simp only[Vj,hp]
theorem Io{I:Op}(J:Option Nat)(l:∀x∈I.operands,f1 x=f x)(C:∀x∈I.operands,YD m m1 (f x)):U6 P m1 f1 J I=U6 P m f J I:=by
 cases I<;> try (rfl;done)
 case nilCheck x=>
  simp only[Op.operands]at l C;have h:=C x (by simp);simp only[U6,l x (by simp)];generalize f x=c at h;cases c<;> try rfl
  case d d=>cases d<;> rfl
  case ptr o k=>simp only[h.ptr]
  case Rx o i j=>simp only[h.Rx]
 case makeMap t r=>cases r<;> rfl
 case binOp I t x y t2=>
  simp only[Op.operands]at l C;simp only[U6,l x (by simp),l y (by simp)]
 case lookup t x k c=>
  simp only[Op.operands]at l C;have h:=C x (by simp);simp only[U6,l x (by simp),l k (by simp)];generalize f x=cx at h;rcases Ko P t with _|⟨e,ks,ag,n⟩<;> try rfl
  generalize f k=ck;cases ck<;> try rfl
  rename_i kd;dsimp only;generalize OQ P e ag=zz;cases cx
  case mp o=>cases zz<;> first|rfl|(dsimp only;rw[h.mp])
  case lit v=>cases zz<;> cases v<;> first|rfl|(rename_i q;cases q<;> rfl)
  all_goals cases zz<;> rfl
 case mapUpdate t x k v=>
  simp only[Op.operands]at l C;have h:=C x (by simp);simp only[U6,l x (by simp),l k (by simp),l v (by simp)];generalize f x=cx at h;rcases Ko P t with _|⟨e,ks,ag,n⟩<;> try rfl
  generalize f k=ck;cases cx<;> cases ck<;> first|rfl|(dsimp only;rw[h.mp])
 case index t x i=>
  simp only[Op.operands]at l C;simp only[U6,l x (by simp),l i (by simp)]
 case call cc=>
  obtain⟨callee,args,T⟩:=cc;cases callee with
  |value g=>rfl
  |invoke g n=>rfl
  |builtin U=>
   have a1:∀y∈args.toList,y∈(Op.call ⟨.builtin U,args,T⟩).operands:=λy hy=>by
    simp only[Op.operands,Call.operands,Array.mem_append];exact .inr (by rw[<-Array.mem_toList_iff];exact hy)
   rcases ha:args.toList with _|⟨a,_|⟨b,_|⟨y,r⟩⟩⟩
   ·cases U<;> simp only[U6,ha]
   ·have h1:=l a (a1 a (by simp[ha]));have h:=C a (a1 a (by simp[ha]));cases U<;> simp only[U6,ha]
    case len=>
     rcases ht:T.toList with _|⟨t,_|⟨t',r'⟩⟩<;> try rfl
     simp only[h1];generalize f a=ca at h;rcases Ko P t with _|⟨e,ks,ag,n⟩<;> try rfl
     cases ca
     case mp o=>first|rfl|(dsimp only;rw[h.mp])
     case lit v=>cases v<;> first|rfl|(rename_i q;cases q<;> rfl)
     all_goals rfl
   ·cases U<;> simp only[U6,ha]
   ·cases U<;> simp only[U6,ha]
theorem Hl{f:Operand->AV}:∀(xs:List Operand),∀x∈xs,∀i∈(f x).ids,i∈Uj f xs:=λxs=>by
 induction xs with
 |nil=>intro x g;cases g
 |cons y o l=>
  intro x g i j;simp only[Uj];rcases List.mem_cons.1 g with rfl|g
  ·exact List.mem_append_left _ j
  ·exact List.mem_append_right _ (l x g i j)
theorem Uc:∀(xs:List Operand),(∀x∈xs,f1 x=f x)->Uj f1 xs=Uj f xs:=λxs=>by
 induction xs with
 |nil=>intro _;rfl
 |cons y j g=>intro h;simp only[Uj,h y (by simp),g λx i=>h x (by simp[i])]
theorem QI:∀(is:List Nat),(∀i∈is,m1 i=m i)->K7 m1 is=K7 m is:=λis=>by
 induction is with
 |nil=>intro _;rfl
 |cons y j f=>intro h;simp only[K7,h y (by simp),f λx g=>h x (by simp[g])]
theorem Um(f:Nat->Nat):∀(mo:Mo),(∀x∈mo,m1 (f x.1)=m (f x.1))->Vv m1 f mo=Vv m f mo:=λmo=>by
 induction mo with
 |nil=>intro _;rfl
 |cons y l g=>intro h;obtain⟨i,x⟩:=y;simp only[Vv,h (i,x) (by simp),g λx j=>h x (by simp[j])]
theorem Kn{g:Op}(o:∀x∈g.operands,f1 x=f x)(l:∀i∈Uj f g.operands.toList++K7 m (Uj f g.operands.toList),m1 i=m i):X3 m1 f1 g=X3 m f g:=by
 unfold X3;rw[Uc g.operands.toList (λx r=>o x (by simpa using r)),QI _ (λi j=>l i (List.mem_append_left _ j)),QI _ (λi j=>l i (List.mem_append_right _ j))]
theorem IY{j:Op}(g:∀x∈j.operands,f1 x=f x):Rw P f1 j=Rw P f j:=by
 cases j<;> try rfl
 case convert src dst x=>
  simp only[Op.operands]at g;simp only[Rw,g x (by simp)]
 case slice t x lo hi mx=>
  simp only[Op.operands]at g;cases mx with
  |none=>
   simp only[Rw,g x (by simp)];rw[Jd (x:=lo) (λy o=>g y (by simp[o])),Jd (x:=hi) (λy o=>g y (by simp[o]))]
  |some m=>
   cases lo with
   |some l=>rfl
   |none=>
    cases hi with
    |none=>rfl
    |some h=>simp only[Rw,g x (by simp),g h (by simp),g m (by simp)]
 case call c=>
  obtain⟨callee,args,r⟩:=c;simp only[Op.operands,Call.operands]at g;simp only[Rw];have i:∀x∈args.toList,f1 x=f x:=λx C=>g x (by simp;exact .inr (by simpa using C))
  generalize args.toList=l at i;split
  ·rw[i _ (by simp),i _ (by simp)]
  ·rw[i _ (by simp),i _ (by simp)]
  ·rfl
theorem Lh{g:Op}(i:∀x∈g.operands,f1 x=f x):H6 f1 g=H6 f g:=by
 cases g<;> try rfl
 case binOp g t x y t2=>
  simp only[Op.operands]at i;simp only[H6,i x (by simp),i y (by simp)]
theorem NA{o:Oper}(h:Option Hint)(z:Bool)(t:∀x∈o.op.operands,f1 x=f x)(I:∀i∈X3 m f o.op,m1 i=m i):Wv P m1 f1 o h z=Wv P m f o h z:=by
 have U:∀x∈o.op.operands,YD m m1 (f x):=λx C i T=>I i (List.mem_append_left _<|List.mem_append_left _ (Hl _ x (by simpa using C) i (by
  rw[AV.Ak,List.any_eq_true]at T;obtain⟨j,hj,e⟩:=T;have:j=i:=by simpa using e
  rw[<-this];exact hj)))
 have h0:Vk P m1 f1 o h=Vk P m f o h:=by
  have hc:V8 P m1 f1 o h=V8 P m f o h:=by
   obtain⟨a3,op,ty,pos,after,guard⟩:=o;dsimp only at t I U;cases op<;> try rfl
   rename_i cc;obtain⟨callee,args,a4⟩:=cc;cases h with
   |none=>rfl
   |some h=>
    cases callee with
    |value g=>
     have hg:f1 g=f g:=t g (by simp[Op.operands,Call.operands]);have ha:args.toList.map f1=args.toList.map f:=List.map_congr_left λx C=>t x (by simp[Op.operands,Call.operands];exact .inr (by simpa using C))
     have J:=Kn t (λi T=>I i (List.mem_append_left _ T));cases h with
     |p r x=>simp only[V8,hg,ha]
     |c π a1 mo r a2=>
      simp only[V8,hg,ha,J];split
      ·rename_i k cap hk;split
       ·rename_i l;rw[Bool.and_eq_true]at l;have:Vv m1 (Zw π) mo=Vv m (Zw π) mo:=Um _ mo λx C=>I _ (Dw.1 (List.all_eq_true.1 l.2 x C))
        rw[this]
       ·rfl
      ·rfl
     |n π a1 mo r a2 ph=>
      simp only[V8,hg,ha,J];split
      ·rename_i k cap hk;split
       ·rename_i l;rw[Bool.and_eq_true,Bool.and_eq_true]at l;have:Vv m1 (Zw π) mo=Vv m (Zw π) mo:=Um _ mo λx C=>I _ (Dw.1 (List.all_eq_true.1 l.1.2 x C))
        rw[this]
       ·rfl
      ·rfl
    |_=>cases h<;> rfl
  simp only[Vk,Ob o.dst t U,Io o.dst t U,IY t,hc]
 simp only[Wv,h0,Lh t]
end
end
section
open Go.RowKit
theorem AV.N7{q:Nat->Bool}{c:AV}(h:c.has q=false):c.kill q=c:=by unfold AV.kill;rw[h];rfl
theorem Q9.N7{q:Nat->Bool}{x:Q9}(h:x.ids.any q=false):x.kill q=x:=by
 cases x with
 |arr e sz rows=>rfl
 |map i j n f=>rfl
 |raw r=>rfl
 |blk t cs=>
  have h':(ZB cs).any q=false:=h;simp only[Q9.kill,Q9.blk.injEq,true_and];induction cs with
  |nil=>rfl
  |cons c r g=>
   simp only[ZB,List.any_append,Bool.or_eq_false_iff]at h';rw[List.map_cons,AV.N7 (by rw[AV.Ak];exact h'.1),g h'.2 h'.2]
theorem AV.XJ(f g:Nat->Bool)(c:AV):(c.kill f).kill g=(c.kill g).kill f:=by
 unfold AV.kill;by_cases i:c.has f=true<;> by_cases j:c.has g=true<;> simp[i,j,AV.has]
theorem Q9.XJ(f g:Nat->Bool)(x:Q9):(x.kill f).kill g=(x.kill g).kill f:=by
 cases x with
 |arr e sz rows=>rfl
 |map j l n i=>rfl
 |raw r=>rfl
 |blk t cs=>simp only[Q9.kill,List.map_map,Q9.blk.injEq,true_and];exact List.map_congr_left λc _=>AV.XJ f g c
structure Rc where
 o:Oper
 h:Option Hint
 z:Bool
 run:Bool
 c:AV
 e:Eff
 p:Prop
 M:List Nat
 nk:Bool
 an:Bool
 ld:Option Nat
 st:Option Nat
def Nw:AV->Bool
 | .any=>true
 |_=>false
def Zo:AV->Bool
 | .any=>false
 | .agg l=>l.all λc=>!Nw c
 |_=>true
def QA:Op->Option Operand
 | .load _ a=>some a
 | .move a=>some a
 | .assign a=>some a
 | .nilCheck a=>some a
 | .fieldAddr _ a _=>some a
 |_=>none
def WQ(f:Operand->AV)(g:Op)(c:AV):Option Nat:=match QA g with
 |some a=>match f a with
  | .ptr o _=>if Zo c then some o else none
  |_=>none
 |none=>none
theorem YX{f:Op}{a:Operand}(h:QA f=some a):a∈f.operands:=by
 unfold QA at h;split at h<;> first|(cases h;simp[Op.operands])|cases h
def VO(e:Eff):Bool:=match e.ws with
 |[(_,some (.blk _ cs))]=>cs.all λc=>!Nw c
 |_=>false
def WA(f:Operand->AV)(g:Op)(e:Eff)(z:Bool):Option Nat:=if z then none else match g with
 | .store _ a _=>match f a with
  | .ptr o _=>if VO e then some o else none
  |_=>none
 |_=>none
def Xw4:Op->Bool
 | .move _=>true
 | .assign _=>true
 |_=>false
def Rc.pu(r:Rc):Bool:=Xw4 r.o.op && r.run && !Nw r.c
theorem IG{f:Op}(h:Xw4 f=true):∃a,f.operands= #[a]/\(f= .move a\/f= .assign a):=by
 unfold Xw4 at h;split at h
 ·exact⟨_,rfl,.inl rfl⟩
 ·exact⟨_,rfl,.inr rfl⟩
 ·cases h
def E5(f:Operand->AV):List Operand->Bool
 |[]=>false
 |x::r=>Nw (f x)||E5 f r
def E9:Q9->Bool
 | .blk _ cs=>cs.any Nw
 | .arr _ _ _=>false
 | .map _ _ _ _=>false
 | .raw _=>false
def Ez(m:Me):List Nat->Bool
 |[]=>false
 |i::r=>(match m i with|some x=>E9 x|none=>false)||Ez m r
theorem Vd{m:Me}:∀{l:List Nat},Ez m l=false->∀i∈l,∀x,m i=some x->E9 x=false
 |[],_,i,f,_,_=>by cases f
 |j::r,h,i,f,x,g=>by
  simp only[Ez,Bool.or_eq_false_iff]at h;rcases List.mem_cons.1 f with rfl|f
  ·have:=h.1;rw[g]at this;exact this
  ·exact Vd h.2 i f x g
def UC(q:Nat->Bool):List (Nat×AV)->Bool
 |[]=>true
 |(_,c)::r=>!(c.has q) && UC q r
def Qy(q:Nat->Bool):List (Nat×Option Q9)->Bool
 |[]=>true
 |(_,none)::r=>Qy q r
 |(_,some x)::r=>!(x.ids.any q) && Qy q r
theorem Qh0{q:Nat->Bool}{f:List (Nat×AV)}(h:UC q f=true)(t:Nat):(X4 f t).has q=false:=by
 induction f with
 |nil=>rfl
 |cons x r g=>
  obtain⟨u,c⟩:=x;simp only[UC,Bool.and_eq_true,Bool.not_eq_true']at h;simp only[X4];split
  ·exact h.1
  ·exact g h.2
theorem Im{q:Nat->Bool}{f:List (Nat×Option Q9)}(h:Qy q f=true)(t:Nat)(x:Q9)(g:Q4 f t=some x):x.kill q=x:=by
 induction f with
 |nil=>cases g
 |cons y r i=>
  obtain⟨u,c⟩:=y;cases c with
  |none=>
   simp only[Qy]at h;simp only[Q4]at g;split at g
   ·cases g
   ·exact i h g
  |some z=>
   simp only[Qy,Bool.and_eq_true,Bool.not_eq_true']at h;simp only[Q4]at g;split at g
   ·cases g;exact Q9.N7 h.1
   ·exact i h.2 g
section
variable (P:Program) (ops:Array Oper)
structure Yw (s:AS) (r:Rc):Prop where
 d:Pv s r.o=true
 g:Uw ops s r.o=some r.run
 e:r.run=true->Wv P (Q4 s.mem) (V5 s.fr) r.o r.h r.z=some (r.c,r.e,r.p)
 e':r.run=false->r.c= .tuple []/\r.e=⟨[],[]⟩
 M:r.pu=false->∀i∈X3 (Q4 s.mem) (V5 s.fr) r.o.op,i∈r.M/\∀y,Q4 s.mem i=some y->∀j∈y.ids,j∈r.M
 nk:r.nk=true->(∀t,(X4 s.fr t).has (Z5 r.e.q)=false)/\∀i y,Q4 s.mem i=some y->y.kill (Z5 r.e.q)=y
 an:r.pu=false->r.an=false->(∀x∈r.o.op.operands,Nw (V5 s.fr x)=false)/\∀i∈X3 (Q4 s.mem) (V5 s.fr) r.o.op,∀x,Q4 s.mem i=some x->E9 x=false
 ld:∀o,r.ld=some o->r.run=true/\Zo r.c=true/\∃a off,QA r.o.op=some a/\V5 s.fr a= .ptr o off
 st:∀o,r.st=some o->r.run=true/\r.z=false/\VO r.e=true/\∃t a v off,r.o.op= .store t a v/\V5 s.fr a= .ptr o off
def Zz(s:AS)(r:Rc):AS:=s.after r.o.dst r.c r.e
def Trace:List Rc->AS->Prop
 |[],_=>True
 |r::l,s=>Yw P ops s r/\Trace l (Zz s r)
def FN:List Rc->AS->AS
 |[],s=>s
 |r::l,s=>FN l (Zz s r)
end
structure KH (s t:AS):Prop where
 n:s.n=t.n
 f:∀i,X4 s.fr i=X4 t.fr i
 m:∀i,Q4 s.mem i=Q4 t.mem i
theorem KH.refl(s:AS):KH s s:=⟨rfl,λ_=>rfl,λ_=>rfl⟩
theorem KH.symm{s t:AS}(h:KH s t):KH t s:=⟨h.n.symm,λi=>(h.f i).symm,λi=>(h.m i).symm⟩
theorem KH.trans{s t u:AS}(h:KH s t)(k:KH t u):KH s u:=⟨h.n.trans k.n,λi=>(h.f i).trans (k.f i),λi=>(h.m i).trans (k.m i)⟩
theorem KH.st{C:Cx}{s t:AS}(h:KH s t){a:Act}{w:World}(g:St C s a w):St C t a w:=
 g.weak h.n.symm (λi=>.inr (h.f i).symm) (λo x j=>by rw[h.m];exact j)
theorem KH.V5{s t:AS}(h:KH s t):V5 s.fr=V5 t.fr:=by
 funext x;cases x<;> first|rfl|exact h.f _
theorem KH.Zw1{s t:AS}(h:KH s t):Q4 s.mem=Q4 t.mem:=funext h.m
theorem KH.next{s t:AS}(h:KH s t)(r:Rc):KH (Zz s r) (Zz t r):=by
 refine⟨h.n,λi=>?_,λi=>?_⟩
 ·simp only[Zz,AS.Y9,h.f]
 ·simp only[Zz,AS.V7,h.Zw1]
theorem Yw.eqv{P:Program}{ops:Array Oper}{s t:AS}{r:Rc}(h:Yw P ops s r)(k:KH s t):Yw P ops t r:=by
 refine⟨by have:=h.d;unfold Pv at this⊢;rw[<-k.n];exact this,?_,λhr=>by rw[<-k.V5,<-k.Zw1];exact h.e hr,h.e',?_,λhr=>?_,λhp hr=>by rw[<-k.V5,<-k.Zw1];exact h.an hp hr,λo j=>by rw[<-k.V5];exact h.ld o j,λo j=>by rw[<-k.V5];exact h.st o j⟩
 ·have:=h.g;unfold Uw at this⊢;simp only[<-k.f];exact this
 ·rw[<-k.V5,<-k.Zw1];exact h.M
 ·obtain⟨l,C⟩:=h.nk hr;exact⟨λi=>by rw[<-k.f];exact l i,λi y I=>C i y (by rw[k.m];exact I)⟩
theorem Trace.eqv{P:Program}{ops:Array Oper}:∀(l:List Rc) {s t:AS},Trace P ops l s->KH s t->Trace P ops l t/\KH (FN l s) (FN l t)
 |[],s,t,_,k=>⟨trivial,k⟩
 |r::l,s,t,h,k=>by
  obtain⟨f,g⟩:=Trace.eqv l h.2 (k.next r);exact⟨⟨h.1.eqv k,f⟩,g⟩
def Rc.W(r:Rc):List Nat:=r.e.q++r.e.ws.map (·.1)
def TC:List (Nat×Option Q9)->List Nat
 |[]=>[]
 |(_,none)::r=>TC r
 |(_,some x)::r=>x.ids++TC r
def Rc.R(r:Rc):List Nat:=r.c.ids++TC r.e.ws
def CR(a b:List Nat):Bool:=a.all λi=>!(b.contains i)
def RB(ops:Array Oper)(x y:Rc):Bool:=
 Oper.apart ops x.o y.o && (CR x.W y.W && (CR x.e.q y.R && (CR y.e.q x.R && ((x.pu||CR y.W x.M) && (y.pu||(match y.st with
  |some o=>!(x.W.contains o)
  |none=>match y.ld with
   |some o=>!(x.W.contains o)
   |none=>CR x.W y.M && (x.nk||x.e.q.isEmpty|| !y.an)))))))
theorem ZE{a b:List Nat}(h:CR a b=true):∀i∈a,i ∉ b:=by
 intro i f g;unfold CR at h;rw[List.all_eq_true]at h;have:=h i f;simp[g]at this
theorem I5{l:List Nat}{q:List Nat}(h:∀i∈q,i ∉ l):l.any (Z5 q)=false:=by
 rw[<-Bool.not_eq_true,List.any_eq_true];rintro⟨i,f,g⟩;exact h i (Dw.1 g) f
theorem Dj{q:Nat->Bool}{c:AV}(h:Nw (c.kill q)=false):c.kill q=c:=by
 unfold AV.kill at h⊢;split
 ·rename_i f;rw[if_pos f]at h;cases h
 ·rfl
theorem Eo{q:Nat->Bool}{x:Q9}(h:E9 (x.kill q)=false):x.kill q=x:=by
 cases x with
 |arr e sz rows=>rfl
 |map i j n f=>rfl
 |raw r=>rfl
 |blk t cs=>
  simp only[Q9.kill,E9,List.any_map,List.any_eq_false,Function.comp]at h⊢;congr 1;refine(List.map_congr_left λc g=>?_).trans (List.map_id _);exact Dj (by simpa using h c g)
theorem UX{l:List (Nat×Option Q9)}{i:Nat}{x:Q9}(h:Q4 l i=some x):∀j∈x.ids,j∈TC l:=by
 induction l with
 |nil=>cases h
 |cons y r g=>
  obtain⟨u,c⟩:=y;simp only[Q4]at h;intro j f;split at h
  ·subst h;simp only[TC];exact List.mem_append_left _ f
  ·cases c with
   |none=>exact g h j f
   |some z=>exact List.mem_append_right _ (g h j f)
theorem QU{ops:Array Oper}{s t:AS}{o:Oper}{b:Bool}(h:Uw ops s o=some b)(i:∀u,(match o.guard with|some (g,_)=>(ops[g]?).bind (·.dst)|none=>none)=some u->∀c,(c= .tuple []\/∃b,c= .d (.bool b))->X4 s.fr u=c->X4 t.fr u=c):Uw ops t o=some b:=by
 unfold Uw at h⊢;split
 ·rename_i l;rw[l]at h;exact h
 ·rename_i j C l;rw[l]at h i;dsimp only at h i;split
  ·rename_i u f;rw[f]at h;dsimp only at h;split at h
   ·rename_i I r;rw[i u f _ (.inr ⟨_,rfl⟩) r];exact h
   ·rename_i r;rw[i u f _ (.inl rfl) r];exact h
   ·cases h
  ·rename_i f;rw[f]at h;cases h
theorem Yw.Xg0{P:Program}{ops:Array Oper}{s:AS}{x y:Rc}(hx:Yw P ops s x)(T:Yw P ops (Zz s x) y)(ap:Oper.apart ops x.o y.o=true)(a6:∀i∈x.W,i ∉ y.M)(U:(x.nk||x.e.q.isEmpty|| !y.an)=true)(C:y.pu=false)(a7:y.ld=none)(a8:y.st=none):
  Yw P ops s { y with nk:=false }:=by
 obtain⟨a4,b3,b4⟩:=Oper.apart_spec ap;have uW:∀r:Rc,∀i,Kz r.e.ws i=true->i∈r.W:=λr i h=>List.mem_append_right _ (Zu.1 h)
 -- y's view ahead of x
 have fy:∀z∈y.o.op.operands,V5 (Zz s x).fr z=V5 s.fr z:=λz hz=>by
  cases z with
  |tmp t=>
   have a1:x.o.dst≠some t:=λe=>a4 t e (List.mem_append_left _ (List.mem_filterMap.2 ⟨.tmp t,by simpa using hz,rfl⟩))
   simp only[V5,Zz,AS.Y9,if_neg a1];simp only[Bool.or_eq_true,List.isEmpty_iff,Bool.not_eq_true']at U;rcases U with(h|h)|h2
   ·exact AV.N7 ((hx.nk h).1 t)
   ·rw[h];exact AV.N7 (AV.Gq (λ_=>rfl) _)
   ·have:=(T.an C h2).1 _ hz;simp only[V5,Zz,AS.Y9,if_neg a1]at this;exact Dj this
  |_=>rfl
 have a2:∀i∈X3 (Q4 (Zz s x).mem) (V5 (Zz s x).fr) y.o.op,Q4 (Zz s x).mem i=Q4 s.mem i:=λi a5=>by
  have a9:=(T.M C i a5).1;have hU:Kz x.e.ws i=false:=by rw[<-Bool.not_eq_true];intro h;exact a6 i (uW x i h) a9
  simp only[Bool.or_eq_true,List.isEmpty_iff,Bool.not_eq_true']at U;have I:Q4 (Zz s x).mem i=(Q4 s.mem i).map (Q9.kill (Z5 x.e.q)):=by
   simp only[Zz,AS.V7,J7,hU];cases hm:Q4 s.mem i<;> rfl
  rw[I];cases hm:Q4 s.mem i with
  |none=>rfl
  |some v=>
   rw[hm]at I;simp only[Option.map_some,Option.some.injEq];rcases U with(h|h)|h2
   ·exact(hx.nk h).2 i v hm
   ·rw[h];exact Q9.QS (λ_=>rfl) v
   ·exact Eo ((T.an C h2).2 i a5 _ I)
 have a3:Uj (V5 (Zz s x).fr) y.o.op.operands.toList=Uj (V5 s.fr) y.o.op.operands.toList:=Uc _ λz hz=>fy z (by simpa using hz)
 have l:X3 (Q4 s.mem) (V5 s.fr) y.o.op=X3 (Q4 (Zz s x).mem) (V5 (Zz s x).fr) y.o.op:=by
  have o1:K7 (Q4 s.mem) (Uj (V5 s.fr) y.o.op.operands.toList)=K7 (Q4 (Zz s x).mem) (Uj (V5 s.fr) y.o.op.operands.toList):=QI _ λi J=>(a2 i (by
   refine List.mem_append_left _ (List.mem_append_left _ ?_);rw[a3];exact J)).symm
  unfold X3;rw[a3,o1];congr 1;refine QI _ λi J=>(a2 i ?_).symm
  refine List.mem_append_left _ (List.mem_append_right _ ?_);rw[a3];exact J
 have my:∀i∈X3 (Q4 s.mem) (V5 s.fr) y.o.op,Q4 (Zz s x).mem i=Q4 s.mem i:=λi J=>a2 i (by rw[<-l];exact J)
 have b0:Yw P ops s { y with nk:=false }:=by
  refine⟨T.d,QU T.g λu hu b b1 hb=>?_,λhr=>?_,T.e',λ_ i J=>?_,(λhr=>by cases hr),λ_ hr=>⟨λz hz=>by rw[<-fy z hz];exact(T.an C hr).1 z hz,λi J v hv=>(T.an C hr).2 i (by rw[<-l];exact J) v (by rw[my i J];exact hv)⟩,(λo ho=>by rw[show({ y with nk:=false }:Rc).ld=y.ld from rfl,a7]at ho;cases ho),(λo ho=>by rw[show({ y with nk:=false }:Rc).st=y.st from rfl,a8]at ho;cases ho)⟩
  ·have a1:x.o.dst≠some u:=λe=>a4 u e (List.mem_append_right _ (by
    cases hg:y.o.guard with
    |none=>rw[hg]at hu;cases hu
    |some gg=>obtain⟨g1,g2⟩:=gg;rw[hg]at hu;simpa using hu))
   simp only[Zz,AS.Y9,if_neg a1]at hb;have:Nw ((X4 s.fr u).kill (Z5 x.e.q))=false:=by rw[hb];rcases b1 with rfl|⟨b,rfl⟩<;> rfl
   rw[Dj this]at hb;exact hb
  ·have b2:=NA (P:=P) (m:=Q4 s.mem) (m1:=Q4 (Zz s x).mem) (f:=V5 s.fr) (f1:=V5 (Zz s x).fr) (o:=y.o) y.h y.z fy my;rw[<-b2];exact T.e hr
  ·have h:=T.M C i (by rw[<-l];exact J);exact⟨h.1,λv hv j hj=>h.2 v (by rw[my i J];exact hv) j hj⟩
 exact b0
theorem Yw.Xg2{P:Program}{ops:Array Oper}{s:AS}{x y:Rc}(I:Yw P ops s x)(ap:Oper.apart ops x.o y.o=true)(a3:∀i∈x.e.q,i ∉ y.R)(J:∀i∈y.W,i ∉ x.M)(T:x.pu=false):
  Yw P ops (Zz s y) x:=by
 obtain⟨b1,b2,a4⟩:=Oper.apart_spec ap;have qW:∀r:Rc,∀i∈r.e.q,i∈r.W:=λr i h=>List.mem_append_left _ h
 have uW:∀r:Rc,∀i,Kz r.e.ws i=true->i∈r.W:=λr i h=>List.mem_append_right _ (Zu.1 h)
 -- x's view behind y
 have kq:∀c:AV,(∀i∈c.ids,i∈x.M)->c.kill (Z5 y.e.q)=c:=λc hc=>AV.N7 (by
  rw[AV.Ak];exact I5 λi l h=>J i (qW y i l) (hc i h))
 have fx:∀z∈x.o.op.operands,V5 (Zz s y).fr z=V5 s.fr z:=λz hz=>by
  cases z with
  |tmp t=>
   have a1:y.o.dst≠some t:=λe=>a4 t e (List.mem_append_left _ (List.mem_filterMap.2 ⟨.tmp t,by simpa using hz,rfl⟩))
   simp only[V5,Zz,AS.Y9,if_neg a1];exact kq _ λi l=>(I.M T i (List.mem_append_left _<|List.mem_append_left _ (Hl _ (.tmp t) (by simpa using hz) i l))).1
  |_=>rfl
 have mx:∀i∈X3 (Q4 s.mem) (V5 s.fr) x.o.op,Q4 (Zz s y).mem i=Q4 s.mem i:=λi l=>by
  obtain⟨a5,a6⟩:=I.M T i l;have hU:Kz y.e.ws i=false:=by rw[<-Bool.not_eq_true];intro h;exact J i (uW y i h) a5
  simp only[Zz,AS.V7,J7,hU];cases hm:Q4 s.mem i with
  |none=>rfl
  |some v=>
   simp only[Bool.false_eq_true,if_false,Option.map_some,Option.some.injEq];exact Q9.N7 (I5 λj hj h=>J j (qW y j hj) (a6 v hm j h))
 have C:X3 (Q4 (Zz s y).mem) (V5 (Zz s y).fr) x.o.op=X3 (Q4 s.mem) (V5 s.fr) x.o.op:=Kn fx λi l=>mx i (List.mem_append_left _ l)
 have a7:Yw P ops (Zz s y) x:=by
  refine⟨I.d,QU I.g λu hu b a8 hb=>?_,λhr=>?_,I.e',λ_ i l=>?_,λhr=>⟨λt=>?_,λi v U=>?_⟩,λ_ hr=>⟨λz hz=>by rw[fx z hz];exact(I.an T hr).1 z hz,λi l v U=>(I.an T hr).2 i (by rw[<-C];exact l) v (by rw[<-mx i (by rw[<-C];exact l)];exact U)⟩,λo ho=>by
   obtain⟨l1,l2,a,a2,l3,l4⟩:=I.ld o ho;exact⟨l1,l2,a,a2,l3,by rw[fx a (YX l3)];exact l4⟩,λo ho=>by
   obtain⟨l1,l2,l5,t',a,v,a2,l3,l4⟩:=I.st o ho;exact⟨l1,l2,l5,t',a,v,a2,l3,by rw[fx a (by rw[l3];simp[Op.operands])];exact l4⟩⟩
  ·have a1:y.o.dst≠some u:=λe=>a4 u e (List.mem_append_right _ (by
    cases hg:x.o.guard with
    |none=>rw[hg]at hu;cases hu
    |some gg=>obtain⟨g1,g2⟩:=gg;rw[hg]at hu;simpa using hu))
   simp only[Zz,AS.Y9,if_neg a1,hb];rcases a8 with rfl|⟨b,rfl⟩<;> rfl
  ·have a9:=NA (P:=P) (m:=Q4 s.mem) (m1:=Q4 (Zz s y).mem) (f:=V5 s.fr) (f1:=V5 (Zz s y).fr) (o:=x.o) x.h x.z fx mx;rw[a9];exact I.e hr
  ·rw[C]at l;have h:=I.M T i l;exact⟨h.1,λv U j hj=>h.2 v (by rw[<-mx i l];exact U) j hj⟩
  ·obtain⟨h1,h2⟩:=I.nk hr;simp only[Zz,AS.Y9];split
   ·rw[AV.Ak];exact I5 λi l h=>a3 i l (List.mem_append_left _ h)
   ·unfold AV.kill;split
    ·rfl
    ·exact h1 t
  ·obtain⟨h1,h2⟩:=I.nk hr;simp only[Zz,AS.V7,J7]at U;split at U
   ·exact Q9.N7 (I5 λj hj h=>a3 j hj (List.mem_append_right _ (UX U j h)))
   ·obtain⟨v',b0,rfl⟩:=Option.map_eq_some_iff.1 U;rw[Q9.XJ,h2 i v' b0]
 exact a7
theorem KH.swap{ops:Array Oper}{s:AS}{x y:Rc}(ap:Oper.apart ops x.o y.o=true)(I:∀i∈x.W,i ∉ y.W)(C:∀i∈x.e.q,i ∉ y.R)(l:∀i∈y.e.q,i ∉ x.R):
  KH (Zz (Zz s x) y) (Zz (Zz s y) x):=by
 obtain⟨a1,J,a2⟩:=Oper.apart_spec ap;have U:∀r:Rc,∀i,Kz r.e.ws i=true->i∈r.W:=λr i h=>List.mem_append_right _ (Zu.1 h)
 refine⟨rfl,λt=>?_,λi=>?_⟩
 ·simp only[Zz,AS.Y9];by_cases g:y.o.dst=some t
  ·have f:x.o.dst≠some t:=λe=>J t e g
   rw[if_pos g,if_neg f,if_pos g];exact(AV.N7 (by rw[AV.Ak];exact I5 λi P h=>C i P (List.mem_append_left _ h))).symm
  ·rw[if_neg g,if_neg g];by_cases f:x.o.dst=some t
   ·rw[if_pos f,if_pos f];exact AV.N7 (by rw[AV.Ak];exact I5 λi P h=>l i P (List.mem_append_left _ h))
   ·rw[if_neg f,if_neg f];exact AV.XJ _ _ _
 ·simp only[Zz,AS.V7,J7];by_cases g:Kz y.e.ws i=true
  ·have f:Kz x.e.ws i=false:=by rw[<-Bool.not_eq_true];intro h;exact I i (U x i h) (U y i g)
   rw[if_pos g,f,if_pos g];simp only[Bool.false_eq_true,if_false];cases hm:Q4 y.e.ws i with
   |none=>rfl
   |some v=>simp only[Option.map_some,Q9.N7 (I5 λj T h=>C j T (List.mem_append_right _ (UX hm j h)))]
  ·rw[Bool.not_eq_true]at g;rw[g];simp only[Bool.false_eq_true,if_false];by_cases f:Kz x.e.ws i=true
   ·rw[if_pos f,if_pos f];cases hm:Q4 x.e.ws i with
    |none=>rfl
    |some v=>simp only[Option.map_some,Q9.N7 (I5 λj T h=>l j T (List.mem_append_right _ (UX hm j h)))]
   ·rw[if_neg f,if_neg f];simp only[Option.map_map];congr 1;funext v;exact Q9.XJ _ _ _
theorem TI(m:Me)(f:Operand->AV)(l:Op):∀i∈X3 m f l,i∈X3 m f l++K7 m (X3 m f l)/\∀y,m i=some y->∀j∈y.ids,j∈X3 m f l++K7 m (X3 m f l):=λi g=>by
 have C:∀(o:List Nat),∀i∈o,∀y,m i=some y->∀j∈y.ids,j∈K7 m o:=λo=>by
  induction o with
  |nil=>intro i g;cases g
  |cons k J I=>
   intro i g y r j t;simp only[K7];rcases List.mem_cons.1 g with rfl|g
   ·rw[r];exact List.mem_append_left _ t
   ·exact List.mem_append_right _ (I i g y r j t)
 exact⟨List.mem_append_left _ g,λy r j t=>List.mem_append_right _ (C _ i g y r j t)⟩
def Eg(P:Program)(t:TypeId)(rd:Nat->Option (List AV)):Option (AV×Eff×Prop):=match Vw P t with
 |some (b,n)=>match rd n with
  |some cs=>match Lx b cs with
   |some c=>some (c,⟨[],[]⟩,True)
   |none=>none
  |none=>none
 |none=>none
theorem LX{P:Program}{m:Me}{f:Operand->AV}{o:Oper}{h:Option Hint}{z:Bool}{t:TypeId}{a:Operand}(g:o.op= .load t a):
  Wv P m f o h z=if z then none else Eg P t (Kk m (f a)):=by
 have i:Vk P m f o h=Eg P t (Kk m (f a)):=by
  unfold Vk Eg;rw[g];simp only[Vj,Y4];cases h1:Vw P t with
  |none=>simp[U6,Rw,V8,g]
  |some j=>
   obtain⟨b,n⟩:=j;dsimp only;cases h2:Kk m (f a) n with
   |none=>simp[U6,Rw,V8,g]
   |some cs=>
    dsimp only;cases h3:Lx b cs with
    |none=>simp[U6,Rw,V8,g]
    |some c=>rfl
 unfold Wv;rw[i];split
 ·rw[g];simp only[H6];unfold Eg;repeat' split
  all_goals first|rfl|simp_all [Xo]
 ·rfl
theorem Cf{q:Nat->Bool}{b:Bool}{l:List AV}{c:AV}(h:Lx b (l.map (AV.kill q))=some c)(f:Zo c=true):l.map (AV.kill q)=l:=by
 unfold Lx at h;split at h
 ·cases h;simp only[Zo,List.all_eq_true,Bool.not_eq_true']at f;refine(List.map_congr_left λc g=>?_).trans (List.map_id _);exact Dj (f _ (List.mem_map.2 ⟨c,g,rfl⟩))
 ·rcases l with _|⟨i,_|⟨j,l⟩⟩
  ·cases h
  ·simp only[List.map_cons,List.map_nil,Option.some.injEq]at h;subst h;simp only[List.map_cons,List.map_nil];rw[Dj];cases hk:i.kill q<;> rw[hk]at f<;> first|rfl|cases f
  ·cases h
theorem Qk7{P:Program}{m m1:Me}{f f1:Operand->AV}{o:Oper}{h:Option Hint}{z:Bool}{a:Operand}{r C:Nat}{q:Nat->Bool}{c:AV}{e:Eff}{p:Prop}
  (i:QA o.op=some a) (I:f a= .ptr r C) (l:f1 a= .ptr r C) (T:m1 r=(m r).map (Q9.kill q)) (g:Wv P m1 f1 o h z=some (c,e,p)) (hc:Zo c=true):
  Wv P m f o h z=some (c,e,p)/\e=⟨[],[]⟩:=by
 have zn:∀{v:AV} {p:Prop},Xo (some (v,⟨[],[]⟩,p))=none:=rfl;unfold QA at i;split at i
 ·rename_i t J j;cases i;rw[LX j]at g⊢;cases hz:z with
  |true=>rw[hz]at g;cases g
  |false=>
  rw[hz]at g;simp only[Bool.false_eq_true,if_false]at g⊢;rw[l]at g;rw[I];unfold Eg at g⊢;cases h1:Vw P t with
  |none=>rw[h1]at g;cases g
  |some U=>
   obtain⟨b,n⟩:=U;rw[h1]at g;dsimp only at g⊢;cases h2:Kk m1 (.ptr r C) n with
   |none=>rw[h2]at g;cases g
   |some cs=>
    rw[h2]at g;dsimp only at g;cases h3:Lx b cs with
    |none=>rw[h3]at g;cases g
    |some c'=>
     rw[h3]at g;simp only[Option.some.injEq,Prod.mk.injEq]at g;obtain⟨rfl,rfl,rfl⟩:=g;have:Kk m (.ptr r C) n=some cs:=by
      simp only[Kk]at h2⊢;rw[T]at h2;cases hmm:m r with
      |none=>rw[hmm]at h2;cases h2
      |some v=>
       rw[hmm]at h2;cases v with
       |blk tt cl=>
        simp only[Option.map_some,Q9.kill,List.length_map]at h2;dsimp only;split at h2
        ·rename_i hl;rw[if_pos hl];simp only[Option.some.injEq]at h2;rw[<-h2,<-List.map_drop,<-List.map_take]at h3;rw[<-h2,<-List.map_drop,<-List.map_take,Cf h3 hc]
        ·cases h2
       |_=>cases h2
     rw[this];dsimp only;rw[h3];exact⟨rfl,rfl⟩
 ·rename_i J j;cases i;simp only[Wv,Vk,j,Vj,Y4,H6,zn,I,l]at g⊢;cases z
  ·simp only[Bool.false_eq_true,if_false,Option.some.injEq,Prod.mk.injEq]at g⊢;exact⟨g,g.2.1.symm⟩
  ·cases g
 ·rename_i J j;cases i;simp only[Wv,Vk,j,Vj,Y4,H6,zn,I,l]at g⊢;cases z
  ·simp only[Bool.false_eq_true,if_false,Option.some.injEq,Prod.mk.injEq]at g⊢;exact⟨g,g.2.1.symm⟩
  ·cases g
 ·rename_i J j;cases i;simp only[Wv,Vk,j,Vj,Y4,U6,H6,I,l,T]at g⊢;cases hmm:m r with
  |none=>rw[hmm]at g;cases z<;> simp[Rw,V8,j,Xo]at g
  |some v=>
   rw[hmm]at g;cases z
   ·simp only[Option.map_some,Bool.false_eq_true,if_false,Option.some.injEq,Prod.mk.injEq]at g⊢;exact⟨g,g.2.1.symm⟩
   ·cases g
 ·rename_i t J k j;cases i;simp only[Wv,Vk,j,Vj,Y4,H6,Gz,I,l,T]at g⊢;cases h1:Zk P t k with
  |none=>rw[h1]at g;cases z<;> simp[U6,Rw,V8,j,Xo]at g
  |some U=>
   obtain⟨b,n⟩:=U;rw[h1]at g;cases hmm:m r with
   |none=>rw[hmm]at g;cases z<;> simp[U6,Rw,V8,j,Xo]at g
   |some v=>
    rw[hmm]at g;cases v with
    |blk tt cl=>
     cases z
     ·simp only[Option.map_some,Q9.kill,Bool.false_eq_true,if_false,Option.some.injEq,Prod.mk.injEq]at g⊢;exact⟨g,g.2.1.symm⟩
     ·cases g
    |_=>cases z<;> simp[Q9.kill,U6,Rw,V8,j,Xo]at g
 ·cases i
theorem Hu{P:Program}{o:Oper}{a:Operand}(g:o.op= .move a\/o.op= .assign a)(m:Me)(f:Operand->AV)(h:Option Hint)(z:Bool):Wv P m f o h z=if z then none else some (f a,⟨[],[]⟩,True):=by
 rcases g with g|g<;> (unfold Wv Vk;rw[g];cases z<;> rfl)
theorem Rc.BM{P:Program}{ops:Array Oper}{s:AS}{r:Rc}(h:Yw P ops s r)(hp:r.pu=true):∃a,r.o.op.operands= #[a]/\(r.o.op= .move a\/r.o.op= .assign a)/\r.z=false/\r.run=true/\r.c=V5 s.fr a/\Nw r.c=false/\r.e=⟨[],[]⟩/\r.p=True:=by
 unfold Rc.pu at hp;simp only[Bool.and_eq_true,Bool.not_eq_true']at hp;obtain⟨⟨j,g⟩,l⟩:=hp;obtain⟨a,t,i⟩:=IG j;have f:=h.e g;rw[Hu i]at f;cases hz:r.z with
 |true=>rw[hz]at f;cases f
 |false=>
  rw[hz]at f;simp only[Bool.false_eq_true,if_false,Option.some.injEq,Prod.mk.injEq]at f;exact⟨a,t,i,rfl,g,f.1.symm,l,f.2.1.symm,f.2.2.symm⟩
theorem Yw.Xw8{P:Program}{ops:Array Oper}{s:AS}{x y:Rc}(j:Yw P ops (Zz s x) y)(ap:Oper.apart ops x.o y.o=true)(l:y.pu=true):Yw P ops s { y with nk:=false }:=by
 obtain⟨r,a2,a3⟩:=Oper.apart_spec ap;obtain⟨a,h1,t,h3,h4,h5,U,h7,h8⟩:=Rc.BM j l;have fa:V5 s.fr a=V5 (Zz s x).fr a:=by
  cases a with
  |tmp u=>
   have i:x.o.dst≠some u:=λe=>r u e (List.mem_append_left _ (List.mem_filterMap.2 ⟨.tmp u,by rw[h1];simp,rfl⟩))
   rw[h5]at U;simp only[V5,Zz,AS.Y9,if_neg i]at U⊢;exact(Dj U).symm
  |_=>rfl
 have f:({ y with nk:=false }:Rc).pu=true:=l;refine⟨j.d,QU j.g λu J b a1 T=>?_,λ_=>?_,j.e',(λh=>by rw[f]at h;cases h),(λh=>by cases h),(λh=>by rw[f]at h;cases h),λo ho=>?_,λo ho=>by
  obtain⟨_,_,_,t',a',v',C,I,_⟩:=j.st o ho;rcases t with t|t<;> rw[t]at I<;> cases I⟩
 ·have i:x.o.dst≠some u:=λe=>r u e (List.mem_append_right _ (by
   cases hg:y.o.guard with
   |none=>rw[hg]at J;cases J
   |some gg=>obtain⟨g1,g2⟩:=gg;rw[hg]at J;simpa using J))
  simp only[Zz,AS.Y9,if_neg i]at T;have:Nw ((X4 s.fr u).kill (Z5 x.e.q))=false:=by rw[T];rcases a1 with rfl|⟨b,rfl⟩<;> rfl
  rw[Dj this]at T;exact T
 ·show Wv P (Q4 s.mem) (V5 s.fr) y.o y.h y.z=some (y.c,y.e,y.p);rw[Hu t,h3,h5,h7,h8,fa];rfl
 ·obtain⟨l1,l2,a',C,I,l4⟩:=j.ld o ho;have:a'=a:=by
   have:=YX I;rw[h1]at this;simpa using this
  subst this;exact⟨l1,l2,a',C,I,by rw[fa];exact l4⟩
theorem Yw.Xg1{P:Program}{ops:Array Oper}{s:AS}{x y:Rc}(l:Yw P ops s x)(ap:Oper.apart ops x.o y.o=true)(r:∀i∈y.e.q,i ∉ x.R)(f:x.pu=true):Yw P ops (Zz s y) x:=by
 obtain⟨a2,a3,C⟩:=Oper.apart_spec ap;obtain⟨a,h1,I,h3,h4,h5,h6,h7,h8⟩:=Rc.BM l f;have fa:V5 (Zz s y).fr a=V5 s.fr a:=by
  cases a with
  |tmp u=>
   have j:y.o.dst≠some u:=λe=>C u e (List.mem_append_left _ (List.mem_filterMap.2 ⟨.tmp u,by rw[h1];simp,rfl⟩))
   simp only[V5,Zz,AS.Y9,if_neg j];refine AV.N7 ?_;rw[AV.Ak];refine I5 λi hi h=>r i hi (List.mem_append_left _ ?_)
   rw[h5];exact h
  |_=>rfl
 refine⟨l.d,QU l.g λu U b a1 hb=>?_,λ_=>?_,l.e',(λh=>by rw[f]at h;cases h),λ_=>?_,(λh=>by rw[f]at h;cases h),λo ho=>?_,λo ho=>by
  obtain⟨_,_,_,t',a',v',J,T,_⟩:=l.st o ho;rcases I with I|I<;> rw[I]at T<;> cases T⟩
 ·have j:y.o.dst≠some u:=λe=>C u e (List.mem_append_right _ (by
   cases hg:x.o.guard with
   |none=>rw[hg]at U;cases U
   |some gg=>obtain⟨g1,g2⟩:=gg;rw[hg]at U;simpa using U))
  simp only[Zz,AS.Y9,if_neg j,hb];rcases a1 with rfl|⟨b,rfl⟩<;> rfl
 ·rw[Hu I,h3,h5,h7,h8,fa];rfl
 ·rw[h7];exact⟨λt=>AV.Gq (λ_=>rfl) _,λi y _=>Q9.QS (λ_=>rfl) y⟩
 ·obtain⟨l1,l2,a',J,T,l4⟩:=l.ld o ho;have:a'=a:=by
   have:=YX T;rw[h1]at this;simpa using this
  subst this;exact⟨l1,l2,a',J,T,by rw[fa];exact l4⟩
theorem Yw.Xw9{P:Program}{ops:Array Oper}{s:AS}{x y:Rc}(t:Yw P ops (Zz s x) y)(ap:Oper.apart ops x.o y.o=true){o:Nat}(C:y.ld=some o)(a3:y.st=none)(I:(x.W.contains o)=false):
  ∃M,Yw P ops s { y with M:=M,nk:=false,an:=true }:=by
 obtain⟨J,a8,a9⟩:=Oper.apart_spec ap;obtain⟨lr,lc,a,T,lo,l⟩:=t.ld o C;have U:o ∉ x.W:=λh=>by rw[List.contains_iff_mem.2 h]at I;cases I
 have a1:V5 s.fr a= .ptr o T:=by
  cases a with
  |tmp u=>
   have f:x.o.dst≠some u:=λe=>J u e (List.mem_append_left _ (List.mem_filterMap.2 ⟨.tmp u,by simpa using YX lo,rfl⟩))
   simp only[V5,Zz,AS.Y9,if_neg f]at l⊢;have:=Dj (q:=Z5 x.e.q) (c:=X4 s.fr u) (by rw[l];rfl);rw[this]at l;exact l
  |_=>exact l
 have uW:∀r:Rc,∀i,Kz r.e.ws i=true->i∈r.W:=λr i h=>List.mem_append_right _ (Zu.1 h)
 have hU:Kz x.e.ws o=false:=by rw[<-Bool.not_eq_true];intro h;exact U (uW x o h)
 have a2:Q4 (Zz s x).mem o=(Q4 s.mem o).map (Q9.kill (Z5 x.e.q)):=by
  simp only[Zz,AS.V7,J7,hU];cases hm:Q4 s.mem o<;> rfl
 obtain⟨a4,a7⟩:=Qk7 lo a1 l a2 (t.e lr) lc;have a5:∃M,Yw P ops s { y with M:=M,nk:=false,an:=true }:=by
  refine⟨X3 (Q4 s.mem) (V5 s.fr) y.o.op++K7 (Q4 s.mem) (X3 (Q4 s.mem) (V5 s.fr) y.o.op),t.d,QU t.g λu hu b a6 hb=>?_,λ_=>a4,t.e',(λ_=>TI _ _ _),(λh=>by cases h),(λ_ h=>by cases h),λo' j=>?_,(λo' j=>by have h9:y.st=some o':=j;rw[a3]at h9;cases h9)⟩
  ·have f:x.o.dst≠some u:=λe=>J u e (List.mem_append_right _ (by
    cases hg:y.o.guard with
    |none=>rw[hg]at hu;cases hu
    |some gg=>obtain⟨g1,g2⟩:=gg;rw[hg]at hu;simpa using hu))
   simp only[Zz,AS.Y9,if_neg f]at hb;have:Nw ((X4 s.fr u).kill (Z5 x.e.q))=false:=by rw[hb];rcases a6 with rfl|⟨b,rfl⟩<;> rfl
   rw[Dj this]at hb;exact hb
  ·have:y.ld=some o':=j;rw[C]at this;cases this;exact⟨lr,lc,a,T,lo,a1⟩
 exact a5
def GK(P:Program)(t:TypeId)(f:Option (List AV))(wr:List AV->Option (Nat×Q9)):Option (AV×Eff×Prop):=match Vw P t,f with
 |some (_,n),some cs=>if cs.length=n then (match wr cs with
  |some (o,g)=>some (.any,⟨[],[(o,some g)]⟩,True)
  |none=>none)else none
 |_,_=>none
theorem Po{P:Program}{m:Me}{f:Operand->AV}{o:Oper}{h:Option Hint}{t:TypeId}{a v:Operand}(g:o.op= .store t a v):
  Vk P m f o h=GK P t (f v).cells (V9 m (f a)):=by
 unfold Vk GK;rw[g];simp only[Vj];cases h1:Vw P t with
 |none=>simp[U6,Rw,V8,g]
 |some j=>
  obtain⟨b,n⟩:=j;cases h2:(f v).cells with
  |none=>simp[U6,Rw,V8,g]
  |some cs=>
   dsimp only;by_cases i:cs.length=n
   ·rw[if_pos i];cases h4:V9 m (f a) cs with
    |none=>simp[U6,Rw,V8,g]
    |some l=>rfl
   ·rw[if_neg i];simp[U6,Rw,V8,g]
theorem Qw7{q:Nat->Bool}:∀{l:List AV},(∀c∈l,Nw (c.kill q)=false)->l.map (AV.kill q)=l:=λ{l} h=>
 (List.map_congr_left λc f=>Dj (h c f)).trans (List.map_id _)
theorem KS{q:Nat->Bool}:∀(f:List AV) (g:Nat) (cs:List AV),(∀c∈setAt (f.map (AV.kill q)) g cs,Nw c=false)->setAt (f.map (AV.kill q)) g cs=setAt f g cs
 |l,n,[],h=>by
  have e:∀l:List AV,setAt l n []=l:=λl=>by cases l<;> cases n<;> simp[setAt]
  rw[e]at h;rw[e,e];exact Qw7 λc i=>h _ (List.mem_map.2 ⟨c,i,rfl⟩)
 |[],_,_::_,_=>rfl
 |x::l,0,c::cs,h=>by
  rw[List.map_cons,setAt]at h;rw[List.map_cons,setAt,setAt,KS l 0 cs λc i=>h c (List.mem_cons_of_mem _ i)]
 |x::l,n+1,c::cs,h=>by
  rw[List.map_cons,setAt]at h;rw[List.map_cons,setAt,setAt,KS l n (c::cs) λc i=>h c (List.mem_cons_of_mem _ i),Dj (h _ (List.mem_cons_self ..))]
theorem Qk5{P:Program}{m m1:Me}{f f1:Operand->AV}{o:Oper}{h:Option Hint}{t:TypeId}{a v:Operand}{l i:Nat}{q:Nat->Bool}{c:AV}{e:Eff}{p:Prop}
  (lo:o.op= .store t a v) (ha:f a= .ptr l i) (I:f1 a= .ptr l i) (j:f1 v=(f v).kill q\/f1 v=f v) (hm:m1 l=(m l).map (Q9.kill q)) (g:Wv P m1 f1 o h false=some (c,e,p)) (T:VO e=true):
  Wv P m f o h false=some (c,e,p):=by
 have z0:∀m f,Wv P m f o h false=GK P t (f v).cells (V9 m (f a)):=λm f=>by
  show Vk P m f o h=_;exact Po lo
 rw[z0]at g⊢;have J:f1 v=f v:=by
  rcases j with j|j
  ·unfold AV.kill at j;split at j
   ·rw[j]at g;unfold GK at g;simp only[AV.cells]at g;split at g<;> simp_all
   ·exact j
  ·exact j
 rw[J,I]at g;rw[ha];unfold GK at g⊢;cases h1:Vw P t with
 |none=>rw[h1]at g;cases g
 |some bn=>
  obtain⟨b,n⟩:=bn;rw[h1]at g;cases h2:(f v).cells with
  |none=>rw[h2]at g;cases g
  |some cs=>
   rw[h2]at g;dsimp only at g⊢;by_cases U:cs.length=n
   ·rw[if_pos U]at g⊢;have:V9 m (.ptr l i) cs=V9 m1 (.ptr l i) cs:=by
     simp only[V9]at g⊢;rw[hm]at g⊢;cases hmm:m l with
     |none=>rfl
     |some y=>
      rw[hmm]at g;cases y with
      |blk tt r=>
       simp only[Option.map_some,Q9.kill,List.length_map]at g⊢;by_cases C:i+cs.length<=r.length
       ·rw[if_pos C]at g⊢;dsimp only at g;simp only[Option.some.injEq,Prod.mk.injEq]at g;obtain⟨_,rfl,_⟩:=g;simp only[VO,List.all_eq_true,Bool.not_eq_true']at T;have e1:=KS r i cs T;simp only[if_pos C];rw[e1]
       ·rw[if_neg C,if_neg C]
      |_=>rfl
    rw[this];exact g
   ·rw[if_neg U]at g;cases g
theorem Yw.Xw7{P:Program}{ops:Array Oper}{s:AS}{x y:Rc}(l:Yw P ops (Zz s x) y)(ap:Oper.apart ops x.o y.o=true){o:Nat}(C:y.st=some o)(I:(x.W.contains o)=false):
  ∃M,Yw P ops s { y with M:=M,nk:=false,an:=true }:=by
 obtain⟨J,a7,a8⟩:=Oper.apart_spec ap;obtain⟨lr,lz,ls,t,a,v,T,U,la⟩:=l.st o C;have a1:o ∉ x.W:=λh=>by rw[List.contains_iff_mem.2 h]at I;cases I
 have fk:∀z∈y.o.op.operands,V5 (Zz s x).fr z=(V5 s.fr z).kill (Z5 x.e.q)\/V5 (Zz s x).fr z=V5 s.fr z:=λz hz=>by
  cases z with
  |tmp u=>
   have f:x.o.dst≠some u:=λe=>J u e (List.mem_append_left _ (List.mem_filterMap.2 ⟨.tmp u,by simpa using hz,rfl⟩))
   left;simp only[V5,Zz,AS.Y9,if_neg f]
  |_=>exact .inr rfl
 have a2:V5 s.fr a= .ptr o T:=by
  rcases fk a (by rw[U];simp[Op.operands])with h|h
  ·rw[la]at h;have:=Dj (q:=Z5 x.e.q) (c:=V5 s.fr a) (by rw[<-h];rfl);rw[<-this,<-h]
  ·rw[<-h];exact la
 have uW:∀r:Rc,∀i,Kz r.e.ws i=true->i∈r.W:=λr i h=>List.mem_append_right _ (Zu.1 h)
 have hU:Kz x.e.ws o=false:=by rw[<-Bool.not_eq_true];intro h;exact a1 (uW x o h)
 have a3:Q4 (Zz s x).mem o=(Q4 s.mem o).map (Q9.kill (Z5 x.e.q)):=by
  simp only[Zz,AS.V7,J7,hU];cases hm:Q4 s.mem o<;> rfl
 have he:=l.e lr;rw[lz]at he;have a4:=Qk5 U a2 la (fk v (by rw[U];simp[Op.operands])) a3 he ls;refine⟨X3 (Q4 s.mem) (V5 s.fr) y.o.op++K7 (Q4 s.mem) (X3 (Q4 s.mem) (V5 s.fr) y.o.op),l.d,QU l.g λu hu b a5 hb=>?_,λ_=>(by show Wv P _ _ y.o y.h y.z=_;rw[lz];exact a4),l.e',(λ_=>TI _ _ _),(λh=>by cases h),(λ_ h=>by cases h),λo' j=>?_,λo' j=>?_⟩
 ·have f:x.o.dst≠some u:=λe=>J u e (List.mem_append_right _ (by
   cases hg:y.o.guard with
   |none=>rw[hg]at hu;cases hu
   |some gg=>obtain⟨g1,g2⟩:=gg;rw[hg]at hu;simpa using hu))
  simp only[Zz,AS.Y9,if_neg f]at hb;have:Nw ((X4 s.fr u).kill (Z5 x.e.q))=false:=by rw[hb];rcases a5 with rfl|⟨b,rfl⟩<;> rfl
  rw[Dj this]at hb;exact hb
 ·obtain⟨_,_,a',a6,l3,_⟩:=l.ld o' j;rw[U]at l3;cases l3
 ·have:y.st=some o':=j;rw[C]at this;cases this;exact⟨lr,lz,ls,t,a,v,T,U,a2⟩
theorem Yw.swap{P:Program}{ops:Array Oper}{s:AS}{x y:Rc}(J:Yw P ops s x)(I:Yw P ops (Zz s x) y)(T:RB ops x y=true):
  (∃M an,Yw P ops s { y with M:=M,nk:=false,an:=an }/\(y.ld=none->y.st=none->M=y.M/\an=y.an))/\Yw P ops (Zz s y) x/\KH (Zz (Zz s x) y) (Zz (Zz s y) x):=by
 unfold RB at T;simp only[Bool.and_eq_true]at T;obtain⟨r,U,t,l,hX,g⟩:=T;refine⟨?_,?_,KH.swap r (ZE U) (ZE t) (ZE l)⟩
 ·by_cases f:y.pu=true
  ·exact⟨y.M,y.an,Yw.Xw8 I r f,λ_ _=>⟨rfl,rfl⟩⟩
  ·rw[Bool.not_eq_true]at f;rw[f,Bool.false_or]at g;by_cases i:y.st=none;rotate_left
   ·obtain⟨o,C⟩:=Option.ne_none_iff_exists'.1 i;rw[C]at g;obtain⟨M,h⟩:=Yw.Xw7 I r C (by simpa using g);exact⟨M,true,h,λ_ h=>absurd h i⟩
   rw[i]at g;dsimp only at g;by_cases j:y.ld=none
   ·rw[j]at g;simp only[Bool.and_eq_true]at g;exact⟨y.M,y.an,Yw.Xg0 J I r (ZE g.1) g.2 f j i,λ_ _=>⟨rfl,rfl⟩⟩
   ·obtain⟨o,C⟩:=Option.ne_none_iff_exists'.1 j;rw[C]at g;obtain⟨M,h⟩:=Yw.Xw9 I r C i (by simpa using g);exact⟨M,true,h,λh _=>absurd h j⟩
 ·by_cases f:x.pu=true
  ·exact Yw.Xg1 J r (ZE l) f
  ·rw[Bool.not_eq_true]at f;rw[f,Bool.false_or]at hX;exact Yw.Xg2 J r (ZE t) (ZE hX) f
theorem Trace.front{P:Program}{ops:Array Oper}(y:Rc)(l:List Rc):∀(j:List Rc) (s:AS),Trace P ops (j++y::l) s->(∀x∈j,RB ops x y=true)->
  (∃M an,Yw P ops s { y with M:=M,nk:=false,an:=an }/\(y.ld=none->y.st=none->M=y.M/\an=y.an))/\Trace P ops (j++l) (Zz s y)/\KH (FN (j++y::l) s) (FN (j++l) (Zz s y))
 |[],s,h,_=>by
  refine⟨⟨y.M,y.an,?_,λ_ _=>⟨rfl,rfl⟩⟩,h.2,KH.refl _⟩;have f:=h.1;exact⟨f.d,f.g,f.e,f.e',f.M,(λh=>by cases h),f.an,f.ld,f.st⟩
 |x::j,s,h,C=>by
  obtain⟨⟨M,an,J,a0⟩,T,U⟩:=Trace.front y l j (Zz s x) h.2 (λz hz=>C z (by simp[hz]));have r:RB ops x { y with M:=M,nk:=false,an:=an }=true:=by
   have i:=C x (by simp);unfold RB at i⊢;cases hst:y.st with
   |some o=>
    rw[hst]at i;exact i
   |none=>
   rw[hst]at i;cases hld:y.ld with
   |none=>
    obtain⟨rfl,rfl⟩:=a0 hld hst;rw[hld]at i;exact i
   |some o=>
    rw[hld]at i;exact i
  obtain⟨⟨M',t,b1,I⟩,b2,b3⟩:=Yw.swap h.1 J r;obtain⟨c1,c2⟩:=Trace.eqv _ T b3;exact⟨⟨M',t,b1,λh k=>⟨(I h k).1.trans (a0 h k).1,(I h k).2.trans (a0 h k).2⟩⟩,⟨b2,c1⟩,U.trans c2⟩
def Q9.le:Q9->Q9->Prop
 | .blk t cs,.blk J j=>t=J/\cs.length=j.length/\∀i:Nat,cs[i]? =some .any\/cs[i]? =j[i]?
 | .arr e sz rows,.arr P o f=>e=P/\sz=o/\rows=f
 | .map T U n l,.map C I n' g=>T=C/\U=I/\n=n'/\l=g
 | .raw r,.raw r'=>r=r'
 |_,_=>False
theorem St.Xd9{C:Cx}{s s':AS}{a:Act}{w:World}(h:St C s a w)(hn:s'.n=s.n)(hf:∀t,X4 s'.fr t= .any\/X4 s'.fr t=X4 s.fr t)(P:∀o x,Q4 s'.mem o=some x->∃y,Q4 s.mem o=some y/\x.le y):St C s' a w:=by
 obtain⟨ok,g,l,h1,h2,h3⟩:=h;have a1:∀o T,(λ_=>false) o=false->Q4 s'.mem o=some T->∃x,Q4 s.mem o=some x/\x.like T/\g.bl o=g.bl o/\g.cp o=g.cp o:=λo T _ a2=>by
  obtain⟨y,U,f⟩:=P o T a2;refine⟨y,U,?_,rfl,rfl⟩;cases T<;> cases y<;> simp_all [Q9.le,Q9.like]
 have mono:∀c v,VR w ok g (Q4 s.mem) c v->VR w ok g (Q4 s'.mem) c v:=λc v hv=>
  hv.mono (λ_=>false) (AV.Gq (λ_=>rfl) c) (λ_ _=>rfl) (λ_ h=>h) a1
 refine⟨ok,g,⟨λo x hx=>?_,λi j xi xj b hi hj=>?_,λi x b hi=>?_,l.okb,l.okk,l.size,l.heap,l.keep,l.os,l.tape,l.output,l.gi,l.gb⟩,by rw[hn];exact h1,h2,λt=>?_⟩
 ·obtain⟨y,U,f⟩:=P o x hx;have hO:=l.obj o y U;cases x with
  |arr e sz rows=>
   cases y with
   |blk t cs=>exact f.elim
   |map _ _ _ _=>exact f.elim
   |raw _=>exact f.elim
   |arr e' a3 J=>
    obtain⟨rfl,rfl,rfl⟩:=f;exact hO
  |map ks ag n a8=>
   cases y with
   |blk t cs=>exact f.elim
   |arr _ _ _=>exact f.elim
   |raw _=>exact f.elim
   |map a9 b0 n' a4=>
    obtain⟨rfl,rfl,rfl,rfl⟩:=f;exact hO
  |raw r=>
   cases y with
   |blk t cs=>exact f.elim
   |arr _ _ _=>exact f.elim
   |map _ _ _ _=>exact f.elim
   |raw r'=>
    obtain rfl:r=r':=f;exact hO
  |blk t cs=>
   cases y with
   |arr e' a3 J=>exact f.elim
   |map _ _ _ _=>exact f.elim
   |raw _=>exact f.elim
   |blk t' b1=>
    obtain⟨rfl,hl,hc⟩:=f;obtain⟨b,vs,k1,k2,k3⟩:=hO;refine⟨b,vs,k1,k2,by rw[hl];exact k3.1,λi c v I a5=>?_,k3.2.2⟩;rcases hc i with h|h
    ·rw[h]at I;obtain rfl:=Option.some.inj I;exact .any _
    ·rw[h]at I;exact mono c v (k3.2.1 i c v I a5)
 ·obtain⟨yi,a6,_⟩:=P i xi hi;obtain⟨yj,a7,_⟩:=P j xj hj;exact l.inj i j yi yj b a6 a7
 ·obtain⟨y,U,_⟩:=P i x hi;exact l.own i y b U
 ·rcases hf t with h|h
  ·rw[h];exact .any _
  ·rw[h];exact mono _ _ (h3 t)
theorem AV.Xg8{o:Nat}{x:Q9}(c:AV):c.has (fun j=>j==o)=false→c.F7 o x=c:=
 AV.rec (motive_1:=fun c=>c.has (fun j=>j==o)=false→c.F7 o x=c) (motive_2:=fun l=>AV.Uv (fun j=>j==o) l=false→Jp o x l=l)
  (fun _=>rfl) (fun _ _=>rfl) (fun _ _=>rfl) (fun _ _=>rfl) (fun o' _ h=>by simp only[AV.has]at h;simp[AV.F7,ZC,h]) (fun o' _ _ h=>by simp only[AV.has]at h;simp[AV.F7,ZC,h]) (fun o' _ _ h=>by simp only[AV.has]at h;simp[AV.F7,ZC,h]) (fun o' h=>by simp only[AV.has]at h;simp[AV.F7,ZC,h])
  (fun cs ih h=>by simp only[AV.F7,ih h]) (fun cs ih h=>by simp only[AV.F7,ih h]) (fun _ cs ih h=>by simp only[AV.F7,ih h]) (fun _=>rfl)
  (fun c r h1 h2 h=>by
   simp only[AV.Uv,Bool.or_eq_false_iff]at h;simp only[Jp,h1 h.1,h2 h.2]) c
theorem NL(o:Nat)(q:List Nat)(i:Nat):Z5 (o::q) i=(o==i||Z5 q i):=by simp[Z5]
theorem NJ{o:Nat}{q:List Nat}{x:Q9}(c:AV):c.kill (Z5 (o::q))= .any\/c.kill (Z5 (o::q))=(c.kill (Z5 q)).F7 o x:=by
 unfold AV.kill;by_cases h:c.has (Z5 (o::q))=true
 ·rw[if_pos h];exact .inl rfl
 ·right;rw[if_neg h];rw[Bool.not_eq_true,AV.Ak]at h;have l:c.has (Z5 q)=false:=by
   rw[AV.Ak,<-Bool.not_eq_true,List.any_eq_true];rintro⟨i,f,g⟩;have:c.ids.any (Z5 (o::q))=true:=List.any_eq_true.2 ⟨i,f,by rw[NL,g,Bool.or_true]⟩;rw[this]at h;cases h
  have r:c.has (λj=>j==o)=false:=by
   rw[AV.Ak,<-Bool.not_eq_true,List.any_eq_true];rintro⟨i,f,g⟩;have e:i=o:=by simpa using g
   have:c.ids.any (Z5 (o::q))=true:=List.any_eq_true.2 ⟨i,f,by rw[NL,e];simp⟩;rw[this]at h;cases h
  rw[if_neg (by rw[l];simp),AV.Xg8 c r]
theorem St.Xo{C:Cx}{s:AS}{f:Option Nat}{c:AV}{q:List Nat}{o:Nat}{x:Q9}(P:Nat.ble 500 o=false){a:Act}{w:World}(h:St C (s.after f c ⟨q,[(o,some x)]⟩) a w):St C (s.after f (c.F7 o x) ⟨o::q,[(o,none)]⟩) a w:=by
 have T:Q4 (s.after f c ⟨q,[(o,some x)]⟩).mem o=some x:=by rw[AS.V7];simp[J7,Kz,Q4]
 have l:=h.F7 o P;unfold AS.F7 at l;rw[T]at l;refine l.Xd9 rfl (λt=>?_) (λi y g=>?_)
 ·dsimp only;rw[AS.Y9,NT,AS.Y9];split
  ·exact .inr rfl
  ·exact NJ _
 ·dsimp only;rw[AS.V7]at g;rw[Dh,AS.V7];simp only[J7,Zx]at g⊢;by_cases j:(o==i)=true
  ·have e:o=i:=by simpa using j
   subst e;simp[Q4]at g
  ·rw[if_neg j]at g;have I:(i==o)=false:=by
    rw[<-Bool.not_eq_true];intro h;have:i=o:=by simpa using h
    subst this;simp at j
   rw[if_neg (by rw[I];simp),if_neg j];obtain⟨v,U,rfl⟩:=Option.map_eq_some_iff.1 g;rw[U];refine⟨_,rfl,?_⟩;cases v with
   |arr e sz rows=>exact⟨rfl,rfl,rfl⟩
   |map ks ag n J=>exact⟨rfl,rfl,rfl,rfl⟩
   |raw r=>rfl
   |blk t cs=>
    refine⟨rfl,by simp[Jo],λk=>?_⟩;simp only[Jo,List.getElem?_map];cases hk:cs[k]? with
    |none=>exact .inr rfl
    |some d=>
     simp only[Option.map_some,Option.some.injEq];exact NJ d
theorem Cc{m:Me}{g:Nat->Nat}{mo:Mo}(h:Vv m g mo)(i:Nat)(x:Q9)(l:Jv mo i=some x):m (g i)=some (x.ren g):=by
 have f:=G5 l;clear l;induction mo with
 |nil=>cases f
 |cons y r o=>
  obtain⟨j,z⟩:=y;rcases List.mem_cons.1 f with f|f
  ·cases f;exact h.1
  ·exact o h.2 f
theorem ET{P:Program}{C:Cx}{s:AS}{o:Oper}{cc:Call}{f:Operand}{k:Nat}{cap:List AV}{π:List (Nat×Nat)}{a1:List AV}{mo t:Mo}{r:AV}(hd:Pv s o=true)(b1:o.op= .call cc)(J:cc.callee= .value f)(hk:K9 (V5 s.fr f)=some (k,cap))
  (a3:Km (Zw π) mo r t=true) (hS:Z0 P k a1 mo r t) (T:cc.args.toList.map (V5 s.fr)++cap=a1.map (AV.ren (Zw π))) (b2:Mj t mo) (b3:Vv (Q4 s.mem) (Zw π) mo)
  {a:Act} {w:World} (b4:St C s a w) {K:Act->World->Prop} {Q:Exit->Act->World->Prop} (hK:∀a w,St C (s.after o.dst (r.ren (Zw π)) (Qt (Zw π) mo t)) a w->K a w):o.wp P a w K Q:=by
 obtain⟨ok,g,hM,hs,b5,hf⟩:=b4;have a4:∀x,VR w ok g (Q4 s.mem) (V5 s.fr x) (a.eval x):=WT hf;obtain⟨fn,b6,b7,a5⟩:=hS.ent;have a6:¬fn.name= "runtime.NumGoroutine":=by simpa using b7
 have a7:¬fn.body=none:=λe=>by rw[e]at a5;cases a5
 have I:=a4 f;obtain⟨j,b8,b9,c0⟩:∃j:Array Value,a.eval f= .func (.func k) #[] j/\cap.length=j.size/\∀(i:Nat) (c:AV) (v:Value),cap[i]? =some c->j[i]? =some v->VR w ok g (Q4 s.mem) c v:=by
  unfold K9 at hk;split at hk
  ·rename_i k' ek;rw[ek]at I;simp only[Option.some.injEq,Prod.mk.injEq]at hk;obtain⟨rfl,rfl⟩:=hk;have U:=I.Zj;generalize a.eval f=vv at U⊢;cases U with
   |fn f=>exact⟨#[],rfl,rfl,by simp⟩
  ·rename_i k' c2 ek;rw[ek]at I;simp only[Option.some.injEq,Prod.mk.injEq]at hk;obtain⟨rfl,rfl⟩:=hk;obtain⟨vs,h1,h2,h3⟩:=I.Gr;exact⟨vs,h1,h2,h3⟩
  ·cases hk
 obtain⟨c3,c1⟩:=VR.map a4 cc.args;have a8:a1.length=(cc.args.map a.eval++j).size:=by
  have:=congrArg List.length T;simp at this;simp[b9]at this⊢;omega
 have a2:=hS.step hM hs b5 hf o.dst (UE hd) (Zw π) a3 b2 (λi x hx=>Cc b3 i x hx) (vals:=cc.args.map a.eval++j) a8 (λi c v hc hv=>by
  have l:(cc.args.toList.map (V5 s.fr)++cap)[i]? =some (c.ren (Zw π)):=by rw[T,List.getElem?_map,hc];rfl
  rw[List.getElem?_append]at l;rw[Array.getElem?_append]at hv;simp only[List.length_map,Array.length_toList]at l;simp only[Array.size_map]at hv;split at l
  ·rw[if_pos (by assumption)]at hv;exact c1 i _ v l hv
  ·rw[if_neg (by assumption)]at hv;exact c0 _ _ v l hv)
 have a9:(execOp a.eval o).run P w= .ok (.enter k (cc.args.map a.eval++j)) w:=by
  unfold execOp;rw[b1];obtain⟨callee,args,argTypes⟩:=cc;dsimp only at J;subst J;simp[resolve,Deferred.ofValue,b8,invoke,callFunc,b6,a6,a7]
 unfold Oper.wp;rw[a9];refine Calls.mono a2 ?_;rintro e w' ⟨v,rfl,b0⟩;exact hK _ _ b0
theorem AV.Us{j f:Nat->Bool}(h:∀i,j i=true->f i=true)(c:AV):(c.kill j).kill f=c.kill f:=by
 unfold AV.kill;by_cases g:c.has j=true
 ·have l:c.has f=true:=by
   rw[AV.Ak,List.any_eq_true]at g⊢;obtain⟨i,o,r⟩:=g;exact⟨i,o,h i r⟩
  rw[if_pos g,if_pos l];simp[AV.has]
 ·rw[if_neg g]
theorem Q9.Us{g f:Nat->Bool}(h:∀i,g i=true->f i=true)(x:Q9):(x.kill g).kill f=x.kill f:=by
 cases x with
 |blk t cs=>simp only[Q9.kill,List.map_map];congr 1;exact List.map_congr_left λc _=>AV.Us h c
 |arr e sz rows=>rfl
 |map l o n j=>rfl
 |raw r=>rfl
theorem YO(f:List Nat)(i:Nat):Kz (f.map λi=>(i,some (Q9.arr 0 1 []))) i=Z5 f i:=by
 unfold Kz Z5;rw[List.any_map];rfl
theorem BP(f:List Nat)(i:Nat):Q4 (f.map λi=>(i,some (Q9.arr 0 1 []))) i=if Z5 f i=true then some (.arr 0 1 [])else none:=by
 induction f with
 |nil=>rfl
 |cons q r g=>
  have j:Z5 (q::r) i=(q==i||Z5 r i):=by simp[Z5]
  rw[j];simp only[List.map_cons,Q4];cases h:(q==i)with
  |true=>simp
  |false=>rw[g];simp
abbrev AS.Zb(s:AS)(f:List Nat):AS:=s.after none .any ⟨f,f.map λi=>(i,some (Q9.arr 0 1 []))⟩
theorem St.Qk0{C:Cx}{s:AS}{a:Act}{w:World}(qs:List Nat)(hq:∀i∈qs,i<500)(h:St C s a w):St C (s.Zb qs) a w:=by
 obtain⟨ok,g,hM,h1,h2,h3⟩:=h;have hkq:∀i,Z5 qs i=true→kept i=false:=fun i hi=>by
  have:=hq i (Dw.1 hi);unfold kept;cases hb:Nat.ble 1000 i with
  |false=>rfl
  |true=>have:=Nat.le_of_ble_eq_true hb;omega
 let g':Gh:=⟨fun i=>if Z5 qs i=true then none else g.bl i,fun i=>if Z5 qs i=true then 0 else g.cp i⟩
 have hE:=MS.Zg7 (w':=w) (ok':=ok) (g':=g') hM (Kz (qs.map fun i=>(i,some (Q9.arr 0 1 [])))) (Z5 qs) (Q4 (qs.map fun i=>(i,some (Q9.arr 0 1 []))))
  (fun i hi=>by rw[YO];exact hi)
  (fun i x hU hN=>by
   rw[YO]at hU;rw[BP,if_pos hU]at hN;cases hN;exact⟨Nat.one_pos,(fun j r hr=>by simp at hr),.inl ⟨by simp only[g'];rw[if_pos hU],rfl⟩⟩)
  (fun i hi=>by simp only[g'];rw[if_neg (by rw[hi];simp),if_neg (by rw[hi];simp)];exact⟨rfl,rfl⟩)
  (fun i x' hU hi _=>by rw[YO,hi]at hU;cases hU)
  (fun i x b _ _ _=>rfl) (fun b _=>rfl) (fun b h=>h) (fun b h=>.inl h)
  (fun i x b hU _ hb=>by rw[YO]at hU;simp only[g']at hb;rw[if_pos hU]at hb;cases hb)
  hkq (Nat.le_refl _) (fun b _ _=>rfl) rfl rfl rfl
 exact St.after (ok':=ok) (g':=g') h1 h2 h3 none (fun d hd=>by cases hd) .any undef ⟨qs,_⟩ hE (fun h=>absurd rfl h)
theorem Dc{m:Me}{f:Nat->Nat}:∀{mo:Mo},Vv m f mo<->∀x∈mo,m (f x.1)=some (x.2.ren f)
 |[]=>by simp[Vv]
 |(i,x)::r=>by simp only[Vv,Dc (mo:=r),List.mem_cons,forall_eq_or_imp]
theorem Gf{x:Nat×Q9}:∀{ph:List Nat},x∈Ki ph<->x.1∈ph/\x.2= .arr 0 1 []
 |[]=>by simp[Ki]
 |i::r=>by
  obtain⟨j,y⟩:=x;simp only[Ki,List.mem_cons,Gf (ph:=r),Prod.mk.injEq];constructor
  ·rintro(⟨rfl,rfl⟩|⟨g,f⟩)
   ·exact⟨.inl rfl,rfl⟩
   ·exact⟨.inr g,f⟩
  ·rintro⟨rfl|g,f⟩
   ·exact .inl ⟨rfl,f⟩
   ·exact .inr ⟨g,f⟩
theorem AV.DK{q:Nat->Bool}:∀{l:List AV},AV.Uv q l=false->∀c∈l,c.has q=false
 |a::l,h,c,f=>by
  simp only[AV.Uv,Bool.or_eq_false_iff]at h;rcases List.mem_cons.1 f with rfl|f
  ·exact h.1
  ·exact AV.DK h.2 c f
theorem AV.BX{q:Nat->Bool}:∀{l:List AV},(∀c∈l,c.has q=false)->AV.Uv q l=false
 |[],_=>rfl
 |a::l,h=>by simp only[AV.Uv,h a (by simp),AV.BX λc f=>h c (List.mem_cons_of_mem _ f),Bool.or_self]
theorem Zq4{P:Program}{C:Cx}{s:AS}{o:Oper}{cc:Call}{f:Operand}{k:Nat}{cap:List AV}{π:List (Nat×Nat)}{a7:List AV}{mo l:Mo}{r:AV}{ph:List Nat}(hd:Pv s o=true)(b6:o.op= .call cc)(a8:cc.callee= .value f)(hk:K9 (V5 s.fr f)=some (k,cap))
  (a9:Km (Zw π) (mo++Ki ph) r l=true) (b0:∀i∈ph,Nat.ble 1000 i=false/\Nat.ble 500 (Zw π i)=false) (a3:AV.Uv (Z5 (ph.map (Zw π))) (cc.args.toList.map (V5 s.fr)++cap)=false)
  (a4:∀x∈mo,Z5 (ph.map (Zw π)) (Zw π x.1)=false/\(x.2.ren (Zw π)).ids.any (Z5 (ph.map (Zw π)))=false)
  (hS:Z0 P k a7 (mo++Ki ph) r l) (b1:cc.args.toList.map (V5 s.fr)++cap=a7.map (AV.ren (Zw π))) (b7:Mj l (mo++Ki ph)) (b2:Vv (Q4 s.mem) (Zw π) mo)
  {a:Act} {w:World} (b8:St C s a w) {K:Act->World->Prop} {Q:Exit->Act->World->Prop} (hK:∀a w,St C (s.after o.dst (r.ren (Zw π)) (Qt (Zw π) (mo++Ki ph) l)) a w->K a w):o.wp P a w K Q:=by
 obtain⟨I,J⟩:∃I,I=ph.map (Zw π):=⟨_,rfl⟩
 rw[<-J]at a3 a4;have b9:∀i∈I,i<500:=λi U=>by
  rw[J]at U;obtain⟨j,hj,rfl⟩:=List.mem_map.1 U;exact WV (b0 j hj).2
 have c0:=b8.Qk0 I b9;have b3:∀x,(V5 s.fr x).has (Z5 I)=false->V5 (s.Zb I).fr x=V5 s.fr x:=λx T=>by
  cases x with
  |tmp t=>
   show X4 (s.Zb I).fr t=X4 s.fr t;rw[AS.Y9,if_neg (by simp)];exact AV.N7 T
  |const v=>rfl
  |global g=>rfl
  |func g=>rfl
 have b4:∀c∈cap,c.has (Z5 I)=false:=λc hc=>AV.DK a3 c (List.mem_append_right _ hc)
 have c1:K9 (V5 (s.Zb I).fr f)=some (k,cap):=by
  rw[b3 f ?_]
  ·exact hk
  ·unfold K9 at hk;split at hk
   ·rename_i k' ek;rw[ek];simp[AV.has]
   ·rename_i k' c3 ek;rw[ek];simp only[Option.some.injEq,Prod.mk.injEq]at hk;obtain⟨rfl,rfl⟩:=hk;simp only[AV.has];exact AV.BX b4
   ·cases hk
 have a5:cc.args.toList.map (V5 (s.Zb I).fr)=cc.args.toList.map (V5 s.fr):=List.map_congr_left λx T=>b3 x (AV.DK a3 _ (List.mem_append_left _ (List.mem_map.2 ⟨x,T,rfl⟩)))
 have a1:∀i,Z5 I i=false->Q4 (s.Zb I).mem i=(Q4 s.mem i).map (Q9.kill (Z5 I)):=λi U=>by
  rw[AS.V7];unfold J7;rw[if_neg (by rw[YO,U];simp)]
 have b5:Vv (Q4 (s.Zb I).mem) (Zw π) (mo++Ki ph):=by
  rw[Dc]at b2⊢;intro x T;rcases List.mem_append.1 T with T|T
  ·rw[a1 _ (a4 x T).1,b2 x T,Option.map_some,Q9.N7 (a4 x T).2]
  ·obtain⟨h1,h2⟩:=Gf.1 T;have:Z5 I (Zw π x.1)=true:=Dw.2 (by rw[J];exact List.mem_map.2 ⟨_,h1,rfl⟩);rw[AS.V7];unfold J7;rw[if_pos (by rw[YO];exact this),BP,if_pos this,h2];rfl
 refine ET (s:=s.Zb I) hd b6 a8 c1 a9 hS (by rw[a5];exact b1) b7 b5 c0 λa' w' c2=>hK a' w' ?_
 have a2:∀i,Z5 I i=true->Z5 (Qt (Zw π) (mo++Ki ph) l).q i=true:=λi U=>by
  have:=Dw.1 U;rw[J]at this;obtain⟨j,hj,rfl⟩:=List.mem_map.1 this;exact Dw.2 (Ul.2 ⟨j,.arr 0 1 [],List.mem_append_right _ (Gf.2 ⟨hj,rfl⟩),by unfold kept;exact(b0 j hj).1,rfl⟩)
 have a6:∀i,Z5 I i=true->Kz (Qt (Zw π) (mo++Ki ph) l).ws i=true:=λi U=>by
  have:=Dw.1 U;rw[J]at this;obtain⟨j,hj,rfl⟩:=List.mem_map.1 this;refine Zu.2 ?_;show Zw π j∈(ZV (Zw π) l (mo++Ki ph)).map (·.1);rw[Ea];exact List.mem_map.2 ⟨(j,.arr 0 1 []),List.mem_append_right _ (Gf.2 ⟨hj,rfl⟩),rfl⟩
 have hE:KH ((s.Zb I).after o.dst (r.ren (Zw π)) (Qt (Zw π) (mo++Ki ph) l)) (s.after o.dst (r.ren (Zw π)) (Qt (Zw π) (mo++Ki ph) l)):=by
  refine⟨rfl,λt=>?_,λi=>?_⟩
  ·rw[AS.Y9 (s.Zb I) o.dst (r.ren (Zw π)) (Qt (Zw π) (mo++Ki ph) l),AS.Y9 s o.dst (r.ren (Zw π)) (Qt (Zw π) (mo++Ki ph) l)];by_cases ht:o.dst=some t
   ·rw[if_pos ht,if_pos ht]
   ·rw[if_neg ht,if_neg ht,AS.Y9,if_neg (by simp)];exact AV.Us a2 _
  ·rw[AS.V7 (s.Zb I) o.dst (r.ren (Zw π)) (Qt (Zw π) (mo++Ki ph) l),AS.V7 s o.dst (r.ren (Zw π)) (Qt (Zw π) (mo++Ki ph) l)];unfold J7;by_cases hU:Kz (Qt (Zw π) (mo++Ki ph) l).ws i=true
   ·rw[if_pos hU,if_pos hU]
   ·rw[if_neg hU,if_neg hU,a1 i (by
     cases hq:Z5 I i with
     |false=>rfl
     |true=>exact absurd (a6 i hq) hU)]
    cases Q4 s.mem i with
    |none=>rfl
    |some x=>simp only[Option.map_some];rw[Q9.Us a2]
 exact hE.st c2
theorem Qk6{P:Program}{C:Cx}{s:AS}{o:Oper}{h:Option Hint}{z:Bool}{c:AV}{e:Eff}{p:Prop}(hd:Pv s o=true)(j:Wv P (Q4 s.mem) (V5 s.fr) o h z=some (c,e,p))(hp:p){a:Act}{w:World}(T:St C s a w){K:Act->World->Prop}{Q:Exit->Act->World->Prop}(U:∀a w,St C (s.after o.dst c e) a w->K a w):o.wp P a w K Q:=by
 have base:∀{c:AV} {e:Eff} {p:Prop},Vk P (Q4 s.mem) (V5 s.fr) o h=some (c,e,p)->p->∀{K:Act->World->Prop},(∀a w,St C (s.after o.dst c e) a w->K a w)->o.wp P a w K Q:=λ{c e p} j hp {K} U=>by
  unfold Vk at j;split at j
  ·rename_i r hr;simp only[Option.some.injEq]at j;subst j;exact Ag (h:=[]) (h':=[]) hd (by unfold Qd0;rw[hr]) hp T U
  ·rename_i hr;split at j
   ·rename_i r a3;simp only[Option.some.injEq]at j;subst j;have a4:∀d,o.dst=some d->d<s.n:=λd h=>by
     simp only[Pv,h]at hd;exact Nat.lt_of_succ_le (Nat.le_of_ble_eq_true hd)
    obtain⟨v,w',l,I⟩:=Qv8 T a3 hp a4;unfold Oper.wp;rcases l with l|⟨l,rfl⟩
    ·rw[l];exact U _ _ I
    ·rw[l];exact U _ _ I
   split at j
   ·rename_i v p' a5;simp only[Option.some.injEq,Prod.mk.injEq]at j;obtain⟨rfl,rfl,rfl⟩:=j;obtain⟨v,l,I⟩:=St.value (P:=P) (o:=o) T (UE hd) λok g a2=>Qh6 (P:=P) a2 a5 hp
    unfold Oper.wp;rw[l];exact U _ _ I
   unfold V8 at j;split at j
   ·rename_i cc r x a1 _;split at j
    ·rename_i f J;split at j
     ·rename_i k cap hk;split at j
      ·cases j
      ·rename_i hx;simp only[Option.some.injEq,Prod.mk.injEq]at j;obtain⟨rfl,rfl,rfl⟩:=j;refine Ag (h:=[(r,x)]) (h':=[]) (s':=s.after o.dst (r (o.dst.getD 0)) (Yv (o.dst.getD 0) x)) (p:=Qv P k (cc.args.toList.map (V5 s.fr)++cap) r x) hd ?_ hp T U;unfold Qd0;rw[hr];simp only[a1,J,hk];rw[if_neg hx]
     ·cases j
    ·cases j
   ·rename_i cc π a6 mo r a7 a1 _;split at j
    ·rename_i f J;split at j
     ·rename_i k cap hk;split at j
      ·rename_i t;simp only[Option.some.injEq,Prod.mk.injEq]at j;obtain⟨rfl,rfl,rfl⟩:=j;exact ET hd a1 J hk (by rw[Bool.and_eq_true]at t;exact t.1) hp.1 hp.2.1 hp.2.2.1 hp.2.2.2 T U
      ·cases j
     ·cases j
    ·cases j
   ·rename_i cc π a6 mo r a7 ph a1 _;split at j
    ·rename_i f J;split at j
     ·rename_i k cap hk;split at j
      ·rename_i t;simp only[Option.some.injEq,Prod.mk.injEq]at j;obtain⟨rfl,rfl,rfl⟩:=j;rw[Bool.and_eq_true,Bool.and_eq_true,Bool.and_eq_true,Bool.and_eq_true]at t;obtain⟨⟨k1,_⟩,k2,k3,k4⟩:=t;refine Zq4 hd a1 J hk k1 (λi hi=>?_) (by simpa using k3) (λx hx=>?_) hp.1 hp.2.1 hp.2.2.1 hp.2.2.2 T U
       ·have:=List.all_eq_true.1 k2 i hi;simpa using this
       ·have:=List.all_eq_true.1 k4 x hx;rw[Bool.and_eq_true,Bool.not_eq_true',Bool.not_eq_true']at this;exact this
      ·cases j
     ·cases j
    ·cases j
   ·cases j
 unfold Wv at j;split at j
 ·split at j
  ·rename_i v0 a8;simp only[Option.some.injEq,Prod.mk.injEq]at j;obtain⟨rfl,rfl,rfl⟩:=j;obtain⟨v,l,I⟩:=St.value (P:=P) (o:=o) T (UE hd) λok g a2=>Ay (P:=P) a2 a8
   unfold Oper.wp;rw[l];exact U _ _ I
  unfold Proofs.YtnddiddkmhiclaaGreatDoor.Xo at j;split at j
  ·rename_i c0 q o' x p' h0;split at j
   ·cases j
   ·rename_i ho;simp only[Option.some.injEq,Prod.mk.injEq]at j;obtain⟨rfl,rfl,rfl⟩:=j;exact base h0 hp λa w hs=>U a w (hs.Xo (by rw[<-Bool.not_eq_true];exact ho))
  ·cases j
 ·exact base j hp U
theorem Yw.wp{P:Program}{C:Cx}{ops:Array Oper}{s:AS}{r:Rc}(h:Yw P ops s r)(hp:r.run=true->r.p){a:Act}{w:World}(f:St C s a w){K:Act->World->Prop}{Q:Exit->Act->World->Prop}(j:∀a w,St C (Zz s r) a w->K a w):
  if Region.wanted r.o (yielded ops a.tmps)=true then r.o.wp P a w K Q else K (a.put r.o.dst undef) w:=by
 have l:=Cr h.g f;rw[l];split
 ·rename_i hr;exact Qk6 h.d (h.e hr) (hp hr) f j
 ·rename_i hr;have i:r.run=false:=by simpa using hr
  obtain⟨t,I⟩:=h.e' i;refine j _ _ ?_;rw[Zz,t,I];exact f.Jq9 r.o.dst (UE h.d)
end
section
open Go.RowKit
def Jc(o:Oper):List Nat:=o.after.toList.filterMap λe=>if Region.binds .any e then some e.on else none
def Ahead(os:List Oper)(a b:Nat):Prop:=∀L:Nat->Prop,(∀j o,os[j]? =some o->L j->∀k∈Jc o,L k)->∀o,os[b]? =some o->(∀k∈Jc o,L k)->L a
def Qh1(m:Nat)(k:Nat->Bool):Bool:=match m with
 |0=>k 0
 |n+1=>k (n+1)
theorem IX(m:Nat)(k:Nat->Bool):Qh1 m k=k m:=by cases m<;> rfl
def Zz1(f:List Nat)(o:Oper):Nat:=(Jc o).foldl (λm k=>m|||(1<<<k|||f.getD k 0)) 0
theorem Ms{f:List Nat}{a:Nat}:∀(l:List Nat) (m:Nat),(l.foldl (λm k=>m|||(1<<<k|||f.getD k 0)) m).testBit a=true->m.testBit a=true\/∃k∈l,k=a\/(f.getD k 0).testBit a=true
 |[],m,h=>.inl h
 |k::l,m,h=>by
  rcases Ms l _ h with h|⟨j,g,h⟩
  ·rw[Nat.testBit_or,Nat.testBit_or,Bool.or_eq_true,Bool.or_eq_true]at h;rcases h with h|h|h
   ·exact .inl h
   ·refine .inr ⟨k,List.mem_cons_self ..,.inl ?_⟩;rw[Nat.testBit_shiftLeft,Bool.and_eq_true,Nat.testBit_one_eq_true_iff_self_eq_zero]at h;have:=of_decide_eq_true h.1;omega
   ·exact .inr ⟨k,List.mem_cons_self ..,.inr h⟩
  ·exact .inr ⟨j,List.mem_cons_of_mem _ g,h⟩
def Hf(ops:Array Oper)(rl:List Rc):List Oper->Nat->List Nat->Bool
 |[],_,_=>true
 |o::r,b,f=>Qh1 (Zz1 f o) λm=>((List.range b).all λa=>match rl[a]?,rl[b]? with
  |some x,some y=>Nat.testBit m a||RB ops x y
  |_,_=>true) && Hf ops rl r (b+1) (f++[m])
def Pn(os:List Oper)(ops:Array Oper)(rl:List Rc):Bool:=Hf ops rl os 0 []
theorem Nu{os:List Oper}{ops:Array Oper}{rl:List Rc}:∀(i done:List Oper) (g:List Nat),os=done++i->g.length=done.length->(∀j a,(g.getD j 0).testBit a=true->Ahead os a j)->
  Hf ops rl i done.length g=true->∀b,done.length<=b->b<os.length->∀a,a<b->∀x y,rl[a]? =some x->rl[b]? =some y->RB ops x y=true\/Ahead os a b
 |[],done,g,I,h2,h3,C,b,hb,l,a,J,x,y,hx,hy=>by rw[I,List.append_nil]at l;omega
 |o::r,done,g,I,h2,h3,C,b,hb,l,a,J,x,y,hx,hy=>by
  rw[Hf,IX,Bool.and_eq_true]at C;obtain⟨C,h5⟩:=C;have ho:os[done.length]? =some o:=by rw[I,List.getElem?_append_right (Nat.le_refl _),Nat.sub_self];rfl
  have hm:∀a,(Zz1 g o).testBit a=true->Ahead os a done.length:=λa J L f o' P hp=>by
   rw[ho]at P;cases P;rcases Ms _ _ J with h|⟨k,hk,rfl|h⟩
   ·simp at h
   ·exact hp k hk
   ·have a1:k<g.length:=Nat.lt_of_not_le λT=>by
     rw[List.getD_eq_getElem?_getD,List.getElem?_eq_none T]at h;simp at h
    have U:k<os.length:=by rw[I,List.length_append];omega
    exact h3 k a h L f _ (List.getElem?_eq_getElem U) (f k _ (List.getElem?_eq_getElem U) (hp k hk))
  rcases Nat.lt_or_ge done.length b with a2|T
  ·refine Nu r (done++[o]) (g++[Zz1 g o]) (by rw[I];simp) (by simp[h2]) (λj a h=>?_) (by simpa using h5) b (by simp;omega) l a J x y hx hy;rw[List.getD_eq_getElem?_getD]at h;rcases Nat.lt_trichotomy j g.length with hj|hj|hj
   ·rw[List.getElem?_append_left hj,<-List.getD_eq_getElem?_getD]at h;exact h3 j a h
   ·subst hj;rw[List.getElem?_append_right (Nat.le_refl _),Nat.sub_self]at h;rw[h2];exact hm a h
   ·rw[List.getElem?_eq_none (by simp;omega)]at h;simp at h
  ·have e:b=done.length:=by omega
   subst e;rw[List.all_eq_true]at C;have t:=C a (List.mem_range.2 J);rw[hx,hy]at t;simp only[Bool.or_eq_true]at t;rcases t with t|t
   ·exact .inr (hm a t)
   ·exact .inl t
def Gc(os:List Oper):Bool:=(List.range os.length).all λb=>match os[b]? with
 |some o=>(Jc o).all λk=>Nat.blt k b
 |none=>true
section
variable {P:Program} {C:Cx} {ops:Array Oper}
theorem OC{rl:List Rc}{Q:Exit->Act->World->Prop}{send:AS}(b1:ops=(rl.map (·.o)).toArray)(b3:Pn (rl.map (·.o)) ops rl=true)(U:Gc (rl.map (·.o))=true)(d1:∀r∈rl,r.run=true->r.p)
  (hQ:∀a w,St C send a w->Q .normal a w):∀(fuel:Nat) (f:Array Bool) (L:List Nat) (s:AS) (a:Act) (w:World),L.length<=fuel->f.size=rl.length->L.Pairwise (· <·)->(∀i,i∈L<->i<rl.length/\f.getD i true=false)->
  (∀j r,rl[j]? =some r->f.getD j true=true->∀k∈Jc r.o,f.getD k true=true)->(∃rs,rs.map some=L.map (λi=>rl[i]?)/\Trace P ops rs s/\KH (FN rs s) send)->St C s a w->wpAny P .any ops Q fuel f a w:=by
 intro fuel;have c0:∀i,ops[i]? =(rl[i]?).map Rc.o:=λi=>by rw[b1,List.getElem?_toArray,List.getElem?_map]
 have l:∀f i,i∈Region.ready .any ops f<->∃r,rl[i]? =some r/\f.getD i true=false/\∀k∈Jc r.o,f.getD k false=true:=λf i=>by
  unfold Region.ready;rw[List.mem_filter,List.mem_range,c0];have d2:ops.size=rl.length:=by rw[b1];simp
  rw[d2];constructor
  ·rintro⟨hi,h⟩;have hr:rl[i]? =some rl[i]:=List.getElem?_eq_getElem hi;rw[hr]at h;simp only[Option.map_some,Option.getD_some,Bool.and_eq_true,Bool.not_eq_true']at h;refine⟨rl[i],hr,h.1,λk t=>?_⟩;obtain⟨e,he,a7⟩:=List.mem_filterMap.1 t;split at a7
   ·rename_i hb;simp at a7;subst a7;have:=Array.all_eq_true'.1 h.2 e (by simpa using he);rw[hb]at this;simpa using this
   ·cases a7
  ·rintro⟨r,hr,h1,h2⟩;refine⟨(List.getElem?_eq_some_iff.1 hr).1,?_⟩;rw[hr];simp only[Option.map_some,Option.getD_some,Bool.and_eq_true,Bool.not_eq_true'];refine⟨h1,Array.all_eq_true'.2 λe he=>?_⟩;by_cases hb:Region.binds .any e=true
   ·rw[hb];simpa using h2 e.on (List.mem_filterMap.2 ⟨e,by simpa using he,by rw[if_pos hb]⟩)
   ·simp[hb]
 have J:∀(f:Array Bool) k,f.getD k false=true->f.getD k true=true:=λf k h=>by
  simp only[Array.getD_eq_getD_getElem?]at h⊢;cases t:f[k]? with
  |none=>rw[t]at h;cases h
  |some b=>rw[t]at h;exact h
 have a3:∀(f:Array Bool) k,k<f.size->f.getD k true=true->f.getD k false=true:=λf k t h=>by
  simp only[Array.getD_eq_getD_getElem?,Array.getElem?_eq_getElem t]at h⊢;exact h
 have a4:∀i r,rl[i]? =some r->∀k∈Jc r.o,k<i:=λi r hr k t=>by
  unfold Gc at U;rw[List.all_eq_true]at U;have hi:i<rl.length:=(List.getElem?_eq_some_iff.1 hr).1;have:=U i (by simpa using hi);rw[List.getElem?_map,hr]at this;simp only[Option.map_some,List.all_eq_true]at this;have:=this k t;unfold Nat.blt at this;exact Nat.le_of_ble_eq_true this
 -- nothing is left:the end
 have done:∀(f:Array Bool) (L:List Nat) (s:AS) (a:Act) (w:World),f.size=rl.length->L.Pairwise (· <·)->(∀i,i∈L<->i<rl.length/\f.getD i true=false)->(∃rs,rs.map some=L.map (λi=>rl[i]?)/\Trace P ops rs s/\KH (FN rs s) send)->St C s a w->
   Region.ready .any ops f=[]->L=[]/\Q .normal a w:=λf L s a w a5 hL g ⟨rs,a8,a6,b4⟩ a1 a2=>by
  have a9:L=[]:=by
   rcases L with _|⟨i,L⟩
   ·rfl
   ·exfalso;obtain⟨hi,b5⟩:=(g i).1 (by simp);have hr:rl[i]? =some rl[i]:=List.getElem?_eq_getElem hi;have:i∈Region.ready .any ops f:=(l f i).2 ⟨_,hr,b5,λk t=>by
     have b0:=a4 i _ hr k t;refine a3 f k (by omega) ?_;rcases hb:f.getD k true
     ·have:k∈i::L:=(g k).2 ⟨by omega,hb⟩;rcases List.mem_cons.1 this with rfl|h
      ·omega
      ·have:=(List.pairwise_cons.1 hL).1 k h;omega
     ·rfl⟩
    rw[a2]at this;cases this
  refine⟨a9,?_⟩;subst a9;have:rs=[]:=by simpa using a8
  subst this;exact hQ a w (b4.st a1)
 induction fuel with
 |zero=>
  intro f L s a w hl a5 hL g b6 a6 a1;have a9:L=[]:=List.eq_nil_of_length_eq_zero (by omega);subst a9;have a2:Region.ready .any ops f=[]:=by
   rcases h:Region.ready .any ops f with _|⟨i,r⟩
   ·rfl
   ·exfalso;obtain⟨r',I,h1,_⟩:=(l f i).1 (by rw[h];simp);have:=(g i).2 ⟨(List.getElem?_eq_some_iff.1 I).1,h1⟩;cases this
  exact⟨a2,(done f [] s a w a5 hL g a6 a1 a2).2⟩
 |succ fuel ih=>
  intro f L s a w hl a5 hL g b6 a6 a1;refine⟨λa2=>(done f L s a w a5 hL g a6 a1 a2).2,λi hi=>?_⟩;obtain⟨r,hr,b5,c1⟩:=(l f i).1 hi;have b2:i<rl.length:=(List.getElem?_eq_some_iff.1 hr).1;have d3:i∈L:=(g i).2 ⟨b2,b5⟩;obtain⟨L1,L2,rfl⟩:=List.append_of_mem d3;obtain⟨rs,a8,c2,b4⟩:=a6;rw[List.map_append,List.map_cons]at a8;obtain⟨b7,e0,rfl,c3,I⟩:=List.map_eq_append_iff.1 a8;obtain⟨r0,c4,rfl,c5,d4⟩:=List.map_eq_cons_iff.1 I;have c6:r0=r:=by rw[hr]at c5;exact Option.some.inj c5
  subst c6;have c7:∀x∈b7,RB ops x r0=true:=λx hx=>by
   have:some x∈L1.map (λi=>rl[i]?):=by rw[<-c3];exact List.mem_map.2 ⟨x,hx,rfl⟩
   obtain⟨j,hj,d5⟩:=List.mem_map.1 this;have d6:j<i:=by
    have:=(List.pairwise_append.1 hL).2.2 j hj i (by simp);exact this
   rcases Nu (os:=rl.map (·.o)) (ops:=ops) (rl:=rl) (rl.map (·.o)) [] [] rfl rfl (λj a h=>by simp at h) (show Hf ops rl (rl.map (·.o)) 0 []=true from b3) i (Nat.zero_le _) (by simpa using b2) j d6 x r0 d5 hr with h2|h2
   ·exact h2
   ·exfalso;have d7:=(g j).1 (by simp[hj]);have:=h2 (λk=>f.getD k true=true) (λj o c8 hl k t=>by
     rw[List.getElem?_map]at c8;obtain⟨r',I,rfl⟩:=Option.map_eq_some_iff.1 c8;exact b6 j r' I hl k t) r0.o (by rw[List.getElem?_map,hr];rfl) (λk t=>J f k (c1 k t))
    rw[d7.2]at this;cases this
  obtain⟨⟨_,_,f1,_⟩,f2,f3⟩:=Trace.front r0 c4 b7 s c2 c7;have d8:r0∈rl:=List.mem_of_getElem? hr;unfold wpOp;rw[c0 i,hr];dsimp only[Option.map_some];have T:∀k d,(f.setIfInBounds i true).getD k d=if i=k then true else f.getD k d:=λk d=>by
   simp only[Array.getD_eq_getD_getElem?,Array.getElem?_setIfInBounds];split
   ·have:i<f.size:=by omega
    simp[this]
   ·rfl
  have next:∀a' w',St C (Zz s r0) a' w'->wpAny P .any ops Q fuel (f.setIfInBounds i true) a' w':=λa' w' d9=>by
   refine ih (f.setIfInBounds i true) (L1++L2) (Zz s r0) a' w' (by simp at hl⊢;omega) (by simpa using a5) (hL.sublist (by simp)) (λk=>?_) (λj r' I b8 k t=>?_) ⟨b7++c4,by rw[List.map_append,List.map_append,c3,d4],f2,f3.symm.trans b4⟩ d9
   ·rw[T];have t:=g k;have c9:i ∉ L1/\i ∉ L2:=by
     refine⟨λh=>?_,λh=>?_⟩
     ·have:=(List.pairwise_append.1 hL).2.2 i h i (by simp);omega
     ·have:=(List.pairwise_cons.1 (List.pairwise_append.1 hL).2.1).1 i h;omega
    by_cases b0:i=k
    ·subst b0;simp[c9.1,c9.2]
    ·rw[if_neg b0,<-t];simp[Ne.symm b0]
   ·rw[T]at b8⊢;by_cases d0:i=j
    ·subst d0;rw[hr]at I;obtain rfl:=Option.some.inj I;split
     ·rfl
     ·exact J f k (c1 k t)
    ·rw[if_neg d0]at b8;split
     ·rfl
     ·exact b6 j r' I b8 k t
  have hw:=Yw.wp f1 (λh=>d1 r0 d8 h) a1 (K:=wpAny P .any ops Q fuel (f.setIfInBounds i true)) (Q:=Q) next;split
  ·rename_i b9;rw[if_pos b9]at hw;exact .inl hw
  ·rename_i b9;rw[if_neg b9]at hw;exact hw
end
def Nv:Op->Bool
 | .call c=>match c.callee with
  | .builtin _=>false
  |_=>true
 |_=>false
def WL(P:Program)(ops:Array Oper)(s:AS)(o:Oper)(h:Option Hint)(z:Bool):Option Rc:=
 if Pv s o then (match Uw ops s o with
  |some true=>match Wv P (Q4 s.mem) (V5 s.fr) o h z with
   |some (c,e,p)=>some { o,h,z,run:=true,c,e,p,M:=X3 (Q4 s.mem) (V5 s.fr) o.op++K7 (Q4 s.mem) (X3 (Q4 s.mem) (V5 s.fr) o.op),nk:=UC (Z5 e.q) s.fr && Qy (Z5 e.q) s.mem,an:=E5 (V5 s.fr) o.op.operands.toList||Ez (Q4 s.mem) (X3 (Q4 s.mem) (V5 s.fr) o.op),ld:=WQ (V5 s.fr) o.op c,st:=WA (V5 s.fr) o.op e z }
   |none=>none
  |some false=>some { o,h,z,run:=false,c:=.tuple [],e:=⟨[],[]⟩,p:=True,M:=X3 (Q4 s.mem) (V5 s.fr) o.op++K7 (Q4 s.mem) (X3 (Q4 s.mem) (V5 s.fr) o.op),nk:=true,an:=E5 (V5 s.fr) o.op.operands.toList||Ez (Q4 s.mem) (X3 (Q4 s.mem) (V5 s.fr) o.op),ld:=none,st:=none }
  |none=>none)else none
theorem Zw0{P:Program}{ops:Array Oper}{s:AS}{o:Oper}{h:Option Hint}{z:Bool}{r:Rc}(hr:WL P ops s o h z=some r):Yw P ops s r/\r.o=o:=by
 have hO:∀(U:List Nat),∀i∈U,∀y,Q4 s.mem i=some y->∀j∈y.ids,j∈K7 (Q4 s.mem) U:=λU=>by
  induction U with
  |nil=>intro i l;cases l
  |cons k ks ih=>
   intro i l y hy j hj;simp only[K7];rcases List.mem_cons.1 l with rfl|l
   ·rw[hy];exact List.mem_append_left _ hj
   ·exact List.mem_append_right _ (ih i l y hy j hj)
 have hA:∀(xs:List Operand),E5 (V5 s.fr) xs=false->∀x∈xs,Nw (V5 s.fr x)=false:=λxs=>by
  induction xs with
  |nil=>intro _ x g;cases g
  |cons y ys ih=>
   intro h x g;simp only[E5,Bool.or_eq_false_iff]at h;rcases List.mem_cons.1 g with rfl|g
   ·exact h.1
   ·exact ih h.2 x g
 have T:∀i∈X3 (Q4 s.mem) (V5 s.fr) o.op,i∈X3 (Q4 s.mem) (V5 s.fr) o.op++K7 (Q4 s.mem) (X3 (Q4 s.mem) (V5 s.fr) o.op)/\∀y,Q4 s.mem i=some y->∀j∈y.ids,j∈X3 (Q4 s.mem) (V5 s.fr) o.op++K7 (Q4 s.mem) (X3 (Q4 s.mem) (V5 s.fr) o.op):=λi l=>
  ⟨List.mem_append_left _ l,λy hy j hj=>List.mem_append_right _ (hO _ i l y hy j hj)⟩
 unfold WL at hr;split at hr
 ·rename_i hd;split at hr
  ·rename_i hg;split at hr
   ·rename_i c e p he;simp at hr;subst hr;refine⟨⟨hd,hg,λ_=>he,(λh=>by cases h),(λ_=>T),λh=>?_,λ_ h=>⟨λx g=>hA _ (Bool.or_eq_false_iff.1 h).1 x (by simpa using g),λi l x g=>Vd (Bool.or_eq_false_iff.1 h).2 i l x g⟩,λo' C=>?_,λo' C=>?_⟩,rfl⟩
    ·simp only[Bool.and_eq_true]at h;exact⟨Qh0 h.1,Im h.2⟩
    ·have f:WQ (V5 s.fr) o.op c=some o':=C;unfold WQ at f;split at f
     ·rename_i a I;split at f
      ·rename_i o2 J ha;split at f
       ·rename_i hn;cases f;exact⟨rfl,hn,a,J,I,ha⟩
       ·cases f
      ·cases f
     ·cases f
    ·have f:WA (V5 s.fr) o.op e z=some o':=C;unfold WA at f;split at f
     ·cases f
     rename_i hz;split at f
     ·rename_i t' a v I;split at f
      ·rename_i o2 J ha;split at f
       ·rename_i hn;cases f;exact⟨rfl,by simpa using hz,hn,t',a,v,J,I,ha⟩
       ·cases f
      ·cases f
     ·cases f
   ·cases hr
  ·rename_i hg;simp at hr;subst hr;refine⟨⟨hd,hg,(λh=>by cases h),λ_=>⟨rfl,rfl⟩,(λ_=>T),λ_=>⟨λt=>AV.Gq (λ_=>rfl) _,λi y _=>Q9.QS (λ_=>rfl) y⟩,λ_ h=>⟨λx g=>hA _ (Bool.or_eq_false_iff.1 h).1 x (by simpa using g),λi l x g=>Vd (Bool.or_eq_false_iff.1 h).2 i l x g⟩,(λo h=>by cases h),(λo h=>by cases h)⟩,rfl⟩
  ·cases hr
 ·cases hr
def Jb(P:Program)(ops:Array Oper)(g:List Nat):List Oper->Nat->List Hint->AS->Option (List Rc×AS×Prop)
 |[],_,_,s=>some ([],s,True)
 |o::f,k,h,s=>match WL P ops s o (if Nv o.op then h.head? else none) (Z5 g k)with
  |some r=>match Jb P ops g f (k+1) (if Nv o.op && r.run then h.tail else h) (Zz s r)with
   |some (i,s',p)=>some (r::i,s',r.p/\p)
   |none=>none
  |none=>none
theorem MR{P:Program}{ops:Array Oper}{C:List Nat}:∀(l:List Oper) (k:Nat) (h:List Hint) (s s':AS) (f:List Rc) (p:Prop),Jb P ops C l k h s=some (f,s',p)->p->Trace P ops f s/\FN f s=s'/\f.map (·.o)=l/\∀r∈f,r.p
 |[],k,h,s,s',f,p,hr,hp=>by
  simp only[Jb,Option.some.injEq,Prod.mk.injEq]at hr;obtain⟨rfl,rfl,_⟩:=hr;exact⟨trivial,rfl,rfl,by simp⟩
 |o::i,k,h,s,s',f,p,hr,hp=>by
  simp only[Jb]at hr;split at hr
  ·rename_i r j;split at hr
   ·rename_i I s2 p2 g;simp only[Option.some.injEq,Prod.mk.injEq]at hr;obtain⟨rfl,rfl,rfl⟩:=hr;obtain⟨J,T⟩:=Zw0 j;obtain⟨U,k2,k3,k4⟩:=MR i _ _ _ _ _ _ g hp.2;refine⟨⟨J,U⟩,k2,by rw[List.map_cons,T,k3],λx t=>?_⟩;rcases List.mem_cons.1 t with rfl|t
    ·exact hp.1
    ·exact k4 x t
   ·cases hr
  ·cases hr
theorem St.drew{C:Cx}{s:AS}{a:Act}{w:World}(h:St C s a w)(n:Nat):St C s a { w with drawn:=n }:=by
 obtain⟨ok,g,f,T,U,h3⟩:=h;have I:∀p:Addr,ok p.block->World.cell? { w with drawn:=n } p=w.cell? p:=λ_ _=>rfl
 have J:∀o i,(λ_=>false) o=false->Q4 s.mem o=some i->∃x,Q4 s.mem o=some x/\x.like i/\g.bl o=g.bl o/\g.cp o=g.cp o:=λo i _ j=>⟨i,j,Q9.O6 _,rfl,rfl⟩
 refine⟨ok,g,⟨λo x j=>(f.obj o x j).mono (λ_=>false) ?_ (λ_ _=>rfl) rfl rfl I (λ_ h=>h) J,f.inj,f.own,f.okb,f.okk,f.size,f.heap,f.keep,f.os,f.tape,f.output,f.gi,f.gb⟩,T,U,λt=>(h3 t).mono (λ_=>false) (AV.Gq (λ_=>rfl) _) I (λ_ h=>h) J⟩;cases x with
 |arr e sz rows=>trivial
 |map ks ag n P=>trivial
 |raw r=>trivial
 |blk t cs=>
  have:∀l:List AV,AV.Uv (λ_=>false) l=false:=λl=>by
   induction l with
   |nil=>rfl
   |cons c r ih=>simp only[AV.Uv,ih,AV.Gq (λ_=>rfl) c,Bool.or_self]
  exact this cs
theorem Ww{P:Program}{Q:Exit->AS->Prop}{s:AS}{id:Nat}{l:List Oper}(zs:List Nat)(f:List Hint){g:List Rc}{s':AS}{p:Prop}(hm:P.follows .mixedOrders=true)(hr:Jb P l.toArray zs l 0 f s=some (g,s',p))(J:(Pn l l.toArray g && Gc l)=true)(hp:p)(h:Q .normal s'):
  X8 P (.region id l.toArray true) Q s:=λC a w T=>by
 obtain⟨h1,h2,I,h4⟩:=MR l 0 f s s' g p hr hp;simp only[Bool.and_eq_true]at J;refine wp_region_any hm ?_;have o:g.length=l.length:=by rw[<-I,List.length_map]
 refine OC (C:=C) (rl:=g) (send:=s') (by rw[I]) (by rw[I];exact J.1) (by rw[I];exact J.2) (λr hr _=>h4 r hr) (λa w T=>⟨s',h,T⟩) l.toArray.size (Array.replicate l.toArray.size false) (List.range g.length) s a _ (by simp[o]) (by simp[o]) List.pairwise_lt_range (λi=>?_) (λj r hj U=>?_) ⟨g,?_,h1,by rw[h2];exact KH.refl _⟩ (T.drew _)
 ·simp only[List.mem_range,Array.getD_eq_getD_getElem?];constructor
  ·intro t;refine⟨t,?_⟩;rw[Array.getElem?_replicate,if_pos (by simp;omega)];rfl
  ·exact λh=>h.1
 ·exfalso;have a1:=(List.getElem?_eq_some_iff.1 hj).1;simp only[Array.getD_eq_getD_getElem?]at U;rw[Array.getElem?_replicate,if_pos (by simp;omega)]at U;cases U
 ·apply List.ext_getElem?;intro i;simp only[List.getElem?_map];rcases Nat.lt_or_ge i g.length with t|t
  ·simp[t]
  ·simp[t]
theorem Wz{P:Program}{Q g:Exit->AS->Prop}{j:Code}{s:AS}{id:Nat}{l:List Oper}(o:List Nat)(f:List Hint){t:List Rc}{s':AS}{p:Prop}(C:P.follows .mixedOrders=true)(h:Q .normal s')
  (I:X8 P (.region id l.toArray true) Q s->X8 P j g s:=by
  intro h;repeat (first|refine Wq ?_|refine Wk ?_)
  exact h)
  (hr:Jb P l.toArray o l 0 f s=some (t,s',p):=by conv=>lhs;simp) (J:(Pn l l.toArray t && Gc l)=true:=by kernel_rfl) (hp:p:=by(repeat' apply And.intro)<;> first|omega|assumption|trivial|(intros;subst_vars;rfl)|(intro i r h;rcases i with _|i<;> simp at h;subst h;rfl)|(simp[P7,maxLen];done)|(simp[P7,maxLen];omega)):X8 P j g s:=
 I (Ww o f C hr J hp h)
theorem Wx{P:Program}{Q:Exit->AS->Prop}{s:AS}{id:Nat}{l:List Oper}(zs:List Nat)(f:List Hint){g:List Rc}{s':AS}{p:Prop}(hr:Jb P l.toArray zs l 0 f s=some (g,s',p))(hp:p)(h:Q .normal s'):X8 P (.region id l.toArray false) Q s:=λC a w j=>by
 obtain⟨t,i,U,I⟩:=MR l 0 f s s' g p hr hp;refine wp_region_lit ?_;have key:∀(g:List Rc) (s:AS) (a:Act) (w:World),Trace P l.toArray g s->FN g s=s'->(∀r∈g,r.p)->St C s a w->wpList P l.toArray (λe J w'=>∃s',Q e s'/\St C s' J w') (g.map (·.o)) a w:=λg=>by
  induction g with
  |nil=>intro s a w _ i _ j;simp only[FN]at i;subst i;exact⟨s,h,j⟩
  |cons r g ih=>
   intro s a w t i I j;exact wpList_step λK hK=>Yw.wp t.1 (λ_=>I r (by simp)) j λJ w' T=>hK J w' (ih (Zz s r) J w' t.2 i (λx hx=>I x (by simp[hx])) T)
 rw[<-U]at key⊢;exact key g s a w (by rw[U];exact t) i I j
theorem Wg{P:Program}{Q g:Exit->AS->Prop}{j:Code}{s:AS}{id:Nat}{l:List Oper}(o:List Nat)(f:List Hint){t:List Rc}{s':AS}{p:Prop}(h:Q .normal s')
  (C:X8 P (.region id l.toArray false) Q s->X8 P j g s:=by
  intro h;repeat (first|refine Wq ?_|refine Wk ?_)
  exact h)
  (hr:Jb P l.toArray o l 0 f s=some (t,s',p):=by conv=>lhs;simp) (hp:p:=by(repeat' apply And.intro)<;> first|omega|assumption|trivial|(intros;subst_vars;rfl)|(intro i r h;rcases i with _|i<;> simp at h;subst h;rfl)|(simp[P7,maxLen];done)|(simp[P7,maxLen];omega)):X8 P j g s:=
 C (Wx o f hr hp h)
theorem Wy{P:Program}{Q f:Exit->AS->Prop}{g:Code}{s:AS}{c:Operand}{x y:Code}(h:X8 P x Q s)
  (i:X8 P (.cond c x y) Q s->X8 P g f s:=by
  intro h;repeat (first|refine Wq ?_|refine Wk ?_)
  exact h)
  (j:V5 s.fr c= .d (.bool true):=by rfl):X8 P g f s:=
 i (Wc j (λ_=>h) (λh=>by cases h))
theorem Wn{P:Program}{Q f:Exit->AS->Prop}{g:Code}{s:AS}{c:Operand}{x y:Code}(h:X8 P y Q s)
  (i:X8 P (.cond c x y) Q s->X8 P g f s:=by
  intro h;repeat (first|refine Wq ?_|refine Wk ?_)
  exact h)
  (j:V5 s.fr c= .d (.bool false):=by rfl):X8 P g f s:=
 i (Wc j (λh=>by cases h) (λ_=>h))
end
section
open Go.RowKit
def Zr:Mo->List (Nat×Option Q9)
 |[]=>[]
 |(i,x)::r=>(i,some x)::Zr r
theorem Ii(m:Mo)(i:Nat):Q4 (Zr m) i=Jv m i:=by
 induction m with
 |nil=>rfl
 |cons y r f=>obtain⟨j,x⟩:=y;simp only[Zr,Q4,Jv,f]
def X7(n:Nat)(args:List AV)(m:Mo):AS:=⟨n,Yn 0 args,Zr m⟩
def Qq(f:List (Nat×Option Q9)):Mo->Prop
 |[]=>True
 |(i,x)::r=>Q4 f i=some x/\Qq f r
theorem Il{f:List (Nat×Option Q9)}{m:Mo}(h:Qq f m)(i:Nat)(x:Q9)(l:Jv m i=some x):Q4 f i=some x:=by
 have g:=G5 l;clear l;induction m with
 |nil=>cases g
 |cons y r o=>
  obtain⟨j,z⟩:=y;rcases List.mem_cons.1 g with g|g
  ·cases g;exact h.1
  ·exact o h.2 g
def Qz(P:Program)(fn:Func)(r:AV)(m':Mo):Exit->AS->Prop:=λe s=>
 (e= .ret\/e= .normal)/\∃s',Le s s'/\∃cs,Q7 P s' fn.results.toList=some cs/\(Zv cs).Jk=r.Jk/\r.Jk=r/\Qq s'.mem m'
theorem Ad{C:Cx}{w:World}{ok:Nat->Prop}{g:Gh}{m:Me}{n:Nat}{args:List AV}{vals:Array Value}(J:args.length=vals.size)(P:args.length<=n)(o:∀(i:Nat) (c:AV) (v:Value),args[i]? =some c->vals[i]? =some v->VR w ok g m c v)(t:Nat):
  VR w ok g m (X4 (Yn 0 args) t) ((vals++Array.replicate (n-vals.size) undef).getD t undef):=by
 simp only[EE,Nat.zero_le,if_true,Nat.sub_zero];rcases Nat.lt_or_ge t args.length with f|j
 ·have l:args[t]? =some args[t]:=List.getElem?_eq_getElem f;have r:vals[t]? =some (vals[t]'(by omega)):=Array.getElem?_eq_getElem (by omega);rw[l];have I:(vals++Array.replicate (n-vals.size) undef).getD t undef=vals[t]'(by omega):=by
   simp[Array.getElem?_append,show t<vals.size by omega]
  rw[I];exact o t _ _ l r
 ·rw[List.getElem?_eq_none j];exact .any _
theorem MS.sub{C:Cx}{w:World}{ok:Nat->Prop}{g:Gh}{m m':Me}(I:MS C w ok g m)(f:∀i x,m' i=some x->m i=some x):MS C w ok g m'/\∀c v,VR w ok g m c v->VR w ok g m' c v:=by
 have U:∀o J,(λ_=>false) o=false->m' o=some J->∃x,m o=some x/\x.like J/\g.bl o=g.bl o/\g.cp o=g.cp o:=λo J _ P=>⟨J,f o J P,Q9.O6 _,rfl,rfl⟩
 refine⟨⟨λo x P=>(I.obj o x (f o x P)).mono (λ_=>false) ?_ (λ_ _=>rfl) rfl rfl (λ_ _=>rfl) (λ_ h=>h) U,λi j xi xj b T hj=>I.inj i j xi xj b (f i xi T) (f j xj hj),λi x b T=>I.own i x b (f i x T),I.okb,I.okk,I.size,I.heap,I.keep,I.os,I.tape,I.output,I.gi,I.gb⟩,
  λc v hv=>hv.mono (λ_=>false) (AV.Gq (λ_=>rfl) c) (λ_ _=>rfl) (λ_ h=>h) U⟩
 cases x with
 |arr e sz rows=>trivial
 |map ks ag n a1=>trivial
 |raw r=>trivial
 |blk t cs=>
  have:∀l:List AV,AV.Uv (λ_=>false) l=false:=λl=>by
   induction l with
   |nil=>rfl
   |cons c r ih=>simp only[AV.Uv,ih,AV.Gq (λ_=>rfl) c,Bool.or_self]
  exact this cs
theorem Z0.of{P:Program}{k:Nat}{fn:Func}{c:Code}(hf:P.funcs[k]? =some fn)(I:(fn.name== "runtime.NumGoroutine")=false)(hb:fn.body=some c){args:List AV}{m m':Mo}{r:AV}(hn:args.length<=fn.ntmps)
  (h:X8 P c (Qz P fn r m') (X7 fn.ntmps args m)):Z0 P k args m r m':=by
 refine⟨⟨fn,hf,I,by rw[hb];rfl⟩,λw ok g vals hM hl hv=>?_⟩;refine calls_of_wp hf hb ?_;have e:Q4 (Zr m)=Jv m:=funext (Ii m);have J:St ⟨w,ok,λb=>∃i x,Jv m i=some x/\g.bl i=some b,g⟩ (X7 fn.ntmps args m) { tmps:=vals++Array.replicate (fn.ntmps-vals.size) undef,defers:=[] } w:=by
  refine⟨ok,g,?_,by simp[X7];omega,rfl,λt=>?_⟩
  ·simp only[X7,e];exact hM
  ·simp only[X7,e];exact Ad (C:=⟨w,ok,λ_=>False,g⟩) hl hn hv t
 refine wp_mono (h _ _ w J) ?_;rintro e a' w' ⟨s,⟨he,s',T,cs,j,hr,U,a1⟩,hs⟩;obtain⟨ok',g',l,h1,h2,h3⟩:=T _ _ _ hs;obtain⟨v,o,f⟩:=KU l h3 j;obtain⟨q1,q2⟩:=l.sub (m':=Jv m') λi x hx=>Il a1 i x hx
 have f:=f.Jk;rw[hr,U]at f;rcases he with rfl|rfl
 ·exact⟨h2,v,o,v,ok',g',rfl,q1,q2 _ _ f⟩
 ·exact⟨h2,v,o,v,ok',g',rfl,q1,q2 _ _ f⟩
theorem Sz{g i:Type}(f:g->i)(l:List g):(l.map f).take l.length=l.map f:=List.take_of_length_le (by simp)
theorem FV(a b:Nat):(Nat.ble a b=false)=(b<a):=by
 rw[<-Bool.not_eq_true,Nat.ble_eq];simp
def JD(f:List (Nat×AV)):List (Nat×AV)->Prop
 |[]=>True
 |(t,v)::r=>X4 f t=v/\JD f r
def Qo(f:List (Nat×Option Q9)):List (Nat×Option Q9)->Prop
 |[]=>True
 |(t,v)::r=>Q4 f t=v/\Qo f r
theorem Le.sub{s:AS}{fr:List (Nat×AV)}{mem:List (Nat×Option Q9)}(j:JD s.fr fr)(l:Qo s.mem mem):Le s ⟨s.n,fr,mem⟩:=λC a w h=>by
 refine h.weak rfl (λt=>?_) (λo x f=>?_)
 ·dsimp only;induction fr with
  |nil=>exact .inl rfl
  |cons y r g=>
   obtain⟨u,v⟩:=y;simp only[X4];split
   ·rename_i i;have:u=t:=by simpa using i
    subst this;exact .inr j.1.symm
   ·exact g j.2
 ·dsimp only at f;induction mem with
  |nil=>cases f
  |cons y r g=>
   obtain⟨u,v⟩:=y;simp only[Q4]at f;split at f
   ·rename_i i;have:u=o:=by simpa using i
    subst this;rw[l.1];exact f
   ·exact g l.2 f
theorem Z7.ret{P:Program}{fn:Func}{r:Nat->AV}{o:Nat}{s:AS}{cs:List AV}(f:(r o).Jk=r o)(h:Q7 P s fn.results.toList=some cs)(hr:(Zv cs).Jk=(r o).Jk):Z7 P fn r none o .ret s:=
 ⟨.inl rfl,s,Le.refl s,cs,h,hr,f,λy g=>by cases g⟩
theorem Z7.JW{P:Program}{fn:Func}{r:Nat->AV}{o:Nat}{s s':AS}(l:List Nat){cs:List AV}(f:(r o).Jk=r o)(g:Hw l s=some s')(h:Q7 P s' fn.results.toList=some cs)(hr:(Zv cs).Jk=(r o).Jk):Z7 P fn r none o .ret s:=
 ⟨.inl rfl,s',Le.Hw l g,cs,h,hr,f,λy i=>by cases i⟩
theorem Qz.ret{P:Program}{fn:Func}{r:AV}{m':Mo}{s:AS}{cs:List AV}(f:r.Jk=r)(h:Q7 P s fn.results.toList=some cs)(hr:(Zv cs).Jk=r.Jk)(g:Qq s.mem m'):Qz P fn r m' .ret s:=
 ⟨.inl rfl,s,Le.refl s,cs,h,hr,f,g⟩
theorem Qz.JW{P:Program}{fn:Func}{r:AV}{m':Mo}{s s':AS}(l:List Nat){cs:List AV}(f:r.Jk=r)(g:Hw l s=some s')(h:Q7 P s' fn.results.toList=some cs)(hr:(Zv cs).Jk=r.Jk)(i:Qq s'.mem m'):Qz P fn r m' .ret s:=
 ⟨.inl rfl,s',Le.Hw l g,cs,h,hr,f,i⟩
theorem Qz.normal{P:Program}{fn:Func}{r:AV}{m':Mo}{s:AS}{cs:List AV}(f:r.Jk=r)(h:Q7 P s fn.results.toList=some cs)(hr:(Zv cs).Jk=r.Jk)(g:Qq s.mem m'):Qz P fn r m' .normal s:=
 ⟨.inr rfl,s,Le.refl s,cs,h,hr,f,g⟩
end
section
open Go.RowKit
mutual
def Low(N:List Nat)(g:Nat->Nat):AV->AV->Prop
 | .any,_=>True
 | .arr o l n,c=>(Z5 N o=true/\l=0/\n=0/\c= .lit (.slice none 0 0))\/(Z5 N o=false/\c= .arr (g o) l n)
 | .ptr o k,c=>Z5 N o=false/\c= .ptr (g o) k
 | .Rx o i j,c=>Z5 N o=false/\c= .Rx (g o) i j
 | .mp o,c=>Z5 N o=false/\c= .mp (g o)
 | .agg cs,c=>∃t,c= .agg t/\ZX N g cs t
 | .tuple cs,c=>∃t,c= .tuple t/\ZX N g cs t
 | .clo f cs,c=>∃t,c= .clo f t/\ZX N g cs t
 | .d d,c=>c= .d d\/(d= .sl []/\c= .lit (.slice none 0 0))
 | .lit v,c=>c= .lit v
 | .fl r,c=>c= .fl r
def ZX(N:List Nat)(g:Nat->Nat):List AV->List AV->Prop
 |[],[]=>True
 |c::cs,d::t=>Low N g c d/\ZX N g cs t
 |_,_=>False
end
theorem YE(N:List Nat)(g:Nat->Nat):∀(cs f:List AV),ZX N g cs f->cs.length=f.length
 |[],[],_=>rfl
 |c::cs,d::f,h=>by
  simp only[ZX]at h;simp[YE N g cs f h.2]
 |[],d::f,h=>by simp[ZX]at h
 |c::cs,[],h=>by simp[ZX]at h
theorem YF(N:List Nat)(j:Nat->Nat):∀(cs g:List AV),ZX N j cs g->∀(i:Nat) (c d:AV),cs[i]? =some c->g[i]? =some d->Low N j c d
 |[],_,_=>by intro i c d f;simp at f
 |c::cs,[],h=>by simp[ZX]at h
 |c::cs,d::g,h=>by
  simp only[ZX]at h;intro i o r f l;rcases i with _|i
  ·simp at f l;subst f;subst l;exact h.1
  ·exact YF N j cs g h.2 i o r (by simpa using f) (by simpa using l)
def Fx(N:List Nat)(i:Nat->Nat):Q9->Q9->Prop
 | .blk t cs,.blk u j=>t=u/\ZX N i cs j
 | .arr e sz rows,y=>y= .arr e sz rows
 | .map l o n g,y=>∃f,y= .map l o n f/\f.Perm g
 | .raw r,y=>y= .raw r
 |_,_=>False
def R8:Q9->Prop
 | .arr e sz rows=>0<sz/\rows=[]
 |_=>False
def XM(N:List Nat)(g:Nat->Nat)(f:List (Nat×AV)):List (Nat×AV)->Prop
 |[]=>True
 |(t,v)::r=>Low N g v (X4 f t)/\XM N g f r
def Bw(N:List Nat)(g:Nat->Nat)(f:List (Nat×Option Q9))(i:Nat):Option Q9->Prop
 |none=>True
 |some x=>if Z5 N i then R8 x else∃y,Q4 f (g i)=some y/\Fx N g x y
def O5(N:List Nat)(g:Nat->Nat)(f:List (Nat×Option Q9)):List (Nat×Option Q9)->Prop
 |[]=>True
 |(i,x)::r=>Bw N g f i x/\O5 N g f r
def Qw0(N:List Nat)(π:List (Nat×Nat))(ids:List Nat):Bool:=
 (N.all λi=>!(Nat.ble 500 i)) && (π.all λx=>!(Nat.ble 500 x.1) && !(Nat.ble 500 x.2)) &&
 (ids.all λi=>ids.all λj=>Z5 N i||Z5 N j|| !(Zw π i==Zw π j)||i==j)
theorem NS{N:List Nat}{g:Nat->Nat}{f:List (Nat×AV)}:∀{fr:List (Nat×AV)},XM N g f fr->∀t,Low N g (X4 fr t) (X4 f t)
 |[],_,t=>by simp[X4,Low]
 |(u,v)::r,h,t=>by
  simp only[X4];split
  ·rename_i i;have:u=t:=by simpa using i
   subst this;exact h.1
  ·exact NS h.2 t
theorem Jg{N:List Nat}{g:Nat->Nat}{f:List (Nat×Option Q9)}:∀{m:List (Nat×Option Q9)},O5 N g f m->∀i x,Q4 m i=some x->i∈m.map (·.1)/\if Z5 N i then R8 x else∃y,Q4 f (g i)=some y/\Fx N g x y
 |[],_,i,x=>by simp[Q4]
 |(u,v)::r,h,i,x=>by
  simp only[Q4];split
  ·rename_i j;have:u=i:=by simpa using j
   subst this;intro l;subst l;exact⟨by simp,h.1⟩
  ·intro o;obtain⟨t,C⟩:=Jg h.2 i x o;exact⟨by simp only[List.map_cons,List.mem_cons];exact .inr t,C⟩
def JH(N:List Nat)(f:Nat->Nat)(g:Gh):Gh:=⟨λi=>if Z5 N i then none else g.bl (f i),λi=>g.cp (f i)⟩
theorem VR.low{w:World}{ok:Nat→Prop}{g:Gh}{M m:Me}(N:List Nat)(ρ:Nat→Nat)
  (hm:∀o x,m o=some x→if Z5 N o then R8 x else∃y,M (ρ o)=some y∧Fx N ρ x y)
  (c0:AV):∀(c:AV) (v:Value),Low N ρ c0 c→VR w ok g M c v→VR w ok (JH N ρ g) m c0 v:=
 AV.rec (motive_1:=fun c0=>∀c v,Low N ρ c0 c→VR w ok g M c v→VR w ok (JH N ρ g) m c0 v)
  (motive_2:=fun l=>∀(i:Nat) (c0:AV),l[i]? =some c0→∀c v,Low N ρ c0 c→VR w ok g M c v→VR w ok (JH N ρ g) m c0 v)
  (fun c v _ _=>.any v)
  (fun d c v hl h=>by
   simp only[Low]at hl;rcases hl with rfl|⟨rfl,rfl⟩
   ·exact .d d v h.Zj
   ·have:=h.Jk;simp only[AV.Jk]at this;exact .d _ v this.Zj)
  (fun u c v hl h=>by
   simp only[Low]at hl;subst hl;obtain⟨h1,h2⟩:=VR.Fw h;rw[h1];exact .lit u h2)
  (fun rows c v hl h=>by
   simp only[Low]at hl;subst hl;obtain⟨h1,h2⟩:=VR.CG h;exact .fl rows v h1 h2)
  (fun o off c v hl h=>by
   simp only[Low]at hl;obtain⟨hN,rfl⟩:=hl;cases h with
   |ptr _ _ _ hv h=>
    refine .ptr o off v hv fun x hx=>?_
    have h1:=hm o x hx;rw[if_neg (by simp[hN])]at h1;obtain⟨y,h2,_⟩:=h1;simp only[JH,hN];exact h y h2)
  (fun o l n c v hl h=>by
   simp only[Low]at hl;rcases hl with⟨hN,rfl,rfl,rfl⟩|⟨hN,rfl⟩
   ·obtain⟨h1,h2⟩:=VR.Fw h;refine .arr o 0 0 v (by rw[h1];exact h2) fun e sz rows hx=>?_
    exact⟨by omega,.inl ⟨by simp[JH,hN],h1,rfl,rfl⟩⟩
   ·cases h with
    |arr _ _ _ _ hv h=>
     refine .arr o l n v hv fun e sz rows hx=>?_
     have h1:=hm o _ hx;rw[if_neg (by simp[hN])]at h1;obtain⟨y,h2,h3⟩:=h1;simp only[Fx]at h3;subst h3;simp only[JH,hN];exact h _ _ _ h2)
  (fun o i j c v hl h=>by
   simp only[Low]at hl;obtain⟨hN,rfl⟩:=hl;cases h with
   |Rx _ _ _ _ hv h=>
    refine .Rx o i j v hv fun e sz rows hx=>?_
    have h1:=hm o _ hx;rw[if_neg (by simp[hN])]at h1;obtain⟨y,h2,h3⟩:=h1;simp only[Fx]at h3;subst h3;simp only[JH,hN];exact h _ _ _ h2)
  (fun o c v hl h=>by
   simp only[Low]at hl;obtain⟨hN,rfl⟩:=hl;cases h with
   |mp _ _ hv h=>
    refine .mp o v hv fun x hx=>?_
    have h1:=hm o x hx;rw[if_neg (by simp[hN])]at h1;obtain⟨y,h2,_⟩:=h1;simp only[JH,hN];exact h y h2)
  (fun cs ih c v hl h=>by
   simp only[Low]at hl;obtain⟨ds,rfl,hl⟩:=hl;obtain⟨vs,rfl,hn,h1,h2⟩:=VR.Ju h;have hln:=YE N ρ cs ds hl;refine .agg cs vs (hln.trans hn) (fun i c v hc hv=>?_) h2;have hi:i<ds.length:=by rw[←hln];exact(List.getElem?_eq_some_iff.1 hc).1
   have hd:ds[i]? =some ds[i]:=List.getElem?_eq_getElem hi;exact ih i c hc _ v (YF N ρ cs ds hl i c _ hc hd) (h1 i _ v hd hv))
  (fun cs ih c v hl h=>by
   simp only[Low]at hl;obtain⟨ds,rfl,hl⟩:=hl;obtain⟨vs,rfl,hn,h1⟩:=VR.Wp h;have hln:=YE N ρ cs ds hl;refine .tuple cs vs (hln.trans hn) (fun i c v hc hv=>?_);have hi:i<ds.length:=by rw[←hln];exact(List.getElem?_eq_some_iff.1 hc).1
   have hd:ds[i]? =some ds[i]:=List.getElem?_eq_getElem hi;exact ih i c hc _ v (YF N ρ cs ds hl i c _ hc hd) (h1 i _ v hd hv))
  (fun f cs ih c v hl h=>by
   simp only[Low]at hl;obtain⟨ds,rfl,hl⟩:=hl;obtain⟨vs,rfl,hn,h1⟩:=VR.Gr h;have hln:=YE N ρ cs ds hl;refine .clo f cs vs (hln.trans hn) (fun i c v hc hv=>?_);have hi:i<ds.length:=by rw[←hln];exact(List.getElem?_eq_some_iff.1 hc).1
   have hd:ds[i]? =some ds[i]:=List.getElem?_eq_getElem hi;exact ih i c hc _ v (YF N ρ cs ds hl i c _ hc hd) (h1 i _ v hd hv))
  (fun i c hc=>by simp at hc)
  (fun c l h1 h2 i c' hc'=>by
   rcases i with _|i
   ·simp at hc';subst hc';exact h1
   ·exact h2 i c' (by simpa using hc')) c0
theorem OR.low{w:World}{ok:Nat->Prop}{g:Gh}{M m:Me}(N:List Nat)(j:Nat->Nat)
  (hm:∀o x,m o=some x->if Z5 N o then R8 x else∃y,M (j o)=some y/\Fx N j x y)
  {o:Nat} {x:Q9} (hx:m o=some x) (hM:∀y,M (j o)=some y->OR w ok g M (j o) y):OR w ok (JH N j g) m o x:=by
 have l:=hm o x hx;cases hN:Z5 N o with
 |true=>
  rw[if_pos hN]at l;cases x with
  |blk t cs=>exact l.elim
  |map _ _ _ _=>exact l.elim
  |raw _=>exact l.elim
  |arr e sz rows=>
   obtain⟨h2,rfl⟩:=l;exact⟨h2,by simp,.inl ⟨by simp[JH,hN],rfl⟩⟩
 |false=>
  rw[if_neg (by simp[hN])]at l;obtain⟨y,h2,f⟩:=l;have U:=hM y h2;cases x with
  |arr e sz rows=>
   simp only[Fx]at f;subst f;obtain⟨C,I,J⟩:=U;refine⟨C,I,?_⟩;simp only[JH,hN];exact J
  |map ks ag n a2=>
   obtain⟨a1,rfl,hp⟩:=f;obtain⟨b,es,clock,C,I,J⟩:=U;exact⟨b,es,clock,by simp only[JH,hN];exact C,I,J.reorder hp⟩
  |raw r=>
   simp only[Fx]at f;subst f;exact RV.at' U (by simp[JH,hN])
  |blk t cs=>
   cases y with
   |arr=>exact f.elim
   |map=>exact f.elim
   |raw=>exact f.elim
   |blk u P=>
    obtain⟨rfl,f⟩:=f;obtain⟨b,vs,C,I,J,k4,k5⟩:=U;have T:=YE N j cs P f;refine⟨b,vs,by simp only[JH,hN];exact C,I,T.trans J,λi c v hc hv=>?_,k5⟩;have hi:i<P.length:=by rw[<-T];exact(List.getElem?_eq_some_iff.1 hc).1
    have hd:P[i]? =some P[i]:=List.getElem?_eq_getElem hi;exact VR.low N j hm c _ v (YF N j cs P f i c _ hc hd) (k4 i _ v hd hv)
theorem CW{a b:Nat}(h:Nat.ble a b=false):b<a:=by
 rcases Nat.lt_or_ge b a with f|f
 ·exact f
 ·rw[Nat.ble_eq_true_of_le f]at h;cases h
theorem Ry:∀{π:List (Nat×Nat)},(∀x∈π,x.1<500/\x.2<500)->(∀i,500<=i->Zw π i=i)/\∀i,i<500->Zw π i<500
 |[],_=>⟨λ_ _=>rfl,λ_ h=>h⟩
 |(a,b)::r,h=>by
  obtain⟨j,l⟩:=Ry (π:=r) λx o=>h x (List.mem_cons_of_mem _ o)
  have g:=h (a,b) (List.mem_cons_self ..);dsimp only at g;refine⟨λi f=>?_,λi f=>?_⟩
  ·simp only[Zw];rw[if_neg (by simp;omega)];exact j i f
  ·simp only[Zw];split
   ·exact g.2
   ·exact l i f
theorem Le.low(N:List Nat)(π:List (Nat×Nat)){s:AS}{fr:List (Nat×AV)}{mem:List (Nat×Option Q9)}(I:Qw0 N π (mem.map (·.1))=true)
  (hf:XM N (Zw π) s.fr fr) (hm:O5 N (Zw π) s.mem mem):Le s ⟨s.n,fr,mem⟩:=λC a w ⟨ok,g,f,h1,h2,h3⟩=>by
 simp only[Qw0,Bool.and_eq_true]at I;obtain⟨⟨c1,c2⟩,c3⟩:=I;have hN:∀i,Z5 N i=true->i<500:=λi l=>by
  have:=List.all_eq_true.1 c1 i (Dw.1 l);exact CW (by simpa using this)
 obtain⟨a1,a2⟩:=Ry (π:=π) λx r=>by
  have:=List.all_eq_true.1 c2 x r;simp only[Bool.and_eq_true,Bool.not_eq_true']at this;exact⟨CW this.1,CW this.2⟩
 have J:∀o x,Q4 mem o=some x->if Z5 N o then R8 x else∃y,Q4 s.mem (Zw π o)=some y/\Fx N (Zw π) x y:=λo x r=>(Jg hm o x r).2
 have P:∀i b,(JH N (Zw π) g).bl i=some b->Z5 N i=false/\g.bl (Zw π i)=some b:=λi b T=>by
  simp only[JH]at T;cases l:Z5 N i with
  |true=>rw[l]at T;simp at T
  |false=>rw[l]at T;exact⟨rfl,by simpa using T⟩
 have U:∀i x,Q4 mem i=some x->Z5 N i=false->∃y,Q4 s.mem (Zw π i)=some y:=λi x r l=>by
  have:=J i x r;rw[if_neg (by simp[l])]at this;obtain⟨y,hy,_⟩:=this;exact⟨y,hy⟩
 refine⟨ok,JH N (Zw π) g,⟨λo x r=>OR.low N _ J r λy hy=>f.obj _ y hy,λi j xi xj b l hj a3 a4=>?_,λi x b r T=>?_,f.okb,f.okk,f.size,f.heap,λi l=>?_,f.os,f.tape,f.output,f.gi,f.gb⟩,h1,h2,λt=>?_⟩
 ·obtain⟨n1,b1⟩:=P i b a3;obtain⟨n2,b2⟩:=P j b a4;obtain⟨y1,s1⟩:=U i xi l n1;obtain⟨y2,s2⟩:=U j xj hj n2;have he:=f.inj _ _ _ _ b s1 s2 b1 b2;have:=List.all_eq_true.1 (List.all_eq_true.1 c3 i (Jg hm i xi l).1) j (Jg hm j xj hj).1;rw[n1,n2,he]at this;simpa using this
 ·obtain⟨n1,b1⟩:=P i b T;obtain⟨y1,s1⟩:=U i x r n1;obtain⟨k1,k2,k3⟩:=f.own _ y1 b s1 b1;refine⟨k1,k2,k3.imp id λh=>⟨h.1,?_⟩⟩;rcases Nat.lt_or_ge i 500 with h4|h4
  ·have:=a2 i h4;omega
  ·exact h4
 ·have a5:1000<=i:=Nat.le_of_ble_eq_true l;have hn:Z5 N i=false:=by
   cases h:Z5 N i with
   |false=>rfl
   |true=>have:=hN i h;omega
  simp only[JH,hn];rw[a1 i (by omega)];exact f.keep i l
 ·exact VR.low N _ J _ _ _ (NS hf t) (h3 t)
theorem Wr{P:Program}{Q f:Exit->AS->Prop}{g:Code}{s:AS}{id:Nat}{l:List Oper}{j:List Rc}{s':AS}{p:Prop}(h:Q .normal s')
  (o:X8 P (.region id l.toArray false) Q s->X8 P g f s:=by
  intro h;repeat (first|refine Wq ?_|refine Wk ?_)
  exact h)
  (r:Jb P l.toArray [] l 0 [] s=some (j,s',p):=by conv=>lhs;simp) (hp:p:=by(repeat' apply And.intro)<;> first|omega|assumption|trivial|(intros;subst_vars;rfl)|(intro i r h;rcases i with _|i<;> simp at h;subst h;rfl)|(simp[P7,maxLen];done)|(simp[P7,maxLen];omega)):X8 P g f s:=
 o (Wx [] [] r hp h)
theorem Wb{P:Program}{Q f:Exit->AS->Prop}{c g:Code}{s:AS}(h:X8 P c Q s)
  (i:X8 P c Q s->X8 P g f s:=by
  intro h;repeat (first|refine Wq ?_|refine Wk ?_)
  exact h):X8 P g f s:=i h
@[simp] abbrev Iv (n:Int):AV:=.d (.int n)
@[simp] abbrev Sv (s:ByteArray):AV:=.d (.str s)
@[simp] abbrev La (l:List (List D)):AV:=.d (.sl l)
@[simp] abbrev Bv (b:Bool):AV:=.d (.bool b)
end
end Go.Proofs.YtnddiddkmhiclaaGreatDoor
