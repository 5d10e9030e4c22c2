import Derived.Test.YtlbcipohiepjmaaDoorEngM
import Derived.Orders
set_option maxHeartbeats 1000000
set_option linter.unusedVariables false
namespace Go.Proofs.YtlbcipohiepjmaaDoor
open Go.RowKit
def K4 (sz:Nat) (f:Operand→AV):Nat→List (Nat×Operand)→Option (List (List D))
 |_,[]=>some []
 |k,(i,x)::r=>match (f x).cells with
  |some cs=>match Ez cs,K4 sz f (k+1) r with
   |some ds,some rows=>if i=k∧ds.length=sz then some (ds::rows)else none
   |_,_=>none
  |none=>none
def L9 (P:Program) (t:TypeId):Option (Nat×Nat):=
 match P.info? t with
 |some i=>match i.zero with
  |some z=>if z.cells.size=i.size∧0<i.size then some (i.size,i.bytes)else none
  |none=>none
 |none=>none
def Y8 (P:Program) (m:Me) (f:Operand→AV) (dst:Option Nat) (op:Op):Option (AV×Eff×Prop):=
 match op with
 | .alloc t=>match dst,Gz P t with
  |some d,some z=>if Nat.ble 500 d then none else if AV.Yj (Qj [d]) z then none else some (.ptr d 0,⟨[d],[(d,some (.blk t z))]⟩,True)
  |_,_=>none
 | .box t x=>match dst,(f x).cells with
  |some d,some cs=>if Nat.ble 500 d then none else if AV.Yj (Qj [d]) cs then none else some (.ptr d 0,⟨[d],[(d,some (.blk t cs))]⟩,True)
  |_,_=>none
 | .buildSlice t len parts=>match dst,V3 P t with
  |some d,some (e,_)=>match L9 P e with
   |some (sz,_)=>match K4 sz f 0 parts.toList with
    |some rows=>if Nat.ble 500 d then none else if rows.length=len∧len * sz≤16777216 then some (.arr d 0 len,⟨[d],[(d,some (.arr e sz rows))]⟩,True)else none
    |none=>none
   |none=>none
  |_,_=>none
 | .makeSlice t l c=>match dst,V3 P t,f l,f c with
  |some d,some (e,_),.d (.int n),.d (.int n')=>match L9 P e,Gz P e with
   |some (sz,by_),some z=>match Ez z with
    |some zd=>if Nat.ble 500 d then none else some (.arr d 0 n.toNat,⟨[d],[(d,some (.arr e sz (List.replicate n.toNat zd)))]⟩,0≤n∧n'=n∧n * by_≤140737488355328∧n≤9223372036854775807)
    |none=>none
   |_,_=>none
  |_,_,_,_=>none
 | .store t p x=>match Ux P t,(f x).cells with
  |some (_,n),some cs=>if cs.length=n then (match Y5 m (f p) cs with
   |some (o,x')=>some (.any,⟨[],[(o,some x')]⟩,True)
   |none=>none)else none
  |_,_=>none
 | .call c=>match c.callee,c.args.toList,c.argTypes.toList with
  | .builtin .append,[a,b],[t,t']=>match dst,V3 P t with
   |some d,some (e,_)=>match L9 P e with
    |some (sz,by_)=>match U2 m sz (f b)with
     |some (rows2,p)=>match f a with
      | .arr o 0 n=>match m o with
       |some (.arr e' sz' rows)=>if t=t'∧e'=e∧sz'=sz∧Nat.ble 1000 o=false then
         some (.arr o 0 (rows.length+rows2.length),⟨[o],[(o,some (.arr e sz (rows++rows2)))]⟩,p∧n=rows.length∧rows.length+rows2.length≤maxLen∧(rows.length+rows2.length) * by_≤140737488355328)else none
       |_=>none
      | .lit (.slice none 0 0)=>if t=t'∧Nat.ble 500 d=false then
        some (.arr d 0 rows2.length,⟨[d],[(d,some (.arr e sz rows2))]⟩,p∧rows2.length≤maxLen∧rows2.length * by_≤140737488355328)else none
      | .fl rows=>if t=t'∧Nat.ble 500 d=false then
        some (.arr d 0 (rows.length+rows2.length),⟨[d],[(d,some (.arr e sz (rows++rows2)))]⟩,p∧(∀(k:Nat) (r:List D),rows[k]? =some r→r.length=sz)∧0<rows2.length∧rows.length+rows2.length≤maxLen∧(rows.length+rows2.length) * by_≤140737488355328)else none
      |_=>none
     |none=>none
    |none=>none
   |_,_=>none
  |_,_,_=>match Xz P m f (.call c)with
   |some (v,p)=>some (v,⟨[],[]⟩,p)
   |none=>none
 |op=>match Xz P m f op with
  |some (v,p)=>some (v,⟨[],[]⟩,p)
  |none=>none
section
variable {P:Program} {C:Cx} {w:World} {ok:Nat→Prop} {g:Gh} {m:Me}
theorem T9 {a b:Nat} (h:Nat.ble a b=false):b<a:=by
 rcases Nat.lt_or_ge b a with h1|h1
 ·exact h1
 ·rw[Nat.ble_eq_true_of_le h1]at h;cases h
theorem R8 {d:Nat} (h:Nat.ble 500 d=false):kept d=false:=by
 have:=T9 h;unfold kept;rcases hk:Nat.ble 1000 d
 ·rfl
 ·have:=Nat.le_of_ble_eq_true hk;omega
theorem meEff_nil (m:Me):Zq m (X6 []) (Qj []) (Q5 [])=m:=by
 funext i;have:(Q6.kill (Qj ([]:List Nat)))=id:=funext fun x=>Q6.F8 (fun _=>rfl) x
 simp[Zq,X6,this]
theorem Bv {t:TypeId} {sz b:Nat} (h:L9 P t=some (sz,b)):∃i z,P.info? t=some i∧i.zero=some z∧z.cells.size=i.size∧0<i.size∧i.size=sz∧i.bytes=b:=by
 unfold L9 at h;split at h
 ·rename_i i hi;split at h
  ·rename_i z hz;split at h
   ·rename_i hc;simp at h;exact⟨i,z,hi,hz,hc.1,hc.2,h.1,h.2⟩
   ·cases h
  ·cases h
 ·cases h
theorem litRows_ok {f:Operand→AV} {ρ:Operand→Value} (hf:∀x,VR w ok g m (f x) (ρ x)) {sz:Nat}:∀(parts:List (Nat×Operand)) (k:Nat) (rows:List (List D)) (zs:Array Value),K4 sz f k parts=some rows→(k+parts.length) * sz≤zs.size→
  ∃vs:Array Value,Instr.fill (fun i=>some (i * sz,sz)) zs (parts.map fun x=>(x.1,ρ x.2))=some vs∧vs.size=zs.size∧rows.length=parts.length∧(∀(i:Nat) (r:List D),rows[i]? =some r→r.length=sz)∧(∀i,i<k * sz→vs[i]? =zs[i]?)∧
   ∀(i j:Nat) (r:List D) (d:D) (v:Value),rows[i]? =some r→r[j]? =some d→vs[(k+i) * sz+j]? =some v→Rep w ok d v
 |[],k,rows,zs,h,hs=>by
  simp[K4]at h;subst h;exact⟨zs,rfl,rfl,rfl,by simp,fun _ _=>rfl,by simp⟩
 |(i,x)::parts,k,rows,zs,h,hs=>by
  unfold K4 at h;split at h
  ·rename_i cs hcs;split at h
   ·rename_i ds rows' hds hrows;split at h
    ·rename_i hik;obtain⟨rfl,hdl⟩:=hik;simp at h;subst h;have hv:=(hf x).cells hcs;obtain⟨k1,k2⟩:=toDs_ok hds;have hvl:=hv.1;simp at hvl;simp only[List.length_cons]at hs;have hs2:(i+1+parts.length) * sz≤zs.size:=by rw[show i+1+parts.length=i+(parts.length+1)from by omega];exact hs
     have hfit:i * sz+sz≤zs.size:=by
      have:(i+1) * sz≤(i+(parts.length+1)) * sz:=Nat.mul_le_mul_right _ (by omega);rw[Nat.add_mul]at this;omega
     let zs':=(ρ x).cells.zipIdx.foldl (fun cs (y:Value×Nat)=>cs.setIfInBounds (i * sz+y.2) y.1) zs
     have hzl:zs'.toList=setAt zs.toList (i * sz) (ρ x).cells.toList:=foldl_set (i * sz) (ρ x).cells zs;have hzs:zs'.size=zs.size:=by
      have:=congrArg List.length hzl;rw[Vq]at this;simpa using this
     obtain⟨vs,h1,h2,h3,h4,h5,h6⟩:=litRows_ok hf parts (i+1) rows' zs' hrows (by rw[hzs];exact hs2);refine⟨vs,?_,by rw[h2,hzs],by simpa using h3,fun a r hr=>?_,fun a ha=>?_,fun a j r d v hr hd hv'=>?_⟩
     ·simp only[List.map_cons,Instr.fill];rw[if_neg (by simp;omega)];exact h1
     ·rcases a with _|a
      ·simp at hr;subst hr;exact hdl
      ·exact h4 a r (by simpa using hr)
     ·have:i * sz≤(i+1) * sz:=Nat.mul_le_mul_right _ (by omega);rw[h5 a (by omega),←Array.getElem?_toList,hzl,Uj _ _ _ (by simp;omega),List.getElem?_append,List.getElem?_append];simp only[List.length_append,List.length_take,Array.length_toList];rw[Nat.min_eq_left (by omega),if_pos (by omega),if_pos (by omega),List.getElem?_take,if_pos (by omega)];simp
     ·rcases a with _|a
      ·simp at hr;subst hr;have hj:j<sz:=by have:=(List.getElem?_eq_some_iff.1 hd).1;omega
       rw[Nat.add_zero]at hv';have e1:(i+1) * sz=i * sz+sz:=by rw[Nat.add_mul];omega
       rw[h5 _ (by omega),←Array.getElem?_toList,hzl,Uj _ _ _ (by simp;omega),List.getElem?_append,List.getElem?_append]at hv';simp only[List.length_append,List.length_take,Array.length_toList]at hv';rw[Nat.min_eq_left (by omega),if_pos (by omega),if_neg (by omega)]at hv';rw[show i * sz+j-i * sz=j from by omega]at hv';have hjc:cs[j]? =some (cs[j]'(by omega)):=List.getElem?_eq_getElem _;exact toD1_ok (k2 j _ d hjc hd) (hv.2.1 j _ v hjc hv')
      ·exact h6 a j r d v (by simpa using hr) hd (by rw[show i+1+a=i+(a+1)from by omega];exact hv')
    ·cases h
   ·cases h
  ·cases h
theorem effOp_ok {s:AS} {a:Act} {o:Oper} (h:St C s a w) {c:AV} {e:Eff} {p:Prop} (he:Y8 P (Q5 s.mem) (evA s.fr) o.dst o.op=some (c,e,p)) (hp:p) (hd:∀d,o.dst=some d→d<s.n):
  ∃v w',((execOp a.eval o).run P w= .ok (.value v) w'∨((execOp a.eval o).run P w= .ok .skip w'∧v=undef))∧St C (s.after o.dst c e) (a.put o.dst v) w':=by
 obtain⟨ok,g,hM,hs,hdf,hf⟩:=h;have hev:∀x,VR w ok g (Q5 s.mem) (evA s.fr x) (a.eval x):=evA_ok hf;have pure:∀{op:Op},o.op=op→(match Xz P (Q5 s.mem) (evA s.fr) op with|some (v,p)=>some (v,(⟨[],[]⟩:Eff),p)|none=>none)=some (c,e,p)→
   ∃v w',((execOp a.eval o).run P w= .ok (.value v) w'∨((execOp a.eval o).run P w= .ok .skip w'∧v=undef))∧St C (s.after o.dst c e) (a.put o.dst v) w':=fun {op} ho h=>by
  split at h
  ·rename_i v p' hpo;simp only[Option.some.injEq,Prod.mk.injEq]at h;obtain⟨rfl,rfl,rfl⟩:=h;rw[←ho]at hpo;obtain⟨v,hv,hr⟩:=pureOp_ok hM hev hpo hp;refine⟨v,w,.inl hv,St.after (ok:=ok) (g:=g) (ok':=ok) (g':=g) hs hdf hf o.dst hd _ v ⟨[],[]⟩ ?_ (fun _=>?_)⟩
   ·rw[meEff_nil];exact⟨hM,fun c v _ h=>h⟩
   ·rw[meEff_nil];exact hr
  ·cases h
 obtain⟨dst,op,ty,pos,after,guard⟩:=o;dsimp only at he hd pure⊢;unfold Y8 at he;split at he
 ·rename_i t;split at he
  ·rename_i d z hz;split at he
   ·cases he
   ·rename_i hsm;split at he
    ·cases he
    ·rename_i hzl;simp only[Option.some.injEq,Prod.mk.injEq]at he;obtain⟨rfl,rfl,rfl⟩:=he;obtain⟨zv,hzv,hzr⟩:=tyZero_ok hz w;have hsm':Nat.ble 500 d=false:=by rw[←Bool.not_eq_true];exact hsm
     obtain⟨g',k1,_,k2⟩:=MS.new hM d (R8 hsm') t zv.cells (.blk t z) 0 ⟨rfl,hzr w ok g _,by simpa using hzl⟩;refine⟨.pointer (some ⟨w.heap.size,0,none⟩),_,.inl ?_,St.after hs hdf hf (some d) hd _ _ ⟨[d],[(d,some (.blk t z))]⟩ k2 (fun _=>.ptr _ _ _ rfl fun x hx=>⟨_,k1,rfl⟩)⟩;simp only[execOp,Instr.alloc,Sem.run_bind,hzv,Result.andThen_ok,newVar,newRow,run_newObj,Sem.run_pure];rfl
  ·cases he
 ·rename_i t x;split at he
  ·rename_i d cs hcs;split at he
   ·cases he
   ·rename_i hsm;split at he
    ·cases he
    ·rename_i hzl;simp only[Option.some.injEq,Prod.mk.injEq]at he;obtain⟨rfl,rfl,rfl⟩:=he;have hsm':Nat.ble 500 d=false:=by rw[←Bool.not_eq_true];exact hsm
     obtain⟨g',k1,_,k2⟩:=MS.new hM d (R8 hsm') t (a.eval x).cells (.blk t cs) 0 ⟨rfl,(hev x).cells hcs,by simpa using hzl⟩;refine⟨.pointer (some ⟨w.heap.size,0,none⟩),_,.inl ?_,St.after hs hdf hf (some d) hd _ _ ⟨[d],[(d,some (.blk t cs))]⟩ k2 (fun _=>.ptr _ _ _ rfl fun x hx=>⟨_,k1,rfl⟩)⟩;simp only[execOp,Instr.box,Sem.run_bind,Result.andThen_ok,newVar,newRow,run_newObj,Sem.run_pure];rfl
  ·cases he
 ·rename_i t len parts;split at he
  ·rename_i d e' sz0 hty;split at he
   ·rename_i sz bb hone;split at he
    ·rename_i rows hrows;split at he
     ·cases he
     ·rename_i hsm;split at he
      ·rename_i hlen;simp only[Option.some.injEq,Prod.mk.injEq]at he;obtain⟨rfl,rfl,rfl⟩:=he;have hsm':Nat.ble 500 d=false:=by rw[←Bool.not_eq_true];exact hsm
       obtain⟨hu,i0,hi0,_⟩:=Gx hty;obtain⟨i,z,hi,hz,hzs,hpos,rfl,rfl⟩:=Bv hone;obtain⟨hl1,hl2⟩:=hlen;have hrl:rows.length=parts.size:=by
        have:∀(l:List (Nat×Operand)) (k:Nat) (rows:List (List D)),K4 i.size (evA s.fr) k l=some rows→rows.length=l.length:=fun l=>by
         induction l with
         |nil=>intro k rows h;simp[K4]at h;subst h;rfl
         |cons q l ih=>
          intro k rows h;obtain⟨q1,q2⟩:=q;unfold K4 at h;split at h
          ·split at h
           ·rename_i ds rows' hds hrows;split at h
            ·simp at h;subst h;simp[ih _ _ hrows]
            ·cases h
           ·cases h
          ·cases h
        simpa using this _ _ _ hrows
       obtain⟨vs,f1,f2,f3,f4,_,f6⟩:=litRows_ok hev parts.toList 0 rows ((Array.range (len * i.size)).map ((if len * i.size=0 then #[]else z.cells)[· % (if len * i.size=0 then #[]else z.cells).size]!)) hrows (by simp;rw[←hrl,hl1];exact Nat.le_refl _);have hvs:vs.size=len * i.size:=by rw[f2];simp
       obtain⟨g',k1,k3,k2⟩:=MS.new hM d (R8 hsm') e' vs (.arr e' i.size rows) len ⟨rfl,hpos,f4,by omega,by
        have:len≤16777216:=Nat.le_trans (Nat.le_mul_of_pos_right _ hpos) hl2;rw[O6];omega,hvs,fun a b r c v hr hc hv=>f6 a b r c v hr hc (by simpa using hv)⟩
       refine⟨.slice (some ⟨w.heap.size,0,none⟩) len len,_,.inl ?_,St.after hs hdf hf (some d) hd _ _ ⟨[d],[(d,some (.arr e' i.size rows))]⟩ k2 (fun _=>.arr _ _ _ _ rfl fun x2 sz2 L2 hx hs=>?_)⟩
       ·have f1':Instr.fill (fun k=>some (k * i.size,i.size)) ((Array.range (len * i.size)).map ((if len * i.size=0 then #[]else z.cells)[· % (if len * i.size=0 then #[]else z.cells).size]!)) (parts.map fun(i,x)=>(i,a.eval x)).toList=some vs:=by
         rw[←f1];congr 1;simp
        have hszr:(sizeOf e').run P w= .ok i.size w:=by simp[sizeOf,typeInfo,hi]
        have hzr:(zeroValue e').run P w= .ok z w:=by simp[zeroValue,typeInfo,hi,hz]
        simp only[execOp,Instr.buildSlice,Sem.run_bind,run_underlying hu,Result.andThen_ok,hszr];rw[if_neg (by omega)];by_cases hz0:len * i.size=0
        ·rw[if_pos hz0]at f1'⊢;simp only[Sem.run_bind,Sem.run_pure,Result.andThen_ok,f1',newRow,run_newObj];rfl
        ·rw[if_neg hz0]at f1'⊢;simp only[Sem.run_bind,Sem.run_pure,Result.andThen_ok,hzr,f1',newRow,run_newObj];rfl
       ·simp only[Zq,Qk,beq_self_eq_true,if_true,Q5]at hx;cases hx;cases hs;refine⟨by omega,.inr (.inl ⟨_,k1,?_⟩)⟩;rw[k3];simp
      ·cases he
    ·cases he
   ·cases he
  ·cases he
 ·rename_i t l c0;split at he
  ·rename_i d e' sz0 n n' hty hl hc;split at he
   ·rename_i sz bb z hone hz;split at he
    ·rename_i zd hzd;split at he
     ·cases he
     ·rename_i hsm;simp only[Option.some.injEq,Prod.mk.injEq]at he;obtain⟨rfl,rfl,rfl⟩:=he;have hsm':Nat.ble 500 d=false:=by rw[←Bool.not_eq_true];exact hsm
      obtain⟨hn0,rfl,hnb,hnm⟩:=hp;obtain⟨hu,i0,hi0,_⟩:=Gx hty;obtain⟨i,zv0,hi,hz0,hzs,hpos,rfl,rfl⟩:=Bv hone;obtain⟨zv,hzv,hzr⟩:=tyZero_ok hz w;have hzveq:zv=zv0:=by
       have:(zeroValue e').run P w= .ok zv0 w:=by simp[zeroValue,typeInfo,hi,hz0]
       rw[hzv]at this;exact(Result.ok.inj this).1
      subst hzveq;obtain⟨k1,k2⟩:=toDs_ok hzd;have hzl:=(hzr w ok g (Q5 s.mem)).1;simp at hzl
      let zs:=(if n'.toNat * i.size=0 then #[]else zv.cells)
      let vs:=(Array.range (n'.toNat * i.size)).map (zs[· % zs.size]!)
      have hvs:vs.size=n'.toNat * i.size:=by simp[vs]
      have hcell:∀(a b:Nat) (r:List D) (c:D) (v:Value),(List.replicate n'.toNat zd)[a]? =some r→r[b]? =some c→vs[a * i.size+b]? =some v→Rep w ok c v:=fun a b r c v hr hcc hv=>by
       have ha:a<n'.toNat:=by have:=(List.getElem?_eq_some_iff.1 hr).1;simpa using this
       have hr':r=zd:=by rw[List.getElem?_replicate,if_pos ha]at hr;exact(Option.some.inj hr).symm
       subst hr';have hb:b<i.size:=by have:=(List.getElem?_eq_some_iff.1 hcc).1;omega
       have hne:¬n'.toNat * i.size=0:=by
        have:=Nat.mul_pos (show 0<n'.toNat by omega) hpos;omega
       have hzs':zs=zv.cells:=by simp[zs,hne]
       have hlt:a * i.size+b<n'.toNat * i.size:=by
        have:(a+1) * i.size≤n'.toNat * i.size:=Nat.mul_le_mul_right _ ha;rw[Nat.add_mul]at this;omega
       have e1:(a * i.size+b) % zv.cells.size=b:=by rw[hzs];exact(idx_div' hb).2
       have e2:vs[a * i.size+b]? =some (zv.cells[b]'(by omega)):=by
        simp only[vs,hzs',Array.getElem?_map];rw[Array.getElem?_eq_getElem (by simpa using hlt)];simp[e1,show b<zv.cells.size by omega]
       rw[e2]at hv;obtain rfl:=Option.some.inj hv;have hbz:z[b]? =some (z[b]'(by omega)):=List.getElem?_eq_getElem _;exact toD1_ok (k2 b _ c hbz hcc) ((hzr w ok g (Q5 s.mem)).2.1 b _ _ hbz (by simp[show b<zv.cells.size by omega]))
      have hmax:n'.toNat≤maxLen:=by rw[O6];omega
      obtain⟨g',q1,q3,q2⟩:=MS.new hM d (R8 hsm') e' vs (.arr e' i.size (List.replicate n'.toNat zd)) n'.toNat ⟨rfl,hpos,fun a r hr=>by
       have ha:a<n'.toNat:=by have:=(List.getElem?_eq_some_iff.1 hr).1;simpa using this
       rw[List.getElem?_replicate,if_pos ha]at hr;obtain rfl:=Option.some.inj hr;omega,by simp,hmax,hvs,hcell⟩
      have hl':=hev l;rw[hl]at hl';have hc':=hev c0;rw[hc]at hc';refine⟨.slice (some ⟨w.heap.size,0,none⟩) n'.toNat n'.toNat,_,.inl ?_,St.after hs hdf hf (some d) hd _ _ ⟨[d],[(d,some (.arr e' i.size (List.replicate n'.toNat zd)))]⟩ q2 (fun _=>.arr _ _ _ _ rfl fun x2 sz2 L2 hx hs=>?_)⟩
      ·have hw:=Tq (n:=n') ⟨by omega,hnm⟩;have hbb:(i.bytes:Int) * n'≤140737488355328:=by rw[Int.mul_comm];exact hnb
       have hszr:(sizeOf e').run P w= .ok i.size w:=by simp[sizeOf,typeInfo,hi]
       have hinf:(typeInfo e').run P w= .ok i w:=by simp[typeInfo,hi]
       simp only[execOp,Instr.makeSlice,hl'.Z6.Xv.1,hc'.Z6.Xv.1,Sem.run_bind,run_underlying hu,Result.andThen_ok,asInt,asIntOf,Sem.run_pure,hinf,hw];have hc1:(decide (n'<0)||decide ((i.bytes:Int) * n' > 2 ^ 48))=false:=by
        simp only[Bool.or_eq_false_iff,decide_eq_false_iff_not];exact⟨by omega,by omega⟩
       have hc2:((decide (n'<0)||decide ((i.bytes:Int) * n' > 2 ^ 48))||decide (n'<0)||decide (n' > n'))=false:=by
        rw[hc1];simp;omega
       rw[if_neg (by simpa using hc2)];by_cases hz1:n'.toNat * i.size=0
       ·simp only[Sem.run_bind,run_askRoom,Result.andThen_ok,hszr,Sem.run_pure,if_pos hz1,newRow,run_newObj];simp only[vs,zs,if_pos hz1];rfl
       ·simp only[Sem.run_bind,run_askRoom,Result.andThen_ok,hszr,Sem.run_pure,if_neg hz1,hzv,newRow,run_newObj];simp only[vs,zs,if_neg hz1];rfl
      ·simp only[Zq,Qk,beq_self_eq_true,if_true,Q5]at hx;cases hx;cases hs;refine⟨by simp,.inr (.inl ⟨_,q1,?_⟩)⟩;rw[q3];simp
    ·cases he
   ·cases he
  ·cases he
 ·rename_i t pp x;split at he
  ·rename_i b n cs hty hcs;split at he
   ·rename_i hcl;split at he
    ·rename_i o x' hwr;simp only[Option.some.injEq,Prod.mk.injEq]at he;obtain⟨rfl,rfl,rfl⟩:=he;have hv:=(hev x).cells hcs;obtain⟨b,off,w',hpv,hst,k⟩:=MS.wr (P:=P) hM hwr (hev pp) hv;refine⟨undef,w',.inr ⟨?_,rfl⟩,St.after hs hdf hf dst hd .any undef ⟨[],[(o,some x')]⟩ k (fun _=>.any _)⟩;have hl:=hv.1;simp at hl;have hszr:=(run_isAgg hty w).2;have hne:¬(a.eval x).cells.size≠n:=by omega
     simp only[execOp,Instr.storeAt,hpv,Instr.sureAddr,Sem.run_bind,Sem.run_pure,Result.andThen_ok,storeVar,hszr,if_neg hne,hst]
    ·cases he
   ·cases he
  ·cases he
 ·rename_i cc;split at he
  ·rename_i sa sb t t' hcal hargs htys;obtain⟨callee,args,argTypes⟩:=cc;dsimp only at hcal hargs htys;subst hcal;have ha:args= #[sa,sb]:=by rw[←Array.toArray_toList (xs:=args),hargs]
   have hty:argTypes= #[t,t']:=by rw[←Array.toArray_toList (xs:=argTypes),htys]
   subst ha hty;split at he
   ·rename_i d e' sz0 htel;obtain⟨hu,i0,hi0,_⟩:=Gx htel;split at he
    ·rename_i sz bb hone;obtain⟨i,z,hi,hz,hzs,hpos,rfl,rfl⟩:=Bv hone;split at he
     ·rename_i rows2 p' hsrc;have hx:=hev sa;split at he
      ·rename_i o n ex;rw[ex]at hx;split at he
       ·rename_i e2 sz2 rows hm;split at he
        ·rename_i hc;obtain⟨rfl,rfl,rfl,hko⟩:=hc;simp only[Option.some.injEq,Prod.mk.injEq]at he;obtain⟨rfl,rfl,rfl⟩:=he;obtain⟨hp1,hp2,hp3,hp4⟩:=hp;subst hp2;obtain⟨q1,A,cc',news,q2,q3,q4,q5,q6⟩:=srcRows_ok hM hsrc hp1 (hev sb);obtain⟨h0,h1,h2⟩:=hM.obj o _ hm;obtain⟨h3,h4⟩:=hx.arr_inv hm;have hgo:∃xs,w.ownsRow 0 e2 i.size (a.eval sa) rows.length xs∧(∀b,(a.eval sa).ownBlock=some b→g.bl o=some b∧∃x,Q5 s.mem o=some x)∧
           ∀(k j:Nat) (r:List D) (d:D) (u:Value),rows[k]? =some r→r[j]? =some d→xs[k * i.size+j]? =some u→Rep w ok d u:=by
          rcases h2 with⟨hb,rfl⟩|⟨b,cur,hb,hw,hc1,hc2,hc3,hc4⟩
          ·rcases h4 with⟨_,hv,_⟩|⟨b,hb',_⟩|⟨h5,_⟩
           ·exact⟨[],by rw[hv];exact World.ownsRow_nil w 0 e2 i.size,(fun b hb=>by rw[hv]at hb;cases hb),by simp⟩
           ·rw[hb]at hb';cases hb'
           ·omega
          ·rcases h4 with⟨hb',_⟩|⟨b',hb',hv⟩|⟨h5,_⟩
           ·rw[hb]at hb';cases hb'
           ·rw[hb]at hb';obtain rfl:=Option.some.inj hb';simp only[Nat.zero_mul,Nat.sub_zero]at hv;refine⟨cur.toList.take (rows.length * i.size),⟨?_,.inr ⟨b,g.cp o,cur,hv,Nat.zero_le _,hw,hc1,hc2,hc3,rfl⟩⟩,(fun b' hb'=>?_),(fun k j r d u hr hd hu=>?_)⟩
            ·have:rows.length * i.size≤g.cp o * i.size:=Nat.mul_le_mul_right _ hc1;simp;omega
            ·rw[hv]at hb';simp[Value.ownBlock]at hb';subst hb';exact⟨hb,_,hm⟩
            ·rw[List.getElem?_take]at hu;split at hu
             ·exact hc4 k j r d u hr hd (by simpa using hu)
             ·cases hu
           ·omega
         obtain⟨xs,g1,g2,g3⟩:=hgo;have hk:kept o=false:=hko;obtain⟨v',w',g',r1,r2,r3,r4⟩:=MS.app (P:=P) (tr:=ty) (cc:=cc') hM o hk hu hi hz hzs hpos g1 g2 rfl h1 g3 q1 q3 q4 q5 q6 hp3 hp4;refine⟨v',w',.inl ?_,St.after hs hdf hf (some d) hd _ _ ⟨[o],[(o,some (.arr e2 i.size (rows++rows2)))]⟩ ⟨r2,r3⟩ (fun _=>r4)⟩;simp only[execOp,resolve,invoke,builtin,Sem.run_bind,Sem.run_pure,Result.andThen_ok,List.map_toArray,List.map_cons,List.map_nil,q2,r1]
        ·cases he
       ·cases he
      ·rename_i ex;rw[ex]at hx;split at he
       ·rename_i hc;obtain⟨rfl,hsm⟩:=hc;simp only[Option.some.injEq,Prod.mk.injEq]at he;obtain⟨rfl,rfl,rfl⟩:=he;obtain⟨hp1,hp3,hp4⟩:=hp;obtain⟨q1,A,cc',news,q2,q3,q4,q5,q6⟩:=srcRows_ok hM hsrc hp1 (hev sb);have hv:=hx.Vz.1;obtain⟨v',w',g',r1,r2,r3,r4⟩:=MS.app (P:=P) (tr:=ty) (cc:=cc') (rows:=[]) (v:=a.eval sa) (n:=0) (xs:=[]) hM d (R8 hsm) hu hi hz hzs hpos (by rw[hv];exact World.ownsRow_nil w 0 e' i.size) (fun b hb=>by rw[hv]at hb;cases hb) rfl (by simp) (by simp) q1 q3 q4 q5 q6 (by simpa using hp3) (by simpa using hp4);simp only[List.nil_append,List.length_nil,Nat.zero_add]at r2 r3 r4;refine⟨v',w',.inl ?_,St.after hs hdf hf (some d) hd _ _ ⟨[d],[(d,some (.arr e' i.size rows2))]⟩ ⟨r2,r3⟩ (fun _=>r4)⟩;simp only[execOp,resolve,invoke,builtin,Sem.run_bind,Sem.run_pure,Result.andThen_ok,List.map_toArray,List.map_cons,List.map_nil,q2,r1]
       ·cases he
      ·rename_i rows ex;rw[ex]at hx;split at he
       ·rename_i hc;obtain⟨rfl,hsm⟩:=hc;simp only[Option.some.injEq,Prod.mk.injEq]at he;obtain⟨rfl,rfl,rfl⟩:=he;obtain⟨hp1,hp5,hp2,hp3,hp4⟩:=hp;obtain⟨q1,A,cc',news,q2,q3,q4,q5,q6⟩:=srcRows_ok hM hsrc hp1 (hev sb);obtain⟨⟨a0,hv⟩,hR⟩:=hx.fl_inv;rw[hv]at hR;obtain⟨xs,n1,n2,n3,n4⟩:=hR.news hp5;obtain⟨v',w',g',r1,r2,r3,r4⟩:=MS.app0 (P:=P) (tr:=ty) (cc:=cc') (v:=a.eval sa) (ob:=none) hM d (R8 hsm) hu hi hz hzs hpos n1 (fun b hb=>by cases hb) rfl hp5 n4 q1 q3 q4 q5 q6
         (by rw[hv];exact run_append_full w t ty e' i z hu hi hz hzs hpos a0 rows.length xs n1 n2 A rows2.length cc' news q3 q4 q5 hp2 hp3 hp4)
        refine⟨v',w',.inl ?_,St.after hs hdf hf (some d) hd _ _ ⟨[d],[(d,some (.arr e' i.size (rows++rows2)))]⟩ ⟨r2,r3⟩ (fun _=>r4)⟩;simp only[execOp,resolve,invoke,builtin,Sem.run_bind,Sem.run_pure,Result.andThen_ok,List.map_toArray,List.map_cons,List.map_nil,q2,r1]
       ·cases he
      ·cases he
     ·cases he
    ·cases he
   ·cases he
  ·exact pure rfl he
 ·exact pure rfl he
@[simp] def noOwn:List OD→Bool
 |[]=>true
 | .own _ _ _::_=>false
 |_::r=>noOwn r
theorem noOwn_get:∀{l:List OD},noOwn l=true→∀(i:Nat) (c:OD),l[i]? =some c→∀(w w':World) (ok Q Q':Nat→Prop) (v:Value),G9 w ok Q c v→G9 w ok Q' c v
 |[],_,i,c,hc=>by simp at hc
 |x::r,h,i,c,hc=>by
  rcases i with _|i
  ·simp at hc;subst hc;intro w w' ok Q Q' v hv;cases hv with
   |d _ d v h=>exact .d _ d v h
   |hole _ v h=>exact .hole _ v h
   |nil=>simp[noOwn]at h
   |nl=>exact .nl _
   |own=>simp[noOwn]at h
  ·refine noOwn_get (l:=r) ?_ i c (by simpa using hc);cases x<;> first|exact h|cases h
@[simp] def lkShift (k:Nat):List (Nat×Nat×Nat×Nat)→List (Nat×Nat×Nat×Nat)
 |[]=>[]
 |(i,j,o,n)::r=>(i+k,j,o,n)::lkShift k r
theorem lkShift_mem {k a b o n:Nat}:∀{l:List (Nat×Nat×Nat×Nat)},(a,b,o,n)∈lkShift k l→∃i,a=i+k∧(i,b,o,n)∈l
 |[],h=>by cases h
 |(i,j,o',n')::r,h=>by
  simp only[lkShift,List.mem_cons]at h;rcases h with h|h
  ·cases h;exact⟨i,rfl,List.mem_cons_self ..⟩
  ·obtain⟨i',h1,h2⟩:=lkShift_mem h;exact⟨i',h1,List.mem_cons_of_mem _ h2⟩
@[simp] def ownB (P:Program) (dst:Option Nat) (t:TypeId) (len:Nat) (ps:List (Nat×AV)):Option (AV×Eff×Prop):=match dst,V3 P t,ps with
 |some d,some (e,_),[(0,x)]=>match L9 P e,x.cells with
  |some (sz,_),some cs=>match toOds cs with
   |some ds=>if Nat.ble 500 d then none else if AV.Yj (Qj [d]) cs then none else if len=1∧ds.length=sz∧sz≤16777216 then some (.arr d 0 1,⟨[d],[(d,some (.raw (.own e sz [ds] (odLks 0 0 cs))))]⟩,True)else none
   |none=>none
  |_,_=>none
 |_,_,_=>none
@[simp] def objAt (m:Me):AV→Option Q6
 | .arr o _ _=>m o
 |_=>none
@[simp] def ownA (P:Program) (dst:Option Nat) (t t':TypeId) (a b:AV) (xa xb:Option Q6):Option (AV×Eff×Prop):=match dst,V3 P t,b with
 |some d,some (e,_),.arr ob 0 1=>match L9 P e,xb with
  |some (sz,by_),some (.raw (.own _ sz2 [r2] lk2))=>if t=t'∧sz2=sz∧noOwn r2=true then (match a with
    | .arr oa 0 n=>match xa with
     |some (.raw (.own e1 sz1 rows1 lk1))=>if e1=e∧sz1=sz∧Nat.ble 1000 oa=false∧lkHas (Qj [oa]) lk1=false∧lkHas (Qj [oa]) lk2=false then
       some (.arr oa 0 (rows1.length+1),⟨[oa],[(oa,some (.raw (.own e sz (rows1++[r2]) (lk1++lkShift rows1.length lk2))))]⟩,n=rows1.length∧rows1.length+1≤maxLen∧(rows1.length+1) * by_≤140737488355328)else none
     |_=>none
    |_=>none)else none
  |_,_=>none
 |_,_,_=>none
@[simp] def N9 (P:Program) (m:Me) (f:Operand→AV) (dst:Option Nat) (op:Op):Option (AV×Eff×Prop):=
 match op with
 | .buildSlice t len parts=>ownB P dst t len (parts.toList.map fun x=>(x.1,f x.2))
 | .call c=>match c.callee,c.args.toList,c.argTypes.toList with
  | .builtin .append,[a,b],[t,t']=>ownA P dst t t' (f a) (f b) (objAt m (f a)) (objAt m (f b))
  |_,_,_=>none
 |_=>none
theorem ownOp_ok {s:AS} {a:Act} {o:Oper} (h:St C s a w) {c:AV} {e:Eff} {p:Prop} (he:N9 P (Q5 s.mem) (evA s.fr) o.dst o.op=some (c,e,p)) (hp:p) (hd:∀d,o.dst=some d→d<s.n):
  ∃v w',((execOp a.eval o).run P w= .ok (.value v) w'∨((execOp a.eval o).run P w= .ok .skip w'∧v=undef))∧St C (s.after o.dst c e) (a.put o.dst v) w':=by
 obtain⟨ok,g,hM,hs,hdf,hf⟩:=h;have hev:∀x,VR w ok g (Q5 s.mem) (evA s.fr x) (a.eval x):=evA_ok hf;obtain⟨dst,op,ty,pos,after,guard⟩:=o;dsimp only at he hd⊢;unfold N9 at he;split at he
 ·rename_i t len parts;unfold ownB at he;split at he
  ·rename_i d e' sz0 cx hty hpl;obtain⟨x,hpl2,rfl⟩:∃x,parts.toList=[(0,x)]∧evA s.fr x=cx:=by
    rcases hp:parts.toList with _|⟨⟨i,x⟩,_|⟨y,r⟩⟩
    ·rw[hp]at hpl;simp at hpl
    ·rw[hp]at hpl;simp only[List.map_cons,List.map_nil,List.cons.injEq,Prod.mk.injEq,and_true]at hpl;obtain⟨rfl,rfl⟩:=hpl;exact⟨x,rfl,rfl⟩
    ·rw[hp]at hpl;simp at hpl
   split at he
   ·rename_i sz bb cs hone hcs;split at he
    ·rename_i ds hds;split at he
     ·cases he
     ·rename_i hsm;split at he
      ·cases he
      ·rename_i hnd;split at he
       ·rename_i hlen;obtain⟨rfl,hl2,hl3⟩:=hlen;simp only[Option.some.injEq,Prod.mk.injEq]at he;obtain⟨rfl,rfl,rfl⟩:=he;have hsm':Nat.ble 500 d=false:=by rw[←Bool.not_eq_true];exact hsm
        obtain⟨hu,i0,hi0,_⟩:=Gx hty;obtain⟨i,z,hi,hz,hzs,hpos,rfl,rfl⟩:=Bv hone;obtain⟨k1,k2⟩:=toOds_ok hds;have hv:=(hev x).cells hcs;have hvl:=hv.1;have hvs:(a.eval x).cells.size=i.size:=by simp at hvl;omega
        let zs:Array Value:=(Array.range (1 * i.size)).map ((if 1 * i.size=0 then #[]else z.cells)[· % (if 1 * i.size=0 then #[]else z.cells).size]!)
        have hzss:zs.size=i.size:=by simp[zs]
        let vs:Array Value:=(a.eval x).cells.zipIdx.foldl (fun cs (y:Value×Nat)=>cs.setIfInBounds (0 * i.size+y.2) y.1) zs
        have hvl2:vs.toList=(a.eval x).cells.toList:=by
         have:=foldl_set (0 * i.size) (a.eval x).cells zs;rw[Uj _ _ _ (by simp;omega)]at this;simp only[Nat.zero_mul,List.take_zero,List.nil_append,Nat.zero_add]at this;have hdrop:zs.toList.drop (a.eval x).cells.toList.length=[]:=List.drop_eq_nil_of_le (by simp;omega);rw[hdrop,List.append_nil]at this;simpa[vs]using this
        have hvz:vs.size=i.size:=by
         have:=congrArg List.length hvl2;simp only[Array.length_toList]at this;omega
        have h3:w.grownBy (w.alloc (.cells vs e')) none:=⟨rfl,rfl,rfl,by simp,fun k hk _=>heap_alloc_old w _ hk⟩
        obtain⟨g',r1,r2,r3⟩:=MS.growO (v':=.slice (some ⟨w.heap.size,0,none⟩) 1 1) (rows:=[ds]) (lk:=odLks 0 0 cs) (xs:=vs.toList) (ob:=none) hM d (R8 hsm') hpos (fun _ _ _=>False)
         (e:=e') ⟨by simp[hvz],.inr ⟨w.heap.size,1,vs,rfl,Nat.zero_le _,heap_alloc_new w _,Nat.le_refl _,by rw[O6];omega,by simp[hvz],by rw[List.take_of_length_le (by simp[hvz])]⟩⟩
         h3 (.inr rfl) (fun b hb=>by cases hb) (fun _ _ _ h=>h.elim) (fun _ _ _ _ _ h=>h.elim)
         (fun k r hr=>by
          rcases k with _|k
          ·simp at hr;subst hr;exact hl2
          ·simp at hr)
         (fun k j r c u hr hc hu=>by
          rcases k with _|k
          ·simp at hr;subst hr;rw[Nat.zero_mul,Nat.zero_add,hvl2]at hu;have hj:j<cs.length:=by have:=(List.getElem?_eq_some_iff.1 hc).1;omega
           have hjc:cs[j]? =some cs[j]:=List.getElem?_eq_getElem hj;exact toOd_ok (k2 j _ c hjc hc) (hv.2.1 j _ u hjc hu) (hv.2.2 u (List.mem_iff_getElem?.2 ⟨j,hu⟩)) _
          ·simp at hr)
         (fun i' j o n hmem=>by
          obtain⟨rfl,_,b3⟩:=odLks_mem hmem;rw[Nat.sub_zero]at b3;have hj:j<cs.length:=(List.getElem?_eq_some_iff.1 b3).1;have hju:(a.eval x).cells.toList[j]? =some ((a.eval x).cells.toList[j]'(by omega)):=List.getElem?_eq_getElem _;refine⟨?_,ds,_,rfl,by omega,by rw[Nat.zero_mul,Nat.zero_add,hvl2];exact hju,hv.2.1 j _ _ b3 hju⟩;have:=AV.Sw (by simpa using hnd) j _ b3;rw[AV.has,Xq]at this;exact this)
        refine⟨.slice (some ⟨w.heap.size,0,none⟩) 1 1,_,.inl ?_,St.after hs hdf hf (some d) hd _ _ ⟨[d],[(d,some (.raw (.own e' i.size [ds] (odLks 0 0 cs))))]⟩ ⟨r1,r2⟩ (fun _=>r3)⟩;have hpz:parts= #[(0,x)]:=by rw[←Array.toArray_toList (xs:=parts),hpl2]
        have f1':Instr.fill (fun k=>some (k * i.size,i.size)) zs (parts.map fun(i,x)=>(i,a.eval x)).toList=some vs:=by
         rw[hpz];simp only[List.map_toArray,List.map_cons,List.map_nil,Instr.fill];rw[if_neg (by simp;omega)]
        have hszr:(sizeOf e').run P w= .ok i.size w:=by simp[sizeOf,typeInfo,hi]
        have hzr:(zeroValue e').run P w= .ok z w:=by simp[zeroValue,typeInfo,hi,hz]
        simp only[execOp,Instr.buildSlice,Sem.run_bind,run_underlying hu,Result.andThen_ok,hszr];rw[if_neg (by omega)];have hz0:¬(1 * i.size=0):=by omega
        simp only[zs,if_neg hz0]at f1';rw[if_neg hz0];simp only[Sem.run_bind,Sem.run_pure,Result.andThen_ok,hzr,f1',newRow,run_newObj];rfl
       ·cases he
    ·cases he
   ·cases he
  ·cases he
 ·rename_i cc;split at he
  ·rename_i sa sb t t' hcal hargs htys;obtain⟨callee,args,argTypes⟩:=cc;dsimp only at hcal hargs htys;subst hcal;have ha:args= #[sa,sb]:=by rw[←Array.toArray_toList (xs:=args),hargs]
   have hty:argTypes= #[t,t']:=by rw[←Array.toArray_toList (xs:=argTypes),htys]
   subst ha hty;unfold ownA at he;split at he
   ·rename_i d e' sz0 ob htel hfb;obtain⟨hu,i0,hi0,_⟩:=Gx htel;split at he
    ·rename_i sz bb e2 sz2 r2 lk2 hone hmb;rw[hfb]at hmb;simp only[objAt]at hmb;obtain⟨i,z,hi,hz,hzs,hpos,rfl,rfl⟩:=Bv hone;split at he
     ·rename_i hc;obtain⟨rfl,rfl,hno⟩:=hc;split at he
      ·rename_i oa n hfa;split at he
       ·rename_i e1 sz1 rows1 lk1 hma;rw[hfa]at hma;simp only[objAt]at hma;split at he
        ·rename_i hc;obtain⟨rfl,rfl,hko,hl1,hl2⟩:=hc;simp only[Option.some.injEq,Prod.mk.injEq]at he;obtain⟨rfl,rfl,rfl⟩:=he;obtain⟨rfl,hp1,hp2⟩:=hp;have hx:=hev sa;rw[hfa]at hx;have hy:=hev sb;rw[hfb]at hy;obtain⟨b0,b1,b2,b3⟩:=hM.obj ob _ hmb;obtain⟨_,hy2⟩:=hy.arr_invS hmb rfl;obtain⟨bB,hbB,hvB⟩:∃b,g.bl ob=some b∧a.eval sb= .slice (some ⟨b,0,none⟩) 1 (g.cp ob):=by
          rcases hy2 with⟨_,_,_,h⟩|⟨b,h1,h2⟩|⟨_,h,_⟩
          ·cases h
          ·exact⟨b,h1,by rw[h2];simp⟩
          ·cases h
         obtain⟨curB,SB,c2,c3,c4,c5,c6,c7,c8,c9⟩:∃(cur:Array Value) (S:Nat→Nat→Nat→Prop),¬g.pv ob bB∧w.heap[bB]? =some (.cells cur e2 (0,0))∧1≤g.cp ob∧g.cp ob≤maxLen∧cur.size=g.cp ob * i.size∧(∀i j x,S i j x→g.pv ob x)∧(∀i j i' j' x,S i j x→S i' j' x→i=i'∧j=j')∧∀(k j:Nat) (r:List OD) (c:OD) (v:Value),[r2][k]? =some r→r[j]? =some c→cur[k * i.size+j]? =some v→G9 w ok (S k j) c v:=by
          rcases b2 with⟨h,_⟩|⟨b,cur,S,q1,q2,q3,q4,q5,q6,q7,q8,q9⟩
          ·rw[hbB]at h;cases h
          ·rw[hbB]at q1;obtain rfl:=Option.some.inj q1;exact⟨cur,S,q2,q3,by simpa using q4,q5,q6,q7,q8,q9⟩
         have hr2:r2.length=i.size:=b1 0 r2 rfl;have hszB:i.size≤curB.size:=by
          rw[c6];exact Nat.le_mul_of_pos_left _ (by omega)
         obtain⟨a0,a1,a2,a3⟩:=hM.obj oa _ hma;obtain⟨_,hx2⟩:=hx.arr_invS hma rfl;obtain⟨xs,S,g1,g2,g3,g4,g5,g6⟩:∃(xs:List Value) (S:Nat→Nat→Nat→Prop),w.ownsRow 0 e1 i.size (a.eval sa) rows1.length xs∧(∀b,(a.eval sa).ownBlock=some b→∃x,Q5 s.mem oa=some x∧g.bl oa=some b)∧
           (∀k j r c u,rows1[k]? =some r→r[j]? =some c→xs[k * i.size+j]? =some u→G9 w ok (S k j) c u)∧(∀k j x,S k j x→(a.eval sa).ownBlock≠some x∧∃y,Q5 s.mem oa=some y∧y.at_ g oa x)∧(∀i j i' j' x,S i j x→S i' j' x→i=i'∧j=j')∧
           ∀i' j o n,(i',j,o,n)∈lk1→∃(r:List OD) (v:Value),rows1[i']? =some r∧j<i.size∧xs[i' * i.size+j]? =some v∧VR w ok g (Q5 s.mem) (.arr o 0 n) v:=by
          rcases a2 with⟨hb,rfl⟩|⟨b,cur,S,q1,q2,q3,q4,q5,q6,q7,q8,q9⟩
          ·rcases hx2 with⟨_,hv,_⟩|⟨b,hb',_⟩|⟨h5,_⟩
           ·refine⟨[],fun _ _ _=>False,by rw[hv];exact World.ownsRow_nil w 0 e1 i.size,(fun b hb=>by rw[hv]at hb;cases hb),by simp,(fun _ _ _ h=>h.elim),(fun _ _ _ _ _ h=>h.elim),fun i' j o n h=>?_⟩;obtain⟨r,b,v,t1,_⟩:=a3 i' j o n h;simp at t1
           ·rw[hb]at hb';cases hb'
           ·omega
          ·rcases hx2 with⟨hb',_⟩|⟨b',hb',hv⟩|⟨h5,_⟩
           ·rw[q1]at hb';cases hb'
           ·rw[q1]at hb';obtain rfl:=Option.some.inj hb';simp only[Nat.zero_mul,Nat.sub_zero]at hv;have hle:rows1.length * i.size≤g.cp oa * i.size:=Nat.mul_le_mul_right _ q4;refine⟨cur.toList.take (rows1.length * i.size),S,⟨by simp;omega,.inr ⟨b,g.cp oa,cur,hv,Nat.zero_le _,q3,q4,q5,q6,rfl⟩⟩,(fun b' hb'=>?_),(fun k j r c u hr hc hu=>?_),(fun k j x hx=>⟨fun h=>?_,_,hma,.inr (q7 k j x hx)⟩),q8,fun i' j o n h=>?_⟩
            ·rw[hv]at hb';simp[Value.ownBlock]at hb';subst hb';exact⟨_,hma,q1⟩
            ·rw[List.getElem?_take]at hu;split at hu
             ·exact q9 k j r c u hr hc (by simpa using hu)
             ·cases hu
            ·rw[hv]at h;simp[Value.ownBlock]at h;subst h;exact q2 (q7 k j _ hx)
            ·obtain⟨r,b2,v,t1,t2,t3,t4,t5⟩:=a3 i' j o n h;rw[q1]at t3;obtain rfl:=Option.some.inj t3;refine⟨r,v,t1,t2,?_,t5⟩;have hi':i'<rows1.length:=(List.getElem?_eq_some_iff.1 t1).1;have:(i'+1) * i.size≤rows1.length * i.size:=Nat.mul_le_mul_right _ hi';rw[Nat.add_mul]at this;rw[List.getElem?_take,if_pos (by omega)];rw[cell_of_row w b _ cur _ (0,0) q3]at t4;simpa using t4
           ·omega
         let news:=curB.toList.take i.size
         have hnl:news.length=1 * i.size:=by simp[news];omega
         have hnu:∀(j:Nat) (u:Value),news[j]? =some u→curB[j]? =some u:=fun j u hu=>by
          simp only[news]at hu;rw[List.getElem?_take]at hu;split at hu
          ·simpa using hu
          ·cases hu
         have hcell1:∀(j:Nat) (u:Value),news[j]? =some u→∃c,r2[j]? =some c∧G9 w ok (SB 0 j) c u:=fun j u hu=>by
          have hj:j<r2.length:=by have:=(List.getElem?_eq_some_iff.1 hu).1;omega
          have hc:r2[j]? =some r2[j]:=List.getElem?_eq_getElem hj;exact⟨_,hc,c9 0 j r2 _ u rfl hc (by rw[Nat.zero_mul,Nat.zero_add];exact hnu j u hu)⟩
         obtain⟨v',w',hrun,h2,h3,h4⟩:=run_append_news (P:=P) w 0 t ty e1 i z i.size i.bytes hu hi hz rfl rfl hzs hpos (a.eval sa) rows1.length xs g1 (some ⟨bB,0,none⟩) 1 (g.cp ob) news hnl
          (fun j u hu=>⟨_,rfl,by rw[Addr.add_lit,Nat.zero_add,cell_of_row w bB _ curB _ (0,0) c3];exact hnu j u hu⟩)
          (fun u hu=>by
           obtain⟨j,hj⟩:=List.mem_iff_getElem?.1 hu;obtain⟨c,_,hc⟩:=hcell1 j u hj;exact hc.oneCell) hp1 hp2 (Nat.zero_le _)
         have hxl:=g1.1;have hrows:(rows1++[r2]).length=rows1.length+1:=by simp
         obtain⟨g',m1,m2,m3⟩:=MS.growO (rows:=rows1++[r2]) (lk:=lk1++lkShift rows1.length lk2) hM oa hko hpos S (by rw[hrows];exact h2) h3 h4 g2 g4 g5
          (fun k r hr=>by
           rw[List.getElem?_append]at hr;split at hr
           ·exact a1 k r hr
           ·rcases hk:k-rows1.length with _|q
            ·rw[hk]at hr;simp at hr;subst hr;exact hr2
            ·rw[hk]at hr;simp at hr)
          (fun k j r c u hr hc hu=>by
           rw[List.getElem?_append]at hr;split at hr
           ·rename_i hk1;have hj:j<i.size:=by have:=a1 k r hr;have:=(List.getElem?_eq_some_iff.1 hc).1;omega
            have:(k+1) * i.size≤rows1.length * i.size:=Nat.mul_le_mul_right _ hk1;rw[Nat.add_mul]at this;rw[List.getElem?_append_left (by omega)]at hu;exact g3 k j r c u hr hc hu
           ·rename_i hk1;rcases hk:k-rows1.length with _|q
            ·rw[hk]at hr;simp at hr;subst hr;have hkk:k=rows1.length:=by omega
             subst hkk;rw[List.getElem?_append_right (by omega),hxl,Nat.add_sub_cancel_left]at hu;obtain⟨c',hc',hO⟩:=hcell1 j u hu;rw[hc]at hc';obtain rfl:=Option.some.inj hc';exact noOwn_get hno j c hc w w ok _ _ u hO
            ·rw[hk]at hr;simp at hr)
          (fun i' j o n hmem=>by
           rcases List.mem_append.1 hmem with hmem|hmem
           ·obtain⟨r,v,t1,t2,t3,t4⟩:=g6 i' j o n hmem;have hi':i'<rows1.length:=(List.getElem?_eq_some_iff.1 t1).1;refine⟨by have:=F7 hl1 hmem;rwa [Xq]at this,r,v,by rw[List.getElem?_append_left hi'];exact t1,t2,?_,t4⟩;have:(i'+1) * i.size≤rows1.length * i.size:=Nat.mul_le_mul_right _ hi';rw[Nat.add_mul]at this;rw[List.getElem?_append_left (by omega)];exact t3
           ·obtain⟨i2,rfl,hmem2⟩:=lkShift_mem hmem;obtain⟨r,b',v,t1,t2,t3,t4,t5⟩:=b3 i2 j o n hmem2;rcases i2 with _|i2
            ·simp at t1;subst t1;rw[hbB]at t3;obtain rfl:=Option.some.inj t3;refine⟨by have:=F7 hl2 hmem2;rwa [Xq]at this,r2,v,by rw[Nat.zero_add,List.getElem?_append_right (Nat.le_refl _)];simp,t2,?_,t5⟩;rw[Nat.zero_add,List.getElem?_append_right (by omega),hxl,Nat.add_sub_cancel_left];simp only[news];rw[List.getElem?_take,if_pos t2];rw[Nat.zero_mul,Nat.zero_add,cell_of_row w bB _ curB _ (0,0) c3]at t4;simpa using t4
            ·simp at t1)
         rw[hrows]at m3;refine⟨v',w',.inl ?_,St.after hs hdf hf (some d) hd _ _ ⟨[oa],[(oa,some (.raw (.own e1 i.size (rows1++[r2]) (lk1++lkShift rows1.length lk2))))]⟩ ⟨m1,m2⟩ (fun _=>m3)⟩;simp only[execOp,resolve,invoke,builtin,Sem.run_bind,Sem.run_pure,Result.andThen_ok,List.map_toArray,List.map_cons,List.map_nil,hvB,hrun]
        ·cases he
       ·cases he
      ·cases he
     ·cases he
    ·cases he
   ·cases he
  ·cases he
 ·cases he
end
end Go.Proofs.YtlbcipohiepjmaaDoor
namespace Go.Proofs.YtlbcipohiepjmaaDoor
open Go.RowKit
def oneM (d:Nat) (x:Option Q6):Me:=fun i=>if d==i then x else none
def noM:Me:=fun _=>none
def noG:Gh:=⟨fun _=>none,fun _=>0,fun _ _=>False⟩
structure Qv (P:Program) (k:Nat) (args:List AV) (r:Nat→AV) (x:Option Q6):Prop where
 ent:∃fn,P.funcs[k]? =some fn∧(fn.name== "runtime.NumGoroutine")=false∧fn.body.isNone=false
 rcl:∀d,(r d).has (fun i=>!(d==i))=false
 nil:x=none→∀d,(r d).has (fun _=>true)=false
 arr:∀y,x=some y→∃e sz rows,y= .arr e sz rows
 run:∀(d:Nat) (w:World) (ok:Nat→Prop) (vals:Array Value),GI w→(∀b,ok b→b<w.heap.size)→args.length=vals.size→(∀(i:Nat) (c:AV) (v:Value),args[i]? =some c→vals[i]? =some v→VR w ok noG noM c v)→
  Calls P k vals w fun e w'=>∃v ok' g',e= .returned v∧Below w.heap.size w w'∧(∀b,ok b→ok' b)∧(∀b,ok' b→ok b∨(w.heap.size≤b∧b<w'.heap.size))∧VR w' ok' g' (oneM d x) (r d) v∧
   (∀y,x=some y→OR w' ok' g' (oneM d x) d y∧∀b,g'.bl d=some b→¬ok' b∧w.heap.size≤b∧b<w'.heap.size)
theorem VR.toNo {w:World} {ok:Nat→Prop} {g g':Gh} {m:Me} {c:AV} {v:Value} (h:VR w ok g m c v):VR w ok g' noM c v:=
 h.mono (fun _=>false) (AV.V6 (fun _=>rfl) c) (fun _ _=>rfl) (fun _ h=>h) fun o x' _ hx'=>by cases hx'
def J4 (d:Nat) (x:Option Q6):Eff:=match x with|some y=>⟨[d],[(d,some y)]⟩|none=>⟨[],[]⟩
theorem Qv.step {P:Program} {C:Cx} {k:Nat} {args:List AV} {r:Nat→AV} {x:Option Q6} (hS:Qv P k args r x) {s:AS} {a:Act} {w:World} {ok:Nat→Prop} {g:Gh} (hM:MS C w ok g (Q5 s.mem)) (hs:a.tmps.size=s.n) (hdf:a.defers=[])
  (hf:∀t,VR w ok g (Q5 s.mem) (Z9 s.fr t) (a.tmps.getD t undef)) (dst:Option Nat) (hd:∀d,dst=some d→d<s.n) (d:Nat) (hdd:x≠none→Nat.ble 500 d=false)
  {vals:Array Value} (hl:args.length=vals.size) (hv:∀(i:Nat) (c:AV) (v:Value),args[i]? =some c→vals[i]? =some v→VR w ok g (Q5 s.mem) c v):
  Calls P k vals w fun e w'=>∃v,e= .returned v∧St C (s.after dst (r d) (J4 d x)) (a.put dst v) w':=by
 refine(hS.run d w ok vals hM.giw (fun b hb=>(hM.okb b hb).1) hl (fun i c v hc hvi=>(hv i c v hc hvi).toNo)).mono ?_;rintro e w' ⟨v,ok',g',rfl,hb,hok,hokn,hr,hx⟩;refine⟨v,rfl,?_⟩;have hokc:∀b,ok b→w'.heap[b]? =w.heap[b]?:=fun b h=>hb.block b (hM.okb b h).1
 let g2:Gh:=⟨fun i=>if (d==i && x.isSome)=true then g'.bl d else g.bl i,fun i=>if (d==i && x.isSome)=true then g'.cp d else g.cp i,g.pv⟩
 have hUd:∀i,X6 (J4 d x).ws i=(d==i && x.isSome):=fun i=>by
  cases x with
  |none=>simp[J4,X6]
  |some y=>simp[J4,Qk]
 have hqd:∀i,Qj (J4 d x).q i=(d==i && x.isSome):=fun i=>by
  cases x with
  |none=>simp[J4,Qj]
  |some y=>simp[J4,Xq]
 have hNd:∀i y,Q5 (J4 d x).ws i=some y→d=i∧x=some y:=fun i y hy=>by
  cases x with
  |none=>cases hy
  |some z=>
   simp only[J4,Q5]at hy;split at hy
   ·rename_i h;exact⟨by simpa using h,hy⟩
   ·cases hy
 have hdi:∀i,(d==i && x.isSome)=true→d=i∧x≠none:=fun i hi=>by
  simp only[Bool.and_eq_true,beq_iff_eq]at hi;exact⟨hi.1,by rintro rfl;simp at hi⟩
 have hMS:=MS.eff (w':=w') (ok':=ok') (g':=g2) hM (X6 (J4 d x).ws) (Qj (J4 d x).q) (Q5 (J4 d x).ws)
  (fun i hi=>by rw[hqd]at hi;rw[hUd];exact hi)
  (fun i y hU hN=>by
   obtain⟨rfl,hxy⟩:=hNd i y hN;obtain⟨e,sz,rows,rfl⟩:=hS.arr y hxy;have hss:x.isSome=true:=by rw[hxy];rfl
   have eb:g2.bl d=g'.bl d:=by simp[g2,hss]
   have ec:g2.cp d=g'.cp d:=by simp[g2,hss]
   have h0:=(hx _ hxy).1;unfold OR at h0⊢;dsimp only at h0⊢;rw[eb,ec];exact h0)
  (fun i hq=>by rw[hqd]at hq;simp[g2,hq])
  (fun i y hU hq hN=>by rw[hUd]at hU;rw[hqd]at hq;rw[hU]at hq;cases hq)
  (fun i y b hU hy hbi=>hb.block b (hM.own i y b hy hbi).2.1)
  hokc hok
  (fun b hb'=>by
   rcases hokn b hb' with h|⟨h1,h2⟩
   ·exact .inl h
   ·refine .inr ⟨h2,by have:=hM.size;omega,fun i y _ hy hbi=>?_⟩;have:=(hM.own i y b hy hbi).2.1;omega)
  (fun i y b hU hN hbi=>by
   obtain⟨rfl,hxy⟩:=hNd i y hN;have hss:x.isSome=true:=by rw[hxy];rfl
   obtain⟨e0,sz0,rows0,e1⟩:=hS.arr y hxy;rw[e1]at hbi;have hbi:=Q6.at_arr.1 hbi;have hbd:g'.bl d=some b:=by simpa[g2,hss]using hbi
   obtain⟨k1,k2,k3⟩:=(hx y hxy).2 b hbd;refine⟨k1,k3,.inl (by have:=hM.size;omega),fun j xj hUj hj hbj=>?_,fun j xj hUj _ _=>?_⟩
   ·have:=(hM.own j xj b hj hbj).2.1;omega
   ·rw[hUd]at hUj;exact(hdi j hUj).1)
  (fun i hi=>by
   rw[hqd]at hi;obtain⟨rfl,hne⟩:=hdi i hi;exact R8 (hdd hne))
  hb.size
  (fun b hbs _=>hb.block b (by have:=hM.size;omega))
  hb.os hb.tape hb.output
 refine St.after (ok':=ok') (g':=g2) hs hdf hf dst hd (r d) v (J4 d x) hMS (fun _=>?_);cases hx0:x with
 |none=>
  subst hx0;exact hr.mono (fun _=>true) (hS.nil rfl d) (fun _ _=>rfl) (fun _ h=>h) (fun o x' hq _=>by cases hq)
 |some y=>
  subst hx0;refine hr.mono (fun i=>!(d==i)) (hS.rcl d) (fun _ _=>rfl) (fun _ h=>h) (fun o x' hq hx'=>?_);have e2:d=o:=by simpa using hq
  subst e2;simp only[J4,Zq,Qk,beq_self_eq_true,if_true,Q5]at hx';exact⟨x',by simpa[oneM]using hx',Q6.Wq _,by simp[g2],by simp[g2]⟩
def Jj:AV→Option (Nat×List AV)
 | .d (.fn k)=>some (k,[])
 | .clo k cap=>some (k,cap)
 |_=>none
abbrev PHint:=(Nat→AV)×Option Q6
def doOp (P:Program) (s:AS) (o:Oper) (hs:List PHint):Option (AS×Prop×List PHint):=
 match Y8 P (Q5 s.mem) (evA s.fr) o.dst o.op with
 |some (c,e,p)=>some (s.after o.dst c e,p,hs)
 |none=>match o.op,hs with
  | .call cc,(r,x)::hs=>match cc.callee with
   | .value f=>match Jj (evA s.fr f)with
    |some (k,cap)=>
     let d:=o.dst.getD 0
     if x.isSome && Nat.ble 500 d then none else
     some (s.after o.dst (r d) (J4 d x),Qv P k (cc.args.toList.map (evA s.fr)++cap) r x,hs)
    |none=>none
   |_=>none
  |_,_=>none
def Rz (s:AS) (o:Oper):Bool:=match o.dst with|some d=>Nat.ble (d+1) s.n|none=>true
theorem doOp_ok {P:Program} {C:Cx} {s s':AS} {o:Oper} {h h':List PHint} {p:Prop} (hd:Rz s o=true) (he:doOp P s o h=some (s',p,h')) (hp:p) {a:Act} {w:World} (hst:St C s a w) {K:Act→World→Prop} {Q:Exit→Act→World→Prop} (hK:∀a w,St C s' a w→K a w):o.wp P a w K Q:=by
 have hd':∀d,o.dst=some d→d<s.n:=fun d h=>by
  simp only[Rz,h]at hd;exact Nat.lt_of_succ_le (Nat.le_of_ble_eq_true hd)
 unfold doOp at he;split at he
 ·rename_i c e p' heff;simp only[Option.some.injEq,Prod.mk.injEq]at he;obtain⟨rfl,rfl,rfl⟩:=he;obtain⟨v,w',hrun,hst'⟩:=effOp_ok hst heff hp hd';unfold Oper.wp;rcases hrun with hrun|⟨hrun,rfl⟩
  ·rw[hrun];exact hK _ _ hst'
  ·rw[hrun];exact hK _ _ hst'
 ·split at he
  ·rename_i cc r x hs' hop;split at he
   ·rename_i f hcal;split at he
    ·rename_i k cap hk;dsimp only at he;split at he
     ·cases he
     ·rename_i hx;simp only[Option.some.injEq,Prod.mk.injEq]at he;obtain⟨rfl,rfl,rfl⟩:=he;obtain⟨ok,g,hM,hs,hdf,hf⟩:=hst;have hev:∀x,VR w ok g (Q5 s.mem) (evA s.fr x) (a.eval x):=evA_ok hf;obtain⟨fn,hfn,hnm,hbd⟩:=hp.ent;have hnm':¬fn.name= "runtime.NumGoroutine":=by simpa using hnm
      have hbd':¬fn.body=none:=fun e=>by rw[e]at hbd;cases hbd
      have hcf:=hev f;obtain⟨capv,hcv,hcl,hcr⟩:∃capv:Array Value,a.eval f= .func (.func k) #[] capv∧cap.length=capv.size∧∀(i:Nat) (c:AV) (v:Value),cap[i]? =some c→capv[i]? =some v→VR w ok g (Q5 s.mem) c v:=by
       unfold Jj at hk;split at hk
       ·rename_i k' ek;rw[ek]at hcf;simp only[Option.some.injEq,Prod.mk.injEq]at hk;obtain⟨rfl,rfl⟩:=hk;have hcf':=hcf.Z6;generalize a.eval f=vv at hcf'⊢;cases hcf' with
        |fn f=>exact⟨#[],rfl,rfl,by simp⟩
       ·rename_i k' cap' ek;rw[ek]at hcf;simp only[Option.some.injEq,Prod.mk.injEq]at hk;obtain⟨rfl,rfl⟩:=hk;obtain⟨vs,h1,h2,h3⟩:=hcf.clo_inv;exact⟨vs,h1,h2,h3⟩
       ·cases hk
      obtain⟨hal,har⟩:=VR.map hev cc.args;have hcall:=hp.step hM hs hdf hf o.dst hd' (o.dst.getD 0) (fun hne=>by
       cases x with
       |none=>exact absurd rfl hne
       |some y=>
        rcases hb:Nat.ble 500 (o.dst.getD 0)
        ·rfl
        ·simp[hb]at hx) (vals:=cc.args.map a.eval++capv) (by simp[hcl]) (fun i c v hc hv=>by
       rw[List.getElem?_append]at hc;rw[Array.getElem?_append]at hv;simp only[List.length_map,Array.length_toList]at hc;simp only[Array.size_map]at hv;split at hc
       ·rw[if_pos (by assumption)]at hv;exact har i c v hc hv
       ·rw[if_neg (by assumption)]at hv;exact hcr _ c v hc hv)
      have hrun:(execOp a.eval o).run P w= .ok (.enter k (cc.args.map a.eval++capv)) w:=by
       unfold execOp;rw[hop];obtain⟨callee,args,argTypes⟩:=cc;dsimp only at hcal;subst hcal;simp[resolve,Deferred.ofValue,hcv,invoke,callFunc,hfn,hnm',hbd']
      unfold Oper.wp;rw[hrun];refine Calls.mono hcall ?_;rintro e w' ⟨v,rfl,hst'⟩;exact hK _ _ hst'
    ·cases he
   ·cases he
  ·cases he
end Go.Proofs.YtlbcipohiepjmaaDoor
namespace Go.Proofs.YtlbcipohiepjmaaDoor
open Go.RowKit
def zAt:List (Nat×List Nat)→Nat→List Nat
 |[],_=>[]
 |(i,l)::r,k=>if i==k then l else zAt r k
def D9:List Nat→AS→Option AS
 |[],s=>some s
 |o::r,s=>if Nat.ble 500 o then none else D9 r (s.frz o)
def Kv (ops:Array Oper) (s:AS) (o:Oper):Option Bool:=
 match o.guard with
 |none=>some true
 |some (j,want)=>match (ops[j]?).bind (·.dst)with
  |some t=>match Z9 s.fr t with
   | .d (.bool b)=>some (b==want)
   | .tuple []=>some false
   |_=>none
  |none=>none
def runL (P:Program) (ops:Array Oper) (z:List (Nat×List Nat)):List Oper→Nat→List PHint→AS→Option (AS×Prop)
 |[],_,_,s=>some (s,True)
 |o::rest,k,h,s=>match D9 (zAt z k) s with
  |none=>none
  |some s=>if Rz s o then (match Kv ops s o with
   |some true=>match doOp P s o h with
    |some (s',p,h')=>match runL P ops z rest (k+1) h' s' with
     |some (s'',p')=>some (s'',p∧p')
     |none=>none
    |none=>none
   |some false=>runL P ops z rest (k+1) h (s.after o.dst .any ⟨[],[]⟩)
   |none=>none)else none
theorem frzs_ok {C:Cx}:∀(l:List Nat) {s s':AS},D9 l s=some s'→∀{a:Act} {w:World},St C s a w→St C s' a w
 |[],s,s',h,a,w,hs=>by simp[D9]at h;subst h;exact hs
 |o::r,s,s',h,a,w,hs=>by
  unfold D9 at h;split at h
  ·cases h
  ·rename_i ho;exact frzs_ok r h (hs.frz o (by rw[←Bool.not_eq_true];exact ho))
theorem guardOk_ok {C:Cx} {ops:Array Oper} {s:AS} {o:Oper} {b:Bool} (h:Kv ops s o=some b) {a:Act} {w:World} (hs:St C s a w):Region.wanted o (yielded ops a.tmps)=b:=by
 unfold Kv at h;unfold Region.wanted;split at h
 ·rename_i hg;simp at h;subst h;simp[hg]
 ·rename_i j want hg;rw[hg];split at h
  ·rename_i t ht;split at h
   ·rename_i b' hb;simp at h;subst h;obtain⟨ok,g,hM,h1,h2,h3⟩:=hs;have:=h3 t;rw[hb]at this;have hv:=this.Z6.E8;have hg:a.tmps[t]? =some (.bool b'):=by
     rcases Nat.lt_or_ge t a.tmps.size with hlt|hge
     ·rw[Array.getElem?_eq_getElem hlt];simp[hlt]at hv;rw[hv]
     ·simp[hge,undef]at hv
    simp[yielded,ht,hg]
   ·rename_i hb;simp at h;subst h;obtain⟨ok,g,hM,h1,h2,h3⟩:=hs;have hv:=h3 t;rw[hb]at hv;have hv':a.tmps.getD t undef= .tuple #[]:=by
     generalize a.tmps.getD t undef=v at hv;cases hv with
     |tuple cs vs hl h=>
      have:vs= #[]:=Array.eq_empty_of_size_eq_zero (by simpa using hl.symm);rw[this]
    have hy:yielded ops a.tmps j=none:=by
     unfold yielded;rw[ht];simp only[Option.bind_some];rcases Nat.lt_or_ge t a.tmps.size with hlt|hge
     ·rw[Array.getElem?_eq_getElem hlt];simp[hlt]at hv';rw[hv']
     ·simp[hge]
    dsimp only;rw[hy];rfl
   ·cases h
  ·cases h
theorem St.skipT {C:Cx} {s:AS} {a:Act} {w:World} (h:St C s a w) (dst:Option Nat) (hd:∀d,dst=some d→d<s.n):St C (s.after dst (.tuple []) ⟨[],[]⟩) (a.put dst undef) w:=by
 obtain⟨ok,g,hM,hs,hdf,hf⟩:=h;refine St.after (ok:=ok) (g:=g) (ok':=ok) (g':=g) hs hdf hf dst hd (.tuple []) undef ⟨[],[]⟩ ?_ (fun _=>.tuple [] #[] rfl (fun i c v hc=>by simp at hc));rw[meEff_nil];exact⟨hM,fun c v _ h=>h⟩
theorem dstOk_lt {s:AS} {o:Oper} (hd:Rz s o=true):∀d,o.dst=some d→d<s.n:=fun d h=>by
 simp only[Rz,h]at hd;exact Nat.lt_of_succ_le (Nat.le_of_ble_eq_true hd)
def Le (s s':AS):Prop:=∀(C:Cx) (a:Act) (w:World),St C s a w→St C s' a w
theorem Le.refl (s:AS):Le s s:=fun _ _ _ h=>h
theorem Le.trans {a b c:AS} (h:Le a b) (k:Le b c):Le a c:=fun C x w hs=>k C x w (h C x w hs)
theorem Le.D9 {s s':AS} (l:List Nat) (h:D9 l s=some s'):Le s s':=fun _ _ _ hs=>frzs_ok l h hs
def Nk (f:List (Nat×AV)):List Nat→List (Nat×AV)
 |[]=>[]
 |t::r=>(t,Z9 f t)::Nk f r
def Mv (f:List (Nat×Option Q6)):List Nat→List (Nat×Option Q6)
 |[]=>[]
 |t::r=>(t,Q5 f t)::Mv f r
theorem keepF_get (f:List (Nat×AV)) (l:List Nat) (t:Nat):Z9 (Nk f l) t= .any∨Z9 (Nk f l) t=Z9 f t:=by
 induction l with
 |nil=>exact .inl rfl
 |cons u r ih=>
  simp only[Nk,Z9];by_cases h:(u==t)=true
  ·rw[if_pos h];have:u=t:=by simpa using h
   rw[this];exact .inr rfl
  ·rw[if_neg h];exact ih
theorem keepM_get (f:List (Nat×Option Q6)) (l:List Nat) (o:Nat) (x:Q6) (h:Q5 (Mv f l) o=some x):Q5 f o=some x:=by
 induction l with
 |nil=>cases h
 |cons u r ih=>
  simp only[Mv,Q5]at h;split at h
  ·rename_i hu;have:u=o:=by simpa using hu
   rw[←this];exact h
  ·exact ih h
theorem Le.keep (s:AS) (lf lm:List Nat):Le s ⟨s.n,Nk s.fr lf,Mv s.mem lm⟩:=fun _ _ _ h=>
 h.weak rfl (fun t=>keepF_get s.fr lf t) (fun o x=>keepM_get s.mem lm o x)
def AWp (P:Program) (c:Code) (Q:Exit→AS→Prop) (s:AS):Prop:=
 ∀(C:Cx) (a:Act) (w:World),St C s a w→c.wp P (fun e a' w'=>∃s',Q e s'∧St C s' a' w') a w
def Qq (K:AS→Prop) (Q:Exit→AS→Prop):Exit→AS→Prop
 | .normal,s=>K s
 |e,s=>Q e s
def Q8 (id:Nat) (Q:Exit→AS→Prop):Exit→AS→Prop
 | .exit id',s=>if id'=id then Q .normal s else Q (.exit id') s
 |e,s=>Q e s
section
variable {P:Program} {Q:Exit→AS→Prop} {s:AS}
theorem AWp.mono {c:Code} {Q':Exit→AS→Prop} (h:AWp P c Q s) (hq:∀e s,Q e s→Q' e s):AWp P c Q' s:=fun C a w hs=>wp_mono (h C a w hs) fun e a w ⟨s',h1,h2⟩=>⟨s',hq e s' h1,h2⟩
theorem AWp.le {c:Code} {s':AS} (hl:Le s s') (h:AWp P c Q s'):AWp P c Q s:=fun C a w hs=>h C a w (hl C a w hs)
theorem AWp.skip (h:Q .normal s):AWp P .skip Q s:=fun C a w hs=>wp_skip ⟨s,h,hs⟩
theorem AWp.exit {id:Nat} (h:Q (.exit id) s):AWp P (.exit id) Q s:=fun C a w hs=>wp_exit ⟨s,h,hs⟩
theorem AWp.ret (h:Q .ret s):AWp P .ret Q s:=fun C a w hs=>wp_ret ⟨s,h,hs⟩
theorem AWp.seq {x y:Code} (h:AWp P x (Qq (AWp P y Q) Q) s):AWp P (.seq x y) Q s:=fun C a w hs=>
 wp_seq (wp_mono (h C a w hs) fun e a' w' ⟨s',h1,h2⟩=>by
  cases e with
  |normal=>exact h1 C a' w' h2
  |_=>exact⟨s',h1,h2⟩)
theorem AWp.block {id:Nat} {c:Code} (h:AWp P c (Q8 id Q) s):AWp P (.block id c) Q s:=fun C a w hs=>
 wp_block (wp_mono (h C a w hs) fun e a' w' ⟨s',h1,h2⟩=>by
  cases e with
  |exit id'=>
   simp only[Exit.inBlock,Q8]at h1⊢;split
   ·rename_i hid;rw[if_pos hid]at h1;exact⟨s',h1,h2⟩
   ·rename_i hid;rw[if_neg hid]at h1;exact⟨s',h1,h2⟩
  |_=>exact⟨s',h1,h2⟩)
theorem AWp.cond {c:Operand} {x y:Code} {t:Bool} (hc:evA s.fr c= .d (.bool t)) (ht:t=true→AWp P x Q s) (hf:t=false→AWp P y Q s):AWp P (.cond c x y) Q s:=fun C a w hs=>by
 have hb:a.eval c= .bool t:=by
  obtain⟨ok,g,hM,h1,h2,h3⟩:=hs;have:=evA_ok h3 c;rw[hc]at this;exact this.Z6.E8
 exact wp_cond_split hb (fun h=>ht h C a w hs) (fun h=>hf h C a w hs)
theorem AWp.condU {c:Operand} {x y:Code} (hc:evA s.fr c= .d .ub) (ht:AWp P x Q s) (hf:AWp P y Q s):AWp P (.cond c x y) Q s:=fun C a w hs=>by
 have hs':=hs;obtain⟨ok,g,hM,h1,h2,h3⟩:=hs;have hv:=evA_ok h3 c;rw[hc]at hv;obtain⟨b,hb⟩:∃b,a.eval c= .bool b:=by
  have:=hv.Z6;generalize a.eval c=v at this;cases this;exact⟨_,rfl⟩
 cases b with
 |true=>exact wp_cond_true hb (ht C a w hs')
 |false=>exact wp_cond_false hb (hf C a w hs')
theorem AWp.loop {c:Code} {ι:Type} (σ:ι→AS) (μ:ι→Nat) (i0:ι) (h0:Le s (σ i0)) (round:∀i,AWp P c (Qq (fun s'=>∃j,μ j<μ i∧Le s' (σ j)) Q) (σ i)):AWp P (.loop c) Q s:=fun C a w hs=>by
 have key:∀n i a w,μ i=n→St C (σ i) a w→∀(b:Frame) (k:List Item) (cs:List Frame),∃e a' w',(∃s',Q e s'∧St C s' a' w')∧Arrives P (lone (b.at a (.code c:: .inLoop c::k)) cs w) b k cs e a' w':=by
  intro n;induction n using Nat.strongRecOn with
  |_ n ih=>
   intro i a w hn hi b k cs;obtain⟨e,a1,w1,⟨s',hq,hs'⟩,harr⟩:=round i C a w hi b (.inLoop c::k) cs;cases e with
   |normal=>
    obtain⟨j,hlt,hle⟩:=hq;obtain⟨e2,a2,w2,hq2,harr2⟩:=ih (μ j) (hn▸hlt) j a1 w1 rfl (hle C a1 w1 hs') b k cs;exact⟨e2,a2,w2,hq2,.of_steps (Steps.trans harr (.one step_inLoop)) harr2⟩
   |exit id=>exact⟨_,a1,w1,⟨s',hq,hs'⟩,.pass (x:=.inLoop c) rfl (fun _ _=>.inl (by simp)) harr⟩
   |goto l=>exact⟨_,a1,w1,⟨s',hq,hs'⟩,.pass (x:=.inLoop c) rfl (fun _ _=>.inl (by simp)) harr⟩
   |ret=>exact⟨_,a1,w1,⟨s',hq,hs'⟩,.pass (x:=.inLoop c) rfl (fun _ _=>.inl (by simp)) harr⟩
   |panic ch=>exact⟨_,a1,w1,⟨s',hq,hs'⟩,.pass (x:=.inLoop c) rfl (fun _ _=>.inl (by simp)) harr⟩
   |outgrown=>exact⟨_,a1,w1,⟨s',hq,hs'⟩,.pass (x:=.inLoop c) rfl (fun _ _=>.inl (by simp)) harr⟩
 intro b k cs;obtain⟨e,a',w',hq,harr⟩:=key _ i0 a w rfl (h0 C a w hs) b k cs;exact⟨e,a',w',hq,.of_steps (.one step_loop) harr⟩
end
def frOf:Nat→List AV→List (Nat×AV)
 |_,[]=>[]
 |k,c::r=>(k,c)::frOf (k+1) r
theorem frOf_get (l:List AV) (k t:Nat):Z9 (frOf k l) t=if k≤t then (l[t-k]?).getD .any else .any:=by
 induction l generalizing k with
 |nil=>simp[frOf,Z9]
 |cons c r ih=>
  simp only[frOf,Z9,ih];by_cases h:k=t
  ·subst h;simp
  ·have h':(k==t)=false:=by simpa using h
   rw[h'];simp only[Bool.false_eq_true,if_false];by_cases hk:k≤t
   ·have e:t-k=(t-(k+1))+1:=by omega
    rw[if_pos hk,if_pos (by omega),e];simp
   ·rw[if_neg hk,if_neg (by omega)]
def Qz (P:Program) (s:AS):List ResultVar→Option (List AV)
 |[]=>some []
 | .tmp t::r=>match Qz P s r with
  |some l=>some (Z9 s.fr t::l)
  |none=>none
 | .cell t ty::r=>match Ux P ty with
  |some (b,n)=>match Jv (Q5 s.mem) (Z9 s.fr t) n with
   |some cs=>match Hq b cs,Qz P s r with
    |some c,some l=>some (c::l)
    |_,_=>none
   |none=>none
  |none=>none
def Zz:List AV→AV
 |[c]=>c
 |l=>.tuple l
def resOne (a:Act):ResultVar→Sem Value
 | .tmp t=>pure (a.tmps.getD t undef)
 | .cell t ty=>do loadVar ty (←asAddr (a.tmps.getD t undef))
theorem resAV_ok {P:Program} {C:Cx} {s:AS} {a:Act} {w:World} {ok:Nat→Prop} {g:Gh} (hM:MS C w ok g (Q5 s.mem)) (hf:∀t,VR w ok g (Q5 s.mem) (Z9 s.fr t) (a.tmps.getD t undef)):
  ∀(l:List ResultVar) (cs:List AV),Qz P s l=some cs→∃vs:List Value,(l.mapM (resOne a)).run P w= .ok vs w∧cs.length=vs.length∧∀(i:Nat) (c:AV) (v:Value),cs[i]? =some c→vs[i]? =some v→VR w ok g (Q5 s.mem) c v
 |[],cs,h=>by simp[Qz]at h;subst h;exact⟨[],rfl,rfl,by simp⟩
 | .tmp t::r,cs,h=>by
  unfold Qz at h;split at h
  ·rename_i l hl;simp at h;subst h;obtain⟨vs,h1,h2,h3⟩:=resAV_ok hM hf r l hl;refine⟨a.tmps.getD t undef::vs,?_,by simpa using h2,fun i c v hc hv=>?_⟩
   ·rw[List.mapM_cons];simp only[resOne,Sem.run_bind,Sem.run_pure,Result.andThen_ok,h1]
   ·rcases i with _|i
    ·obtain rfl:Z9 s.fr t=c:=Option.some.inj hc;obtain rfl:a.tmps.getD t undef=v:=Option.some.inj hv;exact hf t
    ·exact h3 i c v hc hv
  ·cases h
 | .cell t ty::r,cs,h=>by
  unfold Qz at h;split at h
  ·rename_i b n hty;split at h
   ·rename_i cs' hcs;split at h
    ·rename_i c l hc hl;simp at h;subst h;obtain⟨vs,h1,h2,h3⟩:=resAV_ok hM hf r l hl;obtain⟨bb,off,us,hv,hlu,hcell,hvs⟩:=hM.rd (hf t) hcs;obtain⟨k1,k2⟩:=mkVal_ok hc hvs;obtain⟨l1,l2⟩:=run_loadVar_at (P:=P) hty hlu hcell;have hval:∃v,(loadVar ty ⟨bb,off,none⟩).run P w= .ok v w∧VR w ok g (Q5 s.mem) c v:=by
      cases b
      ·obtain⟨v,hv1,hr⟩:=k2 rfl;exact⟨v,l2 rfl v hv1,hr⟩
      ·exact⟨_,l1 rfl,k1 rfl⟩
     obtain⟨v,hv1,hv2⟩:=hval;refine⟨v::vs,?_,by simpa using h2,fun i c v hc hv=>?_⟩
     ·rw[List.mapM_cons];simp only[resOne,Sem.run_bind,hv,asAddr,Sem.run_pure,Result.andThen_ok,hv1,h1]
     ·rcases i with _|i
      ·simp at hc hv;subst hc hv;exact hv2
      ·exact h3 i c v hc hv
    ·cases h
   ·cases h
  ·cases h
theorem Iz {P:Program} {C:Cx} {s:AS} {a:Act} {w:World} {ok:Nat→Prop} {g:Gh} (hM:MS C w ok g (Q5 s.mem)) (hf:∀t,VR w ok g (Q5 s.mem) (Z9 s.fr t) (a.tmps.getD t undef))
  {fn:Func} {cs:List AV} (h:Qz P s fn.results.toList=some cs):∃v,(results fn a.tmps).run P w= .ok v w∧VR w ok g (Q5 s.mem) (Zz cs) v:=by
 obtain⟨vs,h1,h2,h3⟩:=resAV_ok hM hf _ cs h;refine⟨if h:vs.toArray.size=1 then vs.toArray[0]else .tuple vs.toArray,?_,?_⟩
 ·have e:∀l:Array ResultVar,(do
    let vs←l.mapM (resOne a)
    (Pure.pure (if h:vs.size=1 then vs[0]else .tuple vs):Sem Value)).run P w=((l.toList.mapM (resOne a)).run P w).andThen fun vs w=>.ok (if h:vs.toArray.size=1 then vs.toArray[0]else .tuple vs.toArray) w:=fun l=>by
   rw[←Array.toArray_toList (xs:=l),List.mapM_toArray];simp only[Sem.run_bind,Sem.run_map,Sem.run_pure];cases(l.toList.mapM (resOne a)).run P w<;> rfl
  refine(e fn.results).trans ?_;simp only[h1,Result.andThen_ok]
 ·match cs,vs,h2,h3 with
  |[c],[v],_,h3=>exact h3 0 c v rfl rfl
  |[],[],_,h3=>exact .tuple _ _ rfl (by simp)
  |c::c'::cs,v::v'::vs,h2,h3=>
   simp only[Zz,List.size_toArray,List.length_cons];rw[dif_neg (by omega)];exact .tuple _ _ (by simpa using h2) (fun i c v hc hv=>h3 i c v hc (by simpa using hv))
def Qw (n:Nat) (args:List AV):AS:=⟨n,frOf 0 args,[]⟩
mutual
def AV.X7:AV→AV
 | .lit (.slice none 0 0)=>.d (.sl [])
 | .agg cs=>.agg (Jq cs)
 | .tuple cs=>.tuple (Jq cs)
 |c=>c
def Jq:List AV→List AV
 |[]=>[]
 |c::cs=>AV.X7 c::Jq cs
end
theorem nilDL_eq (cs:List AV):Jq cs=cs.map AV.X7:=by
 induction cs with
 |nil=>rfl
 |cons c cs ih=>simp only[Jq,List.map_cons,ih]
theorem VR.X7 {w:World} {ok:Nat→Prop} {g:Gh} {m:Me} {c:AV} {v:Value} (h:VR w ok g m c v):VR w ok g m c.X7 v:=by
 induction h with
 |any v=>exact .any v
 |d d v h=>exact .d d v h
 |lit v h=>
  unfold AV.X7;split
  ·rename_i e;cases e;exact .d _ _ (.empty none 0 (fun _=>rfl) (Nat.zero_le _))
  ·rename_i e;cases e
  ·rename_i e;cases e
  ·exact .lit v h
 |fl rows v h hr=>exact .fl rows v h hr
 |ptr o off v hv h=>exact .ptr o off v hv h
 |arr o l n v hv h=>exact .arr o l n v hv h
 |K7 o i j v hv h=>exact .K7 o i j v hv h
 |mp o v hv h=>exact .mp o v hv h
 |agg cs vs hl h h1 ih=>
  simp only[AV.X7,nilDL_eq];refine .agg _ _ (by simpa using hl) (fun i c v hc hv=>?_) h1;rw[List.getElem?_map]at hc;obtain⟨c',hc',rfl⟩:=Option.map_eq_some_iff.1 hc;exact ih i c' v hc' hv
 |tuple cs vs hl h ih=>
  simp only[AV.X7,nilDL_eq];refine .tuple _ _ (by simpa using hl) (fun i c v hc hv=>?_);rw[List.getElem?_map]at hc;obtain⟨c',hc',rfl⟩:=Option.map_eq_some_iff.1 hc;exact ih i c' v hc' hv
 |clo f cs vs hl h ih=>exact .clo f cs vs hl h
def Z5 (P:Program) (fn:Func) (r:Nat→AV) (x:Option Q6) (o:Nat):Exit→AS→Prop:=fun e s=>
 (e= .ret∨e= .normal)∧∃s',Le s s'∧∃cs,Qz P s' fn.results.toList=some cs∧(Zz cs).X7=(r o).X7∧(r o).X7=r o∧(∀y,x=some y→Q5 s'.mem o=some y∧Nat.ble 500 o=false)
theorem Qv.of {P:Program} {k:Nat} {fn:Func} {c:Code} (hf:P.funcs[k]? =some fn) (hnm:(fn.name== "runtime.NumGoroutine")=false) (hb:fn.body=some c) {args:List AV} {r:AV} (hcl:r.has (fun _=>true)=false) (hn:args.length≤fn.ntmps)
  (h:AWp P c (Z5 P fn (fun _=>r) none 0) (Qw fn.ntmps args)):Qv P k args (fun _=>r) none:=by
 have hany:∀q:Nat→Bool,r.has q=false:=by
  have key:∀c:AV,c.has (fun _=>true)=false→∀q:Nat→Bool,c.has q=false:=fun c=>
   AV.rec (motive_1:=fun c=>c.has (fun _=>true)=false→∀q:Nat→Bool,c.has q=false) (motive_2:=fun l=>AV.Yj (fun _=>true) l=false→∀q:Nat→Bool,AV.Yj q l=false)
    (fun _ _=>rfl) (fun _ _ _=>rfl) (fun _ _ _=>rfl) (fun _ _ _=>rfl) (fun o off h=>by simp[AV.has]at h) (fun o l n h=>by simp[AV.has]at h) (fun o i j h=>by simp[AV.has]at h) (fun o h=>by simp[AV.has]at h)
    (fun cs ih h q=>ih h q) (fun cs ih h q=>ih h q) (fun _ cs ih h q=>ih h q) (fun _ _=>rfl) (fun x l h1 h2 h q=>by
     simp only[AV.Yj,Bool.or_eq_false_iff]at h⊢;exact⟨h1 h.1 q,h2 h.2 q⟩) c
  exact key r hcl
 refine⟨⟨fn,hf,hnm,by rw[hb];rfl⟩,fun d=>hany _,fun _ d=>hany _,by simp,fun d w ok vals hgi hok hl hv=>?_⟩;refine calls_of_wp hf hb ?_;have hst:St ⟨w,ok,fun _=>False,noG⟩ (Qw fn.ntmps args) { tmps:=vals++Array.replicate (fn.ntmps-vals.size) undef,defers:=[] } w:=by
  refine⟨ok,noG,⟨(fun o x hx=>by cases hx),(fun i j xi xj b hi=>by cases hi),(fun i x b hi=>by cases hi),fun b hb=>⟨hok b hb,.inl hb⟩,fun b hb=>hb,Nat.le_refl _,fun b _ _=>rfl,fun i _=>⟨rfl,rfl⟩,rfl,rfl,rfl,hgi,fun _ _ h=>h⟩,by simp[Qw];omega,rfl,fun t=>?_⟩;simp only[Qw,frOf_get,Nat.zero_le,if_true,Nat.sub_zero];rcases Nat.lt_or_ge t args.length with hlt|hge
  ·have e1:args[t]? =some args[t]:=List.getElem?_eq_getElem hlt;have e2:vals[t]? =some (vals[t]'(by omega)):=Array.getElem?_eq_getElem (by omega);rw[e1];have e3:(vals++Array.replicate (fn.ntmps-vals.size) undef).getD t undef=vals[t]'(by omega):=by
    simp[Array.getElem?_append,show t<vals.size by omega]
   rw[e3];exact hv t _ _ e1 e2
  ·rw[List.getElem?_eq_none hge];exact .any _
 refine wp_mono (h _ _ w hst) ?_;rintro e a' w' ⟨s,⟨he,s',hle,cs,hres,hr,hrn,_⟩,hs⟩;have hs':=hle _ _ _ hs;obtain⟨ok',g,hM,h1,h2,h3⟩:=hs';obtain⟨v,hv1,hv2⟩:=Iz hM h3 hres;have hfin:a'.defers=[]∧∃v,(results fn a'.tmps).run P w'= .ok v w'∧∃v' ok' g',Ending.returned v= .returned v'∧Below w.heap.size w w'∧(∀b,ok b→ok' b)∧(∀b,ok' b→ok b∨(w.heap.size≤b∧b<w'.heap.size))∧VR w' ok' g' (oneM d none) r v'∧
   (∀y,(none:Option Q6)=some y→OR w' ok' g' (oneM d none) d y∧∀b,g'.bl d=some b→¬ok' b∧w.heap.size≤b∧b<w'.heap.size):=by
  refine⟨h2,v,hv1,v,ok',noG,rfl,⟨hM.os,hM.tape,hM.output,hM.size,fun b hb=>hM.heap b hb (fun h=>h)⟩,hM.okk,fun b hb=>?_,?_,by simp⟩
  ·obtain⟨k1,k2⟩:=hM.okb b hb;rcases k2 with k2|k2
   ·exact .inl k2
   ·exact .inr ⟨k2,k1⟩
  ·have hv2:=hv2.X7;rw[hr,hrn]at hv2;exact hv2.mono (fun _=>false) (hany _) (fun _ _=>rfl) (fun _ h=>h) fun o x' _ hx'=>by simp[oneM]at hx'
 rcases he with rfl|rfl
 ·exact hfin
 ·exact hfin
end Go.Proofs.YtlbcipohiepjmaaDoor
namespace Go.Proofs.YtlbcipohiepjmaaDoor
open Go.RowKit
mutual
def AV.ids:AV→List Nat
 | .ptr o _=>[o]
 | .arr o _ _=>[o]
 | .K7 o _ _=>[o]
 | .mp o=>[o]
 | .agg cs=>M7 cs
 | .tuple cs=>M7 cs
 | .clo _ cs=>M7 cs
 |_=>[]
def M7:List AV→List Nat
 |[]=>[]
 |c::cs=>AV.ids c++M7 cs
end
def Q6.ids:Q6→List Nat
 | .blk _ cs=>M7 cs
 | .arr _ _ _=>[]
 | .map _ _ _ _=>[]
 | .raw r=>r.ids
theorem AV.D8 (q:Nat→Bool) (c:AV):c.has q=c.ids.any q:=
 AV.rec (motive_1:=fun c=>c.has q=c.ids.any q) (motive_2:=fun l=>AV.Yj q l=(M7 l).any q) rfl (fun _=>rfl) (fun _=>rfl) (fun _=>rfl) (fun o _=>by simp[AV.has,AV.ids]) (fun o _ _=>by simp[AV.has,AV.ids]) (fun o _ _=>by simp[AV.has,AV.ids]) (fun o=>by simp[AV.has,AV.ids])
  (fun cs h=>h) (fun cs h=>h) (fun _ cs h=>h) rfl (fun x r h1 h2=>by simp only[AV.Yj,M7,List.any_append,h1,h2]) c
theorem U7 {l:List Nat} {i:Nat}:Qj l i=true↔i∈l:=by
 unfold Qj;rw[List.any_eq_true];constructor
 ·rintro⟨j,hj,h⟩;have:j=i:=by simpa using h
  rw[←this];exact hj
 ·intro h;exact⟨i,h,by simp⟩
theorem Sz {l:List (Nat×Option Q6)} {i:Nat}:X6 l i=true↔i∈l.map (·.1):=by
 unfold X6;rw[List.any_eq_true,List.mem_map];constructor
 ·rintro⟨x,hx,h⟩;exact⟨x,hx,by simpa using h⟩
 ·rintro⟨x,hx,h⟩;exact⟨x,hx,by simpa using h⟩
def Y3 (m:Me):List Nat→List Nat
 |[]=>[]
 |i::r=>(match m i with|some x=>x.ids|none=>[])++Y3 m r
def V4 (f:Operand→AV):List Operand→List Nat
 |[]=>[]
 |x::r=>(f x).ids++V4 f r
mutual
def AV.ren (ρ:Nat→Nat):AV→AV
 | .ptr o k=>.ptr (ρ o) k
 | .arr o l n=>.arr (ρ o) l n
 | .K7 o i j=>.K7 (ρ o) i j
 | .mp o=>.mp (ρ o)
 | .agg cs=>.agg (Ej ρ cs)
 | .tuple cs=>.tuple (Ej ρ cs)
 | .clo f cs=>.clo f (Ej ρ cs)
 | .any=>.any
 | .d d=>.d d
 | .lit v=>.lit v
 | .fl r=>.fl r
def Ej (ρ:Nat→Nat):List AV→List AV
 |[]=>[]
 |c::cs=>AV.ren ρ c::Ej ρ cs
end
theorem Rj (ρ:Nat→Nat) (cs:List AV):Ej ρ cs=cs.map (AV.ren ρ):=by
 induction cs with
 |nil=>rfl
 |cons c cs ih=>simp only[Ej,List.map_cons,ih]
def Q6.ren (ρ:Nat→Nat):Q6→Q6
 | .blk t cs=>.blk t (Ej ρ cs)
 | .arr e sz rows=>.arr e sz rows
 | .map ks ag n ents=>.map ks ag n ents
 | .raw r=>.raw (r.ren ρ)
theorem Q6.ren_shape {ρ:Nat→Nat} {x:Q6}:(x.ren ρ).shape=x.shape:=by
 rcases x with _|_|_|r
 ·rfl
 ·rfl
 ·rfl
 ·cases r<;> rfl
theorem Q6.Ij {ρ:Nat→Nat} {x:Q6} {g:Gh} {i b:Nat}:(x.ren ρ).at_ g i b↔x.at_ g i b:=by
 rcases x with _|_|_|r
 ·exact Iff.rfl
 ·exact Iff.rfl
 ·exact Iff.rfl
 ·cases r<;> exact Iff.rfl
theorem VR.unren {w:World} {ok:Nat→Prop} {g g0:Gh} {M m:Me} (ρ:Nat→Nat) (hm:∀o x,m o=some x→M (ρ o)=some (x.ren ρ)∧g0.bl o=g.bl (ρ o)∧g0.cp o=g.cp (ρ o)) {c0:AV} {v:Value} (h:VR w ok g M (c0.ren ρ) v):VR w ok g0 m c0 v:=by
 have key:∀c0:AV,∀v,VR w ok g M (c0.ren ρ) v→VR w ok g0 m c0 v:=fun c0=>
  AV.rec (motive_1:=fun c0=>∀v,VR w ok g M (c0.ren ρ) v→VR w ok g0 m c0 v) (motive_2:=fun l=>∀(i:Nat) (c:AV),l[i]? =some c→∀v,VR w ok g M (c.ren ρ) v→VR w ok g0 m c v)
   (fun v _=>.any v) (fun d v h=>.d d v h.Z6) (fun u v h=>by obtain⟨h1,h2⟩:=VR.Vz h;rw[h1];exact .lit u h2)
   (fun rows v h=>by obtain⟨h1,h2⟩:=VR.fl_inv h;exact .fl rows v h1 h2)
   (fun o off v h=>by
    cases h with
    |ptr _ _ _ hv h=>
     refine .ptr o off v hv fun x hx=>?_
     obtain⟨h1,h2,_⟩:=hm o x hx;rw[h2];exact h _ h1)
   (fun o l n v h=>by
    cases h with
    |arr _ _ _ _ hv h=>
     refine .arr o l n v hv fun x sz L hx hs=>?_
     obtain⟨h1,h2,h3⟩:=hm o _ hx;rw[h2,h3];exact h _ sz L h1 (by rw[Q6.ren_shape];exact hs))
   (fun o i j v h=>by
    cases h with
    |K7 _ _ _ _ hv h=>
     refine .K7 o i j v hv fun x sz L hx hs=>?_
     obtain⟨h1,h2,h3⟩:=hm o _ hx;rw[h2];exact h _ sz L h1 (by rw[Q6.ren_shape];exact hs))
   (fun o v h=>by
    cases h with
    |mp _ _ hv h=>
     refine .mp o v hv fun x hx=>?_
     obtain⟨h1,h2,_⟩:=hm o x hx;rw[h2];exact h _ h1)
   (fun cs ih v h=>by
    obtain⟨vs,rfl,hl,h1,h2⟩:=VR.Qa h;rw[Rj]at hl h1;exact .agg cs vs (by simpa using hl) (fun i c v hc hv=>ih i c hc v (h1 i _ v (by rw[List.getElem?_map,hc];rfl) hv)) h2)
   (fun cs ih v h=>by
    obtain⟨vs,rfl,hl,h1⟩:=VR.tuple_inv h;rw[Rj]at hl h1;exact .tuple cs vs (by simpa using hl) (fun i c v hc hv=>ih i c hc v (h1 i _ v (by rw[List.getElem?_map,hc];rfl) hv)))
   (fun f cs ih v h=>by
    obtain⟨vs,rfl,hl,h1⟩:=VR.clo_inv h;rw[Rj]at hl h1;exact .clo f cs vs (by simpa using hl) (fun i c v hc hv=>ih i c hc v (h1 i _ v (by rw[List.getElem?_map,hc];rfl) hv)))
   (fun i c hc=>by simp at hc)
   (fun c l h1 h2 i c' hc' v h=>by
    rcases i with _|i
    ·simp at hc';subst hc';exact h1 v h
    ·exact h2 i c' (by simpa using hc') v h) c0
 exact key c0 v h
theorem VR.reren {w:World} {ok:Nat→Prop} {g g0:Gh} {M m:Me} (ρ:Nat→Nat) {c0:AV} {v:Value} (h:VR w ok g0 m c0 v) (hm:∀o∈c0.ids,∃x,m o=some x∧M (ρ o)=some (x.ren ρ)∧g0.bl o=g.bl (ρ o)∧g0.cp o=g.cp (ρ o)):VR w ok g M (c0.ren ρ) v:=by
 have idsL_mem:∀(l:List AV) (i:Nat) (c:AV),l[i]? =some c→∀o∈c.ids,o∈M7 l:=fun l=>by
  induction l with
  |nil=>intro i c hc;simp at hc
  |cons a l ih=>
   intro i c hc o ho;simp only[M7];rcases i with _|i
   ·simp at hc;subst hc;exact List.mem_append_left _ ho
   ·exact List.mem_append_right _ (ih i c (by simpa using hc) o ho)
 induction h with
 |any v=>exact .any v
 |d d v h=>exact .d d v h
 |lit v h=>exact .lit v h
 |fl rows v h hr=>exact .fl rows v h hr
 |ptr o off v hv h=>
  obtain⟨x,h1,h2,h3,_⟩:=hm o (by simp[AV.ids]);refine .ptr _ off v hv fun y _=>?_
  rw[←h3];exact h x h1
 |arr o l n v hv h=>
  obtain⟨x,h1,h2,h3,h4⟩:=hm o (by simp[AV.ids]);refine .arr _ l n v hv fun y sz L hy hs=>?_
  rw[h2]at hy;cases hy;rw[←h3,←h4];exact h _ sz L h1 (by rw[Q6.ren_shape]at hs;exact hs)
 |K7 o i j v hv h=>
  obtain⟨x,h1,h2,h3,h4⟩:=hm o (by simp[AV.ids]);refine .K7 _ i j v hv fun y sz L hy hs=>?_
  rw[h2]at hy;cases hy;rw[←h3];exact h _ sz L h1 (by rw[Q6.ren_shape]at hs;exact hs)
 |mp o v hv h=>
  obtain⟨x,h1,h2,h3,_⟩:=hm o (by simp[AV.ids]);refine .mp _ v hv fun y _=>?_
  rw[←h3];exact h x h1
 |agg cs vs hl h h1 ih=>
  simp only[AV.ren,Rj];refine .agg _ _ (by simpa using hl) (fun i c v hc hv=>?_) h1;rw[List.getElem?_map]at hc;obtain⟨c',hc',rfl⟩:=Option.map_eq_some_iff.1 hc;exact ih i c' v hc' hv fun o ho=>hm o (idsL_mem cs i c' hc' o ho)
 |tuple cs vs hl h ih=>
  simp only[AV.ren,Rj];refine .tuple _ _ (by simpa using hl) (fun i c v hc hv=>?_);rw[List.getElem?_map]at hc;obtain⟨c',hc',rfl⟩:=Option.map_eq_some_iff.1 hc;exact ih i c' v hc' hv fun o ho=>hm o (idsL_mem cs i c' hc' o ho)
 |clo f cs vs hl h ih=>
  simp only[AV.ren,Rj];refine .clo f _ _ (by simpa using hl) (fun i c v hc hv=>?_);rw[List.getElem?_map]at hc;obtain⟨c',hc',rfl⟩:=Option.map_eq_some_iff.1 hc;exact ih i c' v hc' hv fun o ho=>hm o (idsL_mem cs i c' hc' o ho)
abbrev Mo:=List (Nat×Q6)
def X3:Mo→Nat→Option Q6
 |[],_=>none
 |(i,x)::r,j=>if i==j then some x else X3 r j
structure Y9 (P:Program) (k:Nat) (args:List AV) (m:Mo) (r:AV) (m':Mo):Prop where
 ent:∃fn,P.funcs[k]? =some fn∧(fn.name== "runtime.NumGoroutine")=false∧fn.body.isNone=false
 run:∀(w:World) (ok:Nat→Prop) (g:Gh) (vals:Array Value),MS ⟨w,ok,fun b=>∃i x,X3 m i=some x∧x.at_ g i b,g⟩ w ok g (X3 m)→args.length=vals.size→(∀(i:Nat) (c:AV) (v:Value),args[i]? =some c→vals[i]? =some v→VR w ok g (X3 m) c v)→
  Calls P k vals w fun e w'=>∃v ok' g',e= .returned v∧MS ⟨w,ok,fun b=>∃i x,X3 m i=some x∧x.at_ g i b,g⟩ w' ok' g' (X3 m')∧VR w' ok' g' (X3 m') r v
def Z0:List (Nat×Nat)→Nat→Nat
 |[],i=>i
 |(a,b)::r,i=>if a==i then b else Z0 r i
def Ev (ρ:Nat→Nat) (m':Mo):Mo→List (Nat×Option Q6)
 |[]=>[]
 |(i,_)::r=>(ρ i,(X3 m' i).map (Q6.ren ρ))::Ev ρ m' r
def moQ (ρ:Nat→Nat):Mo→List Nat
 |[]=>[]
 |(i,_)::r=>if Nat.ble 1000 i then moQ ρ r else ρ i::moQ ρ r
def M9 (ρ:Nat→Nat) (m m':Mo):Eff:=⟨moQ ρ m,Ev ρ m' m⟩
def R7 (m':Mo):Mo→Prop
 |[]=>True
 |(i,x)::r=>(kept i=true→∃y,X3 m' i=some y∧x.like y)∧R7 m' r
def cChk (ρ:Nat→Nat) (m:Mo) (r:AV) (m':Mo):Bool:=
 (m.all fun x=>Nat.ble 500 x.1) && (m.all fun x=>m.all fun y=>!(ρ x.1==ρ y.1)||x.1==y.1) && (m'.all fun x=>(X3 m x.1).isSome) &&
 (r.ids.all fun i=>(X3 m' i).isSome) && (m'.all fun x=>x.2.ids.all fun i=>(X3 m' i).isSome) && ((m.all fun x=>Nat.ble 1000 x.1||Nat.ble 500 (ρ x.1))||(m.all fun x=>Nat.ble 1000 x.1|| !(Nat.ble 500 (ρ x.1)))) &&
 (m.all fun x=>Nat.ble 1000 x.1|| !(Nat.ble 1000 (ρ x.1))) &&
 ((((m.all fun x=>match x.2 with| .raw (.own _ _ _ _)=>false|_=>true) && (m'.all fun x=>match x.2 with| .raw (.own _ _ _ _)=>false|_=>true))||(m.all fun x=>Nat.ble 500 (ρ x.1)))||(m.all fun x=>!(Nat.ble 500 (ρ x.1))))
theorem Yx {m:Mo} {i:Nat} {x:Q6} (h:X3 m i=some x):(i,x)∈m:=by
 induction m with
 |nil=>cases h
 |cons y r ih=>
  obtain⟨j,z⟩:=y;simp only[X3]at h;split at h
  ·rename_i hj;have:j=i:=by simpa using hj
   subst this;cases h;simp
  ·exact List.mem_cons_of_mem _ (ih h)
theorem moGet_some {m:Mo} {i:Nat} {x:Q6} (h:(i,x)∈m):∃y,X3 m i=some y:=by
 induction m with
 |nil=>cases h
 |cons y r ih=>
  obtain⟨j,z⟩:=y;simp only[X3];split
  ·exact⟨z,rfl⟩
  ·rename_i hj;rcases List.mem_cons.1 h with h|h
   ·cases h;simp at hj
   ·exact ih h
theorem moLike_get {m m':Mo} (h:R7 m' m) {i:Nat} {x:Q6} (hx:(i,x)∈m) (hk:kept i=true):∃y,X3 m' i=some y∧x.like y:=by
 induction m with
 |nil=>cases hx
 |cons y r ih=>
  obtain⟨j,z⟩:=y;rcases List.mem_cons.1 hx with hx|hx
  ·cases hx;exact h.1 hk
  ·exact ih h.2 hx
theorem moQ_mem {ρ:Nat→Nat} {m:Mo} {j:Nat}:j∈moQ ρ m↔∃i x,(i,x)∈m∧kept i=false∧ρ i=j:=by
 induction m with
 |nil=>simp[moQ]
 |cons y r ih=>
  obtain⟨i,x⟩:=y;simp only[moQ];split
  ·rename_i hk;rw[ih];constructor
   ·rintro⟨a,b,h1,h2⟩;exact⟨a,b,List.mem_cons_of_mem _ h1,h2⟩
   ·rintro⟨a,b,h1,h2⟩;rcases List.mem_cons.1 h1 with h1|h1
    ·cases h1;unfold kept at h2;rw[hk]at h2;cases h2.1
    ·exact⟨a,b,h1,h2⟩
  ·rename_i hk;rw[List.mem_cons,ih];constructor
   ·rintro(rfl|⟨a,b,h1,h2⟩)
    ·exact⟨i,x,by simp,by unfold kept;rw[←Bool.not_eq_true];exact hk,rfl⟩
    ·exact⟨a,b,List.mem_cons_of_mem _ h1,h2⟩
   ·rintro⟨a,b,h1,h2⟩;rcases List.mem_cons.1 h1 with h1|h1
    ·cases h1;exact .inl h2.2.symm
    ·exact .inr ⟨a,b,h1,h2⟩
theorem moWs_map (ρ:Nat→Nat) (m' m:Mo):(Ev ρ m' m).map (·.1)=m.map fun x=>ρ x.1:=by
 induction m with
 |nil=>rfl
 |cons y r ih=>obtain⟨i,x⟩:=y;simp only[Ev,List.map_cons,ih]
theorem moWs_get {ρ:Nat→Nat} {m' m:Mo} {i:Nat} {x:Q6} (hx:(i,x)∈m) (hinj:∀a y,(a,y)∈m→ρ a=ρ i→a=i):Q5 (Ev ρ m' m) (ρ i)=(X3 m' i).map (Q6.ren ρ):=by
 induction m with
 |nil=>cases hx
 |cons y r ih=>
  obtain⟨j,z⟩:=y;simp only[Ev,Q5];split
  ·rename_i hj;have:j=i:=hinj j z (by simp) (by simpa using hj);rw[this]
  ·rename_i hj;rcases List.mem_cons.1 hx with hx|hx
   ·cases hx;simp at hj
   ·exact ih hx fun a y ha=>hinj a y (List.mem_cons_of_mem _ ha)
theorem Q6.like_ren (ρ:Nat→Nat) {x y:Q6} (h:x.like y):(x.ren ρ).like (y.ren ρ):=by
 rcases x with _|_|_|r<;> rcases y with _|_|_|r'
 all_goals first
  |exact h
  |(cases r<;> cases r'<;> exact h)
  |(cases r<;> exact h)
  |(cases r'<;> exact h)
theorem Q6.at_plain {x:Q6} {g:Gh} {o b:Nat} (hx:(match x with| .raw (.own _ _ _ _)=>false|_=>true)=true) (h:x.at_ g o b):g.bl o=some b:=by
 rcases x with _|_|_|r
 ·exact Q6.at_blk.1 h
 ·exact Q6.at_arr.1 h
 ·exact Q6.at_map.1 h
 ·cases r with
  |own=>cases hx
  |births=>simpa[Q6.at_]using h
  |iter=>simpa[Q6.at_]using h
theorem Y9.step {P:Program} {C:Cx} {k:Nat} {args:List AV} {m m':Mo} {r:AV} (hS:Y9 P k args m r m') {s:AS} {a:Act} {w:World} {ok:Nat→Prop} {g:Gh} (hM:MS C w ok g (Q5 s.mem)) (hs:a.tmps.size=s.n) (hdf:a.defers=[])
  (hf:∀t,VR w ok g (Q5 s.mem) (Z9 s.fr t) (a.tmps.getD t undef)) (dst:Option Nat) (hd:∀d,dst=some d→d<s.n) (ρ:Nat→Nat) (hc:cChk ρ m r m'=true) (hlk:R7 m' m) (hob:∀i x,X3 m i=some x→Q5 s.mem (ρ i)=some (x.ren ρ))
  {vals:Array Value} (hl:args.length=vals.size) (hv:∀(i:Nat) (c:AV) (v:Value),args[i]? =some c→vals[i]? =some v→VR w ok g (Q5 s.mem) (c.ren ρ) v):
  Calls P k vals w fun e w'=>∃v,e= .returned v∧St C (s.after dst (r.ren ρ) (M9 ρ m m')) (a.put dst v) w':=by
 unfold cChk at hc;simp only[Bool.and_eq_true]at hc;obtain⟨⟨⟨⟨⟨⟨⟨c1,c2⟩,c3⟩,c5⟩,c6⟩,c7⟩,c8⟩,c9⟩:=hc;have h500:∀i x,(i,x)∈m→500≤i:=fun i x h=>Nat.le_of_ble_eq_true (List.all_eq_true.1 c1 _ h)
 have hinj:∀i x j y,(i,x)∈m→(j,y)∈m→ρ i=ρ j→i=j:=fun i x j y hi hj e=>by
  have:=List.all_eq_true.1 (List.all_eq_true.1 c2 _ hi) _ hj;simp only[Bool.or_eq_true,Bool.not_eq_true',beq_eq_false_iff_ne,beq_iff_eq]at this;rcases this with h|h
  ·exact absurd e h
  ·exact h
 have hsub:∀i x,X3 m' i=some x→∃y,X3 m i=some y:=fun i x h=>by
  have:=List.all_eq_true.1 c3 _ (Yx h);exact Option.isSome_iff_exists.1 this
 have hrid:∀i∈r.ids,∃x,X3 m' i=some x:=fun i h=>Option.isSome_iff_exists.1 (List.all_eq_true.1 c5 i h)
 have hxid:∀i x,X3 m' i=some x→∀j∈x.ids,∃y,X3 m' j=some y:=fun i x h j hj=>Option.isSome_iff_exists.1 (List.all_eq_true.1 (List.all_eq_true.1 c6 _ (Yx h)) j hj)
 let g0:Gh:=⟨fun i=>g.bl (ρ i),fun i=>g.cp (ρ i),fun i=>g.pv (ρ i)⟩
 have hmm:∀o x,X3 m o=some x→Q5 s.mem (ρ o)=some (x.ren ρ)∧g0.bl o=g.bl (ρ o)∧g0.cp o=g.cp (ρ o):=fun o x h=>⟨hob o x h,rfl,rfl⟩
 have hat:∀{i:Nat} {x:Q6} {b:Nat},x.at_ g0 i b→(x.ren ρ).at_ g (ρ i) b:=fun h=>Q6.Ij.2 h
 have hM0:MS ⟨w,ok,fun b=>∃i x,X3 m i=some x∧x.at_ g0 i b,g0⟩ w ok g0 (X3 m):=by
  refine⟨fun o x hx=>?_,fun i j xi xj b hi hj hbi hbj=>?_,fun i x b hx hb=>?_,fun b hb=>⟨(hM.okb b hb).1,.inl hb⟩,fun b hb=>hb,Nat.le_refl _,fun b _ _=>rfl,fun i _=>⟨rfl,rfl⟩,rfl,rfl,rfl,hM.giw,fun b hb ⟨i,x,hx,hbi⟩=>by
   rcases(hM.own _ _ b (hob i x hx) (hat hbi)).2.2 with h|h
   ·have:=hM.gi.lt hb;omega
   ·exact hM.gb b hb h.1⟩
  ·have hO:=hM.obj _ _ (hob o x hx);cases x with
   |blk t cs=>
    obtain⟨b,vs,h1,h2,h3⟩:=hO;rw[Rj]at h3;exact⟨b,vs,h1,h2,by simpa using h3.1,fun i c v hci hvi=>VR.unren ρ hmm (h3.2.1 i _ v (by rw[List.getElem?_map,hci];rfl) hvi),h3.2.2⟩
   |arr e sz rows=>exact hO
   |map ks ag n ents=>exact hO
   |raw r=>exact RawR.back ρ hO rfl rfl rfl fun i n v h=>VR.unren ρ hmm (c0:=.arr i 0 n) h
  ·exact hinj i xi j xj (Yx hi) (Yx hj) (hM.inj _ _ _ _ b (hob i xi hi) (hob j xj hj) (hat hbi) (hat hbj))
  ·obtain⟨h1,h2,h3⟩:=hM.own _ _ b (hob i x hx) (hat hb);exact⟨h1,h2,.inr ⟨⟨i,x,hx,hb⟩,h500 i x (Yx hx)⟩⟩
 refine(hS.run w ok g0 vals hM0 hl fun i c v hci hvi=>VR.unren ρ hmm (hv i c v hci hvi)).mono ?_;rintro e w' ⟨v,ok',g',rfl,hM',hr⟩;refine⟨v,rfl,?_⟩
 -- the names' way back
 let σ:Nat→Nat:=fun j=>((m.find? fun x=>ρ x.1==j).map (·.1)).getD 0
 have hσ:∀i x,(i,x)∈m→σ (ρ i)=i:=fun i x hx=>by
  have:∃y,m.find? (fun x=>ρ x.1==ρ i)=some y:=Option.isSome_iff_exists.1 (by rw[List.find?_isSome];exact⟨(i,x),hx,by simp⟩);obtain⟨y,hy⟩:=this;have h1:=List.find?_some hy;have h2:=List.mem_of_find?_eq_some hy;show((m.find? fun x=>ρ x.1==ρ i).map (·.1)).getD 0=i;rw[hy];exact hinj y.1 y.2 i x h2 hx (by simpa using h1)
 have hUm:∀j,X6 (Ev ρ m' m) j=true↔∃i x,(i,x)∈m∧ρ i=j:=fun j=>by
  rw[Sz,moWs_map,List.mem_map];constructor
  ·rintro⟨⟨i,x⟩,h1,h2⟩;exact⟨i,x,h1,h2⟩
  ·rintro⟨i,x,h1,h2⟩;exact⟨(i,x),h1,h2⟩
 let U:=X6 (Ev ρ m' m)
 let g2:Gh:=⟨fun j=>if U j=true then g'.bl (σ j)else g.bl j,fun j=>if U j=true then g'.cp (σ j)else g.cp j,fun j=>if U j=true then g'.pv (σ j)else g.pv j⟩
 have hNj:∀j y,U j=true→Q5 (Ev ρ m' m) j=some y→∃i x x',(i,x)∈m∧ρ i=j∧X3 m' i=some x'∧y=x'.ren ρ∧σ j=i:=fun j y hU hy=>by
  obtain⟨i,x,h1,rfl⟩:=(hUm j).1 hU;rw[moWs_get h1 (fun b z hb e=>hinj b z i x hb h1 e)]at hy;obtain⟨x',hx',rfl⟩:=Option.map_eq_some_iff.1 hy;exact⟨i,x,x',h1,rfl,hx',rfl,hσ i x h1⟩
 have hres:∀i x',X3 m' i=some x'→Zq (Q5 s.mem) U (Qj (moQ ρ m)) (Q5 (Ev ρ m' m)) (ρ i)=some (x'.ren ρ)∧g'.bl i=g2.bl (ρ i)∧g'.cp i=g2.cp (ρ i)∧g'.pv i=g2.pv (ρ i):=fun i x' hx'=>by
  obtain⟨x,hx⟩:=hsub i x' hx';have hxm:=Yx hx;have hU:U (ρ i)=true:=(hUm _).2 ⟨i,x,hxm,rfl⟩;refine⟨?_,by simp only[g2];rw[if_pos hU,hσ i x hxm],by simp only[g2];rw[if_pos hU,hσ i x hxm],by simp only[g2];rw[if_pos hU,hσ i x hxm]⟩;unfold Zq;rw[if_pos hU,moWs_get hxm (fun b z hb e=>hinj b z i x hb hxm e),hx'];rfl
 have hTU:∀b,(∃i x,X3 m i=some x∧x.at_ g0 i b)→∀j xj,U j=false→Q5 s.mem j=some xj→¬xj.at_ g j b:=fun b ⟨i,x,hx,hb⟩ j xj hUj hj hbj=>by
  have:ρ i=j:=hM.inj _ _ _ _ b (hob i x hx) hj (hat hb) hbj;have:U j=true:=(hUm j).2 ⟨i,x,Yx hx,this⟩;rw[this]at hUj;cases hUj
 have hkb:∀i x,X3 m i=some x→kept i=true→g'.bl i=g.bl (ρ i)∧g'.cp i=g.cp (ρ i):=fun i x _ hk=>hM'.keep i hk
 have hokc:∀b,ok b→w'.heap[b]? =w.heap[b]?:=fun b hb=>hM'.heap b (hM.okb b hb).1 fun⟨i,x,hx,hbi⟩=>(hM.own _ _ b (hob i x hx) (hat hbi)).1 hb
 have hEff:=MS.eff (w':=w') (ok':=ok') (g':=g2) hM U (Qj (moQ ρ m)) (Q5 (Ev ρ m' m))
  (fun j hj=>by
   obtain⟨i,x,h1,_,h3⟩:=moQ_mem.1 (U7.1 hj);exact(hUm j).2 ⟨i,x,h1,h3⟩)
  (fun j y hU hy=>by
   obtain⟨i,x,x',h1,rfl,hx',rfl,hsj⟩:=hNj j y hU hy;obtain⟨_,e1,e2,e3⟩:=hres i x' hx';have hO:=hM'.obj i x' hx';cases x' with
   |blk t cs=>
    obtain⟨b,vs,k1,k2,k3⟩:=hO;refine⟨b,vs,by rw[←e1];exact k1,k2,by rw[Rj];simpa using k3.1,fun n c v hci hvi=>?_,k3.2.2⟩;rw[Rj,List.getElem?_map]at hci;obtain⟨c',hc',rfl⟩:=Option.map_eq_some_iff.1 hci;refine VR.reren ρ (k3.2.1 n c' v hc' hvi) fun o ho=>?_
    have hoid:o∈(Q6.blk t cs).ids:=by
     have idsL_mem:∀(l:List AV) (i:Nat) (c:AV),l[i]? =some c→∀o∈c.ids,o∈M7 l:=fun l=>by
      induction l with
      |nil=>intro i c hc;simp at hc
      |cons a l ih=>
       intro i c hc o ho;simp only[M7];rcases i with _|i
       ·simp at hc;subst hc;exact List.mem_append_left _ ho
       ·exact List.mem_append_right _ (ih i c (by simpa using hc) o ho)
     exact idsL_mem cs n c' hc' o ho
    obtain⟨y,hy⟩:=hxid i _ hx' o hoid;obtain⟨f1,f2,f3,_⟩:=hres o y hy;exact⟨y,hy,f1,f2,f3⟩
   |arr e sz rows=>
    obtain⟨k0,k1,k2⟩:=hO;refine⟨k0,k1,?_⟩;rw[←e1,←e2];exact k2
   |map ks ag n ents=>
    obtain⟨b,es,clock,k1,k2⟩:=hO;exact⟨b,es,clock,by rw[←e1];exact k1,k2⟩
   |raw r=>
    refine RawR.at' hO e1.symm e2.symm e3.symm ρ fun i hi n v h=>VR.reren ρ h fun o ho=>?_
    obtain rfl:o=i:=by simpa[AV.ids]using ho
    obtain⟨y,hy⟩:=hxid _ _ hx' o hi;obtain⟨f1,f2,f3,_⟩:=hres o y hy;exact⟨y,hy,f1,f2,f3⟩)
  (fun j hq=>by
   by_cases hU:U j=true
   ·obtain⟨i,x,h1,rfl⟩:=(hUm j).1 hU;have hk:kept i=true:=by
     rcases hk:kept i
     ·have:Qj (moQ ρ m) (ρ i)=true:=U7.2 (moQ_mem.2 ⟨i,x,h1,hk,rfl⟩);rw[this]at hq;cases hq
     ·rfl
    obtain⟨y,hy⟩:=moGet_some h1;have:=hkb i y hy hk;simp only[g2];rw[if_pos hU,if_pos hU,hσ i x h1];exact this
   ·simp only[g2];rw[if_neg hU,if_neg hU];exact⟨rfl,rfl⟩)
  (fun j y hU hq hy=>by
   obtain⟨i,x,x',h1,rfl,hx',rfl,hsj⟩:=hNj j y hU hy;have hk:kept i=true:=by
    rcases hk:kept i
    ·have:Qj (moQ ρ m) (ρ i)=true:=U7.2 (moQ_mem.2 ⟨i,x,h1,hk,rfl⟩);rw[this]at hq;cases hq
    ·rfl
   obtain⟨z,hz⟩:=moGet_some h1;obtain⟨y',hy',hlike⟩:=moLike_get hlk (Yx hz) hk;rw[hx']at hy';obtain rfl:=Option.some.inj hy';exact⟨_,hob i z hz,Q6.like_ren ρ hlike⟩)
  (fun j xj b hUj hj hbj=>by
   obtain⟨_,h2,_⟩:=hM.own j xj b hj hbj;exact hM'.heap b h2 fun hT=>hTU b hT j xj hUj hj hbj)
  hokc hM'.okk
  (fun b hb=>by
   obtain⟨h1,h2⟩:=hM'.okb b hb;rcases h2 with h2|h2
   ·exact .inl h2
   ·refine .inr ⟨h1,Nat.le_trans hM.size h2,fun i x _ hi hbi=>?_⟩;have:=(hM.own i x b hi hbi).2.1;have h2':w.heap.size≤b:=h2;omega)
  (fun j y b hU hy hb=>by
   obtain⟨i,x,x',h1,rfl,hx',rfl,hsj⟩:=hNj j y hU hy;obtain⟨_,e1,e2,e3⟩:=hres i x' hx';have hb:=(Q6.Dz (o:=ρ i) (o':=i) e1 e3).2 (Q6.Ij.1 hb);obtain⟨k1,k2,k3⟩:=hM'.own i x' b hx' hb;refine⟨k1,k2,?_,fun j' xj hUj hj hbj=>?_,fun j' y' hUj hj hbj=>?_⟩
   ·rcases k3 with k3|⟨hT,k3⟩
    ·exact .inl (Nat.le_trans hM.size k3)
    ·obtain⟨i2,x2,hx2,hb2⟩:=hT;obtain⟨_,_,q3⟩:=hM.own _ _ b (hob i2 x2 hx2) (hat hb2);rcases q3 with q3|⟨q3,q4⟩
     ·exact .inl q3
     ·right;refine⟨q3,?_⟩
      -- whose block is it now?
      simp only[Bool.or_eq_true,Bool.and_eq_true]at c9;rcases c9 with(⟨c9,c10⟩|c9)|c9
      case inl.inr=>exact Nat.le_of_ble_eq_true (List.all_eq_true.1 c9 _ h1)
      case inr=>have:=List.all_eq_true.1 c9 _ (Yx hx2);simp only[Bool.not_eq_true']at this;have:=T9 this;omega
      have hb:g'.bl i=some b:=by
       exact Q6.at_plain (List.all_eq_true.1 c10 _ (Yx hx')) hb
      have hb2:g0.bl i2=some b:=by
       exact Q6.at_plain (List.all_eq_true.1 c9 _ (Yx hx2)) hb2
      rcases hk:kept i
      ·rcases hk2:kept i2
       ·have hx1':=h1;rcases(Bool.or_eq_true _ _).mp c7 with c|c
        ·have:=List.all_eq_true.1 c _ h1;simp only[Bool.or_eq_true]at this;rcases this with t|t
         ·unfold kept at hk;rw[t]at hk;cases hk
         ·exact Nat.le_of_ble_eq_true t
        ·have:=List.all_eq_true.1 c _ (Yx hx2);simp only[Bool.or_eq_true,Bool.not_eq_true']at this;rcases this with t|t
         ·unfold kept at hk2;rw[t]at hk2;cases hk2
         ·have:=T9 t;omega
       ·obtain⟨y2,hy2,_⟩:=moLike_get hlk (Yx hx2) hk2;have:=(hkb i2 x2 hx2 hk2).1;have e3:i=i2:=hM'.inj i i2 x' y2 b hx' hy2 (.inl hb) (.inl (by rw[this];exact hb2));rw[e3]at hk;rw[hk]at hk2;cases hk2
      ·obtain⟨z,hz⟩:=moGet_some h1;have:=(hkb i z hz hk).1;rw[this]at hb;have e3:ρ i=ρ i2:=hM.inj _ _ _ _ b (hob i z hz) (hob i2 x2 hx2) (.inl hb) (.inl hb2);rw[e3];exact q4
   ·rcases k3 with k3|⟨hT,k3⟩
    ·have k3':w.heap.size≤b:=k3;have:=(hM.own j' xj b hj hbj).2.1;omega
    ·exact hTU b hT j' xj hUj hj hbj
   ·obtain⟨i2,x2,x2',h12,rfl,hx2',rfl,hs2⟩:=hNj j' y' hUj hj;obtain⟨_,e12,_,e13⟩:=hres i2 x2' hx2';have hbj:=(Q6.Dz (o:=ρ i2) (o':=i2) e12 e13).2 (Q6.Ij.1 hbj);rw[hM'.inj i i2 x' x2' b hx' hx2' hb hbj])
  (fun j hj=>by
   obtain⟨i,x,h1,h2,rfl⟩:=moQ_mem.1 (U7.1 hj);have:=List.all_eq_true.1 c8 _ h1;simp only[Bool.or_eq_true,Bool.not_eq_true']at this;rcases this with t|t
   ·unfold kept at h2;rw[t]at h2;cases h2
   ·exact t)
  hM'.size
  (fun b hb hT=>hM'.heap b (Nat.lt_of_lt_of_le hb hM.size) fun ⟨i,x,hx,hbi⟩=>by
   obtain⟨_,_,q3⟩:=hM.own _ _ b (hob i x hx) (hat hbi);rcases q3 with q3|⟨q3,_⟩
   ·omega
   ·exact hT q3)
  hM'.os hM'.tape hM'.output (fun j hj=>by simp only[g2];rw[if_neg (by rw[hj];simp)])
 refine St.after (ok':=ok') (g':=g2) hs hdf hf dst hd (r.ren ρ) v (M9 ρ m m') hEff (fun _=>?_);refine VR.reren ρ hr fun o ho=>?_
 obtain⟨x,hx⟩:=hrid o ho;obtain⟨f1,f2,f3,_⟩:=hres o x hx;exact⟨x,hx,f1,f2,f3⟩
end Go.Proofs.YtlbcipohiepjmaaDoor
namespace Go.Proofs.YtlbcipohiepjmaaDoor
open Go.RowKit
inductive Hint where
 |p (r:Nat→AV) (x:Option Q6)
 |c (π:List (Nat×Nat)) (args:List AV) (mo:Mo) (r:AV) (mo':Mo)
 |n (π:List (Nat×Nat)) (args:List AV) (mo:Mo) (r:AV) (mo':Mo) (ph:List Nat)
def phO:List Nat→Mo
 |[]=>[]
 |i::r=>(i,.arr 0 1 [])::phO r
@[simp] def isCallOp:Op→Bool
 | .call _=>true
 |_=>false
def Z8 (m:Me) (f:Operand→AV) (op:Op):List Nat:=if isCallOp op=true then (V4 f op.operands.toList++Y3 m (V4 f op.operands.toList))++Y3 m (Y3 m (V4 f op.operands.toList))else V4 f op.operands.toList
theorem viewIds_opn {m:Me} {f:Operand→AV} {op:Op} {i:Nat} (h:i∈V4 f op.operands.toList):i∈Z8 m f op:=by
 unfold Z8;split
 ·exact List.mem_append_left _ (List.mem_append_left _ h)
 ·exact h
def Yz (m:Me) (ρ:Nat→Nat):Mo→Prop
 |[]=>True
 |(i,x)::r=>m (ρ i)=some (x.ren ρ)∧Yz m ρ r
def Y4 (P:Program) (m:Me) (f:Operand→AV) (o:Oper) (h:Option Hint):Option (AV×Eff×Prop):=
 match o.op,h with
 | .call cc,some (.p r x)=>match cc.callee with
  | .value g=>match Jj (f g)with
   |some (k,cap)=>if x.isSome && Nat.ble 500 (o.dst.getD 0)then none else some (r (o.dst.getD 0),J4 (o.dst.getD 0) x,Qv P k (cc.args.toList.map f++cap) r x)
   |none=>none
  |_=>none
 | .call cc,some (.c π args mo r mo')=>match cc.callee with
  | .value g=>match Jj (f g)with
   |some (k,cap)=>if cChk (Z0 π) mo r mo' && (mo.all fun x=>Qj (Z8 m f (.call cc)) (Z0 π x.1))then some (r.ren (Z0 π),M9 (Z0 π) mo mo',Y9 P k args mo r mo'∧cc.args.toList.map f++cap=args.map (AV.ren (Z0 π))∧R7 mo' mo∧Yz m (Z0 π) mo)else none
   |none=>none
  |_=>none
 | .call cc,some (.n π args mo r mo' ph)=>match cc.callee with
  | .value g=>match Jj (f g)with
   |some (k,cap)=>if (cChk (Z0 π) (mo++phO ph) r mo' && (mo.all fun x=>Qj (Z8 m f (.call cc)) (Z0 π x.1))) && ((ph.all fun i=>!(Nat.ble 1000 i) && !(Nat.ble 1000 (Z0 π i))) && (!(AV.Yj (Qj (ph.map (Z0 π))) (cc.args.toList.map f++cap)) && (mo.all fun x=>!(Qj (ph.map (Z0 π)) (Z0 π x.1)) && !((x.2.ren (Z0 π)).ids.any (Qj (ph.map (Z0 π)))))))
     then some (r.ren (Z0 π),M9 (Z0 π) (mo++phO ph) mo',Y9 P k args (mo++phO ph) r mo'∧cc.args.toList.map f++cap=args.map (AV.ren (Z0 π))∧R7 mo' (mo++phO ph)∧Yz m (Z0 π) mo)else none
   |none=>none
  |_=>none
 |_,_=>none
def Yq (P:Program) (m:Me) (f:Operand→AV) (o:Oper) (h:Option Hint):Option (AV×Eff×Prop):=
 match Y8 P m f o.dst o.op with
 |some r=>some r
 |none=>match Y1 P m f o.dst o.op with
  |some r=>some r
  |none=>match V8 P f o.op with
   |some (v,p)=>some (v,⟨[],[]⟩,p)
   |none=>match N9 P m f o.dst o.op with
    |some r=>some r
    |none=>Y4 P m f o h
def Bj:Option (AV×Eff×Prop)→Option (AV×Eff×Prop)
 |some (c,⟨q,[(o,some x)]⟩,p)=>if Nat.ble 500 o then none else some (c.frz o x,⟨o::q,[(o,none)]⟩,p)
 |_=>none
def Kw (P:Program) (m:Me) (f:Operand→AV) (o:Oper) (h:Option Hint) (z:Bool):Option (AV×Eff×Prop):=
 if z then (match Vk f o.op with
  |some v=>some (v,⟨[],[]⟩,True)
  |none=>Bj (Yq P m f o h))else Yq P m f o h
section
variable {P:Program} {m m1:Me} {f f1:Operand→AV}
def Qc (m m1:Me) (c:AV):Prop:=∀i,c.has (fun j=>j==i)=true→m1 i=m i
theorem Qc.ptr {o off:Nat} (h:Qc m m1 (.ptr o off)):m1 o=m o:=h o (by simp[AV.has])
theorem Qc.arr {o l n:Nat} (h:Qc m m1 (.arr o l n)):m1 o=m o:=h o (by simp[AV.has])
theorem Qc.K7 {o i j:Nat} (h:Qc m m1 (.K7 o i j)):m1 o=m o:=h o (by simp[AV.has])
theorem Qc.mp {o:Nat} (h:Qc m m1 (.mp o)):m1 o=m o:=h o (by simp[AV.has])
theorem rdCells_see {p:AV} (h:Qc m m1 p) (n:Nat):Jv m1 p n=Jv m p n:=by
 unfold Jv;cases p<;> try rfl
 case d d=>cases d<;> rfl
 case ptr o off=>simp only[h.ptr]
 case K7 o i j=>simp only[h.K7]
theorem wrCells_see {p:AV} (h:Qc m m1 p) (cs:List AV):Y5 m1 p cs=Y5 m p cs:=by
 unfold Y5;cases p<;> try rfl
 case ptr o off=>simp only[h.ptr]
 case K7 o i j=>simp only[h.K7]
theorem fldAddr_see {p:AV} (h:Qc m m1 p) (n:Nat):Vx m1 n p=Vx m n p:=by
 unfold Vx;cases p<;> try rfl
 case d d=>cases d<;> rfl
 case ptr o off=>simp only[h.ptr]
 case K7 o i j=>simp only[h.K7]
theorem idxAddr_see {p:AV} (h:Qc m m1 p) (n:Nat) (k:Int):U3 m1 n p k=U3 m n p k:=by
 unfold U3;cases p<;> try rfl
 case d d=>cases d<;> rfl
 case arr o l n=>simp only[h.arr]
theorem srcRows_see {p:AV} (h:Qc m m1 p) (n:Nat):U2 m1 n p=U2 m n p:=by
 unfold U2;cases p<;> try rfl
 case d d=>cases d<;> rfl
 case lit v=>first|rfl|(cases v<;> first|rfl|(rename_i a b c;cases a<;> first|rfl|(cases b<;> first|rfl|(cases c<;> rfl))))
 case arr o l n=>simp only[h.arr]
theorem litRows_congr (sz:Nat):∀(l:List (Nat×Operand)) (k:Nat),(∀x∈l,f1 x.2=f x.2)→K4 sz f1 k l=K4 sz f k l
 |[],k,_=>rfl
 |(i,x)::l,k,h=>by
  unfold K4;rw[h (i,x) (by simp),litRows_congr sz l (k+1) (fun y hy=>h y (by simp[hy]))]
theorem Iw {x:Option Operand} (h:∀y,x=some y→f1 y=f y):O0 f1 x=O0 f x:=by
 cases x with
 |none=>rfl
 |some y=>simp only[O0,h y rfl]
theorem pureOp_see {op:Op} (hf:∀x∈op.operands,f1 x=f x) (hm:∀x∈op.operands,Qc m m1 (f x)):Xz P m1 f1 op=Xz P m f op:=by
 cases op<;> simp only[Op.operands]at hf hm<;> try rfl
 case move x=>simp only[Xz,hf x (by simp)]
 case assign x=>simp only[Xz,hf x (by simp)]
 case pick c a b=>simp only[Xz,hf c (by simp),hf a (by simp),hf b (by simp)]
 case build t parts=>
  simp only[Xz];rw[List.map_congr_left (fun x hx=>by rw[hf x.2 (by simp;exact⟨x.1,by simpa using hx⟩)])]
 case fieldAddr s x k=>simp only[Xz,hf x (by simp),fldAddr_see (hm x (by simp))]
 case field s x k=>simp only[Xz,hf x (by simp)]
 case indexAddr t x i=>simp only[Xz,hf x (by simp),hf i (by simp),idxAddr_see (hm x (by simp))]
 case extract x i=>simp only[Xz,hf x (by simp)]
 case binOp op t x y t2=>simp only[Xz,hf x (by simp),hf y (by simp)]
 case unOp op t x=>cases op<;> simp only[Xz,hf x (by simp)]
 case makeFunc k first cap=>
  cases k<;> simp only[Xz]
  rw[List.map_congr_left (fun x hx=>hf x (by simp at hx⊢;exact .inr hx))]
 case load t x=>simp only[Xz,hf x (by simp),rdCells_see (hm x (by simp))]
 case slice t x lo hi mx=>
  cases mx with
  |some y=>rfl
  |none=>
   simp only[Xz];rw[Iw (x:=lo) (fun y hy=>hf y (by simp[hy])),Iw (x:=hi) (fun y hy=>hf y (by simp[hy])),hf x (by simp)];have h:=hm x (by simp);generalize f x=c at h;cases c<;> try rfl
   case d d=>cases d<;> rfl
   case arr o l n=>simp only[h.arr]
 case call c=>
  obtain⟨callee,args,tys⟩:=c;cases callee with
  |value g=>rfl
  |invoke g n=>rfl
  |builtin b=>
   cases b<;> try rfl
   simp only[Xz];rcases ha:args.toList with _|⟨x,_|⟨y,r⟩⟩<;> try rfl
   rcases tys.toList with _|⟨t,_|⟨t',r'⟩⟩<;> try rfl
   have hx:x∈(Op.call ⟨.builtin .len,args,tys⟩).operands:=by
    simp only[Op.operands,Call.operands,Array.mem_append];exact .inr (by rw[←Array.mem_toList_iff,ha];simp)
   dsimp only;rw[hf x hx];have h:=hm x hx;generalize f x=cc at h;cases cc<;> try rfl
   case d d=>cases d<;> rfl
   case lit v=>first|rfl|(cases v<;> first|rfl|(rename_i a b c;cases a<;> first|rfl|(cases b<;> first|rfl|(cases c<;> rfl))))
   case arr o l n=>simp only[h.arr]
theorem effOp_see {op:Op} (dst:Option Nat) (hf:∀x∈op.operands,f1 x=f x) (hm:∀x∈op.operands,Qc m m1 (f x)):Y8 P m1 f1 dst op=Y8 P m f dst op:=by
 have hp:=pureOp_see (P:=P) hf hm;cases op<;> try (simp only[Y8,hp];done)
 case box t x=>
  simp only[Op.operands]at hf hm;simp only[Y8,hf x (by simp)]
 case buildSlice t n parts=>
  simp only[Op.operands]at hf hm;simp only[Y8];have:=fun sz=>litRows_congr (f:=f) (f1:=f1) sz parts.toList 0 (fun x hx=>hf x.2 (by simp;exact⟨x.1,by simpa using hx⟩))
  simp only[this]
 case makeSlice t l c=>
  simp only[Op.operands]at hf hm;simp only[Y8,hf l (by simp),hf c (by simp)]
 case store t p x=>
  simp only[Op.operands]at hf hm;simp only[Y8,hf x (by simp),hf p (by simp),wrCells_see (hm p (by simp))]
 case call c=>
  obtain⟨callee,args,tys⟩:=c;cases callee with
  |value g=>simp only[Y8,hp]
  |invoke g n=>simp only[Y8,hp]
  |builtin bb=>
   by_cases hb:bb= .append
   ·subst hb;rcases ha:args.toList with _|⟨a,_|⟨b,_|⟨y,r⟩⟩⟩
    ·simp only[Y8,ha,hp]
    ·simp only[Y8,ha,hp]
    ·rcases ht:tys.toList with _|⟨t,_|⟨t',_|⟨t2,r'⟩⟩⟩
     ·simp only[Y8,ha,ht,hp]
     ·simp only[Y8,ha,ht,hp]
     ·have hxa:a∈(Op.call ⟨.builtin .append,args,tys⟩).operands:=by
       simp only[Op.operands,Call.operands,Array.mem_append];exact .inr (by rw[←Array.mem_toList_iff,ha];simp)
      have hxb:b∈(Op.call ⟨.builtin .append,args,tys⟩).operands:=by
       simp only[Op.operands,Call.operands,Array.mem_append];exact .inr (by rw[←Array.mem_toList_iff,ha];simp)
      simp only[Y8,ha,ht];have hsr:=fun sz=>srcRows_see (hm b hxb) sz
      rw[hf a hxa,hf b hxb];simp only[hsr];have h:=hm a hxa;generalize f a=ca at h;cases ca<;> try rfl
      case lit v=>first|rfl|(cases v<;> first|rfl|(rename_i a b c;cases a<;> first|rfl|(cases b<;> first|rfl|(cases c<;> rfl))))
      case arr o l n=>
       have h':=h.arr;cases l<;> first|rfl|(simp only[h'])
     ·simp only[Y8,ha,ht,hp]
    ·simp only[Y8,ha,hp]
   ·cases bb<;> first|exact absurd rfl hb|simp only[Y8,hp]
theorem objAt_see {c:AV} (h:Qc m m1 c):objAt m1 c=objAt m c:=by
 cases c<;> try rfl
 case arr o l n=>exact h.arr
theorem ownOp_see {op:Op} (dst:Option Nat) (hf:∀x∈op.operands,f1 x=f x) (hm:∀x∈op.operands,Qc m m1 (f x)):N9 P m1 f1 dst op=N9 P m f dst op:=by
 cases op<;> try (rfl;done)
 case buildSlice t n parts=>
  simp only[Op.operands]at hf hm;unfold N9;dsimp only;congr 1;refine List.map_congr_left fun p hp=>?_
  rw[hf p.2 (by simp;exact⟨p.1,by simpa using hp⟩)]
 case call c=>
  obtain⟨callee,args,tys⟩:=c;cases callee with
  |value g=>rfl
  |invoke g n=>rfl
  |builtin bb=>
   by_cases hb:bb= .append
   ·subst hb;rcases ha:args.toList with _|⟨a,_|⟨b,_|⟨y,r⟩⟩⟩
    ·simp only[N9,ha]
    ·simp only[N9,ha]
    ·rcases ht:tys.toList with _|⟨t,_|⟨t',_|⟨t2,r'⟩⟩⟩
     ·simp only[N9,ha,ht]
     ·simp only[N9,ha,ht]
     ·have hxa:a∈(Op.call ⟨.builtin .append,args,tys⟩).operands:=by
       simp only[Op.operands,Call.operands,Array.mem_append];exact .inr (by rw[←Array.mem_toList_iff,ha];simp)
      have hxb:b∈(Op.call ⟨.builtin .append,args,tys⟩).operands:=by
       simp only[Op.operands,Call.operands,Array.mem_append];exact .inr (by rw[←Array.mem_toList_iff,ha];simp)
      simp only[N9,ha,ht];rw[hf a hxa,hf b hxb,objAt_see (hm a hxa),objAt_see (hm b hxb)]
     ·simp only[N9,ha,ht]
    ·simp only[N9,ha]
   ·cases bb<;> first|exact absurd rfl hb|rfl
theorem mapOp_see {op:Op} (dst:Option Nat) (hf:∀x∈op.operands,f1 x=f x) (hm:∀x∈op.operands,Qc m m1 (f x)):Y1 P m1 f1 dst op=Y1 P m f dst op:=by
 cases op<;> try (rfl;done)
 case nilCheck x=>
  simp only[Op.operands]at hf hm;have h:=hm x (by simp);simp only[Y1,hf x (by simp)];generalize f x=c at h;cases c<;> try rfl
  case d d=>cases d<;> rfl
  case ptr o k=>simp only[h.ptr]
  case K7 o i j=>simp only[h.K7]
 case makeMap t r=>cases r<;> rfl
 case binOp op t x y t2=>
  simp only[Op.operands]at hf hm;simp only[Y1,hf x (by simp),hf y (by simp)]
 case lookup t x k c=>
  simp only[Op.operands]at hf hm;have h:=hm x (by simp);simp only[Y1,hf x (by simp),hf k (by simp)];generalize f x=cx at h;rcases Dv P t with _|⟨e,ks,ag,n⟩<;> try rfl
  generalize f k=ck;cases ck<;> try rfl
  rename_i kd;dsimp only;generalize tyZv P e ag=zz;cases cx
  case mp o=>cases zz<;> first|rfl|(dsimp only;rw[h.mp])
  case lit v=>cases zz<;> cases v<;> first|rfl|(rename_i q;cases q<;> rfl)
  all_goals cases zz<;> rfl
 case mapUpdate t x k v=>
  simp only[Op.operands]at hf hm;have h:=hm x (by simp);simp only[Y1,hf x (by simp),hf k (by simp),hf v (by simp)];generalize f x=cx at h;rcases Dv P t with _|⟨e,ks,ag,n⟩<;> try rfl
  generalize f k=ck;cases cx<;> cases ck<;> first|rfl|(dsimp only;rw[h.mp])
 case insert t x k v=>
  simp only[Op.operands]at hf hm;have h:=hm x (by simp);simp only[Y1,hf x (by simp),hf k (by simp),hf v (by simp)];generalize f x=cx at h;rcases Dv P t with _|⟨e,ks,ag,n⟩<;> try rfl
  generalize f k=ck;cases cx<;> cases ck<;> first|rfl|(dsimp only;rw[h.mp])
 case index t x i=>
  simp only[Op.operands]at hf hm;simp only[Y1,hf x (by simp),hf i (by simp)]
 case mapEntry t x k=>
  simp only[Op.operands]at hf hm;have h:=hm x (by simp);simp only[Y1,hf x (by simp),hf k (by simp)];generalize f x=cx at h;rcases Dv P t with _|⟨e,ks,ag,n⟩<;> try rfl
  generalize f k=ck;cases cx<;> cases ck<;> first|rfl|(dsimp only;rw[h.mp])
 case entryStore t x s v=>
  simp only[Op.operands]at hf hm;have h:=hm x (by simp);simp only[Y1,hf x (by simp),hf s (by simp),hf v (by simp)];generalize f x=cx at h;rcases Dv P t with _|⟨e,ks,ag,n⟩<;> try rfl
  cases cx
  case mp o=>
   cases f s<;> try rfl
   rename_i u;cases u<;> try rfl
   rename_i kk c;cases kk<;> first|rfl|(dsimp only;rw[h.mp])
  all_goals rfl
 case call cc=>
  obtain⟨callee,args,tys⟩:=cc;cases callee with
  |value g=>rfl
  |invoke g n=>rfl
  |builtin bb=>
   have hin:∀y∈args.toList,y∈(Op.call ⟨.builtin bb,args,tys⟩).operands:=fun y hy=>by
    simp only[Op.operands,Call.operands,Array.mem_append];exact .inr (by rw[←Array.mem_toList_iff];exact hy)
   rcases ha:args.toList with _|⟨a,_|⟨b,_|⟨y,r⟩⟩⟩
   ·cases bb<;> simp only[Y1,ha]
   ·have h1:=hf a (hin a (by simp[ha]));have h:=hm a (hin a (by simp[ha]));cases bb<;> simp only[Y1,ha]
    case clear=>
     rcases ht:tys.toList with _|⟨t,_|⟨t',r'⟩⟩<;> try rfl
     simp only[h1];generalize f a=ca at h;rcases V3 P t with _|⟨e,_|_|sz⟩<;> try rfl
     cases ca
     case arr o l n=>
      have h':=h.arr;simp only[h']
     all_goals rfl
    case len=>
     rcases ht:tys.toList with _|⟨t,_|⟨t',r'⟩⟩<;> try rfl
     simp only[h1];generalize f a=ca at h;rcases Dv P t with _|⟨e,ks,ag,n⟩<;> try rfl
     cases ca
     case mp o=>first|rfl|(dsimp only;rw[h.mp])
     case lit v=>cases v<;> first|rfl|(rename_i q;cases q<;> rfl)
     all_goals rfl
   ·have h1:=hf a (hin a (by simp[ha]));have h2:=hf b (hin b (by simp[ha]));have h:=hm a (hin a (by simp[ha]));cases bb<;> simp only[Y1,ha]
    rcases ht:tys.toList with _|⟨t,_|⟨t',_|⟨t2,r'⟩⟩⟩<;> try rfl
    simp only[h1,h2];generalize f a=ca at h;generalize f b=cb;rcases Dv P t with _|⟨e,ks,ag,n⟩<;> try rfl
    cases ca<;> cases cb<;> first|rfl|(dsimp only;rw[h.mp])
   ·cases bb<;> simp only[Y1,ha]
theorem opnIds_mem {f:Operand→AV}:∀(xs:List Operand),∀x∈xs,∀i∈(f x).ids,i∈V4 f xs:=fun xs=>by
 induction xs with
 |nil=>intro x hx;cases hx
 |cons y ys ih=>
  intro x hx i hi;simp only[V4];rcases List.mem_cons.1 hx with rfl|hx
  ·exact List.mem_append_left _ hi
  ·exact List.mem_append_right _ (ih x hx i hi)
theorem O1:∀(xs:List Operand),(∀x∈xs,f1 x=f x)→V4 f1 xs=V4 f xs:=fun xs=>by
 induction xs with
 |nil=>intro _;rfl
 |cons y ys ih=>intro h;simp only[V4,h y (by simp),ih fun x hx=>h x (by simp[hx])]
theorem objIds_congr:∀(is:List Nat),(∀i∈is,m1 i=m i)→Y3 m1 is=Y3 m is:=fun is=>by
 induction is with
 |nil=>intro _;rfl
 |cons y ys ih=>intro h;simp only[Y3,h y (by simp),ih fun x hx=>h x (by simp[hx])]
theorem moHave_congr (ρ:Nat→Nat):∀(mo:Mo),(∀x∈mo,m1 (ρ x.1)=m (ρ x.1))→Yz m1 ρ mo=Yz m ρ mo:=fun mo=>by
 induction mo with
 |nil=>intro _;rfl
 |cons y ys ih=>intro h;obtain⟨i,x⟩:=y;simp only[Yz,h (i,x) (by simp),ih fun x hx=>h x (by simp[hx])]
theorem Cz {op:Op} (hf:∀x∈op.operands,f1 x=f x) (hm:∀i∈Z8 m f op,m1 i=m i):Z8 m1 f1 op=Z8 m f op:=by
 unfold Z8 at hm⊢;split
 ·rename_i hc;rw[if_pos hc]at hm;rw[O1 op.operands.toList (fun x hx=>hf x (by simpa using hx)),objIds_congr _ (fun i hi=>hm i (List.mem_append_left _ (List.mem_append_left _ hi))),objIds_congr _ (fun i hi=>hm i (List.mem_append_left _ (List.mem_append_right _ hi)))]
 ·rw[O1 op.operands.toList (fun x hx=>hf x (by simpa using hx))]
theorem extOp_see {op:Op} (hf:∀x∈op.operands,f1 x=f x):V8 P f1 op=V8 P f op:=by
 cases op<;> try rfl
 case convert src dst x=>
  simp only[Op.operands]at hf;simp only[V8,hf x (by simp)]
 case slice t x lo hi mx=>
  simp only[Op.operands]at hf;cases mx with
  |none=>
   simp only[V8,hf x (by simp)];rw[Iw (x:=lo) (fun y hy=>hf y (by simp[hy])),Iw (x:=hi) (fun y hy=>hf y (by simp[hy]))]
  |some m=>
   cases lo with
   |some l=>rfl
   |none=>
    cases hi with
    |none=>rfl
    |some h=>simp only[V8,hf x (by simp),hf h (by simp),hf m (by simp)]
 case call c=>
  obtain⟨callee,args,tys⟩:=c;simp only[Op.operands,Call.operands]at hf;simp only[V8];have ha:∀x∈args.toList,f1 x=f x:=fun x hx=>hf x (by simp;exact .inr (by simpa using hx))
  generalize args.toList=l at ha;split
  ·rw[ha _ (by simp),ha _ (by simp)]
  ·rw[ha _ (by simp),ha _ (by simp)]
  ·rfl
theorem wrapOp_see {op:Op} (hf:∀x∈op.operands,f1 x=f x):Vk f1 op=Vk f op:=by
 cases op<;> try rfl
 case binOp op t x y t2=>
  simp only[Op.operands]at hf;simp only[Vk,hf x (by simp),hf y (by simp)]
theorem opEff_see {o:Oper} (h:Option Hint) (z:Bool) (hf:∀x∈o.op.operands,f1 x=f x) (hv:∀i∈Z8 m f o.op,m1 i=m i):Kw P m1 f1 o h z=Kw P m f o h z:=by
 have hm:∀x∈o.op.operands,Qc m m1 (f x):=fun x hx i hi=>hv i (viewIds_opn (opnIds_mem _ x (by simpa using hx) i (by
  rw[AV.D8,List.any_eq_true]at hi;obtain⟨j,hj,e⟩:=hi;have:j=i:=by simpa using e
  rw[←this];exact hj)))
 have h0:Yq P m1 f1 o h=Yq P m f o h:=by
  have hc:Y4 P m1 f1 o h=Y4 P m f o h:=by
   obtain⟨dst,op,ty,pos,after,guard⟩:=o;dsimp only at hf hv hm;cases op<;> try rfl
   rename_i cc;obtain⟨callee,args,tys⟩:=cc;cases h with
   |none=>rfl
   |some h=>
    cases callee with
    |value g=>
     have hg:f1 g=f g:=hf g (by simp[Op.operands,Call.operands]);have ha:args.toList.map f1=args.toList.map f:=List.map_congr_left fun x hx=>hf x (by simp[Op.operands,Call.operands];exact .inr (by simpa using hx))
     have hvi:=Cz hf (fun i hi=>hv i hi);cases h with
     |p r x=>simp only[Y4,hg,ha]
     |c π ars mo r mo'=>
      simp only[Y4,hg,ha,hvi];split
      ·rename_i k cap hk;split
       ·rename_i hcond;rw[Bool.and_eq_true]at hcond;have:Yz m1 (Z0 π) mo=Yz m (Z0 π) mo:=moHave_congr _ mo fun x hx=>hv _ (U7.1 (List.all_eq_true.1 hcond.2 x hx))
        rw[this]
       ·rfl
      ·rfl
     |n π ars mo r mo' ph=>
      simp only[Y4,hg,ha,hvi];split
      ·rename_i k cap hk;split
       ·rename_i hcond;rw[Bool.and_eq_true,Bool.and_eq_true]at hcond;have:Yz m1 (Z0 π) mo=Yz m (Z0 π) mo:=moHave_congr _ mo fun x hx=>hv _ (U7.1 (List.all_eq_true.1 hcond.1.2 x hx))
        rw[this]
       ·rfl
      ·rfl
    |_=>cases h<;> rfl
  simp only[Yq,effOp_see o.dst hf hm,mapOp_see o.dst hf hm,extOp_see hf,ownOp_see o.dst hf hm,hc]
 simp only[Kw,h0,wrapOp_see hf]
end
end Go.Proofs.YtlbcipohiepjmaaDoor
namespace Go.Proofs.YtlbcipohiepjmaaDoor
open Go.RowKit
theorem AV.Uq {q:Nat→Bool} {c:AV} (h:c.has q=false):c.kill q=c:=by unfold AV.kill;rw[h];rfl
theorem Q6.Uq {q:Nat→Bool} {x:Q6} (h:x.ids.any q=false):x.kill q=x:=by
 cases x with
 |arr e sz rows=>rfl
 |map ks ag n ents=>rfl
 |raw r=>
  cases r with
  |own ty sz rows lk=>simp only[Q6.kill,Raw.kill];rw[lkKill_id h]
  |births=>rfl
  |iter=>rfl
 |blk t cs=>
  have h':(M7 cs).any q=false:=h;simp only[Q6.kill,Q6.blk.injEq,true_and];induction cs with
  |nil=>rfl
  |cons c r ih=>
   simp only[M7,List.any_append,Bool.or_eq_false_iff]at h';rw[List.map_cons,AV.Uq (by rw[AV.D8];exact h'.1),ih h'.2 h'.2]
theorem AV.A9 (q1 q2:Nat→Bool) (c:AV):(c.kill q1).kill q2=(c.kill q2).kill q1:=by
 unfold AV.kill;by_cases h1:c.has q1=true<;> by_cases h2:c.has q2=true<;> simp[h1,h2,AV.has]
theorem Q6.A9 (q1 q2:Nat→Bool) (x:Q6):(x.kill q1).kill q2=(x.kill q2).kill q1:=by
 cases x with
 |arr e sz rows=>rfl
 |map ks ag n ents=>rfl
 |raw r=>
  cases r with
  |own ty sz rows lk=>
   simp only[Q6.kill,Raw.kill,Nj];congr 2;exact congrArg (Kz · lk) (funext fun i=>Bool.or_comm _ _)
  |births=>rfl
  |iter=>rfl
 |blk t cs=>simp only[Q6.kill,List.map_map,Q6.blk.injEq,true_and];exact List.map_congr_left fun c _=>AV.A9 q1 q2 c
structure Rc where
 o:Oper
 h:Option Hint
 z:Bool
 run:Bool
 c:AV
 e:Eff
 p:Prop
 M:List Nat
 K:List Nat
 nk:Bool
 an:Bool
 ld:Option Nat
 st:Option Nat
def Uw:AV→Bool
 | .any=>true
 |_=>false
def Tv:AV→Bool
 | .any=>false
 | .agg l=>l.all fun c=>!Uw c
 |_=>true
def Mj:Op→Option Operand
 | .load _ a=>some a
 | .move a=>some a
 | .assign a=>some a
 | .nilCheck a=>some a
 | .fieldAddr _ a _=>some a
 |_=>none
def ldOf (f:Operand→AV) (op:Op) (c:AV):Option Nat:=match Mj op with
 |some a=>match f a with
  | .ptr o _=>if Tv c then some o else none
  |_=>none
 |none=>none
theorem ldArg_mem {op:Op} {a:Operand} (h:Mj op=some a):a∈op.operands:=by
 unfold Mj at h;split at h<;> first|(cases h;simp[Op.operands])|cases h
def stOk (e:Eff):Bool:=match e.ws with
 |[(_,some (.blk _ cs))]=>cs.all fun c=>!Uw c
 |_=>false
def stOf (f:Operand→AV) (op:Op) (e:Eff) (z:Bool):Option Nat:=if z then none else match op with
 | .store _ a _=>match f a with
  | .ptr o _=>if stOk e then some o else none
  |_=>none
 |_=>none
def isMv:Op→Bool
 | .move _=>true
 | .assign _=>true
 |_=>false
def Rc.pu (r:Rc):Bool:=isMv r.o.op && r.run && !Uw r.c
theorem isMv_spec {op:Op} (h:isMv op=true):∃a,op.operands= #[a]∧(op= .move a∨op= .assign a):=by
 unfold isMv at h;split at h
 ·exact⟨_,rfl,.inl rfl⟩
 ·exact⟨_,rfl,.inr rfl⟩
 ·cases h
def Gj (f:Operand→AV):List Operand→Bool
 |[]=>false
 |x::r=>Uw (f x)||Gj f r
def G6:Q6→Bool
 | .blk _ cs=>cs.any Uw
 | .arr _ _ _=>false
 | .map _ _ _ _=>false
 | .raw (.own _ _ _ _)=>true
 | .raw _=>false
def Gw (m:Me):List Nat→Bool
 |[]=>false
 |i::r=>(match m i with|some x=>G6 x|none=>false)||Gw m r
theorem memAny_get {m:Me}:∀{l:List Nat},Gw m l=false→∀i∈l,∀x,m i=some x→G6 x=false
 |[],_,i,hi,_,_=>by cases hi
 |j::r,h,i,hi,x,hx=>by
  simp only[Gw,Bool.or_eq_false_iff]at h;rcases List.mem_cons.1 hi with rfl|hi
  ·have:=h.1;rw[hx]at this;exact this
  ·exact memAny_get h.2 i hi x hx
def frNo (q:Nat→Bool):List (Nat×AV)→Bool
 |[]=>true
 |(_,c)::r=>!(c.has q) && frNo q r
def Mx (q:Nat→Bool):List (Nat×Option Q6)→Bool
 |[]=>true
 |(_,none)::r=>Mx q r
 |(_,some x)::r=>!(x.ids.any q) && Mx q r
theorem frNo_get {q:Nat→Bool} {f:List (Nat×AV)} (h:frNo q f=true) (t:Nat):(Z9 f t).has q=false:=by
 induction f with
 |nil=>rfl
 |cons x r ih=>
  obtain⟨u,c⟩:=x;simp only[frNo,Bool.and_eq_true,Bool.not_eq_true']at h;simp only[Z9];split
  ·exact h.1
  ·exact ih h.2
theorem memNo_get {q:Nat→Bool} {f:List (Nat×Option Q6)} (h:Mx q f=true) (t:Nat) (x:Q6) (hx:Q5 f t=some x):x.kill q=x:=by
 induction f with
 |nil=>cases hx
 |cons y r ih=>
  obtain⟨u,c⟩:=y;cases c with
  |none=>
   simp only[Mx]at h;simp only[Q5]at hx;split at hx
   ·cases hx
   ·exact ih h hx
  |some z=>
   simp only[Mx,Bool.and_eq_true,Bool.not_eq_true']at h;simp only[Q5]at hx;split at hx
   ·cases hx;exact Q6.Uq h.1
   ·exact ih h.2 hx
section
variable (P:Program) (ops:Array Oper)
structure J5 (s:AS) (r:Rc):Prop where
 d:Rz s r.o=true
 g:Kv ops s r.o=some r.run
 e:r.run=true→Kw P (Q5 s.mem) (evA s.fr) r.o r.h r.z=some (r.c,r.e,r.p)
 e':r.run=false→r.c= .tuple []∧r.e=⟨[],[]⟩
 M:r.pu=false→∀i∈Z8 (Q5 s.mem) (evA s.fr) r.o.op,i∈r.M∧∀y,Q5 s.mem i=some y→∀j∈y.ids,j∈r.M++r.K
 nk:r.nk=true→(∀t,(Z9 s.fr t).has (Qj r.e.q)=false)∧∀i y,Q5 s.mem i=some y→y.kill (Qj r.e.q)=y
 an:r.pu=false→r.an=false→(∀x∈r.o.op.operands,Uw (evA s.fr x)=false)∧∀i∈Z8 (Q5 s.mem) (evA s.fr) r.o.op,∀x,Q5 s.mem i=some x→G6 x=false
 ld:∀o,r.ld=some o→r.run=true∧Tv r.c=true∧∃a off,Mj r.o.op=some a∧evA s.fr a= .ptr o off
 st:∀o,r.st=some o→r.run=true∧r.z=false∧stOk r.e=true∧∃t a v off,r.o.op= .store t a v∧evA s.fr a= .ptr o off
def Z4 (s:AS) (r:Rc):AS:=s.after r.o.dst r.c r.e
def Trace:List Rc→AS→Prop
 |[],_=>True
 |r::l,s=>J5 P ops s r∧Trace l (Z4 s r)
def runR:List Rc→AS→AS
 |[],s=>s
 |r::l,s=>runR l (Z4 s r)
end
structure Eqv (s t:AS):Prop where
 n:s.n=t.n
 f:∀i,Z9 s.fr i=Z9 t.fr i
 m:∀i,Q5 s.mem i=Q5 t.mem i
theorem Eqv.refl (s:AS):Eqv s s:=⟨rfl,fun _=>rfl,fun _=>rfl⟩
theorem Eqv.symm {s t:AS} (h:Eqv s t):Eqv t s:=⟨h.n.symm,fun i=>(h.f i).symm,fun i=>(h.m i).symm⟩
theorem Eqv.trans {s t u:AS} (h:Eqv s t) (k:Eqv t u):Eqv s u:=⟨h.n.trans k.n,fun i=>(h.f i).trans (k.f i),fun i=>(h.m i).trans (k.m i)⟩
theorem Eqv.st {C:Cx} {s t:AS} (h:Eqv s t) {a:Act} {w:World} (hs:St C s a w):St C t a w:=
 hs.weak h.n.symm (fun i=>.inr (h.f i).symm) (fun o x hx=>by rw[h.m];exact hx)
theorem Eqv.evA {s t:AS} (h:Eqv s t):evA s.fr=evA t.fr:=by
 funext x;cases x<;> first|rfl|exact h.f _
theorem Eqv.memF {s t:AS} (h:Eqv s t):Q5 s.mem=Q5 t.mem:=funext h.m
theorem Eqv.next {s t:AS} (h:Eqv s t) (r:Rc):Eqv (Z4 s r) (Z4 t r):=by
 refine⟨h.n,fun i=>?_,fun i=>?_⟩
 ·simp only[Z4,AS.J2,h.f]
 ·simp only[Z4,AS.Jw,h.memF]
theorem J5.eqv {P:Program} {ops:Array Oper} {s t:AS} {r:Rc} (h:J5 P ops s r) (k:Eqv s t):J5 P ops t r:=by
 refine⟨by have:=h.d;unfold Rz at this⊢;rw[←k.n];exact this,?_,fun hr=>by rw[←k.evA,←k.memF];exact h.e hr,h.e',?_,fun hr=>?_,fun hp hr=>by rw[←k.evA,←k.memF];exact h.an hp hr,fun o ho=>by rw[←k.evA];exact h.ld o ho,fun o ho=>by rw[←k.evA];exact h.st o ho⟩
 ·have:=h.g;unfold Kv at this⊢;simp only[←k.f];exact this
 ·rw[←k.evA,←k.memF];exact h.M
 ·obtain⟨h1,h2⟩:=h.nk hr;exact⟨fun i=>by rw[←k.f];exact h1 i,fun i y hy=>h2 i y (by rw[k.m];exact hy)⟩
theorem Trace.eqv {P:Program} {ops:Array Oper}:∀(l:List Rc) {s t:AS},Trace P ops l s→Eqv s t→Trace P ops l t∧Eqv (runR l s) (runR l t)
 |[],s,t,_,k=>⟨trivial,k⟩
 |r::l,s,t,h,k=>by
  obtain⟨h1,h2⟩:=Trace.eqv l h.2 (k.next r);exact⟨⟨h.1.eqv k,h1⟩,h2⟩
def Rc.W (r:Rc):List Nat:=r.e.q++r.e.ws.map (·.1)
def wsIds:List (Nat×Option Q6)→List Nat
 |[]=>[]
 |(_,none)::r=>wsIds r
 |(_,some x)::r=>x.ids++wsIds r
def Rc.R (r:Rc):List Nat:=r.c.ids++wsIds r.e.ws
def disj (a b:List Nat):Bool:=a.all fun i=>!(b.contains i)
def indep (ops:Array Oper) (x y:Rc):Bool:=
 Oper.apart ops x.o y.o && (disj x.W y.W && (disj x.e.q y.R && (disj y.e.q x.R && ((x.pu||(disj y.W x.M && disj y.e.q x.K)) && (y.pu||(match y.st with
  |some o=>!(x.W.contains o)
  |none=>match y.ld with
   |some o=>!(x.W.contains o)
   |none=>disj x.W y.M && (x.nk||x.e.q.isEmpty|| !y.an)))))))
theorem Nw {a b:List Nat} (h:disj a b=true):∀i∈a,i ∉ b:=by
 intro i hi hb;unfold disj at h;rw[List.all_eq_true]at h;have:=h i hi;simp[hb]at this
theorem Dx {l:List Nat} {q:List Nat} (h:∀i∈q,i ∉ l):l.any (Qj q)=false:=by
 rw[←Bool.not_eq_true,List.any_eq_true];rintro⟨i,hi,hq⟩;exact h i (U7.1 hq) hi
theorem U6 {q:Nat→Bool} {c:AV} (h:Uw (c.kill q)=false):c.kill q=c:=by
 unfold AV.kill at h⊢;split
 ·rename_i hc;rw[if_pos hc]at h;cases h
 ·rfl
theorem kill_objAny {q:Nat→Bool} {x:Q6} (h:G6 (x.kill q)=false):x.kill q=x:=by
 cases x with
 |arr e sz rows=>rfl
 |map ks ag n ents=>rfl
 |raw r=>
  cases r with
  |own ty sz rows lk=>simp[Q6.kill,G6]at h
  |births=>rfl
  |iter=>rfl
 |blk t cs=>
  simp only[Q6.kill,G6,List.any_map,List.any_eq_false,Function.comp]at h⊢;congr 1;refine(List.map_congr_left fun c hc=>?_).trans (List.map_id _);exact U6 (by simpa using h c hc)
theorem wsIds_get {l:List (Nat×Option Q6)} {i:Nat} {x:Q6} (h:Q5 l i=some x):∀j∈x.ids,j∈wsIds l:=by
 induction l with
 |nil=>cases h
 |cons y r ih=>
  obtain⟨u,c⟩:=y;simp only[Q5]at h;intro j hj;split at h
  ·subst h;simp only[wsIds];exact List.mem_append_left _ hj
  ·cases c with
   |none=>exact ih h j hj
   |some z=>exact List.mem_append_right _ (ih h j hj)
theorem Pk {ops:Array Oper} {s t:AS} {o:Oper} {b:Bool} (h:Kv ops s o=some b) (ht:∀u,(match o.guard with|some (g,_)=>(ops[g]?).bind (·.dst)|none=>none)=some u→∀c,(c= .tuple []∨∃b,c= .d (.bool b))→Z9 s.fr u=c→Z9 t.fr u=c):Kv ops t o=some b:=by
 unfold Kv at h⊢;split
 ·rename_i hg;rw[hg]at h;exact h
 ·rename_i j want hg;rw[hg]at h ht;dsimp only at h ht;split
  ·rename_i u hu;rw[hu]at h;dsimp only at h;split at h
   ·rename_i b' hb;rw[ht u hu _ (.inr ⟨_,rfl⟩) hb];exact h
   ·rename_i hb;rw[ht u hu _ (.inl rfl) hb];exact h
   ·cases h
  ·rename_i hu;rw[hu]at h;cases h
theorem J5.halfY0 {P:Program} {ops:Array Oper} {s:AS} {x y:Rc} (hx:J5 P ops s x) (hy:J5 P ops (Z4 s x) y) (ap:Oper.apart ops x.o y.o=true) (iWM:∀i∈x.W,i ∉ y.M) (hnk:(x.nk||x.e.q.isEmpty|| !y.an)=true) (hpu:y.pu=false) (hld:y.ld=none) (hst:y.st=none):
  J5 P ops s { y with nk:=false }:=by
 obtain⟨ap1,ap2,ap3⟩:=Oper.apart_spec ap;have uW:∀r:Rc,∀i,X6 r.e.ws i=true→i∈r.W:=fun r i h=>List.mem_append_right _ (Sz.1 h)
 -- y's view ahead of x
 have fy:∀z∈y.o.op.operands,evA (Z4 s x).fr z=evA s.fr z:=fun z hz=>by
  cases z with
  |tmp t=>
   have hne:x.o.dst≠some t:=fun e=>ap1 t e (List.mem_append_left _ (List.mem_filterMap.2 ⟨.tmp t,by simpa using hz,rfl⟩))
   simp only[evA,Z4,AS.J2,if_neg hne];simp only[Bool.or_eq_true,List.isEmpty_iff,Bool.not_eq_true']at hnk;rcases hnk with(h|h)|h2
   ·exact AV.Uq ((hx.nk h).1 t)
   ·rw[h];exact AV.Uq (AV.V6 (fun _=>rfl) _)
   ·have:=(hy.an hpu h2).1 _ hz;simp only[evA,Z4,AS.J2,if_neg hne]at this;exact U6 this
  |_=>rfl
 have my0:∀i∈Z8 (Q5 (Z4 s x).mem) (evA (Z4 s x).fr) y.o.op,Q5 (Z4 s x).mem i=Q5 s.mem i:=fun i hiV=>by
  have hiM:=(hy.M hpu i hiV).1;have hU:X6 x.e.ws i=false:=by rw[←Bool.not_eq_true];intro h;exact iWM i (uW x i h) hiM
  simp only[Bool.or_eq_true,List.isEmpty_iff,Bool.not_eq_true']at hnk;have hget:Q5 (Z4 s x).mem i=(Q5 s.mem i).map (Q6.kill (Qj x.e.q)):=by
   simp only[Z4,AS.Jw,Zq,hU];cases hm:Q5 s.mem i<;> rfl
  rw[hget];cases hm:Q5 s.mem i with
  |none=>rfl
  |some v=>
   rw[hm]at hget;simp only[Option.map_some,Option.some.injEq];rcases hnk with(h|h)|h2
   ·exact(hx.nk h).2 i v hm
   ·rw[h];exact Q6.F8 (fun _=>rfl) v
   ·exact kill_objAny ((hy.an hpu h2).2 i hiV _ hget)
 have opy:V4 (evA (Z4 s x).fr) y.o.op.operands.toList=V4 (evA s.fr) y.o.op.operands.toList:=O1 _ fun z hz=>fy z (by simpa using hz)
 have viewy:Z8 (Q5 s.mem) (evA s.fr) y.o.op=Z8 (Q5 (Z4 s x).mem) (evA (Z4 s x).fr) y.o.op:=by
  exact Cz (fun z hz=>(fy z hz).symm) fun i hi=>(my0 i hi).symm
 have my:∀i∈Z8 (Q5 s.mem) (evA s.fr) y.o.op,Q5 (Z4 s x).mem i=Q5 s.mem i:=fun i hi=>my0 i (by rw[←viewy];exact hi)
 have hyS:J5 P ops s { y with nk:=false }:=by
  refine⟨hy.d,Pk hy.g fun u hu b hbc hb=>?_,fun hr=>?_,hy.e',fun _ i hi=>?_,(fun hr=>by cases hr),fun _ hr=>⟨fun z hz=>by rw[←fy z hz];exact(hy.an hpu hr).1 z hz,fun i hi v hv=>(hy.an hpu hr).2 i (by rw[←viewy];exact hi) v (by rw[my i hi];exact hv)⟩,(fun o ho=>by rw[show({ y with nk:=false }:Rc).ld=y.ld from rfl,hld]at ho;cases ho),(fun o ho=>by rw[show({ y with nk:=false }:Rc).st=y.st from rfl,hst]at ho;cases ho)⟩
  ·have hne:x.o.dst≠some u:=fun e=>ap1 u e (List.mem_append_right _ (by
    cases hg:y.o.guard with
    |none=>rw[hg]at hu;cases hu
    |some gg=>obtain⟨g1,g2⟩:=gg;rw[hg]at hu;simpa using hu))
   simp only[Z4,AS.J2,if_neg hne]at hb;have:Uw ((Z9 s.fr u).kill (Qj x.e.q))=false:=by rw[hb];rcases hbc with rfl|⟨b,rfl⟩<;> rfl
   rw[U6 this]at hb;exact hb
  ·have hxe:=opEff_see (P:=P) (m:=Q5 s.mem) (m1:=Q5 (Z4 s x).mem) (f:=evA s.fr) (f1:=evA (Z4 s x).fr) (o:=y.o) y.h y.z fy my;rw[←hxe];exact hy.e hr
  ·have h:=hy.M hpu i (by rw[←viewy];exact hi);exact⟨h.1,fun v hv j hj=>h.2 v (by rw[my i hi];exact hv) j hj⟩
 exact hyS
theorem J5.halfX0 {P:Program} {ops:Array Oper} {s:AS} {x y:Rc} (hx:J5 P ops s x) (ap:Oper.apart ops x.o y.o=true) (iqR:∀i∈x.e.q,i ∉ y.R) (iWM':∀i∈y.W,i ∉ x.M) (iqK:∀i∈y.e.q,i ∉ x.K) (hpu:x.pu=false):
  J5 P ops (Z4 s y) x:=by
 obtain⟨ap1,ap2,ap3⟩:=Oper.apart_spec ap;have qW:∀r:Rc,∀i∈r.e.q,i∈r.W:=fun r i h=>List.mem_append_left _ h
 have uW:∀r:Rc,∀i,X6 r.e.ws i=true→i∈r.W:=fun r i h=>List.mem_append_right _ (Sz.1 h)
 -- x's view behind y
 have kq:∀c:AV,(∀i∈c.ids,i∈x.M)→c.kill (Qj y.e.q)=c:=fun c hc=>AV.Uq (by
  rw[AV.D8];exact Dx fun i hi h=>iWM' i (qW y i hi) (hc i h))
 have fx:∀z∈x.o.op.operands,evA (Z4 s y).fr z=evA s.fr z:=fun z hz=>by
  cases z with
  |tmp t=>
   have hne:y.o.dst≠some t:=fun e=>ap3 t e (List.mem_append_left _ (List.mem_filterMap.2 ⟨.tmp t,by simpa using hz,rfl⟩))
   simp only[evA,Z4,AS.J2,if_neg hne];exact kq _ fun i hi=>(hx.M hpu i (viewIds_opn (opnIds_mem _ (.tmp t) (by simpa using hz) i hi))).1
  |_=>rfl
 have mx:∀i∈Z8 (Q5 s.mem) (evA s.fr) x.o.op,Q5 (Z4 s y).mem i=Q5 s.mem i:=fun i hi=>by
  obtain⟨hiM,hiC⟩:=hx.M hpu i hi;have hU:X6 y.e.ws i=false:=by rw[←Bool.not_eq_true];intro h;exact iWM' i (uW y i h) hiM
  simp only[Z4,AS.Jw,Zq,hU];cases hm:Q5 s.mem i with
  |none=>rfl
  |some v=>
   simp only[Bool.false_eq_true,if_false,Option.map_some,Option.some.injEq];exact Q6.Uq (Dx fun j hj h=>(List.mem_append.1 (hiC v hm j h)).elim (iWM' j (qW y j hj)) (iqK j hj))
 have viewx:Z8 (Q5 (Z4 s y).mem) (evA (Z4 s y).fr) x.o.op=Z8 (Q5 s.mem) (evA s.fr) x.o.op:=Cz fx mx;have hxS:J5 P ops (Z4 s y) x:=by
  refine⟨hx.d,Pk hx.g fun u hu b hbc hb=>?_,fun hr=>?_,hx.e',fun _ i hi=>?_,fun hr=>⟨fun t=>?_,fun i v hv=>?_⟩,fun _ hr=>⟨fun z hz=>by rw[fx z hz];exact(hx.an hpu hr).1 z hz,fun i hi v hv=>(hx.an hpu hr).2 i (by rw[←viewx];exact hi) v (by rw[←mx i (by rw[←viewx];exact hi)];exact hv)⟩,fun o ho=>by
   obtain⟨l1,l2,a,off,l3,l4⟩:=hx.ld o ho;exact⟨l1,l2,a,off,l3,by rw[fx a (ldArg_mem l3)];exact l4⟩,fun o ho=>by
   obtain⟨l1,l2,l5,t',a,v,off,l3,l4⟩:=hx.st o ho;exact⟨l1,l2,l5,t',a,v,off,l3,by rw[fx a (by rw[l3];simp[Op.operands])];exact l4⟩⟩
  ·have hne:y.o.dst≠some u:=fun e=>ap3 u e (List.mem_append_right _ (by
    cases hg:x.o.guard with
    |none=>rw[hg]at hu;cases hu
    |some gg=>obtain⟨g1,g2⟩:=gg;rw[hg]at hu;simpa using hu))
   simp only[Z4,AS.J2,if_neg hne,hb];rcases hbc with rfl|⟨b,rfl⟩<;> rfl
  ·have hye:=opEff_see (P:=P) (m:=Q5 s.mem) (m1:=Q5 (Z4 s y).mem) (f:=evA s.fr) (f1:=evA (Z4 s y).fr) (o:=x.o) x.h x.z fx mx;rw[hye];exact hx.e hr
  ·rw[viewx]at hi;have h:=hx.M hpu i hi;exact⟨h.1,fun v hv j hj=>h.2 v (by rw[←mx i hi];exact hv) j hj⟩
  ·obtain⟨h1,h2⟩:=hx.nk hr;simp only[Z4,AS.J2];split
   ·rw[AV.D8];exact Dx fun i hi h=>iqR i hi (List.mem_append_left _ h)
   ·unfold AV.kill;split
    ·rfl
    ·exact h1 t
  ·obtain⟨h1,h2⟩:=hx.nk hr;simp only[Z4,AS.Jw,Zq]at hv;split at hv
   ·exact Q6.Uq (Dx fun j hj h=>iqR j hj (List.mem_append_right _ (wsIds_get hv j h)))
   ·obtain⟨v',hv',rfl⟩:=Option.map_eq_some_iff.1 hv;rw[Q6.A9,h2 i v' hv']
 exact hxS
theorem Eqv.swap {ops:Array Oper} {s:AS} {x y:Rc} (ap:Oper.apart ops x.o y.o=true) (iWW:∀i∈x.W,i ∉ y.W) (iqR:∀i∈x.e.q,i ∉ y.R) (iqR':∀i∈y.e.q,i ∉ x.R):
  Eqv (Z4 (Z4 s x) y) (Z4 (Z4 s y) x):=by
 obtain⟨ap1,ap2,ap3⟩:=Oper.apart_spec ap;have uW:∀r:Rc,∀i,X6 r.e.ws i=true→i∈r.W:=fun r i h=>List.mem_append_right _ (Sz.1 h)
 refine⟨rfl,fun t=>?_,fun i=>?_⟩
 ·simp only[Z4,AS.J2];by_cases h1:y.o.dst=some t
  ·have h2:x.o.dst≠some t:=fun e=>ap2 t e h1
   rw[if_pos h1,if_neg h2,if_pos h1];exact(AV.Uq (by rw[AV.D8];exact Dx fun i hi h=>iqR i hi (List.mem_append_left _ h))).symm
  ·rw[if_neg h1,if_neg h1];by_cases h2:x.o.dst=some t
   ·rw[if_pos h2,if_pos h2];exact AV.Uq (by rw[AV.D8];exact Dx fun i hi h=>iqR' i hi (List.mem_append_left _ h))
   ·rw[if_neg h2,if_neg h2];exact AV.A9 _ _ _
 ·simp only[Z4,AS.Jw,Zq];by_cases h1:X6 y.e.ws i=true
  ·have h2:X6 x.e.ws i=false:=by rw[←Bool.not_eq_true];intro h;exact iWW i (uW x i h) (uW y i h1)
   rw[if_pos h1,h2,if_pos h1];simp only[Bool.false_eq_true,if_false];cases hm:Q5 y.e.ws i with
   |none=>rfl
   |some v=>simp only[Option.map_some,Q6.Uq (Dx fun j hj h=>iqR j hj (List.mem_append_right _ (wsIds_get hm j h)))]
  ·rw[Bool.not_eq_true]at h1;rw[h1];simp only[Bool.false_eq_true,if_false];by_cases h2:X6 x.e.ws i=true
   ·rw[if_pos h2,if_pos h2];cases hm:Q5 x.e.ws i with
    |none=>rfl
    |some v=>simp only[Option.map_some,Q6.Uq (Dx fun j hj h=>iqR' j hj (List.mem_append_right _ (wsIds_get hm j h)))]
   ·rw[if_neg h2,if_neg h2];simp only[Option.map_map];congr 1;funext v;exact Q6.A9 _ _ _
theorem viewM_ok (m:Me) (f:Operand→AV) (op:Op):∀i∈Z8 m f op,i∈Z8 m f op++Y3 m (Z8 m f op)∧∀y,m i=some y→∀j∈y.ids,j∈Z8 m f op++Y3 m (Z8 m f op):=fun i hi=>by
 have hO:∀(is:List Nat),∀i∈is,∀y,m i=some y→∀j∈y.ids,j∈Y3 m is:=fun is=>by
  induction is with
  |nil=>intro i hi;cases hi
  |cons k ks ih=>
   intro i hi y hy j hj;simp only[Y3];rcases List.mem_cons.1 hi with rfl|hi
   ·rw[hy];exact List.mem_append_left _ hj
   ·exact List.mem_append_right _ (ih i hi y hy j hj)
 exact⟨List.mem_append_left _ hi,fun y hy j hj=>List.mem_append_right _ (hO _ i hi y hy j hj)⟩
def loadR (P:Program) (t:TypeId) (rd:Nat→Option (List AV)):Option (AV×Eff×Prop):=match Ux P t with
 |some (b,n)=>match rd n with
  |some cs=>match Hq b cs with
   |some c=>some (c,⟨[],[]⟩,True)
   |none=>none
  |none=>none
 |none=>none
theorem opEff_load {P:Program} {m:Me} {f:Operand→AV} {o:Oper} {h:Option Hint} {z:Bool} {t:TypeId} {a:Operand} (ho:o.op= .load t a):
  Kw P m f o h z=if z then none else loadR P t (Jv m (f a)):=by
 have h0:Yq P m f o h=loadR P t (Jv m (f a)):=by
  unfold Yq loadR;rw[ho];simp only[Y8,Xz];cases h1:Ux P t with
  |none=>simp[Y1,V8,Y4,ho]
  |some bn=>
   obtain⟨b,n⟩:=bn;dsimp only;cases h2:Jv m (f a) n with
   |none=>simp[Y1,V8,Y4,ho]
   |some cs=>
    dsimp only;cases h3:Hq b cs with
    |none=>simp[Y1,V8,Y4,ho]
    |some c=>rfl
 unfold Kw;rw[h0];split
 ·rw[ho];simp only[Vk];unfold loadR;repeat' split
  all_goals first|rfl|simp_all [Bj]
 ·rfl
theorem kill_cells {q:Nat→Bool} {b:Bool} {l:List AV} {c:AV} (h:Hq b (l.map (AV.kill q))=some c) (hc:Tv c=true):l.map (AV.kill q)=l:=by
 unfold Hq at h;split at h
 ·cases h;simp only[Tv,List.all_eq_true,Bool.not_eq_true']at hc;refine(List.map_congr_left fun c hcl=>?_).trans (List.map_id _);exact U6 (hc _ (List.mem_map.2 ⟨c,hcl,rfl⟩))
 ·rcases l with _|⟨c1,_|⟨c2,l⟩⟩
  ·cases h
  ·simp only[List.map_cons,List.map_nil,Option.some.injEq]at h;subst h;simp only[List.map_cons,List.map_nil];rw[U6];cases hk:c1.kill q<;> rw[hk]at hc<;> first|rfl|cases hc
  ·cases h
theorem opEff_ld {P:Program} {m m1:Me} {f f1:Operand→AV} {o:Oper} {h:Option Hint} {z:Bool} {a:Operand} {o1 off:Nat} {q:Nat→Bool} {c:AV} {e:Eff} {p:Prop}
  (hop:Mj o.op=some a) (ha:f a= .ptr o1 off) (ha1:f1 a= .ptr o1 off) (hm:m1 o1=(m o1).map (Q6.kill q)) (he:Kw P m1 f1 o h z=some (c,e,p)) (hc:Tv c=true):
  Kw P m f o h z=some (c,e,p)∧e=⟨[],[]⟩:=by
 have zn:∀{v:AV} {p:Prop},Bj (some (v,⟨[],[]⟩,p))=none:=rfl;unfold Mj at hop;split at hop
 ·rename_i t a' lo;cases hop;rw[opEff_load lo]at he⊢;cases hz:z with
  |true=>rw[hz]at he;cases he
  |false=>
  rw[hz]at he;simp only[Bool.false_eq_true,if_false]at he⊢;rw[ha1]at he;rw[ha];unfold loadR at he⊢;cases h1:Ux P t with
  |none=>rw[h1]at he;cases he
  |some bn=>
   obtain⟨b,n⟩:=bn;rw[h1]at he;dsimp only at he⊢;cases h2:Jv m1 (.ptr o1 off) n with
   |none=>rw[h2]at he;cases he
   |some cs=>
    rw[h2]at he;dsimp only at he;cases h3:Hq b cs with
    |none=>rw[h3]at he;cases he
    |some c'=>
     rw[h3]at he;simp only[Option.some.injEq,Prod.mk.injEq]at he;obtain⟨rfl,rfl,rfl⟩:=he;have:Jv m (.ptr o1 off) n=some cs:=by
      simp only[Jv]at h2⊢;rw[hm]at h2;cases hmm:m o1 with
      |none=>rw[hmm]at h2;cases h2
      |some v=>
       rw[hmm]at h2;cases v with
       |blk tt cl=>
        simp only[Option.map_some,Q6.kill,List.length_map]at h2;dsimp only;split at h2
        ·rename_i hl;rw[if_pos hl];simp only[Option.some.injEq]at h2;rw[←h2,←List.map_drop,←List.map_take]at h3;rw[←h2,←List.map_drop,←List.map_take,kill_cells h3 hc]
        ·cases h2
       |_=>cases h2
     rw[this];dsimp only;rw[h3];exact⟨rfl,rfl⟩
 ·rename_i a' lo;cases hop;simp only[Kw,Yq,N9,lo,Y8,Xz,Vk,zn,ha,ha1]at he⊢;cases z
  ·simp only[Bool.false_eq_true,if_false,Option.some.injEq,Prod.mk.injEq]at he⊢;exact⟨he,he.2.1.symm⟩
  ·cases he
 ·rename_i a' lo;cases hop;simp only[Kw,Yq,N9,lo,Y8,Xz,Vk,zn,ha,ha1]at he⊢;cases z
  ·simp only[Bool.false_eq_true,if_false,Option.some.injEq,Prod.mk.injEq]at he⊢;exact⟨he,he.2.1.symm⟩
  ·cases he
 ·rename_i a' lo;cases hop;simp only[Kw,Yq,N9,lo,Y8,Xz,Y1,Vk,ha,ha1,hm]at he⊢;cases hmm:m o1 with
  |none=>rw[hmm]at he;cases z<;> simp[V8,Y4,lo,Bj]at he
  |some v=>
   rw[hmm]at he;cases z
   ·simp only[Option.map_some,Bool.false_eq_true,if_false,Option.some.injEq,Prod.mk.injEq]at he⊢;exact⟨he,he.2.1.symm⟩
   ·cases he
 ·rename_i t a' k lo;cases hop;simp only[Kw,Yq,N9,lo,Y8,Xz,Vk,Vx,ha,ha1,hm]at he⊢;cases h1:Xk P t k with
  |none=>rw[h1]at he;cases z<;> simp[Y1,V8,Y4,lo,Bj]at he
  |some bn=>
   obtain⟨b,n⟩:=bn;rw[h1]at he;cases hmm:m o1 with
   |none=>rw[hmm]at he;cases z<;> simp[Y1,V8,Y4,lo,Bj]at he
   |some v=>
    rw[hmm]at he;cases v with
    |blk tt cl=>
     cases z
     ·simp only[Option.map_some,Q6.kill,Bool.false_eq_true,if_false,Option.some.injEq,Prod.mk.injEq]at he⊢;exact⟨he,he.2.1.symm⟩
     ·cases he
    |_=>cases z<;> simp[Q6.kill,Y1,V8,Y4,lo,Bj]at he
 ·cases hop
theorem opEff_mv {P:Program} {o:Oper} {a:Operand} (ho:o.op= .move a∨o.op= .assign a) (m:Me) (f:Operand→AV) (h:Option Hint) (z:Bool):Kw P m f o h z=if z then none else some (f a,⟨[],[]⟩,True):=by
 rcases ho with ho|ho<;> (unfold Kw Yq;rw[ho];cases z<;> rfl)
theorem Rc.pu_spec {P:Program} {ops:Array Oper} {s:AS} {r:Rc} (h:J5 P ops s r) (hp:r.pu=true):∃a,r.o.op.operands= #[a]∧(r.o.op= .move a∨r.o.op= .assign a)∧r.z=false∧r.run=true∧r.c=evA s.fr a∧Uw r.c=false∧r.e=⟨[],[]⟩∧r.p=True:=by
 unfold Rc.pu at hp;simp only[Bool.and_eq_true,Bool.not_eq_true']at hp;obtain⟨⟨h1,h2⟩,h3⟩:=hp;obtain⟨a,h4,h5⟩:=isMv_spec h1;have he:=h.e h2;rw[opEff_mv h5]at he;cases hz:r.z with
 |true=>rw[hz]at he;cases he
 |false=>
  rw[hz]at he;simp only[Bool.false_eq_true,if_false,Option.some.injEq,Prod.mk.injEq]at he;exact⟨a,h4,h5,rfl,h2,he.1.symm,h3,he.2.1.symm,he.2.2.symm⟩
theorem J5.halfYP {P:Program} {ops:Array Oper} {s:AS} {x y:Rc} (hy:J5 P ops (Z4 s x) y) (ap:Oper.apart ops x.o y.o=true) (hpu:y.pu=true):J5 P ops s { y with nk:=false }:=by
 obtain⟨ap1,ap2,ap3⟩:=Oper.apart_spec ap;obtain⟨a,h1,h2,h3,h4,h5,h6,h7,h8⟩:=Rc.pu_spec hy hpu;have fa:evA s.fr a=evA (Z4 s x).fr a:=by
  cases a with
  |tmp u=>
   have hne:x.o.dst≠some u:=fun e=>ap1 u e (List.mem_append_left _ (List.mem_filterMap.2 ⟨.tmp u,by rw[h1];simp,rfl⟩))
   rw[h5]at h6;simp only[evA,Z4,AS.J2,if_neg hne]at h6⊢;exact(U6 h6).symm
  |_=>rfl
 have hpu':({ y with nk:=false }:Rc).pu=true:=hpu;refine⟨hy.d,Pk hy.g fun u hu b hbc hb=>?_,fun _=>?_,hy.e',(fun h=>by rw[hpu']at h;cases h),(fun h=>by cases h),(fun h=>by rw[hpu']at h;cases h),fun o ho=>?_,fun o ho=>by
  obtain⟨_,_,_,t',a',v',off,l3,_⟩:=hy.st o ho;rcases h2 with h2|h2<;> rw[h2]at l3<;> cases l3⟩
 ·have hne:x.o.dst≠some u:=fun e=>ap1 u e (List.mem_append_right _ (by
   cases hg:y.o.guard with
   |none=>rw[hg]at hu;cases hu
   |some gg=>obtain⟨g1,g2⟩:=gg;rw[hg]at hu;simpa using hu))
  simp only[Z4,AS.J2,if_neg hne]at hb;have:Uw ((Z9 s.fr u).kill (Qj x.e.q))=false:=by rw[hb];rcases hbc with rfl|⟨b,rfl⟩<;> rfl
  rw[U6 this]at hb;exact hb
 ·show Kw P (Q5 s.mem) (evA s.fr) y.o y.h y.z=some (y.c,y.e,y.p);rw[opEff_mv h2,h3,h5,h7,h8,fa];rfl
 ·obtain⟨l1,l2,a',off,l3,l4⟩:=hy.ld o ho;have:a'=a:=by
   have:=ldArg_mem l3;rw[h1]at this;simpa using this
  subst this;exact⟨l1,l2,a',off,l3,by rw[fa];exact l4⟩
theorem J5.halfXP {P:Program} {ops:Array Oper} {s:AS} {x y:Rc} (hx:J5 P ops s x) (ap:Oper.apart ops x.o y.o=true) (iqR':∀i∈y.e.q,i ∉ x.R) (hpu:x.pu=true):J5 P ops (Z4 s y) x:=by
 obtain⟨ap1,ap2,ap3⟩:=Oper.apart_spec ap;obtain⟨a,h1,h2,h3,h4,h5,h6,h7,h8⟩:=Rc.pu_spec hx hpu;have fa:evA (Z4 s y).fr a=evA s.fr a:=by
  cases a with
  |tmp u=>
   have hne:y.o.dst≠some u:=fun e=>ap3 u e (List.mem_append_left _ (List.mem_filterMap.2 ⟨.tmp u,by rw[h1];simp,rfl⟩))
   simp only[evA,Z4,AS.J2,if_neg hne];refine AV.Uq ?_;rw[AV.D8];refine Dx fun i hi h=>iqR' i hi (List.mem_append_left _ ?_)
   rw[h5];exact h
  |_=>rfl
 refine⟨hx.d,Pk hx.g fun u hu b hbc hb=>?_,fun _=>?_,hx.e',(fun h=>by rw[hpu]at h;cases h),fun _=>?_,(fun h=>by rw[hpu]at h;cases h),fun o ho=>?_,fun o ho=>by
  obtain⟨_,_,_,t',a',v',off,l3,_⟩:=hx.st o ho;rcases h2 with h2|h2<;> rw[h2]at l3<;> cases l3⟩
 ·have hne:y.o.dst≠some u:=fun e=>ap3 u e (List.mem_append_right _ (by
   cases hg:x.o.guard with
   |none=>rw[hg]at hu;cases hu
   |some gg=>obtain⟨g1,g2⟩:=gg;rw[hg]at hu;simpa using hu))
  simp only[Z4,AS.J2,if_neg hne,hb];rcases hbc with rfl|⟨b,rfl⟩<;> rfl
 ·rw[opEff_mv h2,h3,h5,h7,h8,fa];rfl
 ·rw[h7];exact⟨fun t=>AV.V6 (fun _=>rfl) _,fun i y _=>Q6.F8 (fun _=>rfl) y⟩
 ·obtain⟨l1,l2,a',off,l3,l4⟩:=hx.ld o ho;have:a'=a:=by
   have:=ldArg_mem l3;rw[h1]at this;simpa using this
  subst this;exact⟨l1,l2,a',off,l3,by rw[fa];exact l4⟩
theorem J5.halfYL {P:Program} {ops:Array Oper} {s:AS} {x y:Rc} (hy:J5 P ops (Z4 s x) y) (ap:Oper.apart ops x.o y.o=true) {o:Nat} (hld:y.ld=some o) (hst:y.st=none) (hoW:(x.W.contains o)=false):
  ∃M,J5 P ops s { y with M:=M,nk:=false,an:=true }:=by
 obtain⟨ap1,ap2,ap3⟩:=Oper.apart_spec ap;obtain⟨lr,lc,a,off,lo,la⟩:=hy.ld o hld;have hoW':o ∉ x.W:=fun h=>by rw[List.contains_iff_mem.2 h]at hoW;cases hoW
 have la':evA s.fr a= .ptr o off:=by
  cases a with
  |tmp u=>
   have hne:x.o.dst≠some u:=fun e=>ap1 u e (List.mem_append_left _ (List.mem_filterMap.2 ⟨.tmp u,by simpa using ldArg_mem lo,rfl⟩))
   simp only[evA,Z4,AS.J2,if_neg hne]at la⊢;have:=U6 (q:=Qj x.e.q) (c:=Z9 s.fr u) (by rw[la];rfl);rw[this]at la;exact la
  |_=>exact la
 have uW:∀r:Rc,∀i,X6 r.e.ws i=true→i∈r.W:=fun r i h=>List.mem_append_right _ (Sz.1 h)
 have hU:X6 x.e.ws o=false:=by rw[←Bool.not_eq_true];intro h;exact hoW' (uW x o h)
 have hget:Q5 (Z4 s x).mem o=(Q5 s.mem o).map (Q6.kill (Qj x.e.q)):=by
  simp only[Z4,AS.Jw,Zq,hU];cases hm:Q5 s.mem o<;> rfl
 obtain⟨hrd,hye0⟩:=opEff_ld lo la' la hget (hy.e lr) lc;have hyS:∃M,J5 P ops s { y with M:=M,nk:=false,an:=true }:=by
  refine⟨Z8 (Q5 s.mem) (evA s.fr) y.o.op++Y3 (Q5 s.mem) (Z8 (Q5 s.mem) (evA s.fr) y.o.op),hy.d,Pk hy.g fun u hu b hbc hb=>?_,fun _=>hrd,hy.e',(fun _ i hi=>⟨(viewM_ok _ _ _ i hi).1,fun v hv j hj=>List.mem_append_left _ ((viewM_ok _ _ _ i hi).2 v hv j hj)⟩),(fun h=>by cases h),(fun _ h=>by cases h),fun o' ho'=>?_,(fun o' ho'=>by have h9:y.st=some o':=ho';rw[hst]at h9;cases h9)⟩
  ·have hne:x.o.dst≠some u:=fun e=>ap1 u e (List.mem_append_right _ (by
    cases hg:y.o.guard with
    |none=>rw[hg]at hu;cases hu
    |some gg=>obtain⟨g1,g2⟩:=gg;rw[hg]at hu;simpa using hu))
   simp only[Z4,AS.J2,if_neg hne]at hb;have:Uw ((Z9 s.fr u).kill (Qj x.e.q))=false:=by rw[hb];rcases hbc with rfl|⟨b,rfl⟩<;> rfl
   rw[U6 this]at hb;exact hb
  ·have:y.ld=some o':=ho';rw[hld]at this;cases this;exact⟨lr,lc,a,off,lo,la'⟩
 exact hyS
def storeR (P:Program) (t:TypeId) (vc:Option (List AV)) (wr:List AV→Option (Nat×Q6)):Option (AV×Eff×Prop):=match Ux P t,vc with
 |some (_,n),some cs=>if cs.length=n then (match wr cs with
  |some (o,x')=>some (.any,⟨[],[(o,some x')]⟩,True)
  |none=>none)else none
 |_,_=>none
theorem opEff0_store {P:Program} {m:Me} {f:Operand→AV} {o:Oper} {h:Option Hint} {t:TypeId} {a v:Operand} (ho:o.op= .store t a v):
  Yq P m f o h=storeR P t (f v).cells (Y5 m (f a)):=by
 unfold Yq storeR;rw[ho];simp only[Y8];cases h1:Ux P t with
 |none=>simp[Y1,V8,Y4,ho]
 |some bn=>
  obtain⟨b,n⟩:=bn;cases h2:(f v).cells with
  |none=>simp[Y1,V8,Y4,ho]
  |some cs=>
   dsimp only;by_cases h3:cs.length=n
   ·rw[if_pos h3];cases h4:Y5 m (f a) cs with
    |none=>simp[Y1,V8,Y4,ho]
    |some oo=>rfl
   ·rw[if_neg h3];simp[Y1,V8,Y4,ho]
theorem kill_all {q:Nat→Bool}:∀{l:List AV},(∀c∈l,Uw (c.kill q)=false)→l.map (AV.kill q)=l:=fun {l} h=>
 (List.map_congr_left fun c hc=>U6 (h c hc)).trans (List.map_id _)
theorem setAt_kill {q:Nat→Bool}:∀(old:List AV) (off:Nat) (cs:List AV),(∀c∈setAt (old.map (AV.kill q)) off cs,Uw c=false)→setAt (old.map (AV.kill q)) off cs=setAt old off cs
 |l,n,[],h=>by
  have e:∀l:List AV,setAt l n []=l:=fun l=>by cases l<;> cases n<;> simp[setAt]
  rw[e]at h;rw[e,e];exact kill_all fun c hc=>h _ (List.mem_map.2 ⟨c,hc,rfl⟩)
 |[],_,_::_,_=>rfl
 |x::l,0,c::cs,h=>by
  rw[List.map_cons,setAt]at h;rw[List.map_cons,setAt,setAt,setAt_kill l 0 cs fun c hc=>h c (List.mem_cons_of_mem _ hc)]
 |x::l,n+1,c::cs,h=>by
  rw[List.map_cons,setAt]at h;rw[List.map_cons,setAt,setAt,setAt_kill l n (c::cs) fun c hc=>h c (List.mem_cons_of_mem _ hc),U6 (h _ (List.mem_cons_self ..))]
theorem opEff_st {P:Program} {m m1:Me} {f f1:Operand→AV} {o:Oper} {h:Option Hint} {t:TypeId} {a v:Operand} {o1 off:Nat} {q:Nat→Bool} {c:AV} {e:Eff} {p:Prop}
  (lo:o.op= .store t a v) (ha:f a= .ptr o1 off) (ha1:f1 a= .ptr o1 off) (hv:f1 v=(f v).kill q∨f1 v=f v) (hm:m1 o1=(m o1).map (Q6.kill q)) (he:Kw P m1 f1 o h false=some (c,e,p)) (hs:stOk e=true):
  Kw P m f o h false=some (c,e,p):=by
 have z0:∀m f,Kw P m f o h false=storeR P t (f v).cells (Y5 m (f a)):=fun m f=>by
  show Yq P m f o h=_;exact opEff0_store lo
 rw[z0]at he⊢;have hv1:f1 v=f v:=by
  rcases hv with hv|hv
  ·unfold AV.kill at hv;split at hv
   ·rw[hv]at he;unfold storeR at he;simp only[AV.cells]at he;split at he<;> simp_all
   ·exact hv
  ·exact hv
 rw[hv1,ha1]at he;rw[ha];unfold storeR at he⊢;cases h1:Ux P t with
 |none=>rw[h1]at he;cases he
 |some bn=>
  obtain⟨b,n⟩:=bn;rw[h1]at he;cases h2:(f v).cells with
  |none=>rw[h2]at he;cases he
  |some cs=>
   rw[h2]at he;dsimp only at he⊢;by_cases h3:cs.length=n
   ·rw[if_pos h3]at he⊢;have:Y5 m (.ptr o1 off) cs=Y5 m1 (.ptr o1 off) cs:=by
     simp only[Y5]at he⊢;rw[hm]at he⊢;cases hmm:m o1 with
     |none=>rfl
     |some y=>
      rw[hmm]at he;cases y with
      |blk tt old=>
       simp only[Option.map_some,Q6.kill,List.length_map]at he⊢;by_cases hl:off+cs.length≤old.length
       ·rw[if_pos hl]at he⊢;dsimp only at he;simp only[Option.some.injEq,Prod.mk.injEq]at he;obtain⟨_,rfl,_⟩:=he;simp only[stOk,List.all_eq_true,Bool.not_eq_true']at hs;have e1:=setAt_kill old off cs hs;simp only[if_pos hl];rw[e1]
       ·rw[if_neg hl,if_neg hl]
      |_=>rfl
    rw[this];exact he
   ·rw[if_neg h3]at he;cases he
theorem J5.halfYS {P:Program} {ops:Array Oper} {s:AS} {x y:Rc} (hy:J5 P ops (Z4 s x) y) (ap:Oper.apart ops x.o y.o=true) {o:Nat} (hst:y.st=some o) (hoW:(x.W.contains o)=false):
  ∃M,J5 P ops s { y with M:=M,nk:=false,an:=true }:=by
 obtain⟨ap1,ap2,ap3⟩:=Oper.apart_spec ap;obtain⟨lr,lz,ls,t,a,v,off,lo,la⟩:=hy.st o hst;have hoW':o ∉ x.W:=fun h=>by rw[List.contains_iff_mem.2 h]at hoW;cases hoW
 have fk:∀z∈y.o.op.operands,evA (Z4 s x).fr z=(evA s.fr z).kill (Qj x.e.q)∨evA (Z4 s x).fr z=evA s.fr z:=fun z hz=>by
  cases z with
  |tmp u=>
   have hne:x.o.dst≠some u:=fun e=>ap1 u e (List.mem_append_left _ (List.mem_filterMap.2 ⟨.tmp u,by simpa using hz,rfl⟩))
   left;simp only[evA,Z4,AS.J2,if_neg hne]
  |_=>exact .inr rfl
 have la':evA s.fr a= .ptr o off:=by
  rcases fk a (by rw[lo];simp[Op.operands])with h|h
  ·rw[la]at h;have:=U6 (q:=Qj x.e.q) (c:=evA s.fr a) (by rw[←h];rfl);rw[←this,←h]
  ·rw[←h];exact la
 have uW:∀r:Rc,∀i,X6 r.e.ws i=true→i∈r.W:=fun r i h=>List.mem_append_right _ (Sz.1 h)
 have hU:X6 x.e.ws o=false:=by rw[←Bool.not_eq_true];intro h;exact hoW' (uW x o h)
 have hget:Q5 (Z4 s x).mem o=(Q5 s.mem o).map (Q6.kill (Qj x.e.q)):=by
  simp only[Z4,AS.Jw,Zq,hU];cases hm:Q5 s.mem o<;> rfl
 have he:=hy.e lr;rw[lz]at he;have hrd:=opEff_st lo la' la (fk v (by rw[lo];simp[Op.operands])) hget he ls;refine⟨Z8 (Q5 s.mem) (evA s.fr) y.o.op++Y3 (Q5 s.mem) (Z8 (Q5 s.mem) (evA s.fr) y.o.op),hy.d,Pk hy.g fun u hu b hbc hb=>?_,fun _=>(by show Kw P _ _ y.o y.h y.z=_;rw[lz];exact hrd),hy.e',(fun _ i hi=>⟨(viewM_ok _ _ _ i hi).1,fun v hv j hj=>List.mem_append_left _ ((viewM_ok _ _ _ i hi).2 v hv j hj)⟩),(fun h=>by cases h),(fun _ h=>by cases h),fun o' ho'=>?_,fun o' ho'=>?_⟩
 ·have hne:x.o.dst≠some u:=fun e=>ap1 u e (List.mem_append_right _ (by
   cases hg:y.o.guard with
   |none=>rw[hg]at hu;cases hu
   |some gg=>obtain⟨g1,g2⟩:=gg;rw[hg]at hu;simpa using hu))
  simp only[Z4,AS.J2,if_neg hne]at hb;have:Uw ((Z9 s.fr u).kill (Qj x.e.q))=false:=by rw[hb];rcases hbc with rfl|⟨b,rfl⟩<;> rfl
  rw[U6 this]at hb;exact hb
 ·obtain⟨_,_,a',off',l3,_⟩:=hy.ld o' ho';rw[lo]at l3;cases l3
 ·have:y.st=some o':=ho';rw[hst]at this;cases this;exact⟨lr,lz,ls,t,a,v,off,lo,la'⟩
theorem J5.swap {P:Program} {ops:Array Oper} {s:AS} {x y:Rc} (hx:J5 P ops s x) (hy:J5 P ops (Z4 s x) y) (hi:indep ops x y=true):
  (∃M an,J5 P ops s { y with M:=M,nk:=false,an:=an }∧(y.ld=none→y.st=none→M=y.M∧an=y.an))∧J5 P ops (Z4 s y) x∧Eqv (Z4 (Z4 s x) y) (Z4 (Z4 s y) x):=by
 unfold indep at hi;simp only[Bool.and_eq_true]at hi;obtain⟨ap,dWW,dqR,dqR',hX,hY⟩:=hi;refine⟨?_,?_,Eqv.swap ap (Nw dWW) (Nw dqR) (Nw dqR')⟩
 ·by_cases hpu:y.pu=true
  ·exact⟨y.M,y.an,J5.halfYP hy ap hpu,fun _ _=>⟨rfl,rfl⟩⟩
  ·rw[Bool.not_eq_true]at hpu;rw[hpu,Bool.false_or]at hY;by_cases hst:y.st=none;rotate_left
   ·obtain⟨o,ho⟩:=Option.ne_none_iff_exists'.1 hst;rw[ho]at hY;obtain⟨M,h⟩:=J5.halfYS hy ap ho (by simpa using hY);exact⟨M,true,h,fun _ h=>absurd h hst⟩
   rw[hst]at hY;dsimp only at hY;by_cases hld:y.ld=none
   ·rw[hld]at hY;simp only[Bool.and_eq_true]at hY;exact⟨y.M,y.an,J5.halfY0 hx hy ap (Nw hY.1) hY.2 hpu hld hst,fun _ _=>⟨rfl,rfl⟩⟩
   ·obtain⟨o,ho⟩:=Option.ne_none_iff_exists'.1 hld;rw[ho]at hY;obtain⟨M,h⟩:=J5.halfYL hy ap ho hst (by simpa using hY);exact⟨M,true,h,fun h _=>absurd h hld⟩
 ·by_cases hpu:x.pu=true
  ·exact J5.halfXP hx ap (Nw dqR') hpu
  ·rw[Bool.not_eq_true]at hpu;rw[hpu,Bool.false_or,Bool.and_eq_true]at hX;exact J5.halfX0 hx ap (Nw dqR) (Nw hX.1) (Nw hX.2) hpu
theorem Trace.front {P:Program} {ops:Array Oper} (y:Rc) (l2:List Rc):∀(l1:List Rc) (s:AS),Trace P ops (l1++y::l2) s→(∀x∈l1,indep ops x y=true)→
  (∃M an,J5 P ops s { y with M:=M,nk:=false,an:=an }∧(y.ld=none→y.st=none→M=y.M∧an=y.an))∧Trace P ops (l1++l2) (Z4 s y)∧Eqv (runR (l1++y::l2) s) (runR (l1++l2) (Z4 s y))
 |[],s,h,_=>by
  refine⟨⟨y.M,y.an,?_,fun _ _=>⟨rfl,rfl⟩⟩,h.2,Eqv.refl _⟩;have h1:=h.1;exact⟨h1.d,h1.g,h1.e,h1.e',h1.M,(fun h=>by cases h),h1.an,h1.ld,h1.st⟩
 |x::l1,s,h,hi=>by
  obtain⟨⟨M,an,a1,a0⟩,a2,a3⟩:=Trace.front y l2 l1 (Z4 s x) h.2 (fun z hz=>hi z (by simp[hz]));have hi':indep ops x { y with M:=M,nk:=false,an:=an }=true:=by
   have h0:=hi x (by simp);unfold indep at h0⊢;cases hst:y.st with
   |some o=>
    rw[hst]at h0;exact h0
   |none=>
   rw[hst]at h0;cases hld:y.ld with
   |none=>
    obtain⟨rfl,rfl⟩:=a0 hld hst;rw[hld]at h0;exact h0
   |some o=>
    rw[hld]at h0;exact h0
  obtain⟨⟨M',an',b1,b0⟩,b2,b3⟩:=J5.swap h.1 a1 hi';obtain⟨c1,c2⟩:=Trace.eqv _ a2 b3;exact⟨⟨M',an',b1,fun h k=>⟨(b0 h k).1.trans (a0 h k).1,(b0 h k).2.trans (a0 h k).2⟩⟩,⟨b2,c1⟩,a3.trans c2⟩
def Q6.le:Q6→Q6→Prop
 | .blk t cs,.blk t' cs'=>t=t'∧cs.length=cs'.length∧∀i:Nat,cs[i]? =some .any∨cs[i]? =cs'[i]?
 | .arr e sz rows,.arr e' sz' rows'=>e=e'∧sz=sz'∧rows=rows'
 | .map ks ag n ents,.map ks' ag' n' ents'=>ks=ks'∧ag=ag'∧n=n'∧ents=ents'
 | .raw r,.raw r'=>r=r'
 |_,_=>False
theorem St.weak2 {C:Cx} {s s':AS} {a:Act} {w:World} (h:St C s a w) (hn:s'.n=s.n) (hf:∀t,Z9 s'.fr t= .any∨Z9 s'.fr t=Z9 s.fr t) (hm:∀o x,Q5 s'.mem o=some x→∃y,Q5 s.mem o=some y∧x.le y):St C s' a w:=by
 obtain⟨ok,g,hM,h1,h2,h3⟩:=h;have hlk:∀o x',(fun _=>false) o=false→Q5 s'.mem o=some x'→∃x,Q5 s.mem o=some x∧x.like x'∧g.bl o=g.bl o∧g.cp o=g.cp o:=fun o x' _ hx'=>by
  obtain⟨y,hy,hle⟩:=hm o x' hx';refine⟨y,hy,?_,rfl,rfl⟩;cases x'<;> cases y<;> first|exact hle.elim|(obtain rfl:_=_:=hle;exact Q6.Wq _)|simp_all [Q6.le,Q6.like]
 have hat:∀o x',Q5 s'.mem o=some x'→∃y,Q5 s.mem o=some y∧∀b,x'.at_ g o b→y.at_ g o b:=fun o x' hx'=>by
  obtain⟨y,hy,hl,_⟩:=hlk o x' rfl hx';exact⟨y,hy,fun b=>(Q6.like_at hl).1⟩
 have mono:∀c v,VR w ok g (Q5 s.mem) c v→VR w ok g (Q5 s'.mem) c v:=fun c v hv=>
  hv.mono (fun _=>false) (AV.V6 (fun _=>rfl) c) (fun _ _=>rfl) (fun _ h=>h) hlk
 refine⟨ok,g,⟨fun o x hx=>?_,fun i j xi xj b hi hj=>?_,fun i x b hi=>?_,hM.okb,hM.okk,hM.size,hM.heap,hM.keep,hM.os,hM.tape,hM.output,hM.gi,hM.gb⟩,by rw[hn];exact h1,h2,fun t=>?_⟩
 ·obtain⟨y,hy,hle⟩:=hm o x hx;have hO:=hM.obj o y hy;cases x with
  |arr e sz rows=>
   cases y with
   |blk t cs=>exact hle.elim
   |map _ _ _ _=>exact hle.elim
   |raw _=>exact hle.elim
   |arr e' sz' rows'=>
    obtain⟨rfl,rfl,rfl⟩:=hle;exact hO
  |map ks ag n ents=>
   cases y with
   |blk t cs=>exact hle.elim
   |arr _ _ _=>exact hle.elim
   |raw _=>exact hle.elim
   |map ks' ag' n' ents'=>
    obtain⟨rfl,rfl,rfl,rfl⟩:=hle;exact hO
  |raw r=>
   cases y with
   |blk t cs=>exact hle.elim
   |arr _ _ _=>exact hle.elim
   |map _ _ _ _=>exact hle.elim
   |raw r'=>
    obtain rfl:r=r':=hle;exact hO.mono (fun _=>false) (Q6.Fz (fun _=>rfl) _) (fun _ _=>rfl) rfl rfl (fun _ _=>rfl) (fun _ h=>h) hlk
  |blk t cs=>
   cases y with
   |arr e' sz' rows'=>exact hle.elim
   |map _ _ _ _=>exact hle.elim
   |raw _=>exact hle.elim
   |blk t' cs'=>
    obtain⟨rfl,hl,hc⟩:=hle;obtain⟨b,vs,k1,k2,k3⟩:=hO;refine⟨b,vs,k1,k2,by rw[hl];exact k3.1,fun i c v hci hvi=>?_,k3.2.2⟩;rcases hc i with h|h
    ·rw[h]at hci;obtain rfl:=Option.some.inj hci;exact .any _
    ·rw[h]at hci;exact mono c v (k3.2.1 i c v hci hvi)
 ·obtain⟨yi,hyi,ai⟩:=hat i xi hi;obtain⟨yj,hyj,aj⟩:=hat j xj hj;exact fun a1 a2=>hM.inj i j yi yj b hyi hyj (ai b a1) (aj b a2)
 ·obtain⟨y,hy,ai⟩:=hat i x hi;exact fun a1=>hM.own i y b hy (ai b a1)
 ·rcases hf t with h|h
  ·rw[h];exact .any _
  ·rw[h];exact mono _ _ (h3 t)
theorem AV.frz_id {o:Nat} {x:Q6} (c:AV):c.has (fun j=>j==o)=false→c.frz o x=c:=
 AV.rec (motive_1:=fun c=>c.has (fun j=>j==o)=false→c.frz o x=c) (motive_2:=fun l=>AV.Yj (fun j=>j==o) l=false→Ox o x l=l)
  (fun _=>rfl) (fun _ _=>rfl) (fun _ _=>rfl) (fun _ _=>rfl) (fun o' _ h=>by simp only[AV.has]at h;simp[AV.frz,Px,h]) (fun o' _ _ h=>by simp only[AV.has]at h;simp[AV.frz,Px,h]) (fun o' _ _ h=>by simp only[AV.has]at h;simp[AV.frz,Px,h]) (fun o' h=>by simp only[AV.has]at h;simp[AV.frz,Px,h])
  (fun cs ih h=>by simp only[AV.frz,ih h]) (fun cs ih h=>by simp only[AV.frz,ih h]) (fun _ cs ih h=>by simp only[AV.frz,ih h]) (fun _=>rfl)
  (fun c r h1 h2 h=>by
   simp only[AV.Yj,Bool.or_eq_false_iff]at h;simp only[Ox,h1 h.1,h2 h.2]) c
theorem idIn_cons (o:Nat) (q:List Nat) (i:Nat):Qj (o::q) i=(o==i||Qj q i):=by simp[Qj]
theorem kill_cons {o:Nat} {q:List Nat} {x:Q6} (c:AV):c.kill (Qj (o::q))= .any∨c.kill (Qj (o::q))=(c.kill (Qj q)).frz o x:=by
 unfold AV.kill;by_cases h:c.has (Qj (o::q))=true
 ·rw[if_pos h];exact .inl rfl
 ·right;rw[if_neg h];rw[Bool.not_eq_true,AV.D8]at h;have h1:c.has (Qj q)=false:=by
   rw[AV.D8,←Bool.not_eq_true,List.any_eq_true];rintro⟨i,hi,hq⟩;have:c.ids.any (Qj (o::q))=true:=List.any_eq_true.2 ⟨i,hi,by rw[idIn_cons,hq,Bool.or_true]⟩;rw[this]at h;cases h
  have h2:c.has (fun j=>j==o)=false:=by
   rw[AV.D8,←Bool.not_eq_true,List.any_eq_true];rintro⟨i,hi,hq⟩;have e:i=o:=by simpa using hq
   have:c.ids.any (Qj (o::q))=true:=List.any_eq_true.2 ⟨i,hi,by rw[idIn_cons,e];simp⟩;rw[this]at h;cases h
  rw[if_neg (by rw[h1];simp),AV.frz_id c h2]
theorem St.Bj {C:Cx} {s:AS} {dst:Option Nat} {c:AV} {q:List Nat} {o:Nat} {x:Q6} (ho:Nat.ble 500 o=false) {a:Act} {w:World} (h:St C (s.after dst c ⟨q,[(o,some x)]⟩) a w):St C (s.after dst (c.frz o x) ⟨o::q,[(o,none)]⟩) a w:=by
 have hx:Q5 (s.after dst c ⟨q,[(o,some x)]⟩).mem o=some x:=by rw[AS.Jw];simp[Zq,X6,Q5]
 have hz:=h.frz o ho;unfold AS.frz at hz;rw[hx]at hz;refine hz.weak2 rfl (fun t=>?_) (fun i y hy=>?_)
 ·dsimp only;rw[AS.J2,frGet_frz,AS.J2];split
  ·exact .inr rfl
  ·exact kill_cons _
 ·dsimp only;rw[AS.Jw]at hy;rw[memGet_frz,AS.Jw];simp only[Zq,Qk]at hy⊢;by_cases hi:(o==i)=true
  ·have e:o=i:=by simpa using hi
   subst e;simp[Q5]at hy
  ·rw[if_neg hi]at hy;have hi':(i==o)=false:=by
    rw[←Bool.not_eq_true];intro h;have:i=o:=by simpa using h
    subst this;simp at hi
   rw[if_neg (by rw[hi'];simp),if_neg hi];obtain⟨v,hv,rfl⟩:=Option.map_eq_some_iff.1 hy;rw[hv];refine⟨_,rfl,?_⟩;cases v with
   |arr e sz rows=>exact⟨rfl,rfl,rfl⟩
   |map ks ag n ents=>exact⟨rfl,rfl,rfl,rfl⟩
   |raw r=>
    cases r with
    |own ty sz rows lk=>
     show Raw.own _ _ _ _=Raw.own _ _ _ _;simp only[Raw.kill,Nj];congr 1;refine congrArg (Kz · lk) (funext fun i=>?_);rw[idIn_cons,Bool.or_comm,Bool.beq_comm]
    |births=>rfl
    |iter=>rfl
   |blk t cs=>
    refine⟨rfl,by simp[Oz],fun k=>?_⟩;simp only[Oz,List.getElem?_map];cases hk:cs[k]? with
    |none=>exact .inr rfl
    |some d=>
     simp only[Option.map_some,Option.some.injEq];exact kill_cons d
theorem moHave_get {m:Me} {ρ:Nat→Nat} {mo:Mo} (h:Yz m ρ mo) (i:Nat) (x:Q6) (hx:X3 mo i=some x):m (ρ i)=some (x.ren ρ):=by
 have hm:=Yx hx;clear hx;induction mo with
 |nil=>cases hm
 |cons y r ih=>
  obtain⟨j,z⟩:=y;rcases List.mem_cons.1 hm with hm|hm
  ·cases hm;exact h.1
  ·exact ih h.2 hm
theorem callC_ok {P:Program} {C:Cx} {s:AS} {o:Oper} {cc:Call} {f:Operand} {k:Nat} {cap:List AV} {π:List (Nat×Nat)} {ars:List AV} {mo mo':Mo} {r:AV} (hd:Rz s o=true) (hop:o.op= .call cc) (hcal:cc.callee= .value f) (hk:Jj (evA s.fr f)=some (k,cap))
  (hchk:cChk (Z0 π) mo r mo'=true) (hS:Y9 P k ars mo r mo') (harg:cc.args.toList.map (evA s.fr)++cap=ars.map (AV.ren (Z0 π))) (hlk:R7 mo' mo) (hhv:Yz (Q5 s.mem) (Z0 π) mo)
  {a:Act} {w:World} (hst:St C s a w) {K:Act→World→Prop} {Q:Exit→Act→World→Prop} (hK:∀a w,St C (s.after o.dst (r.ren (Z0 π)) (M9 (Z0 π) mo mo')) a w→K a w):o.wp P a w K Q:=by
 obtain⟨ok,g,hM,hs,hdf,hf⟩:=hst;have hev:∀x,VR w ok g (Q5 s.mem) (evA s.fr x) (a.eval x):=evA_ok hf;obtain⟨fn,hfn,hnm,hbd⟩:=hS.ent;have hnm':¬fn.name= "runtime.NumGoroutine":=by simpa using hnm
 have hbd':¬fn.body=none:=fun e=>by rw[e]at hbd;cases hbd
 have hcf:=hev f;obtain⟨capv,hcv,hcl,hcr⟩:∃capv:Array Value,a.eval f= .func (.func k) #[] capv∧cap.length=capv.size∧∀(i:Nat) (c:AV) (v:Value),cap[i]? =some c→capv[i]? =some v→VR w ok g (Q5 s.mem) c v:=by
  unfold Jj at hk;split at hk
  ·rename_i k' ek;rw[ek]at hcf;simp only[Option.some.injEq,Prod.mk.injEq]at hk;obtain⟨rfl,rfl⟩:=hk;have hcf':=hcf.Z6;generalize a.eval f=vv at hcf'⊢;cases hcf' with
   |fn f=>exact⟨#[],rfl,rfl,by simp⟩
  ·rename_i k' cap' ek;rw[ek]at hcf;simp only[Option.some.injEq,Prod.mk.injEq]at hk;obtain⟨rfl,rfl⟩:=hk;obtain⟨vs,h1,h2,h3⟩:=hcf.clo_inv;exact⟨vs,h1,h2,h3⟩
  ·cases hk
 obtain⟨hal,har⟩:=VR.map hev cc.args;have hlen:ars.length=(cc.args.map a.eval++capv).size:=by
  have:=congrArg List.length harg;simp at this;simp[hcl]at this⊢;omega
 have hcall:=hS.step hM hs hdf hf o.dst (dstOk_lt hd) (Z0 π) hchk hlk (fun i x hx=>moHave_get hhv i x hx) (vals:=cc.args.map a.eval++capv) hlen (fun i c v hc hv=>by
  have hc':(cc.args.toList.map (evA s.fr)++cap)[i]? =some (c.ren (Z0 π)):=by rw[harg,List.getElem?_map,hc];rfl
  rw[List.getElem?_append]at hc';rw[Array.getElem?_append]at hv;simp only[List.length_map,Array.length_toList]at hc';simp only[Array.size_map]at hv;split at hc'
  ·rw[if_pos (by assumption)]at hv;exact har i _ v hc' hv
  ·rw[if_neg (by assumption)]at hv;exact hcr _ _ v hc' hv)
 have hrun:(execOp a.eval o).run P w= .ok (.enter k (cc.args.map a.eval++capv)) w:=by
  unfold execOp;rw[hop];obtain⟨callee,args,argTypes⟩:=cc;dsimp only at hcal;subst hcal;simp[resolve,Deferred.ofValue,hcv,invoke,callFunc,hfn,hnm',hbd']
 unfold Oper.wp;rw[hrun];refine Calls.mono hcall ?_;rintro e w' ⟨v,rfl,hst'⟩;exact hK _ _ hst'
theorem AV.kill_sub {q1 q2:Nat→Bool} (h:∀i,q1 i=true→q2 i=true) (c:AV):(c.kill q1).kill q2=c.kill q2:=by
 unfold AV.kill;by_cases h1:c.has q1=true
 ·have h2:c.has q2=true:=by
   rw[AV.D8,List.any_eq_true]at h1⊢;obtain⟨i,hi,hq⟩:=h1;exact⟨i,hi,h i hq⟩
  rw[if_pos h1,if_pos h2];simp[AV.has]
 ·rw[if_neg h1]
theorem Q6.kill_sub {q1 q2:Nat→Bool} (h:∀i,q1 i=true→q2 i=true) (x:Q6):(x.kill q1).kill q2=x.kill q2:=by
 cases x with
 |blk t cs=>simp only[Q6.kill,List.map_map];congr 1;exact List.map_congr_left fun c _=>AV.kill_sub h c
 |arr e sz rows=>rfl
 |map ks ag n ents=>rfl
 |raw r=>
  cases r with
  |own ty sz rows lk=>
   simp only[Q6.kill,Raw.kill,Nj];congr 2;refine congrArg (Kz · lk) (funext fun i=>?_);cases h1:q1 i with
   |true=>rw[h i h1];rfl
   |false=>rfl
  |births=>rfl
  |iter=>rfl
theorem phW_mem (qs:List Nat) (i:Nat):X6 (qs.map fun i=>(i,some (Q6.arr 0 1 []))) i=Qj qs i:=by
 unfold X6 Qj;rw[List.any_map];rfl
theorem phW_get (qs:List Nat) (i:Nat):Q5 (qs.map fun i=>(i,some (Q6.arr 0 1 []))) i=if Qj qs i=true then some (.arr 0 1 [])else none:=by
 induction qs with
 |nil=>rfl
 |cons q r ih=>
  have hc:Qj (q::r) i=(q==i||Qj r i):=by simp[Qj]
  rw[hc];simp only[List.map_cons,Q5];cases h:(q==i)with
  |true=>simp
  |false=>rw[ih];simp
abbrev AS.Tz (s:AS) (qs:List Nat):AS:=s.after none .any ⟨qs,qs.map fun i=>(i,some (Q6.arr 0 1 []))⟩
theorem St.phantoms {C:Cx} {s:AS} {a:Act} {w:World} (qs:List Nat) (hq:∀i∈qs,i<1000) (h:St C s a w):St C (s.Tz qs) a w:=by
 obtain⟨ok,g,hM,h1,h2,h3⟩:=h;have hkq:∀i,Qj qs i=true→kept i=false:=fun i hi=>by
  have:=hq i (U7.1 hi);unfold kept;cases hb:Nat.ble 1000 i with
  |false=>rfl
  |true=>have:=Nat.le_of_ble_eq_true hb;omega
 let g':Gh:=⟨fun i=>if Qj qs i=true then none else g.bl i,fun i=>if Qj qs i=true then 0 else g.cp i,g.pv⟩
 have hE:=MS.eff (w':=w) (ok':=ok) (g':=g') hM (X6 (qs.map fun i=>(i,some (Q6.arr 0 1 [])))) (Qj qs) (Q5 (qs.map fun i=>(i,some (Q6.arr 0 1 []))))
  (fun i hi=>by rw[phW_mem];exact hi)
  (fun i x hU hN=>by
   rw[phW_mem]at hU;rw[phW_get,if_pos hU]at hN;cases hN;exact⟨Nat.one_pos,(fun j r hr=>by simp at hr),.inl ⟨by simp only[g'];rw[if_pos hU],rfl⟩⟩)
  (fun i hi=>by simp only[g'];rw[if_neg (by rw[hi];simp),if_neg (by rw[hi];simp)];exact⟨rfl,rfl⟩)
  (fun i x' hU hi _=>by rw[phW_mem,hi]at hU;cases hU)
  (fun i x b _ _ _=>rfl) (fun b _=>rfl) (fun b h=>h) (fun b h=>.inl h)
  (fun i x b hU hN hb=>by
   rw[phW_mem]at hU;rw[phW_get,if_pos hU]at hN;cases hN;have hb:=Q6.at_arr.1 hb;simp only[g']at hb;rw[if_pos hU]at hb;cases hb)
  hkq (Nat.le_refl _) (fun b _ _=>rfl) rfl rfl rfl
 exact St.after (ok':=ok) (g':=g') h1 h2 h3 none (fun d hd=>by cases hd) .any undef ⟨qs,_⟩ hE (fun h=>absurd rfl h)
theorem moHave_iff {m:Me} {ρ:Nat→Nat}:∀{mo:Mo},Yz m ρ mo↔∀x∈mo,m (ρ x.1)=some (x.2.ren ρ)
 |[]=>by simp[Yz]
 |(i,x)::r=>by simp only[Yz,moHave_iff (mo:=r),List.mem_cons,forall_eq_or_imp]
theorem phO_mem {x:Nat×Q6}:∀{ph:List Nat},x∈phO ph↔x.1∈ph∧x.2= .arr 0 1 []
 |[]=>by simp[phO]
 |i::r=>by
  obtain⟨j,y⟩:=x;simp only[phO,List.mem_cons,phO_mem (ph:=r),Prod.mk.injEq];constructor
  ·rintro(⟨rfl,rfl⟩|⟨h1,h2⟩)
   ·exact⟨.inl rfl,rfl⟩
   ·exact⟨.inr h1,h2⟩
  ·rintro⟨rfl|h1,h2⟩
   ·exact .inl ⟨rfl,h2⟩
   ·exact .inr ⟨h1,h2⟩
theorem AV.hasL_mem {q:Nat→Bool}:∀{l:List AV},AV.Yj q l=false→∀c∈l,c.has q=false
 |a::l,h,c,hc=>by
  simp only[AV.Yj,Bool.or_eq_false_iff]at h;rcases List.mem_cons.1 hc with rfl|hc
  ·exact h.1
  ·exact AV.hasL_mem h.2 c hc
theorem AV.hasL_of {q:Nat→Bool}:∀{l:List AV},(∀c∈l,c.has q=false)→AV.Yj q l=false
 |[],_=>rfl
 |a::l,h=>by simp only[AV.Yj,h a (by simp),AV.hasL_of fun c hc=>h c (List.mem_cons_of_mem _ hc),Bool.or_self]
theorem callN_ok {P:Program} {C:Cx} {s:AS} {o:Oper} {cc:Call} {f:Operand} {k:Nat} {cap:List AV} {π:List (Nat×Nat)} {ars:List AV} {mo mo':Mo} {r:AV} {ph:List Nat} (hd:Rz s o=true) (hop:o.op= .call cc) (hcal:cc.callee= .value f) (hk:Jj (evA s.fr f)=some (k,cap))
  (hchk:cChk (Z0 π) (mo++phO ph) r mo'=true) (hph:∀i∈ph,Nat.ble 1000 i=false∧Nat.ble 1000 (Z0 π i)=false) (hha:AV.Yj (Qj (ph.map (Z0 π))) (cc.args.toList.map (evA s.fr)++cap)=false)
  (hhm:∀x∈mo,Qj (ph.map (Z0 π)) (Z0 π x.1)=false∧(x.2.ren (Z0 π)).ids.any (Qj (ph.map (Z0 π)))=false)
  (hS:Y9 P k ars (mo++phO ph) r mo') (harg:cc.args.toList.map (evA s.fr)++cap=ars.map (AV.ren (Z0 π))) (hlk:R7 mo' (mo++phO ph)) (hhv:Yz (Q5 s.mem) (Z0 π) mo)
  {a:Act} {w:World} (hst:St C s a w) {K:Act→World→Prop} {Q:Exit→Act→World→Prop} (hK:∀a w,St C (s.after o.dst (r.ren (Z0 π)) (M9 (Z0 π) (mo++phO ph) mo')) a w→K a w):o.wp P a w K Q:=by
 obtain⟨qs,hqs⟩:∃qs,qs=ph.map (Z0 π):=⟨_,rfl⟩
 rw[←hqs]at hha hhm;have hq5:∀i∈qs,i<1000:=fun i hi=>by
  rw[hqs]at hi;obtain⟨j,hj,rfl⟩:=List.mem_map.1 hi;exact T9 (hph j hj).2
 have hs1:=hst.phantoms qs hq5;have hfr:∀x,(evA s.fr x).has (Qj qs)=false→evA (s.Tz qs).fr x=evA s.fr x:=fun x hx=>by
  cases x with
  |tmp t=>
   show Z9 (s.Tz qs).fr t=Z9 s.fr t;rw[AS.J2,if_neg (by simp)];exact AV.Uq hx
  |const v=>rfl
  |global g=>rfl
  |func g=>rfl
 have hcap:∀c∈cap,c.has (Qj qs)=false:=fun c hc=>AV.hasL_mem hha c (List.mem_append_right _ hc)
 have hk':Jj (evA (s.Tz qs).fr f)=some (k,cap):=by
  rw[hfr f ?_]
  ·exact hk
  ·unfold Jj at hk;split at hk
   ·rename_i k' ek;rw[ek];simp[AV.has]
   ·rename_i k' cap' ek;rw[ek];simp only[Option.some.injEq,Prod.mk.injEq]at hk;obtain⟨rfl,rfl⟩:=hk;simp only[AV.has];exact AV.hasL_of hcap
   ·cases hk
 have hargs:cc.args.toList.map (evA (s.Tz qs).fr)=cc.args.toList.map (evA s.fr):=List.map_congr_left fun x hx=>hfr x (AV.hasL_mem hha _ (List.mem_append_left _ (List.mem_map.2 ⟨x,hx,rfl⟩)))
 have hmem:∀i,Qj qs i=false→Q5 (s.Tz qs).mem i=(Q5 s.mem i).map (Q6.kill (Qj qs)):=fun i hi=>by
  rw[AS.Jw];unfold Zq;rw[if_neg (by rw[phW_mem,hi];simp)]
 have hhv':Yz (Q5 (s.Tz qs).mem) (Z0 π) (mo++phO ph):=by
  rw[moHave_iff]at hhv⊢;intro x hx;rcases List.mem_append.1 hx with hx|hx
  ·rw[hmem _ (hhm x hx).1,hhv x hx,Option.map_some,Q6.Uq (hhm x hx).2]
  ·obtain⟨h1,h2⟩:=phO_mem.1 hx;have:Qj qs (Z0 π x.1)=true:=U7.2 (by rw[hqs];exact List.mem_map.2 ⟨_,h1,rfl⟩);rw[AS.Jw];unfold Zq;rw[if_pos (by rw[phW_mem];exact this),phW_get,if_pos this,h2];rfl
 refine callC_ok (s:=s.Tz qs) hd hop hcal hk' hchk hS (by rw[hargs];exact harg) hlk hhv' hs1 fun a' w' hs'=>hK a' w' ?_
 have hsub:∀i,Qj qs i=true→Qj (M9 (Z0 π) (mo++phO ph) mo').q i=true:=fun i hi=>by
  have:=U7.1 hi;rw[hqs]at this;obtain⟨j,hj,rfl⟩:=List.mem_map.1 this;exact U7.2 (moQ_mem.2 ⟨j,.arr 0 1 [],List.mem_append_right _ (phO_mem.2 ⟨hj,rfl⟩),by unfold kept;exact(hph j hj).1,rfl⟩)
 have hsubU:∀i,Qj qs i=true→X6 (M9 (Z0 π) (mo++phO ph) mo').ws i=true:=fun i hi=>by
  have:=U7.1 hi;rw[hqs]at this;obtain⟨j,hj,rfl⟩:=List.mem_map.1 this;refine Sz.2 ?_;show Z0 π j∈(Ev (Z0 π) mo' (mo++phO ph)).map (·.1);rw[moWs_map];exact List.mem_map.2 ⟨(j,.arr 0 1 []),List.mem_append_right _ (phO_mem.2 ⟨hj,rfl⟩),rfl⟩
 have hE:Eqv ((s.Tz qs).after o.dst (r.ren (Z0 π)) (M9 (Z0 π) (mo++phO ph) mo')) (s.after o.dst (r.ren (Z0 π)) (M9 (Z0 π) (mo++phO ph) mo')):=by
  refine⟨rfl,fun t=>?_,fun i=>?_⟩
  ·rw[AS.J2 (s.Tz qs) o.dst (r.ren (Z0 π)) (M9 (Z0 π) (mo++phO ph) mo'),AS.J2 s o.dst (r.ren (Z0 π)) (M9 (Z0 π) (mo++phO ph) mo')];by_cases ht:o.dst=some t
   ·rw[if_pos ht,if_pos ht]
   ·rw[if_neg ht,if_neg ht,AS.J2,if_neg (by simp)];exact AV.kill_sub hsub _
  ·rw[AS.Jw (s.Tz qs) o.dst (r.ren (Z0 π)) (M9 (Z0 π) (mo++phO ph) mo'),AS.Jw s o.dst (r.ren (Z0 π)) (M9 (Z0 π) (mo++phO ph) mo')];unfold Zq;by_cases hU:X6 (M9 (Z0 π) (mo++phO ph) mo').ws i=true
   ·rw[if_pos hU,if_pos hU]
   ·rw[if_neg hU,if_neg hU,hmem i (by
     cases hq:Qj qs i with
     |false=>rfl
     |true=>exact absurd (hsubU i hq) hU)]
    cases Q5 s.mem i with
    |none=>rfl
    |some x=>simp only[Option.map_some];rw[Q6.kill_sub hsub]
 exact hE.st hs'
theorem opEff_ok {P:Program} {C:Cx} {s:AS} {o:Oper} {h:Option Hint} {z:Bool} {c:AV} {e:Eff} {p:Prop} (hd:Rz s o=true) (he:Kw P (Q5 s.mem) (evA s.fr) o h z=some (c,e,p)) (hp:p) {a:Act} {w:World} (hst:St C s a w) {K:Act→World→Prop} {Q:Exit→Act→World→Prop} (hK:∀a w,St C (s.after o.dst c e) a w→K a w):o.wp P a w K Q:=by
 have base:∀{c:AV} {e:Eff} {p:Prop},Yq P (Q5 s.mem) (evA s.fr) o h=some (c,e,p)→p→∀{K:Act→World→Prop},(∀a w,St C (s.after o.dst c e) a w→K a w)→o.wp P a w K Q:=fun {c e p} he hp {K} hK=>by
  unfold Yq at he;split at he
  ·rename_i r hr;simp only[Option.some.injEq]at he;subst he;exact doOp_ok (h:=[]) (h':=[]) hd (by unfold doOp;rw[hr]) hp hst hK
  ·rename_i hr;split at he
   ·rename_i r hmo;simp only[Option.some.injEq]at he;subst he;have hd':∀d,o.dst=some d→d<s.n:=fun d h=>by
     simp only[Rz,h]at hd;exact Nat.lt_of_succ_le (Nat.le_of_ble_eq_true hd)
    obtain⟨v,w',hrun,hst'⟩:=mapOp_ok hst hmo hp hd';unfold Oper.wp;rcases hrun with hrun|⟨hrun,rfl⟩
    ·rw[hrun];exact hK _ _ hst'
    ·rw[hrun];exact hK _ _ hst'
   split at he
   ·rename_i v p' hex;simp only[Option.some.injEq,Prod.mk.injEq]at he;obtain⟨rfl,rfl,rfl⟩:=he;obtain⟨v,hrun,hst'⟩:=St.value (P:=P) (o:=o) hst (dstOk_lt hd) fun ok g hev=>extOp_ok (P:=P) hev hex hp
    unfold Oper.wp;rw[hrun];exact hK _ _ hst'
   split at he
   ·rename_i r how;simp only[Option.some.injEq]at he;subst he;have hd':∀d,o.dst=some d→d<s.n:=fun d h=>by
     simp only[Rz,h]at hd;exact Nat.lt_of_succ_le (Nat.le_of_ble_eq_true hd)
    obtain⟨v,w',hrun,hst'⟩:=ownOp_ok hst how hp hd';unfold Oper.wp;rcases hrun with hrun|⟨hrun,rfl⟩
    ·rw[hrun];exact hK _ _ hst'
    ·rw[hrun];exact hK _ _ hst'
   unfold Y4 at he;split at he
   ·rename_i cc r x hop _;split at he
    ·rename_i f hcal;split at he
     ·rename_i k cap hk;split at he
      ·cases he
      ·rename_i hx;simp only[Option.some.injEq,Prod.mk.injEq]at he;obtain⟨rfl,rfl,rfl⟩:=he;refine doOp_ok (h:=[(r,x)]) (h':=[]) (s':=s.after o.dst (r (o.dst.getD 0)) (J4 (o.dst.getD 0) x)) (p:=Qv P k (cc.args.toList.map (evA s.fr)++cap) r x) hd ?_ hp hst hK;unfold doOp;rw[hr];simp only[hop,hcal,hk];rw[if_neg hx]
     ·cases he
    ·cases he
   ·rename_i cc π ars mo r mo' hop _;split at he
    ·rename_i f hcal;split at he
     ·rename_i k cap hk;split at he
      ·rename_i hcond;simp only[Option.some.injEq,Prod.mk.injEq]at he;obtain⟨rfl,rfl,rfl⟩:=he;exact callC_ok hd hop hcal hk (by rw[Bool.and_eq_true]at hcond;exact hcond.1) hp.1 hp.2.1 hp.2.2.1 hp.2.2.2 hst hK
      ·cases he
     ·cases he
    ·cases he
   ·rename_i cc π ars mo r mo' ph hop _;split at he
    ·rename_i f hcal;split at he
     ·rename_i k cap hk;split at he
      ·rename_i hcond;simp only[Option.some.injEq,Prod.mk.injEq]at he;obtain⟨rfl,rfl,rfl⟩:=he;rw[Bool.and_eq_true,Bool.and_eq_true,Bool.and_eq_true,Bool.and_eq_true]at hcond;obtain⟨⟨k1,_⟩,k2,k3,k4⟩:=hcond;refine callN_ok hd hop hcal hk k1 (fun i hi=>?_) (by simpa using k3) (fun x hx=>?_) hp.1 hp.2.1 hp.2.2.1 hp.2.2.2 hst hK
       ·have:=List.all_eq_true.1 k2 i hi;simpa using this
       ·have:=List.all_eq_true.1 k4 x hx;rw[Bool.and_eq_true,Bool.not_eq_true',Bool.not_eq_true']at this;exact this
      ·cases he
     ·cases he
    ·cases he
   ·cases he
 unfold Kw at he;split at he
 ·split at he
  ·rename_i v0 hwr;simp only[Option.some.injEq,Prod.mk.injEq]at he;obtain⟨rfl,rfl,rfl⟩:=he;obtain⟨v,hrun,hst'⟩:=St.value (P:=P) (o:=o) hst (dstOk_lt hd) fun ok g hev=>wrapOp_ok (P:=P) hev hwr
   unfold Oper.wp;rw[hrun];exact hK _ _ hst'
  unfold Proofs.YtlbcipohiepjmaaDoor.Bj at he;split at he
  ·rename_i c0 q o' x p' h0;split at he
   ·cases he
   ·rename_i ho;simp only[Option.some.injEq,Prod.mk.injEq]at he;obtain⟨rfl,rfl,rfl⟩:=he;exact base h0 hp fun a w hs=>hK a w (hs.Bj (by rw[←Bool.not_eq_true];exact ho))
  ·cases he
 ·exact base he hp hK
theorem J5.wp {P:Program} {C:Cx} {ops:Array Oper} {s:AS} {r:Rc} (h:J5 P ops s r) (hp:r.run=true→r.p) {a:Act} {w:World} (hs:St C s a w) {K:Act→World→Prop} {Q:Exit→Act→World→Prop} (hK:∀a w,St C (Z4 s r) a w→K a w):
  if Region.wanted r.o (yielded ops a.tmps)=true then r.o.wp P a w K Q else K (a.put r.o.dst undef) w:=by
 have hw:=guardOk_ok h.g hs;rw[hw];split
 ·rename_i hr;exact opEff_ok h.d (h.e hr) (hp hr) hs hK
 ·rename_i hr;have hr':r.run=false:=by simpa using hr
  obtain⟨h1,h2⟩:=h.e' hr';refine hK _ _ ?_;rw[Z4,h1,h2];exact hs.skipT r.o.dst (dstOk_lt h.d)
end Go.Proofs.YtlbcipohiepjmaaDoor
namespace Go.Proofs.YtlbcipohiepjmaaDoor
open Go.RowKit
def Ik (o:Oper):List Nat:=o.after.toList.filterMap fun e=>if Region.binds .any e then some e.on else none
def Ahead (os:List Oper) (a b:Nat):Prop:=∀L:Nat→Prop,(∀j o,os[j]? =some o→L j→∀k∈Ik o,L k)→∀o,os[b]? =some o→(∀k∈Ik o,L k)→L a
def forceN (m:Nat) (k:Nat→Bool):Bool:=match m with
 |0=>k 0
 |n+1=>k (n+1)
theorem forceN_eq (m:Nat) (k:Nat→Bool):forceN m k=k m:=by cases m<;> rfl
def ancOf (ms:List Nat) (o:Oper):Nat:=(Ik o).foldl (fun m k=>m|||(1<<<k|||ms.getD k 0)) 0
theorem ancOf_bit {ms:List Nat} {a:Nat}:∀(l:List Nat) (m:Nat),(l.foldl (fun m k=>m|||(1<<<k|||ms.getD k 0)) m).testBit a=true→m.testBit a=true∨∃k∈l,k=a∨(ms.getD k 0).testBit a=true
 |[],m,h=>.inl h
 |k::l,m,h=>by
  rcases ancOf_bit l _ h with h|⟨j,hj,h⟩
  ·rw[Nat.testBit_or,Nat.testBit_or,Bool.or_eq_true,Bool.or_eq_true]at h;rcases h with h|h|h
   ·exact .inl h
   ·refine .inr ⟨k,List.mem_cons_self ..,.inl ?_⟩;rw[Nat.testBit_shiftLeft,Bool.and_eq_true,Nat.testBit_one_eq_true_iff_self_eq_zero]at h;have:=of_decide_eq_true h.1;omega
   ·exact .inr ⟨k,List.mem_cons_self ..,.inr h⟩
  ·exact .inr ⟨j,List.mem_cons_of_mem _ hj,h⟩
def pairGo (ops:Array Oper) (rl:List Rc):List Oper→Nat→List Nat→Bool
 |[],_,_=>true
 |o::r,b,ms=>forceN (ancOf ms o) fun m=>((List.range b).all fun a=>match rl[a]?,rl[b]? with
  |some x,some y=>Nat.testBit m a||indep ops x y
  |_,_=>true) && pairGo ops rl r (b+1) (ms++[m])
def pairChk (os:List Oper) (ops:Array Oper) (rl:List Rc):Bool:=pairGo ops rl os 0 []
theorem pairGo_ok {os:List Oper} {ops:Array Oper} {rl:List Rc}:∀(rest done:List Oper) (ms:List Nat),os=done++rest→ms.length=done.length→(∀j a,(ms.getD j 0).testBit a=true→Ahead os a j)→
  pairGo ops rl rest done.length ms=true→∀b,done.length≤b→b<os.length→∀a,a<b→∀x y,rl[a]? =some x→rl[b]? =some y→indep ops x y=true∨Ahead os a b
 |[],done,ms,h1,h2,h3,h4,b,hb,hb2,a,ha,x,y,hx,hy=>by rw[h1,List.append_nil]at hb2;omega
 |o::r,done,ms,h1,h2,h3,h4,b,hb,hb2,a,ha,x,y,hx,hy=>by
  rw[pairGo,forceN_eq,Bool.and_eq_true]at h4;obtain⟨h4,h5⟩:=h4;have ho:os[done.length]? =some o:=by rw[h1,List.getElem?_append_right (Nat.le_refl _),Nat.sub_self];rfl
  have hm:∀a,(ancOf ms o).testBit a=true→Ahead os a done.length:=fun a ha L hdown o' ho' hp=>by
   rw[ho]at ho';cases ho';rcases ancOf_bit _ _ ha with h|⟨k,hk,rfl|h⟩
   ·simp at h
   ·exact hp k hk
   ·have hkl:k<ms.length:=Nat.lt_of_not_le fun hge=>by
     rw[List.getD_eq_getElem?_getD,List.getElem?_eq_none hge]at h;simp at h
    have hko:k<os.length:=by rw[h1,List.length_append];omega
    exact h3 k a h L hdown _ (List.getElem?_eq_getElem hko) (hdown k _ (List.getElem?_eq_getElem hko) (hp k hk))
  rcases Nat.lt_or_ge done.length b with hlt|hge
  ·refine pairGo_ok r (done++[o]) (ms++[ancOf ms o]) (by rw[h1];simp) (by simp[h2]) (fun j a h=>?_) (by simpa using h5) b (by simp;omega) hb2 a ha x y hx hy;rw[List.getD_eq_getElem?_getD]at h;rcases Nat.lt_trichotomy j ms.length with hj|hj|hj
   ·rw[List.getElem?_append_left hj,←List.getD_eq_getElem?_getD]at h;exact h3 j a h
   ·subst hj;rw[List.getElem?_append_right (Nat.le_refl _),Nat.sub_self]at h;rw[h2];exact hm a h
   ·rw[List.getElem?_eq_none (by simp;omega)]at h;simp at h
  ·have e:b=done.length:=by omega
   subst e;rw[List.all_eq_true]at h4;have h6:=h4 a (List.mem_range.2 ha);rw[hx,hy]at h6;simp only[Bool.or_eq_true]at h6;rcases h6 with h6|h6
   ·exact .inr (hm a h6)
   ·exact .inl h6
def predChk (os:List Oper):Bool:=(List.range os.length).all fun b=>match os[b]? with
 |some o=>(Ik o).all fun k=>Nat.blt k b
 |none=>true
section
variable {P:Program} {C:Cx} {ops:Array Oper}
theorem wpAny_of {rl:List Rc} {Q:Exit→Act→World→Prop} {send:AS} (hops:ops=(rl.map (·.o)).toArray) (hpair:pairChk (rl.map (·.o)) ops rl=true) (hpred:predChk (rl.map (·.o))=true) (hpp:∀r∈rl,r.run=true→r.p)
  (hQ:∀a w,St C send a w→Q .normal a w):∀(fuel:Nat) (listed:Array Bool) (L:List Nat) (s:AS) (a:Act) (w:World),L.length≤fuel→listed.size=rl.length→L.Pairwise (· <·)→(∀i,i∈L↔i<rl.length∧listed.getD i true=false)→
  (∀j r,rl[j]? =some r→listed.getD j true=true→∀k∈Ik r.o,listed.getD k true=true)→(∃rs,rs.map some=L.map (fun i=>rl[i]?)∧Trace P ops rs s∧Eqv (runR rs s) send)→St C s a w→wpAny P .any ops Q fuel listed a w:=by
 intro fuel;have hos:∀i,ops[i]? =(rl[i]?).map Rc.o:=fun i=>by rw[hops,List.getElem?_toArray,List.getElem?_map]
 have ready_iff:∀listed i,i∈Region.ready .any ops listed↔∃r,rl[i]? =some r∧listed.getD i true=false∧∀k∈Ik r.o,listed.getD k false=true:=fun listed i=>by
  unfold Region.ready;rw[List.mem_filter,List.mem_range,hos];have hsz:ops.size=rl.length:=by rw[hops];simp
  rw[hsz];constructor
  ·rintro⟨hi,h⟩;have hr:rl[i]? =some rl[i]:=List.getElem?_eq_getElem hi;rw[hr]at h;simp only[Option.map_some,Option.getD_some,Bool.and_eq_true,Bool.not_eq_true']at h;refine⟨rl[i],hr,h.1,fun k hk=>?_⟩;obtain⟨e,he,hek⟩:=List.mem_filterMap.1 hk;split at hek
   ·rename_i hb;simp at hek;subst hek;have:=Array.all_eq_true'.1 h.2 e (by simpa using he);rw[hb]at this;simpa using this
   ·cases hek
  ·rintro⟨r,hr,h1,h2⟩;refine⟨(List.getElem?_eq_some_iff.1 hr).1,?_⟩;rw[hr];simp only[Option.map_some,Option.getD_some,Bool.and_eq_true,Bool.not_eq_true'];refine⟨h1,Array.all_eq_true'.2 fun e he=>?_⟩;by_cases hb:Region.binds .any e=true
   ·rw[hb];simpa using h2 e.on (List.mem_filterMap.2 ⟨e,by simpa using he,by rw[if_pos hb]⟩)
   ·simp[hb]
 have getD_tf:∀(listed:Array Bool) k,listed.getD k false=true→listed.getD k true=true:=fun listed k h=>by
  simp only[Array.getD_eq_getD_getElem?]at h⊢;cases hk:listed[k]? with
  |none=>rw[hk]at h;cases h
  |some b=>rw[hk]at h;exact h
 have getD_ft:∀(listed:Array Bool) k,k<listed.size→listed.getD k true=true→listed.getD k false=true:=fun listed k hk h=>by
  simp only[Array.getD_eq_getD_getElem?,Array.getElem?_eq_getElem hk]at h⊢;exact h
 have pred_lt:∀i r,rl[i]? =some r→∀k∈Ik r.o,k<i:=fun i r hr k hk=>by
  unfold predChk at hpred;rw[List.all_eq_true]at hpred;have hi:i<rl.length:=(List.getElem?_eq_some_iff.1 hr).1;have:=hpred i (by simpa using hi);rw[List.getElem?_map,hr]at this;simp only[Option.map_some,List.all_eq_true]at this;have:=this k hk;unfold Nat.blt at this;exact Nat.le_of_ble_eq_true this
 -- nothing is left:the end
 have done:∀(listed:Array Bool) (L:List Nat) (s:AS) (a:Act) (w:World),listed.size=rl.length→L.Pairwise (· <·)→(∀i,i∈L↔i<rl.length∧listed.getD i true=false)→(∃rs,rs.map some=L.map (fun i=>rl[i]?)∧Trace P ops rs s∧Eqv (runR rs s) send)→St C s a w→
   Region.ready .any ops listed=[]→L=[]∧Q .normal a w:=fun listed L s a w hls hL hmem ⟨rs,hrs,htr,heq⟩ hst hrd=>by
  have hL0:L=[]:=by
   rcases L with _|⟨i,L⟩
   ·rfl
   ·exfalso;obtain⟨hi,hli⟩:=(hmem i).1 (by simp);have hr:rl[i]? =some rl[i]:=List.getElem?_eq_getElem hi;have:i∈Region.ready .any ops listed:=(ready_iff listed i).2 ⟨_,hr,hli,fun k hk=>by
     have hki:=pred_lt i _ hr k hk;refine getD_ft listed k (by omega) ?_;rcases hb:listed.getD k true
     ·have:k∈i::L:=(hmem k).2 ⟨by omega,hb⟩;rcases List.mem_cons.1 this with rfl|h
      ·omega
      ·have:=(List.pairwise_cons.1 hL).1 k h;omega
     ·rfl⟩
    rw[hrd]at this;cases this
  refine⟨hL0,?_⟩;subst hL0;have:rs=[]:=by simpa using hrs
  subst this;exact hQ a w (heq.st hst)
 induction fuel with
 |zero=>
  intro listed L s a w hl hls hL hmem hdn htr hst;have hL0:L=[]:=List.eq_nil_of_length_eq_zero (by omega);subst hL0;have hrd:Region.ready .any ops listed=[]:=by
   rcases h:Region.ready .any ops listed with _|⟨i,r⟩
   ·rfl
   ·exfalso;obtain⟨r',hr',h1,_⟩:=(ready_iff listed i).1 (by rw[h];simp);have:=(hmem i).2 ⟨(List.getElem?_eq_some_iff.1 hr').1,h1⟩;cases this
  exact⟨hrd,(done listed [] s a w hls hL hmem htr hst hrd).2⟩
 |succ fuel ih=>
  intro listed L s a w hl hls hL hmem hdn htr hst;refine⟨fun hrd=>(done listed L s a w hls hL hmem htr hst hrd).2,fun i hi=>?_⟩;obtain⟨r,hr,hli,hpr⟩:=(ready_iff listed i).1 hi;have hilt:i<rl.length:=(List.getElem?_eq_some_iff.1 hr).1;have hiL:i∈L:=(hmem i).2 ⟨hilt,hli⟩;obtain⟨L1,L2,rfl⟩:=List.append_of_mem hiL;obtain⟨rs,hrs,htrr,heq⟩:=htr;rw[List.map_append,List.map_cons]at hrs;obtain⟨rs1,rs',rfl,hr1,hr'⟩:=List.map_eq_append_iff.1 hrs;obtain⟨r0,rs2,rfl,hr0,hr2⟩:=List.map_eq_cons_iff.1 hr';have hr00:r0=r:=by rw[hr]at hr0;exact Option.some.inj hr0
  subst hr00;have hind:∀x∈rs1,indep ops x r0=true:=fun x hx=>by
   have:some x∈L1.map (fun i=>rl[i]?):=by rw[←hr1];exact List.mem_map.2 ⟨x,hx,rfl⟩
   obtain⟨j,hj,hjx⟩:=List.mem_map.1 this;have hji:j<i:=by
    have:=(List.pairwise_append.1 hL).2.2 j hj i (by simp);exact this
   rcases pairGo_ok (os:=rl.map (·.o)) (ops:=ops) (rl:=rl) (rl.map (·.o)) [] [] rfl rfl (fun j a h=>by simp at h) (show pairGo ops rl (rl.map (·.o)) 0 []=true from hpair) i (Nat.zero_le _) (by simpa using hilt) j hji x r0 hjx hr with h2|h2
   ·exact h2
   ·exfalso;have hjl:=(hmem j).1 (by simp[hj]);have:=h2 (fun k=>listed.getD k true=true) (fun j o hjo hl k hk=>by
     rw[List.getElem?_map]at hjo;obtain⟨r',hr',rfl⟩:=Option.map_eq_some_iff.1 hjo;exact hdn j r' hr' hl k hk) r0.o (by rw[List.getElem?_map,hr];rfl) (fun k hk=>getD_tf listed k (hpr k hk))
    rw[hjl.2]at this;cases this
  obtain⟨⟨_,_,f1,_⟩,f2,f3⟩:=Trace.front r0 rs2 rs1 s htrr hind;have hrl:r0∈rl:=List.mem_of_getElem? hr;unfold wpOp;rw[hos i,hr];dsimp only[Option.map_some];have hgetset:∀k d,(listed.setIfInBounds i true).getD k d=if i=k then true else listed.getD k d:=fun k d=>by
   simp only[Array.getD_eq_getD_getElem?,Array.getElem?_setIfInBounds];split
   ·have:i<listed.size:=by omega
    simp[this]
   ·rfl
  have next:∀a' w',St C (Z4 s r0) a' w'→wpAny P .any ops Q fuel (listed.setIfInBounds i true) a' w':=fun a' w' hs'=>by
   refine ih (listed.setIfInBounds i true) (L1++L2) (Z4 s r0) a' w' (by simp at hl⊢;omega) (by simpa using hls) (hL.sublist (by simp)) (fun k=>?_) (fun j r' hr' hlj k hk=>?_) ⟨rs1++rs2,by rw[List.map_append,List.map_append,hr1,hr2],f2,f3.symm.trans heq⟩ hs'
   ·rw[hgetset];have hk:=hmem k;have hnd:i ∉ L1∧i ∉ L2:=by
     refine⟨fun h=>?_,fun h=>?_⟩
     ·have:=(List.pairwise_append.1 hL).2.2 i h i (by simp);omega
     ·have:=(List.pairwise_cons.1 (List.pairwise_append.1 hL).2.1).1 i h;omega
    by_cases hki:i=k
    ·subst hki;simp[hnd.1,hnd.2]
    ·rw[if_neg hki,←hk];simp[Ne.symm hki]
   ·rw[hgetset]at hlj⊢;by_cases hij:i=j
    ·subst hij;rw[hr]at hr';obtain rfl:=Option.some.inj hr';split
     ·rfl
     ·exact getD_tf listed k (hpr k hk)
    ·rw[if_neg hij]at hlj;split
     ·rfl
     ·exact hdn j r' hr' hlj k hk
  have hw:=J5.wp f1 (fun h=>hpp r0 hrl h) hst (K:=wpAny P .any ops Q fuel (listed.setIfInBounds i true)) (Q:=Q) next;split
  ·rename_i hwt;rw[if_pos hwt]at hw;exact .inl hw
  ·rename_i hwt;rw[if_neg hwt]at hw;exact hw
end
def Uv:Op→Bool
 | .call c=>match c.callee with
  | .builtin _=>false
  |_=>true
 |_=>false
def mkRc (P:Program) (ops:Array Oper) (s:AS) (o:Oper) (h:Option Hint) (z:Bool):Option Rc:=
 if Rz s o then (match Kv ops s o with
  |some true=>match Kw P (Q5 s.mem) (evA s.fr) o h z with
   |some (c,e,p)=>some { o,h,z,run:=true,c,e,p,M:=Z8 (Q5 s.mem) (evA s.fr) o.op,K:=Y3 (Q5 s.mem) (Z8 (Q5 s.mem) (evA s.fr) o.op),nk:=frNo (Qj e.q) s.fr && Mx (Qj e.q) s.mem,an:=Gj (evA s.fr) o.op.operands.toList||Gw (Q5 s.mem) (Z8 (Q5 s.mem) (evA s.fr) o.op),ld:=ldOf (evA s.fr) o.op c,st:=stOf (evA s.fr) o.op e z }
   |none=>none
  |some false=>some { o,h,z,run:=false,c:=.tuple [],e:=⟨[],[]⟩,p:=True,M:=Z8 (Q5 s.mem) (evA s.fr) o.op,K:=Y3 (Q5 s.mem) (Z8 (Q5 s.mem) (evA s.fr) o.op),nk:=true,an:=Gj (evA s.fr) o.op.operands.toList||Gw (Q5 s.mem) (Z8 (Q5 s.mem) (evA s.fr) o.op),ld:=none,st:=none }
  |none=>none)else none
theorem mkRc_ok {P:Program} {ops:Array Oper} {s:AS} {o:Oper} {h:Option Hint} {z:Bool} {r:Rc} (hr:mkRc P ops s o h z=some r):J5 P ops s r∧r.o=o:=by
 have hO:∀(is:List Nat),∀i∈is,∀y,Q5 s.mem i=some y→∀j∈y.ids,j∈Y3 (Q5 s.mem) is:=fun is=>by
  induction is with
  |nil=>intro i hi;cases hi
  |cons k ks ih=>
   intro i hi y hy j hj;simp only[Y3];rcases List.mem_cons.1 hi with rfl|hi
   ·rw[hy];exact List.mem_append_left _ hj
   ·exact List.mem_append_right _ (ih i hi y hy j hj)
 have hA:∀(xs:List Operand),Gj (evA s.fr) xs=false→∀x∈xs,Uw (evA s.fr x)=false:=fun xs=>by
  induction xs with
  |nil=>intro _ x hx;cases hx
  |cons y ys ih=>
   intro h x hx;simp only[Gj,Bool.or_eq_false_iff]at h;rcases List.mem_cons.1 hx with rfl|hx
   ·exact h.1
   ·exact ih h.2 x hx
 have hMM:∀i∈Z8 (Q5 s.mem) (evA s.fr) o.op,i∈Z8 (Q5 s.mem) (evA s.fr) o.op∧∀y,Q5 s.mem i=some y→∀j∈y.ids,j∈Z8 (Q5 s.mem) (evA s.fr) o.op++Y3 (Q5 s.mem) (Z8 (Q5 s.mem) (evA s.fr) o.op):=fun i hi=>
  ⟨hi,fun y hy j hj=>List.mem_append_right _ (hO _ i hi y hy j hj)⟩
 unfold mkRc at hr;split at hr
 ·rename_i hd;split at hr
  ·rename_i hg;split at hr
   ·rename_i c e p he;simp at hr;subst hr;refine⟨⟨hd,hg,fun _=>he,(fun h=>by cases h),(fun _=>hMM),fun h=>?_,fun _ h=>⟨fun x hx=>hA _ (Bool.or_eq_false_iff.1 h).1 x (by simpa using hx),fun i hi x hx=>memAny_get (Bool.or_eq_false_iff.1 h).2 i hi x hx⟩,fun o' ho'=>?_,fun o' ho'=>?_⟩,rfl⟩
    ·simp only[Bool.and_eq_true]at h;exact⟨frNo_get h.1,memNo_get h.2⟩
    ·have h1:ldOf (evA s.fr) o.op c=some o':=ho';unfold ldOf at h1;split at h1
     ·rename_i a hop;split at h1
      ·rename_i o2 off ha;split at h1
       ·rename_i hn;cases h1;exact⟨rfl,hn,a,off,hop,ha⟩
       ·cases h1
      ·cases h1
     ·cases h1
    ·have h1:stOf (evA s.fr) o.op e z=some o':=ho';unfold stOf at h1;split at h1
     ·cases h1
     rename_i hz;split at h1
     ·rename_i t' a v hop;split at h1
      ·rename_i o2 off ha;split at h1
       ·rename_i hn;cases h1;exact⟨rfl,by simpa using hz,hn,t',a,v,off,hop,ha⟩
       ·cases h1
      ·cases h1
     ·cases h1
   ·cases hr
  ·rename_i hg;simp at hr;subst hr;refine⟨⟨hd,hg,(fun h=>by cases h),fun _=>⟨rfl,rfl⟩,(fun _=>hMM),fun _=>⟨fun t=>AV.V6 (fun _=>rfl) _,fun i y _=>Q6.F8 (fun _=>rfl) y⟩,fun _ h=>⟨fun x hx=>hA _ (Bool.or_eq_false_iff.1 h).1 x (by simpa using hx),fun i hi x hx=>memAny_get (Bool.or_eq_false_iff.1 h).2 i hi x hx⟩,(fun o h=>by cases h),(fun o h=>by cases h)⟩,rfl⟩
  ·cases hr
 ·cases hr
def runD (P:Program) (ops:Array Oper) (zs:List Nat):List Oper→Nat→List Hint→AS→Option (List Rc×AS×Prop)
 |[],_,_,s=>some ([],s,True)
 |o::rest,k,h,s=>match mkRc P ops s o (if Uv o.op then h.head? else none) (Qj zs k)with
  |some r=>match runD P ops zs rest (k+1) (if Uv o.op && r.run then h.tail else h) (Z4 s r)with
   |some (rs,s',p)=>some (r::rs,s',r.p∧p)
   |none=>none
  |none=>none
theorem runD_ok {P:Program} {ops:Array Oper} {zs:List Nat}:∀(l:List Oper) (k:Nat) (h:List Hint) (s s':AS) (rs:List Rc) (p:Prop),runD P ops zs l k h s=some (rs,s',p)→p→Trace P ops rs s∧runR rs s=s'∧rs.map (·.o)=l∧∀r∈rs,r.p
 |[],k,h,s,s',rs,p,hr,hp=>by
  simp only[runD,Option.some.injEq,Prod.mk.injEq]at hr;obtain⟨rfl,rfl,_⟩:=hr;exact⟨trivial,rfl,rfl,by simp⟩
 |o::rest,k,h,s,s',rs,p,hr,hp=>by
  simp only[runD]at hr;split at hr
  ·rename_i r hmk;split at hr
   ·rename_i rs' s2 p2 hrest;simp only[Option.some.injEq,Prod.mk.injEq]at hr;obtain⟨rfl,rfl,rfl⟩:=hr;obtain⟨h1,h2⟩:=mkRc_ok hmk;obtain⟨k1,k2,k3,k4⟩:=runD_ok rest _ _ _ _ _ _ hrest hp.2;refine⟨⟨h1,k1⟩,k2,by rw[List.map_cons,h2,k3],fun x hx=>?_⟩;rcases List.mem_cons.1 hx with rfl|hx
    ·exact hp.1
    ·exact k4 x hx
   ·cases hr
  ·cases hr
theorem St.drew {C:Cx} {s:AS} {a:Act} {w:World} (h:St C s a w) (n:Nat):St C s a { w with drawn:=n }:=by
 obtain⟨ok,g,hM,h1,h2,h3⟩:=h;have hk:∀p:Addr,ok p.block→World.cell? { w with drawn:=n } p=w.cell? p:=fun _ _=>rfl
 have hm:∀o x',(fun _=>false) o=false→Q5 s.mem o=some x'→∃x,Q5 s.mem o=some x∧x.like x'∧g.bl o=g.bl o∧g.cp o=g.cp o:=fun o x' _ hx=>⟨x',hx,Q6.Wq _,rfl,rfl⟩
 refine⟨ok,g,⟨fun o x hx=>(hM.obj o x hx).mono (fun _=>false) ?_ (fun _ _=>rfl) rfl rfl hk (fun _ h=>h) hm,hM.inj,hM.own,hM.okb,hM.okk,hM.size,hM.heap,hM.keep,hM.os,hM.tape,hM.output,hM.gi,hM.gb⟩,h1,h2,fun t=>(h3 t).mono (fun _=>false) (AV.V6 (fun _=>rfl) _) hk (fun _ h=>h) hm⟩;cases x with
 |arr e sz rows=>trivial
 |map ks ag n ents=>trivial
 |raw r=>exact Q6.Fz (fun _=>rfl) _
 |blk t cs=>
  have:∀l:List AV,AV.Yj (fun _=>false) l=false:=fun l=>by
   induction l with
   |nil=>rfl
   |cons c r ih=>simp only[AV.Yj,ih,AV.V6 (fun _=>rfl) c,Bool.or_self]
  exact this cs
theorem AWp.draw {P:Program} {Q:Exit→AS→Prop} {s:AS} {id:Nat} {l:List Oper} (zs:List Nat) (hints:List Hint) {rs:List Rc} {s':AS} {p:Prop} (hm:P.follows .mixedOrders=true) (hr:runD P l.toArray zs l 0 hints s=some (rs,s',p)) (hc:(pairChk l l.toArray rs && predChk l)=true) (hp:p) (h:Q .normal s'):
  AWp P (.region id l.toArray true) Q s:=fun C a w hs=>by
 obtain⟨h1,h2,h3,h4⟩:=runD_ok l 0 hints s s' rs p hr hp;simp only[Bool.and_eq_true]at hc;refine wp_region_any hm ?_;have hlen:rs.length=l.length:=by rw[←h3,List.length_map]
 refine wpAny_of (C:=C) (rl:=rs) (send:=s') (by rw[h3]) (by rw[h3];exact hc.1) (by rw[h3];exact hc.2) (fun r hr _=>h4 r hr) (fun a w hs=>⟨s',h,hs⟩) l.toArray.size (Array.replicate l.toArray.size false) (List.range rs.length) s a _ (by simp[hlen]) (by simp[hlen]) List.pairwise_lt_range (fun i=>?_) (fun j r hj hl=>?_) ⟨rs,?_,h1,by rw[h2];exact Eqv.refl _⟩ (hs.drew _)
 ·simp only[List.mem_range,Array.getD_eq_getD_getElem?];constructor
  ·intro hi;refine⟨hi,?_⟩;rw[Array.getElem?_replicate,if_pos (by simp;omega)];rfl
  ·exact fun h=>h.1
 ·exfalso;have hj':=(List.getElem?_eq_some_iff.1 hj).1;simp only[Array.getD_eq_getD_getElem?]at hl;rw[Array.getElem?_replicate,if_pos (by simp;omega)]at hl;cases hl
 ·apply List.ext_getElem?;intro i;simp only[List.getElem?_map];rcases Nat.lt_or_ge i rs.length with hi|hi
  ·simp[hi]
  ·simp[hi]
theorem AWp.dw {P:Program} {Q Q0:Exit→AS→Prop} {c0:Code} {s:AS} {id:Nat} {l:List Oper} (zs:List Nat) (hints:List Hint) {rs:List Rc} {s':AS} {p:Prop} (hm:P.follows .mixedOrders=true) (h:Q .normal s')
  (hs:AWp P (.region id l.toArray true) Q s→AWp P c0 Q0 s:=by
  intro h;repeat (first|refine AWp.seq ?_|refine AWp.block ?_)
  exact h)
  (hr:runD P l.toArray zs l 0 hints s=some (rs,s',p):=by conv=>lhs;simp) (hc:(pairChk l l.toArray rs && predChk l)=true:=by kernel_rfl) (hp:p:=by(repeat' apply And.intro)<;> first|omega|assumption|trivial|(intros;subst_vars;rfl)|(intro i r h;rcases i with _|i<;> simp at h;subst h;rfl)|(simp[inI,maxLen];done)|(simp[inI,maxLen];omega)):AWp P c0 Q0 s:=
 hs (AWp.draw zs hints hm hr hc hp h)
theorem AWp.reg {P:Program} {Q:Exit→AS→Prop} {s:AS} {id:Nat} {l:List Oper} (zs:List Nat) (hints:List Hint) {rs:List Rc} {s':AS} {p:Prop} (hr:runD P l.toArray zs l 0 hints s=some (rs,s',p)) (hp:p) (h:Q .normal s'):AWp P (.region id l.toArray false) Q s:=fun C a w hs=>by
 obtain⟨h1,h2,h3,h4⟩:=runD_ok l 0 hints s s' rs p hr hp;refine wp_region_lit ?_;have key:∀(rs:List Rc) (s:AS) (a:Act) (w:World),Trace P l.toArray rs s→runR rs s=s'→(∀r∈rs,r.p)→St C s a w→wpList P l.toArray (fun e a' w'=>∃s',Q e s'∧St C s' a' w') (rs.map (·.o)) a w:=fun rs=>by
  induction rs with
  |nil=>intro s a w _ h2 _ hs;simp only[runR]at h2;subst h2;exact⟨s,h,hs⟩
  |cons r rs ih=>
   intro s a w h1 h2 h4 hs;exact wpList_step fun K hK=>J5.wp h1.1 (fun _=>h4 r (by simp)) hs fun a' w' hs'=>hK a' w' (ih (Z4 s r) a' w' h1.2 h2 (fun x hx=>h4 x (by simp[hx])) hs')
 rw[←h3]at key⊢;exact key rs s a w (by rw[h3];exact h1) h2 h4 hs
theorem AWp.rg {P:Program} {Q Q0:Exit→AS→Prop} {c0:Code} {s:AS} {id:Nat} {l:List Oper} (zs:List Nat) (hints:List Hint) {rs:List Rc} {s':AS} {p:Prop} (h:Q .normal s')
  (hs:AWp P (.region id l.toArray false) Q s→AWp P c0 Q0 s:=by
  intro h;repeat (first|refine AWp.seq ?_|refine AWp.block ?_)
  exact h)
  (hr:runD P l.toArray zs l 0 hints s=some (rs,s',p):=by conv=>lhs;simp) (hp:p:=by(repeat' apply And.intro)<;> first|omega|assumption|trivial|(intros;subst_vars;rfl)|(intro i r h;rcases i with _|i<;> simp at h;subst h;rfl)|(simp[inI,maxLen];done)|(simp[inI,maxLen];omega)):AWp P c0 Q0 s:=
 hs (AWp.reg zs hints hr hp h)
theorem AWp.cy {P:Program} {Q Q0:Exit→AS→Prop} {c0:Code} {s:AS} {c:Operand} {x y:Code} (h:AWp P x Q s)
  (hs:AWp P (.cond c x y) Q s→AWp P c0 Q0 s:=by
  intro h;repeat (first|refine AWp.seq ?_|refine AWp.block ?_)
  exact h)
  (hc:evA s.fr c= .d (.bool true):=by rfl):AWp P c0 Q0 s:=
 hs (AWp.cond hc (fun _=>h) (fun h=>by cases h))
theorem AWp.cn {P:Program} {Q Q0:Exit→AS→Prop} {c0:Code} {s:AS} {c:Operand} {x y:Code} (h:AWp P y Q s)
  (hs:AWp P (.cond c x y) Q s→AWp P c0 Q0 s:=by
  intro h;repeat (first|refine AWp.seq ?_|refine AWp.block ?_)
  exact h)
  (hc:evA s.fr c= .d (.bool false):=by rfl):AWp P c0 Q0 s:=
 hs (AWp.cond hc (fun h=>by cases h) (fun _=>h))
end Go.Proofs.YtlbcipohiepjmaaDoor
namespace Go.Proofs.YtlbcipohiepjmaaDoor
open Go.RowKit
def Sq:Mo→List (Nat×Option Q6)
 |[]=>[]
 |(i,x)::r=>(i,some x)::Sq r
theorem moMem_get (m:Mo) (i:Nat):Q5 (Sq m) i=X3 m i:=by
 induction m with
 |nil=>rfl
 |cons y r ih=>obtain⟨j,x⟩:=y;simp only[Sq,Q5,X3,ih]
def K5 (n:Nat) (args:List AV) (m:Mo):AS:=⟨n,frOf 0 args,Sq m⟩
def Zx (f:List (Nat×Option Q6)):Mo→Prop
 |[]=>True
 |(i,x)::r=>Q5 f i=some x∧Zx f r
theorem moEnd_get {f:List (Nat×Option Q6)} {m:Mo} (h:Zx f m) (i:Nat) (x:Q6) (hx:X3 m i=some x):Q5 f i=some x:=by
 have hm:=Yx hx;clear hx;induction m with
 |nil=>cases hm
 |cons y r ih=>
  obtain⟨j,z⟩:=y;rcases List.mem_cons.1 hm with hm|hm
  ·cases hm;exact h.1
  ·exact ih h.2 hm
def Zw (P:Program) (fn:Func) (r:AV) (m':Mo):Exit→AS→Prop:=fun e s=>
 (e= .ret∨e= .normal)∧∃s',Le s s'∧∃cs,Qz P s' fn.results.toList=some cs∧(Zz cs).X7=r.X7∧r.X7=r∧Zx s'.mem m'
theorem frStart {C:Cx} {w:World} {ok:Nat→Prop} {g:Gh} {m:Me} {n:Nat} {args:List AV} {vals:Array Value} (hl:args.length=vals.size) (hn:args.length≤n) (hv:∀(i:Nat) (c:AV) (v:Value),args[i]? =some c→vals[i]? =some v→VR w ok g m c v) (t:Nat):
  VR w ok g m (Z9 (frOf 0 args) t) ((vals++Array.replicate (n-vals.size) undef).getD t undef):=by
 simp only[frOf_get,Nat.zero_le,if_true,Nat.sub_zero];rcases Nat.lt_or_ge t args.length with hlt|hge
 ·have e1:args[t]? =some args[t]:=List.getElem?_eq_getElem hlt;have e2:vals[t]? =some (vals[t]'(by omega)):=Array.getElem?_eq_getElem (by omega);rw[e1];have e3:(vals++Array.replicate (n-vals.size) undef).getD t undef=vals[t]'(by omega):=by
   simp[Array.getElem?_append,show t<vals.size by omega]
  rw[e3];exact hv t _ _ e1 e2
 ·rw[List.getElem?_eq_none hge];exact .any _
theorem MS.sub {C:Cx} {w:World} {ok:Nat→Prop} {g:Gh} {m m':Me} (hM:MS C w ok g m) (hsub:∀i x,m' i=some x→m i=some x):MS C w ok g m'∧∀c v,VR w ok g m c v→VR w ok g m' c v:=by
 have hm:∀o x',(fun _=>false) o=false→m' o=some x'→∃x,m o=some x∧x.like x'∧g.bl o=g.bl o∧g.cp o=g.cp o:=fun o x' _ hx=>⟨x',hsub o x' hx,Q6.Wq _,rfl,rfl⟩
 refine⟨⟨fun o x hx=>(hM.obj o x (hsub o x hx)).mono (fun _=>false) ?_ (fun _ _=>rfl) rfl rfl (fun _ _=>rfl) (fun _ h=>h) hm,fun i j xi xj b hi hj=>hM.inj i j xi xj b (hsub i xi hi) (hsub j xj hj),fun i x b hi=>hM.own i x b (hsub i x hi),hM.okb,hM.okk,hM.size,hM.heap,hM.keep,hM.os,hM.tape,hM.output,hM.gi,hM.gb⟩,
  fun c v hv=>hv.mono (fun _=>false) (AV.V6 (fun _=>rfl) c) (fun _ _=>rfl) (fun _ h=>h) hm⟩
 cases x with
 |arr e sz rows=>trivial
 |map ks ag n ents=>trivial
 |raw r=>exact Q6.Fz (fun _=>rfl) _
 |blk t cs=>
  have:∀l:List AV,AV.Yj (fun _=>false) l=false:=fun l=>by
   induction l with
   |nil=>rfl
   |cons c r ih=>simp only[AV.Yj,ih,AV.V6 (fun _=>rfl) c,Bool.or_self]
  exact this cs
theorem Y9.of {P:Program} {k:Nat} {fn:Func} {c:Code} (hf:P.funcs[k]? =some fn) (hnm:(fn.name== "runtime.NumGoroutine")=false) (hb:fn.body=some c) {args:List AV} {m m':Mo} {r:AV} (hn:args.length≤fn.ntmps)
  (h:AWp P c (Zw P fn r m') (K5 fn.ntmps args m)):Y9 P k args m r m':=by
 refine⟨⟨fn,hf,hnm,by rw[hb];rfl⟩,fun w ok g vals hM hl hv=>?_⟩;refine calls_of_wp hf hb ?_;have e:Q5 (Sq m)=X3 m:=funext (moMem_get m);have hst:St ⟨w,ok,fun b=>∃i x,X3 m i=some x∧x.at_ g i b,g⟩ (K5 fn.ntmps args m) { tmps:=vals++Array.replicate (fn.ntmps-vals.size) undef,defers:=[] } w:=by
  refine⟨ok,g,?_,by simp[K5];omega,rfl,fun t=>?_⟩
  ·simp only[K5,e];exact hM
  ·simp only[K5,e];exact frStart (C:=⟨w,ok,fun _=>False,g⟩) hl hn hv t
 refine wp_mono (h _ _ w hst) ?_;rintro e a' w' ⟨s,⟨he,s',hle,cs,hres,hr,hrn,hmo⟩,hs⟩;obtain⟨ok',g',hM',h1,h2,h3⟩:=hle _ _ _ hs;obtain⟨v,hv1,hv2⟩:=Iz hM' h3 hres;obtain⟨q1,q2⟩:=hM'.sub (m':=X3 m') fun i x hx=>moEnd_get hmo i x hx
 have hv2:=hv2.X7;rw[hr,hrn]at hv2;rcases he with rfl|rfl
 ·exact⟨h2,v,hv1,v,ok',g',rfl,q1,q2 _ _ hv2⟩
 ·exact⟨h2,v,hv1,v,ok',g',rfl,q1,q2 _ _ hv2⟩
theorem Qv.ofArr {P:Program} {k:Nat} {fn:Func} {c:Code} (hf:P.funcs[k]? =some fn) (hnm:(fn.name== "runtime.NumGoroutine")=false) (hb:fn.body=some c) {args:List AV} (r:Nat→AV) (o:Nat) {e:TypeId} {sz:Nat} {rows:List (List D)} (hn:args.length≤fn.ntmps)
  (hren:∀d,r d=(r o).ren (fun _=>d)) (hids:∀i∈(r o).ids,i=o) (hrcl:∀d,(r d).has (fun i=>!(d==i))=false) (h:AWp P c (Z5 P fn r (some (.arr e sz rows)) o) (Qw fn.ntmps args)):Qv P k args r (some (.arr e sz rows)):=by
 refine⟨⟨fn,hf,hnm,by rw[hb];rfl⟩,hrcl,(fun h=>by cases h),fun y hy=>⟨e,sz,rows,by cases hy;rfl⟩,fun d w ok vals hgi hok hl hv=>?_⟩;refine calls_of_wp hf hb ?_;have hst:St ⟨w,ok,fun _=>False,noG⟩ (Qw fn.ntmps args) { tmps:=vals++Array.replicate (fn.ntmps-vals.size) undef,defers:=[] } w:=by
  refine⟨ok,noG,⟨(fun o x hx=>by cases hx),(fun i j xi xj b hi=>by cases hi),(fun i x b hi=>by cases hi),fun b hb=>⟨hok b hb,.inl hb⟩,fun b hb=>hb,Nat.le_refl _,fun b _ _=>rfl,fun i _=>⟨rfl,rfl⟩,rfl,rfl,rfl,hgi,fun _ _ h=>h⟩,by simp[Qw];omega,rfl,fun t=>?_⟩;exact frStart (C:=⟨w,ok,fun _=>False,noG⟩) hl hn hv t
 refine wp_mono (h _ _ w hst) ?_;rintro ex a' w' ⟨s,⟨he,s',hle,cs,hres,hr,hrn,hx⟩,hs⟩;obtain⟨ok',g,hM,h1,h2,h3⟩:=hle _ _ _ hs;obtain⟨v,hv1,hv2⟩:=Iz hM h3 hres;obtain⟨hxo,hxs⟩:=hx _ rfl;have hv2:=hv2.X7;rw[hr,hrn]at hv2;have hfin:a'.defers=[]∧∃v,(results fn a'.tmps).run P w'= .ok v w'∧∃v' ok' g',Ending.returned v= .returned v'∧Below w.heap.size w w'∧(∀b,ok b→ok' b)∧(∀b,ok' b→ok b∨(w.heap.size≤b∧b<w'.heap.size))∧VR w' ok' g' (oneM d (some (.arr e sz rows))) (r d) v'∧
   (∀y,(some (.arr e sz rows):Option Q6)=some y→OR w' ok' g' (oneM d (some (.arr e sz rows))) d y∧∀b,g'.bl d=some b→¬ok' b∧w.heap.size≤b∧b<w'.heap.size):=by
  refine⟨h2,v,hv1,v,ok',⟨fun _=>g.bl o,fun _=>g.cp o,fun _=>g.pv o⟩,rfl,⟨hM.os,hM.tape,hM.output,hM.size,fun b hb=>hM.heap b hb (fun h=>h)⟩,hM.okk,fun b hb=>?_,?_,fun y hy=>?_⟩
  ·obtain⟨k1,k2⟩:=hM.okb b hb;rcases k2 with k2|k2
   ·exact .inl k2
   ·exact .inr ⟨k2,k1⟩
  ·rw[hren d];refine VR.reren _ hv2 fun i hi=>?_
   have:=hids i hi;subst this;exact⟨_,hxo,by simp[oneM,Q6.ren],rfl,rfl⟩
  ·cases hy;have hO:=hM.obj o _ hxo;refine⟨hO,fun b hb=>?_⟩;obtain⟨k1,k2,k3⟩:=hM.own o _ b hxo (.inl hb);refine⟨k1,?_,k2⟩;rcases k3 with k3|⟨k3,_⟩
   ·exact k3
   ·exact k3.elim
 rcases he with rfl|rfl
 ·exact hfin
 ·exact hfin
theorem Fx {α β:Type} (f:α→β) (l:List α):(l.map f).take l.length=l.map f:=List.take_of_length_le (by simp)
theorem bleF (a b:Nat):(Nat.ble a b=false)=(b<a):=by
 rw[←Bool.not_eq_true,Nat.ble_eq];simp
def frSub (f:List (Nat×AV)):List (Nat×AV)→Prop
 |[]=>True
 |(t,v)::r=>Z9 f t=v∧frSub f r
def M5 (f:List (Nat×Option Q6)):List (Nat×Option Q6)→Prop
 |[]=>True
 |(t,v)::r=>Q5 f t=v∧M5 f r
theorem Le.sub {s:AS} {fr:List (Nat×AV)} {mem:List (Nat×Option Q6)} (hf:frSub s.fr fr) (hm:M5 s.mem mem):Le s ⟨s.n,fr,mem⟩:=fun C a w h=>by
 refine h.weak rfl (fun t=>?_) (fun o x hx=>?_)
 ·dsimp only;induction fr with
  |nil=>exact .inl rfl
  |cons y r ih=>
   obtain⟨u,v⟩:=y;simp only[Z9];split
   ·rename_i hu;have:u=t:=by simpa using hu
    subst this;exact .inr hf.1.symm
   ·exact ih hf.2
 ·dsimp only at hx;induction mem with
  |nil=>cases hx
  |cons y r ih=>
   obtain⟨u,v⟩:=y;simp only[Q5]at hx;split at hx
   ·rename_i hu;have:u=o:=by simpa using hu
    subst this;rw[hm.1];exact hx
   ·exact ih hm.2 hx
theorem Z5.ret {P:Program} {fn:Func} {r:Nat→AV} {o:Nat} {s:AS} {cs:List AV} (hrn:(r o).X7=r o) (h:Qz P s fn.results.toList=some cs) (hr:(Zz cs).X7=(r o).X7):Z5 P fn r none o .ret s:=
 ⟨.inl rfl,s,Le.refl s,cs,h,hr,hrn,fun y hy=>by cases hy⟩
theorem Z5.retF {P:Program} {fn:Func} {r:Nat→AV} {o:Nat} {s s':AS} (l:List Nat) {cs:List AV} (hrn:(r o).X7=r o) (hz:D9 l s=some s') (h:Qz P s' fn.results.toList=some cs) (hr:(Zz cs).X7=(r o).X7):Z5 P fn r none o .ret s:=
 ⟨.inl rfl,s',Le.D9 l hz,cs,h,hr,hrn,fun y hy=>by cases hy⟩
theorem Zw.ret {P:Program} {fn:Func} {r:AV} {m':Mo} {s:AS} {cs:List AV} (hrn:r.X7=r) (h:Qz P s fn.results.toList=some cs) (hr:(Zz cs).X7=r.X7) (hm:Zx s.mem m'):Zw P fn r m' .ret s:=
 ⟨.inl rfl,s,Le.refl s,cs,h,hr,hrn,hm⟩
theorem Zw.retF {P:Program} {fn:Func} {r:AV} {m':Mo} {s s':AS} (l:List Nat) {cs:List AV} (hrn:r.X7=r) (hz:D9 l s=some s') (h:Qz P s' fn.results.toList=some cs) (hr:(Zz cs).X7=r.X7) (hm:Zx s'.mem m'):Zw P fn r m' .ret s:=
 ⟨.inl rfl,s',Le.D9 l hz,cs,h,hr,hrn,hm⟩
theorem Zw.normal {P:Program} {fn:Func} {r:AV} {m':Mo} {s:AS} {cs:List AV} (hrn:r.X7=r) (h:Qz P s fn.results.toList=some cs) (hr:(Zz cs).X7=r.X7) (hm:Zx s.mem m'):Zw P fn r m' .normal s:=
 ⟨.inr rfl,s,Le.refl s,cs,h,hr,hrn,hm⟩
end Go.Proofs.YtlbcipohiepjmaaDoor
namespace Go.Proofs.YtlbcipohiepjmaaDoor
open Go.RowKit
mutual
def Low (N:List Nat) (ρ:Nat→Nat):AV→AV→Prop
 | .any,_=>True
 | .arr o l n,c=>(Qj N o=true∧l=0∧n=0∧c= .lit (.slice none 0 0))∨(Qj N o=false∧c= .arr (ρ o) l n)
 | .ptr o k,c=>Qj N o=false∧c= .ptr (ρ o) k
 | .K7 o i j,c=>Qj N o=false∧c= .K7 (ρ o) i j
 | .mp o,c=>Qj N o=false∧c= .mp (ρ o)
 | .agg cs,c=>∃ds,c= .agg ds∧Ew N ρ cs ds
 | .tuple cs,c=>∃ds,c= .tuple ds∧Ew N ρ cs ds
 | .clo f cs,c=>∃ds,c= .clo f ds∧Ew N ρ cs ds
 | .d d,c=>c= .d d∨(d= .sl []∧c= .lit (.slice none 0 0))
 | .lit v,c=>c= .lit v
 | .fl r,c=>c= .fl r
def Ew (N:List Nat) (ρ:Nat→Nat):List AV→List AV→Prop
 |[],[]=>True
 |c::cs,d::ds=>Low N ρ c d∧Ew N ρ cs ds
 |_,_=>False
end
theorem LowL_len (N:List Nat) (ρ:Nat→Nat):∀(cs ds:List AV),Ew N ρ cs ds→cs.length=ds.length
 |[],[],_=>rfl
 |c::cs,d::ds,h=>by
  simp only[Ew]at h;simp[LowL_len N ρ cs ds h.2]
 |[],d::ds,h=>by simp[Ew]at h
 |c::cs,[],h=>by simp[Ew]at h
theorem LowL_get (N:List Nat) (ρ:Nat→Nat):∀(cs ds:List AV),Ew N ρ cs ds→∀(i:Nat) (c d:AV),cs[i]? =some c→ds[i]? =some d→Low N ρ c d
 |[],_,_=>by intro i c d hc;simp at hc
 |c::cs,[],h=>by simp[Ew]at h
 |c::cs,d::ds,h=>by
  simp only[Ew]at h;intro i c' d' hc hd;rcases i with _|i
  ·simp at hc hd;subst hc;subst hd;exact h.1
  ·exact LowL_get N ρ cs ds h.2 i c' d' (by simpa using hc) (by simpa using hd)
def K6 (N:List Nat) (ρ:Nat→Nat):Q6→Q6→Prop
 | .blk t cs,.blk u ds=>t=u∧Ew N ρ cs ds
 | .arr e sz rows,y=>y= .arr e sz rows
 | .map ks ag n ents,y=>∃ents',y= .map ks ag n ents'∧ents'.Perm ents
 | .raw (.own ty sz rows lk),y=>lk=[]∧∃lk2,y= .raw (.own ty sz rows lk2)
 | .raw r,y=>y= .raw r
 |_,_=>False
def V5:Q6→Prop
 | .arr e sz rows=>0<sz∧rows=[]
 | .raw (.own ty sz rows lk)=>0<sz∧rows=[]∧lk=[]
 |_=>False
def Az (N:List Nat) (ρ:Nat→Nat) (f:List (Nat×AV)):List (Nat×AV)→Prop
 |[]=>True
 |(t,v)::r=>Low N ρ v (Z9 f t)∧Az N ρ f r
def D7 (N:List Nat) (ρ:Nat→Nat) (f:List (Nat×Option Q6)) (i:Nat):Option Q6→Prop
 |none=>True
 |some x=>if Qj N i then V5 x else∃y,Q5 f (ρ i)=some y∧K6 N ρ x y
def F6 (N:List Nat) (ρ:Nat→Nat) (f:List (Nat×Option Q6)):List (Nat×Option Q6)→Prop
 |[]=>True
 |(i,x)::r=>D7 N ρ f i x∧F6 N ρ f r
def lowChk (N:List Nat) (π:List (Nat×Nat)) (ids:List Nat):Bool:=
 (N.all fun i=>!(Nat.ble 500 i)) && (π.all fun x=>!(Nat.ble 500 x.1) && !(Nat.ble 500 x.2)) &&
 (ids.all fun i=>ids.all fun j=>Qj N i||Qj N j|| !(Z0 π i==Z0 π j)||i==j)
theorem frLow_get {N:List Nat} {ρ:Nat→Nat} {f:List (Nat×AV)}:∀{fr:List (Nat×AV)},Az N ρ f fr→∀t,Low N ρ (Z9 fr t) (Z9 f t)
 |[],_,t=>by simp[Z9,Low]
 |(u,v)::r,h,t=>by
  simp only[Z9];split
  ·rename_i hu;have:u=t:=by simpa using hu
   subst this;exact h.1
  ·exact frLow_get h.2 t
theorem O4 {N:List Nat} {ρ:Nat→Nat} {f:List (Nat×Option Q6)}:∀{m:List (Nat×Option Q6)},F6 N ρ f m→∀i x,Q5 m i=some x→i∈m.map (·.1)∧if Qj N i then V5 x else∃y,Q5 f (ρ i)=some y∧K6 N ρ x y
 |[],_,i,x=>by simp[Q5]
 |(u,v)::r,h,i,x=>by
  simp only[Q5];split
  ·rename_i hu;have:u=i:=by simpa using hu
   subst this;intro hv;subst hv;exact⟨by simp,h.1⟩
  ·intro hx;obtain⟨h1,h2⟩:=O4 h.2 i x hx;exact⟨by simp only[List.map_cons,List.mem_cons];exact .inr h1,h2⟩
def Pq (N:List Nat) (ρ:Nat→Nat) (g:Gh):Gh:=⟨fun i=>if Qj N i then none else g.bl (ρ i),fun i=>g.cp (ρ i),fun i=>if Qj N i then (fun _=>False)else g.pv (ρ i)⟩
theorem objLow_shape {N:List Nat} {ρ:Nat→Nat} {x y:Q6} (h:K6 N ρ x y):y.shape=x.shape:=by
 cases x with
 |blk t cs=>cases y<;> first|rfl|exact h.elim
 |arr e sz rows=>simp only[K6]at h;rw[h]
 |map ks ag n ents=>obtain⟨ents',rfl,_⟩:=h;rfl
 |raw r=>
  cases r with
  |own ty sz rows lk=>obtain⟨_,lk2,rfl⟩:=h;rfl
  |births=>simp only[K6]at h;rw[h]
  |iter=>simp only[K6]at h;rw[h]
theorem objLow_at {N:List Nat} {ρ:Nat→Nat} {x y:Q6} (h:K6 N ρ x y) {g:Gh} {i b:Nat}:y.at_ g i b↔x.at_ g i b:=by
 cases x with
 |blk t cs=>cases y<;> first|exact Iff.rfl|exact h.elim
 |arr e sz rows=>simp only[K6]at h;rw[h]
 |map ks ag n ents=>obtain⟨ents',rfl,_⟩:=h;exact Iff.rfl
 |raw r=>
  cases r with
  |own ty sz rows lk=>obtain⟨_,lk2,rfl⟩:=h;exact Iff.rfl
  |births=>simp only[K6]at h;rw[h]
  |iter=>simp only[K6]at h;rw[h]
theorem VR.low {w:World} {ok:Nat→Prop} {g:Gh} {M m:Me} (N:List Nat) (ρ:Nat→Nat)
  (hm:∀o x,m o=some x→if Qj N o then V5 x else∃y,M (ρ o)=some y∧K6 N ρ x y)
  (c0:AV):∀(c:AV) (v:Value),Low N ρ c0 c→VR w ok g M c v→VR w ok (Pq N ρ g) m c0 v:=
 AV.rec (motive_1:=fun c0=>∀c v,Low N ρ c0 c→VR w ok g M c v→VR w ok (Pq N ρ g) m c0 v)
  (motive_2:=fun l=>∀(i:Nat) (c0:AV),l[i]? =some c0→∀c v,Low N ρ c0 c→VR w ok g M c v→VR w ok (Pq N ρ g) m c0 v)
  (fun c v _ _=>.any v)
  (fun d c v hl h=>by
   simp only[Low]at hl;rcases hl with rfl|⟨rfl,rfl⟩
   ·exact .d d v h.Z6
   ·have:=h.X7;simp only[AV.X7]at this;exact .d _ v this.Z6)
  (fun u c v hl h=>by
   simp only[Low]at hl;subst hl;obtain⟨h1,h2⟩:=VR.Vz h;rw[h1];exact .lit u h2)
  (fun rows c v hl h=>by
   simp only[Low]at hl;subst hl;obtain⟨h1,h2⟩:=VR.fl_inv h;exact .fl rows v h1 h2)
  (fun o off c v hl h=>by
   simp only[Low]at hl;obtain⟨hN,rfl⟩:=hl;cases h with
   |ptr _ _ _ hv h=>
    refine .ptr o off v hv fun x hx=>?_
    have h1:=hm o x hx;rw[if_neg (by simp[hN])]at h1;obtain⟨y,h2,_⟩:=h1;simp only[Pq,hN];exact h y h2)
  (fun o l n c v hl h=>by
   simp only[Low]at hl;rcases hl with⟨hN,rfl,rfl,rfl⟩|⟨hN,rfl⟩
   ·obtain⟨h1,h2⟩:=VR.Vz h;refine .arr o 0 0 v (by rw[h1];exact h2) fun x sz L hx hs=>?_
    exact⟨by omega,.inl ⟨by simp[Pq,hN],h1,rfl,rfl⟩⟩
   ·cases h with
    |arr _ _ _ _ hv h=>
     refine .arr o l n v hv fun x sz L hx hs=>?_
     have h1:=hm o _ hx;rw[if_neg (by simp[hN])]at h1;obtain⟨y,h2,h3⟩:=h1;simp only[Pq,hN];exact h _ sz L h2 ((objLow_shape h3).trans hs))
  (fun o i j c v hl h=>by
   simp only[Low]at hl;obtain⟨hN,rfl⟩:=hl;cases h with
   |K7 _ _ _ _ hv h=>
    refine .K7 o i j v hv fun x sz L hx hs=>?_
    have h1:=hm o _ hx;rw[if_neg (by simp[hN])]at h1;obtain⟨y,h2,h3⟩:=h1;simp only[Pq,hN];exact h _ sz L h2 ((objLow_shape h3).trans hs))
  (fun o c v hl h=>by
   simp only[Low]at hl;obtain⟨hN,rfl⟩:=hl;cases h with
   |mp _ _ hv h=>
    refine .mp o v hv fun x hx=>?_
    have h1:=hm o x hx;rw[if_neg (by simp[hN])]at h1;obtain⟨y,h2,_⟩:=h1;simp only[Pq,hN];exact h y h2)
  (fun cs ih c v hl h=>by
   simp only[Low]at hl;obtain⟨ds,rfl,hl⟩:=hl;obtain⟨vs,rfl,hn,h1,h2⟩:=VR.Qa h;have hln:=LowL_len N ρ cs ds hl;refine .agg cs vs (hln.trans hn) (fun i c v hc hv=>?_) h2;have hi:i<ds.length:=by rw[←hln];exact(List.getElem?_eq_some_iff.1 hc).1
   have hd:ds[i]? =some ds[i]:=List.getElem?_eq_getElem hi;exact ih i c hc _ v (LowL_get N ρ cs ds hl i c _ hc hd) (h1 i _ v hd hv))
  (fun cs ih c v hl h=>by
   simp only[Low]at hl;obtain⟨ds,rfl,hl⟩:=hl;obtain⟨vs,rfl,hn,h1⟩:=VR.tuple_inv h;have hln:=LowL_len N ρ cs ds hl;refine .tuple cs vs (hln.trans hn) (fun i c v hc hv=>?_);have hi:i<ds.length:=by rw[←hln];exact(List.getElem?_eq_some_iff.1 hc).1
   have hd:ds[i]? =some ds[i]:=List.getElem?_eq_getElem hi;exact ih i c hc _ v (LowL_get N ρ cs ds hl i c _ hc hd) (h1 i _ v hd hv))
  (fun f cs ih c v hl h=>by
   simp only[Low]at hl;obtain⟨ds,rfl,hl⟩:=hl;obtain⟨vs,rfl,hn,h1⟩:=VR.clo_inv h;have hln:=LowL_len N ρ cs ds hl;refine .clo f cs vs (hln.trans hn) (fun i c v hc hv=>?_);have hi:i<ds.length:=by rw[←hln];exact(List.getElem?_eq_some_iff.1 hc).1
   have hd:ds[i]? =some ds[i]:=List.getElem?_eq_getElem hi;exact ih i c hc _ v (LowL_get N ρ cs ds hl i c _ hc hd) (h1 i _ v hd hv))
  (fun i c hc=>by simp at hc)
  (fun c l h1 h2 i c' hc'=>by
   rcases i with _|i
   ·simp at hc';subst hc';exact h1
   ·exact h2 i c' (by simpa using hc')) c0
theorem OR.low {w:World} {ok:Nat→Prop} {g:Gh} {M m:Me} (N:List Nat) (ρ:Nat→Nat)
  (hm:∀o x,m o=some x→if Qj N o then V5 x else∃y,M (ρ o)=some y∧K6 N ρ x y)
  {o:Nat} {x:Q6} (hx:m o=some x) (hM:∀y,M (ρ o)=some y→OR w ok g M (ρ o) y):OR w ok (Pq N ρ g) m o x:=by
 have h1:=hm o x hx;cases hN:Qj N o with
 |true=>
  rw[if_pos hN]at h1;cases x with
  |blk t cs=>exact h1.elim
  |map _ _ _ _=>exact h1.elim
  |raw r=>
   cases r with
   |births _ _ _ _ _ _=>exact h1.elim
   |iter _ _ _=>exact h1.elim
   |own ty sz rows lk=>
    obtain⟨h2,rfl,rfl⟩:=h1;exact⟨h2,by simp,.inl ⟨by simp[Pq,hN],rfl⟩,fun i j o' n h=>by cases h⟩
  |arr e sz rows=>
   obtain⟨h2,rfl⟩:=h1;exact⟨h2,by simp,.inl ⟨by simp[Pq,hN],rfl⟩⟩
 |false=>
  rw[if_neg (by simp[hN])]at h1;obtain⟨y,h2,h3⟩:=h1;have h4:=hM y h2;cases x with
  |arr e sz rows=>
   simp only[K6]at h3;subst h3;obtain⟨k1,k2,k3⟩:=h4;refine⟨k1,k2,?_⟩;simp only[Pq,hN];exact k3
  |map ks ag n ents=>
   obtain⟨ents',rfl,hp⟩:=h3;obtain⟨b,es,clock,k1,k2,k3⟩:=h4;exact⟨b,es,clock,by simp only[Pq,hN];exact k1,k2,k3.reorder hp⟩
  |raw r=>
   cases r with
   |own ty sz rows lk=>
    obtain⟨rfl,lk2,rfl⟩:=h3;obtain⟨k1,k2,k3,_⟩:=h4;refine⟨k1,k2,?_,fun i j o' n h=>by cases h⟩;simp only[Pq,hN];exact k3
   |births b ks ag n clock ents=>
    simp only[K6]at h3;subst h3;exact⟨by simp only[Pq,hN];exact h4.1,h4.2⟩
   |iter b clock seen=>
    simp only[K6]at h3;subst h3;obtain⟨bi,q1,q2⟩:=h4;exact⟨bi,by simp only[Pq,hN];exact q1,q2⟩
  |blk t cs=>
   cases y with
   |arr=>exact h3.elim
   |map=>exact h3.elim
   |raw=>exact h3.elim
   |blk u ds=>
    obtain⟨rfl,h3⟩:=h3;obtain⟨b,vs,k1,k2,k3,k4,k5⟩:=h4;have hln:=LowL_len N ρ cs ds h3;refine⟨b,vs,by simp only[Pq,hN];exact k1,k2,hln.trans k3,fun i c v hc hv=>?_,k5⟩;have hi:i<ds.length:=by rw[←hln];exact(List.getElem?_eq_some_iff.1 hc).1
    have hd:ds[i]? =some ds[i]:=List.getElem?_eq_getElem hi;exact VR.low N ρ hm c _ v (LowL_get N ρ cs ds h3 i c _ hc hd) (k4 i _ v hd hv)
theorem ble_lt {a b:Nat} (h:Nat.ble a b=false):b<a:=by
 rcases Nat.lt_or_ge b a with h1|h1
 ·exact h1
 ·rw[Nat.ble_eq_true_of_le h1]at h;cases h
theorem renOf_small:∀{π:List (Nat×Nat)},(∀x∈π,x.1<500∧x.2<500)→(∀i,500≤i→Z0 π i=i)∧∀i,i<500→Z0 π i<500
 |[],_=>⟨fun _ _=>rfl,fun _ h=>h⟩
 |(a,b)::r,h=>by
  obtain⟨h1,h2⟩:=renOf_small (π:=r) fun x hx=>h x (List.mem_cons_of_mem _ hx)
  have h3:=h (a,b) (List.mem_cons_self ..);dsimp only at h3;refine⟨fun i hi=>?_,fun i hi=>?_⟩
  ·simp only[Z0];rw[if_neg (by simp;omega)];exact h1 i hi
  ·simp only[Z0];split
   ·exact h3.2
   ·exact h2 i hi
theorem Le.low (N:List Nat) (π:List (Nat×Nat)) {s:AS} {fr:List (Nat×AV)} {mem:List (Nat×Option Q6)} (hchk:lowChk N π (mem.map (·.1))=true)
  (hf:Az N (Z0 π) s.fr fr) (hm:F6 N (Z0 π) s.mem mem):Le s ⟨s.n,fr,mem⟩:=fun C a w ⟨ok,g,hM,h1,h2,h3⟩=>by
 simp only[lowChk,Bool.and_eq_true]at hchk;obtain⟨⟨c1,c2⟩,c3⟩:=hchk;have hN:∀i,Qj N i=true→i<500:=fun i hi=>by
  have:=List.all_eq_true.1 c1 i (U7.1 hi);exact ble_lt (by simpa using this)
 obtain⟨hr1,hr2⟩:=renOf_small (π:=π) fun x hx=>by
  have:=List.all_eq_true.1 c2 x hx;simp only[Bool.and_eq_true,Bool.not_eq_true']at this;exact⟨ble_lt this.1,ble_lt this.2⟩
 have hm':∀o x,Q5 mem o=some x→if Qj N o then V5 x else∃y,Q5 s.mem (Z0 π o)=some y∧K6 N (Z0 π) x y:=fun o x hx=>(O4 hm o x hx).2
 have gbl:∀i x b,Q5 mem i=some x→x.at_ (Pq N (Z0 π) g) i b→Qj N i=false∧∃y,Q5 s.mem (Z0 π i)=some y∧y.at_ g (Z0 π i) b:=fun i x b hx hb=>by
  have h1:=hm' i x hx;cases hi:Qj N i with
  |true=>
   exfalso;rcases hb with hb|hb
   ·simp[Pq,hi]at hb
   ·split at hb
    ·simp[Pq,hi]at hb
    ·exact hb
  |false=>
   rw[if_neg (by simp[hi])]at h1;obtain⟨y,hy,h2⟩:=h1;exact⟨rfl,y,hy,(objLow_at h2).2 ((Q6.Dz (g:=⟨fun j=>g.bl (Z0 π j),fun j=>g.cp (Z0 π j),fun j=>g.pv (Z0 π j)⟩) (by simp[Pq,hi]) (by simp[Pq,hi])).1 hb)⟩
 refine⟨ok,Pq N (Z0 π) g,⟨fun o x hx=>OR.low N _ hm' hx fun y hy=>hM.obj _ y hy,fun i j xi xj b hi hj hbi hbj=>?_,fun i x b hx hb=>?_,hM.okb,hM.okk,hM.size,hM.heap,fun i hi=>?_,hM.os,hM.tape,hM.output,hM.gi,hM.gb⟩,h1,h2,fun t=>?_⟩
 ·obtain⟨n1,y1,s1,b1⟩:=gbl i xi b hi hbi;obtain⟨n2,y2,s2,b2⟩:=gbl j xj b hj hbj;have he:=hM.inj _ _ _ _ b s1 s2 b1 b2;have:=List.all_eq_true.1 (List.all_eq_true.1 c3 i (O4 hm i xi hi).1) j (O4 hm j xj hj).1;rw[n1,n2,he]at this;simpa using this
 ·obtain⟨n1,y1,s1,b1⟩:=gbl i x b hx hb;obtain⟨k1,k2,k3⟩:=hM.own _ y1 b s1 b1;refine⟨k1,k2,k3.imp id fun h=>⟨h.1,?_⟩⟩;rcases Nat.lt_or_ge i 500 with h4|h4
  ·have:=hr2 i h4;omega
  ·exact h4
 ·have hi':1000≤i:=Nat.le_of_ble_eq_true hi;have hn:Qj N i=false:=by
   cases h:Qj N i with
   |false=>rfl
   |true=>have:=hN i h;omega
  simp only[Pq,hn];rw[hr1 i (by omega)];exact hM.keep i hi
 ·exact VR.low N _ hm' _ _ _ (frLow_get hf t) (h3 t)
theorem AWp.seqMid {P:Program} {x y:Code} {Q:Exit→AS→Prop} {s:AS} (mid:AS) (h1:AWp P x (Qq (fun s'=>Le s' mid) Q) s) (h2:AWp P y Q mid):AWp P (.seq x y) Q s:=
 AWp.seq (AWp.mono h1 fun e s' h=>by
  cases e with
  |normal=>exact AWp.le h h2
  |_=>exact h)
end Go.Proofs.YtlbcipohiepjmaaDoor
