import Derived.Test.YtjpldhjgehoffaaGreatDoorEngM
import Derived.Orders
set_option maxHeartbeats 1000000
namespace Go.Proofs.YtjpldhjgehoffaaGreatDoor
open Go.RowKit
set_option linter.unusedVariables false
def Yz (sz:Nat) (f:Operand→AV):Nat→List (Nat×Operand)→Option (List (List D))
 |_,[]=>some []
 |k,(i,x)::r=>match (f x).cells with
  |some cs=>match Sw cs,Yz sz f (k+1) r with
   |some ds,some rows=>if i=k∧ds.length=sz then some (ds::rows)else none
   |_,_=>none
  |none=>none
def tyOne (P:Program) (t:TypeId):Option (Nat×Nat):=
 match P.info? t with
 |some i=>match i.zero with
  |some z=>if z.cells.size=i.size∧0<i.size then some (i.size,i.bytes)else none
  |none=>none
 |none=>none
def Yw (P:Program) (m:Me) (f:Operand→AV) (dst:Option Nat) (op:Op):Option (AV×Eff×Prop):=
 match op with
 | .alloc t=>match dst,G5 P t with
  |some d,some z=>if Nat.ble 500 d then none else if AV.K6 (Z5 [d]) z then none else some (.ptr d 0,⟨[d],[(d,some (.blk t z))]⟩,True)
  |_,_=>none
 | .box t x=>match dst,(f x).cells with
  |some d,some cs=>if Nat.ble 500 d then none else if AV.K6 (Z5 [d]) cs then none else some (.ptr d 0,⟨[d],[(d,some (.blk t cs))]⟩,True)
  |_,_=>none
 | .buildSlice t len parts=>match dst,Ux P t with
  |some d,some (e,_)=>match tyOne P e with
   |some (sz,_)=>match Yz sz f 0 parts.toList with
    |some rows=>if Nat.ble 500 d then none else if rows.length=len∧len * sz≤16777216 then some (.arr d 0 len,⟨[d],[(d,some (.arr e sz rows))]⟩,True)else none
    |none=>none
   |none=>none
  |_,_=>none
 | .makeSlice t l c=>match dst,Ux P t,f l,f c with
  |some d,some (e,_),.d (.int n),.d (.int n')=>match tyOne P e,G5 P e with
   |some (sz,by_),some z=>match Sw z with
    |some zd=>if Nat.ble 500 d then none else some (.arr d 0 n.toNat,⟨[d],[(d,some (.arr e sz (List.replicate n.toNat zd)))]⟩,0≤n∧n'=n∧n * by_≤140737488355328∧n≤9223372036854775807)
    |none=>none
   |_,_=>none
  |_,_,_,_=>none
 | .store t p x=>match U4 P t,(f x).cells with
  |some (_,n),some cs=>if cs.length=n then (match Y3 m (f p) cs with
   |some (o,x')=>some (.any,⟨[],[(o,some x')]⟩,True)
   |none=>none)else none
  |_,_=>none
 | .call c=>match c.callee,c.args.toList,c.argTypes.toList with
  | .builtin .append,[a,b],[t,t']=>match dst,Ux P t with
   |some d,some (e,_)=>match tyOne P e with
    |some (sz,by_)=>match U0 m sz (f b)with
     |some (rows2,p)=>match f a with
      | .arr o 0 n=>match m o with
       |some (.arr e' sz' rows)=>if t=t'∧e'=e∧sz'=sz∧Nat.ble 1000 o=false then
         some (.arr o 0 (rows.length+rows2.length),⟨[o],[(o,some (.arr e sz (rows++rows2)))]⟩,p∧n=rows.length∧rows.length+rows2.length≤maxLen∧(rows.length+rows2.length) * by_≤140737488355328)else none
       |_=>none
      | .lit (.slice none 0 0)=>if t=t'∧Nat.ble 500 d=false then
        some (.arr d 0 rows2.length,⟨[d],[(d,some (.arr e sz rows2))]⟩,p∧rows2.length≤maxLen∧rows2.length * by_≤140737488355328)else none
      | .fl rows=>if t=t'∧Nat.ble 500 d=false then
        some (.arr d 0 (rows.length+rows2.length),⟨[d],[(d,some (.arr e sz (rows++rows2)))]⟩,p∧(∀(k:Nat) (r:List D),rows[k]? =some r→r.length=sz)∧0<rows2.length∧rows.length+rows2.length≤maxLen∧(rows.length+rows2.length) * by_≤140737488355328)else none
      |_=>none
     |none=>none
    |none=>none
   |_,_=>none
  |_,_,_=>match J3 P m f (.call c)with
   |some (v,p)=>some (v,⟨[],[]⟩,p)
   |none=>none
 |op=>match J3 P m f op with
  |some (v,p)=>some (v,⟨[],[]⟩,p)
  |none=>none
section
variable {P:Program} {C:Cx} {w:World} {ok:Nat→Prop} {g:Gh} {m:Me}
theorem ble_false {a b:Nat} (h:Nat.ble a b=false):b<a:=by
 rcases Nat.lt_or_ge b a with h1|h1
 ·exact h1
 ·rw[Nat.ble_eq_true_of_le h1]at h;cases h
theorem Fq {d:Nat} (h:Nat.ble 500 d=false):kept d=false:=by
 have:=ble_false h;unfold kept;rcases hk:Nat.ble 1000 d
 ·rfl
 ·have:=Nat.le_of_ble_eq_true hk;omega
theorem meEff_nil (m:Me):X5 m (Jw []) (Z5 []) (Q4 [])=m:=by
 funext i;have:(Qz.kill (Z5 ([]:List Nat)))=id:=funext fun x=>Qz.Pq (fun _=>rfl) x
 simp[X5,Jw,this]
theorem tyOne_inv {t:TypeId} {sz b:Nat} (h:tyOne P t=some (sz,b)):∃i z,P.info? t=some i∧i.zero=some z∧z.cells.size=i.size∧0<i.size∧i.size=sz∧i.bytes=b:=by
 unfold tyOne at h;split at h
 ·rename_i i hi;split at h
  ·rename_i z hz;split at h
   ·rename_i hc;simp at h;exact⟨i,z,hi,hz,hc.1,hc.2,h.1,h.2⟩
   ·cases h
  ·cases h
 ·cases h
theorem litRows_ok {f:Operand→AV} {ρ:Operand→Value} (hf:∀x,VR w ok g m (f x) (ρ x)) {sz:Nat}:∀(parts:List (Nat×Operand)) (k:Nat) (rows:List (List D)) (zs:Array Value),Yz sz f k parts=some rows→(k+parts.length) * sz≤zs.size→
  ∃vs:Array Value,Instr.fill (fun i=>some (i * sz,sz)) zs (parts.map fun x=>(x.1,ρ x.2))=some vs∧vs.size=zs.size∧rows.length=parts.length∧(∀(i:Nat) (r:List D),rows[i]? =some r→r.length=sz)∧(∀i,i<k * sz→vs[i]? =zs[i]?)∧
   ∀(i j:Nat) (r:List D) (d:D) (v:Value),rows[i]? =some r→r[j]? =some d→vs[(k+i) * sz+j]? =some v→Rep w ok d v
 |[],k,rows,zs,h,hs=>by
  simp[Yz]at h;subst h;exact⟨zs,rfl,rfl,rfl,by simp,fun _ _=>rfl,by simp⟩
 |(i,x)::parts,k,rows,zs,h,hs=>by
  unfold Yz at h;split at h
  ·rename_i cs hcs;split at h
   ·rename_i ds rows' hds hrows;split at h
    ·rename_i hik;obtain⟨rfl,hdl⟩:=hik;simp at h;subst h;have hv:=(hf x).cells hcs;obtain⟨k1,k2⟩:=toDs_ok hds;have hvl:=hv.1;simp at hvl;simp only[List.length_cons]at hs;have hs2:(i+1+parts.length) * sz≤zs.size:=by rw[show i+1+parts.length=i+(parts.length+1)from by omega];exact hs
     have hfit:i * sz+sz≤zs.size:=by
      have:(i+1) * sz≤(i+(parts.length+1)) * sz:=Nat.mul_le_mul_right _ (by omega);rw[Nat.add_mul]at this;omega
     let zs':=(ρ x).cells.zipIdx.foldl (fun cs (y:Value×Nat)=>cs.setIfInBounds (i * sz+y.2) y.1) zs
     have hzl:zs'.toList=setAt zs.toList (i * sz) (ρ x).cells.toList:=foldl_set (i * sz) (ρ x).cells zs;have hzs:zs'.size=zs.size:=by
      have:=congrArg List.length hzl;rw[D5]at this;simpa using this
     obtain⟨vs,h1,h2,h3,h4,h5,h6⟩:=litRows_ok hf parts (i+1) rows' zs' hrows (by rw[hzs];exact hs2);refine⟨vs,?_,by rw[h2,hzs],by simpa using h3,fun a r hr=>?_,fun a ha=>?_,fun a j r d v hr hd hv'=>?_⟩
     ·simp only[List.map_cons,Instr.fill];rw[if_neg (by simp;omega)];exact h1
     ·rcases a with _|a
      ·simp at hr;subst hr;exact hdl
      ·exact h4 a r (by simpa using hr)
     ·have:i * sz≤(i+1) * sz:=Nat.mul_le_mul_right _ (by omega);rw[h5 a (by omega),←Array.getElem?_toList,hzl,Nk _ _ _ (by simp;omega),List.getElem?_append,List.getElem?_append];simp only[List.length_append,List.length_take,Array.length_toList];rw[Nat.min_eq_left (by omega),if_pos (by omega),if_pos (by omega),List.getElem?_take,if_pos (by omega)];simp
     ·rcases a with _|a
      ·simp at hr;subst hr;have hj:j<sz:=by have:=(List.getElem?_eq_some_iff.1 hd).1;omega
       rw[Nat.add_zero]at hv';have e1:(i+1) * sz=i * sz+sz:=by rw[Nat.add_mul];omega
       rw[h5 _ (by omega),←Array.getElem?_toList,hzl,Nk _ _ _ (by simp;omega),List.getElem?_append,List.getElem?_append]at hv';simp only[List.length_append,List.length_take,Array.length_toList]at hv';rw[Nat.min_eq_left (by omega),if_pos (by omega),if_neg (by omega)]at hv';rw[show i * sz+j-i * sz=j from by omega]at hv';have hjc:cs[j]? =some (cs[j]'(by omega)):=List.getElem?_eq_getElem _;exact toD1_ok (k2 j _ d hjc hd) (hv.2.1 j _ v hjc hv')
      ·exact h6 a j r d v (by simpa using hr) hd (by rw[show i+1+a=i+(a+1)from by omega];exact hv')
    ·cases h
   ·cases h
  ·cases h
theorem effOp_ok {s:AS} {a:Act} {o:Oper} (h:St C s a w) {c:AV} {e:Eff} {p:Prop} (he:Yw P (Q4 s.mem) (evA s.fr) o.dst o.op=some (c,e,p)) (hp:p) (hd:∀d,o.dst=some d→d<s.n):
  ∃v w',((execOp a.eval o).run P w= .ok (.value v) w'∨((execOp a.eval o).run P w= .ok .skip w'∧v=undef))∧St C (s.after o.dst c e) (a.put o.dst v) w':=by
 obtain⟨ok,g,hM,hs,hdf,hf⟩:=h;have hev:∀x,VR w ok g (Q4 s.mem) (evA s.fr x) (a.eval x):=Qq0 hf;have pure:∀{op:Op},o.op=op→(match J3 P (Q4 s.mem) (evA s.fr) op with|some (v,p)=>some (v,(⟨[],[]⟩:Eff),p)|none=>none)=some (c,e,p)→
   ∃v w',((execOp a.eval o).run P w= .ok (.value v) w'∨((execOp a.eval o).run P w= .ok .skip w'∧v=undef))∧St C (s.after o.dst c e) (a.put o.dst v) w':=fun {op} ho h=>by
  split at h
  ·rename_i v p' hpo;simp only[Option.some.injEq,Prod.mk.injEq]at h;obtain⟨rfl,rfl,rfl⟩:=h;rw[←ho]at hpo;obtain⟨v,hv,hr⟩:=pureOp_ok hM hev hpo hp;refine⟨v,w,.inl hv,St.after (ok:=ok) (g:=g) (ok':=ok) (g':=g) hs hdf hf o.dst hd _ v ⟨[],[]⟩ ?_ (fun _=>?_)⟩
   ·rw[meEff_nil];exact⟨hM,fun c v _ h=>h⟩
   ·rw[meEff_nil];exact hr
  ·cases h
 obtain⟨dst,op,ty,pos,after,guard⟩:=o;dsimp only at he hd pure⊢;unfold Yw at he;split at he
 ·rename_i t;split at he
  ·rename_i d z hz;split at he
   ·cases he
   ·rename_i hsm;split at he
    ·cases he
    ·rename_i hzl;simp only[Option.some.injEq,Prod.mk.injEq]at he;obtain⟨rfl,rfl,rfl⟩:=he;obtain⟨zv,hzv,hzr⟩:=tyZero_ok hz w;have hsm':Nat.ble 500 d=false:=by rw[←Bool.not_eq_true];exact hsm
     obtain⟨g',k1,_,k2⟩:=MS.new hM d (Fq hsm') t zv.cells (.blk t z) 0 ⟨rfl,hzr w ok g _,by simpa using hzl⟩;refine⟨.pointer (some ⟨w.heap.size,0,none⟩),_,.inl ?_,St.after hs hdf hf (some d) hd _ _ ⟨[d],[(d,some (.blk t z))]⟩ k2 (fun _=>.ptr _ _ _ rfl fun x hx=>⟨_,k1,rfl⟩)⟩;simp only[execOp,Instr.alloc,Sem.run_bind,hzv,Result.andThen_ok,newVar,newRow,run_newObj,Sem.run_pure];rfl
  ·cases he
 ·rename_i t x;split at he
  ·rename_i d cs hcs;split at he
   ·cases he
   ·rename_i hsm;split at he
    ·cases he
    ·rename_i hzl;simp only[Option.some.injEq,Prod.mk.injEq]at he;obtain⟨rfl,rfl,rfl⟩:=he;have hsm':Nat.ble 500 d=false:=by rw[←Bool.not_eq_true];exact hsm
     obtain⟨g',k1,_,k2⟩:=MS.new hM d (Fq hsm') t (a.eval x).cells (.blk t cs) 0 ⟨rfl,(hev x).cells hcs,by simpa using hzl⟩;refine⟨.pointer (some ⟨w.heap.size,0,none⟩),_,.inl ?_,St.after hs hdf hf (some d) hd _ _ ⟨[d],[(d,some (.blk t cs))]⟩ k2 (fun _=>.ptr _ _ _ rfl fun x hx=>⟨_,k1,rfl⟩)⟩;simp only[execOp,Instr.box,Sem.run_bind,Result.andThen_ok,newVar,newRow,run_newObj,Sem.run_pure];rfl
  ·cases he
 ·rename_i t len parts;split at he
  ·rename_i d e' sz0 hty;split at he
   ·rename_i sz bb hone;split at he
    ·rename_i rows hrows;split at he
     ·cases he
     ·rename_i hsm;split at he
      ·rename_i hlen;simp only[Option.some.injEq,Prod.mk.injEq]at he;obtain⟨rfl,rfl,rfl⟩:=he;have hsm':Nat.ble 500 d=false:=by rw[←Bool.not_eq_true];exact hsm
       obtain⟨hu,i0,hi0,_⟩:=Bw hty;obtain⟨i,z,hi,hz,hzs,hpos,rfl,rfl⟩:=tyOne_inv hone;obtain⟨hl1,hl2⟩:=hlen;have hrl:rows.length=parts.size:=by
        have:∀(l:List (Nat×Operand)) (k:Nat) (rows:List (List D)),Yz i.size (evA s.fr) k l=some rows→rows.length=l.length:=fun l=>by
         induction l with
         |nil=>intro k rows h;simp[Yz]at h;subst h;rfl
         |cons q l ih=>
          intro k rows h;obtain⟨q1,q2⟩:=q;unfold Yz at h;split at h
          ·split at h
           ·rename_i ds rows' hds hrows;split at h
            ·simp at h;subst h;simp[ih _ _ hrows]
            ·cases h
           ·cases h
          ·cases h
        simpa using this _ _ _ hrows
       obtain⟨vs,f1,f2,f3,f4,_,f6⟩:=litRows_ok hev parts.toList 0 rows ((Array.range (len * i.size)).map ((if len * i.size=0 then #[]else z.cells)[· % (if len * i.size=0 then #[]else z.cells).size]!)) hrows (by simp;rw[←hrl,hl1];exact Nat.le_refl _);have hvs:vs.size=len * i.size:=by rw[f2];simp
       obtain⟨g',k1,k3,k2⟩:=MS.new hM d (Fq hsm') e' vs (.arr e' i.size rows) len ⟨rfl,hpos,f4,by omega,by
        have:len≤16777216:=Nat.le_trans (Nat.le_mul_of_pos_right _ hpos) hl2;rw[maxLen_eq0];omega,hvs,fun a b r c v hr hc hv=>f6 a b r c v hr hc (by simpa using hv)⟩
       refine⟨.slice (some ⟨w.heap.size,0,none⟩) len len,_,.inl ?_,St.after hs hdf hf (some d) hd _ _ ⟨[d],[(d,some (.arr e' i.size rows))]⟩ k2 (fun _=>.arr _ _ _ _ rfl fun e2 sz2 rows2 hx=>?_)⟩
       ·have f1':Instr.fill (fun k=>some (k * i.size,i.size)) ((Array.range (len * i.size)).map ((if len * i.size=0 then #[]else z.cells)[· % (if len * i.size=0 then #[]else z.cells).size]!)) (parts.map fun(i,x)=>(i,a.eval x)).toList=some vs:=by
         rw[←f1];congr 1;simp
        have hszr:(sizeOf e').run P w= .ok i.size w:=by simp[sizeOf,typeInfo,hi]
        have hzr:(zeroValue e').run P w= .ok z w:=by simp[zeroValue,typeInfo,hi,hz]
        simp only[execOp,Instr.buildSlice,Sem.run_bind,run_underlying hu,Result.andThen_ok,hszr];rw[if_neg (by omega)];by_cases hz0:len * i.size=0
        ·rw[if_pos hz0]at f1'⊢;simp only[Sem.run_bind,Sem.run_pure,Result.andThen_ok,f1',newRow,run_newObj];rfl
        ·rw[if_neg hz0]at f1'⊢;simp only[Sem.run_bind,Sem.run_pure,Result.andThen_ok,hzr,f1',newRow,run_newObj];rfl
       ·simp only[X5,Z9,beq_self_eq_true,if_true,Q4]at hx;cases hx;refine⟨by omega,.inr (.inl ⟨_,k1,?_⟩)⟩;rw[k3];simp
      ·cases he
    ·cases he
   ·cases he
  ·cases he
 ·rename_i t l c0;split at he
  ·rename_i d e' sz0 n n' hty hl hc;split at he
   ·rename_i sz bb z hone hz;split at he
    ·rename_i zd hzd;split at he
     ·cases he
     ·rename_i hsm;simp only[Option.some.injEq,Prod.mk.injEq]at he;obtain⟨rfl,rfl,rfl⟩:=he;have hsm':Nat.ble 500 d=false:=by rw[←Bool.not_eq_true];exact hsm
      obtain⟨hn0,rfl,hnb,hnm⟩:=hp;obtain⟨hu,i0,hi0,_⟩:=Bw hty;obtain⟨i,zv0,hi,hz0,hzs,hpos,rfl,rfl⟩:=tyOne_inv hone;obtain⟨zv,hzv,hzr⟩:=tyZero_ok hz w;have hzveq:zv=zv0:=by
       have:(zeroValue e').run P w= .ok zv0 w:=by simp[zeroValue,typeInfo,hi,hz0]
       rw[hzv]at this;exact(Result.ok.inj this).1
      subst hzveq;obtain⟨k1,k2⟩:=toDs_ok hzd;have hzl:=(hzr w ok g (Q4 s.mem)).1;simp at hzl
      let zs:=(if n'.toNat * i.size=0 then #[]else zv.cells)
      let vs:=(Array.range (n'.toNat * i.size)).map (zs[· % zs.size]!)
      have hvs:vs.size=n'.toNat * i.size:=by simp[vs]
      have hcell:∀(a b:Nat) (r:List D) (c:D) (v:Value),(List.replicate n'.toNat zd)[a]? =some r→r[b]? =some c→vs[a * i.size+b]? =some v→Rep w ok c v:=fun a b r c v hr hcc hv=>by
       have ha:a<n'.toNat:=by have:=(List.getElem?_eq_some_iff.1 hr).1;simpa using this
       have hr':r=zd:=by rw[List.getElem?_replicate,if_pos ha]at hr;exact(Option.some.inj hr).symm
       subst hr';have hb:b<i.size:=by have:=(List.getElem?_eq_some_iff.1 hcc).1;omega
       have hne:¬n'.toNat * i.size=0:=by
        have:=Nat.mul_pos (show 0<n'.toNat by omega) hpos;omega
       have hzs':zs=zv.cells:=by simp[zs,hne]
       have hlt:a * i.size+b<n'.toNat * i.size:=by
        have:(a+1) * i.size≤n'.toNat * i.size:=Nat.mul_le_mul_right _ ha;rw[Nat.add_mul]at this;omega
       have e1:(a * i.size+b) % zv.cells.size=b:=by rw[hzs];exact(idx_div' hb).2
       have e2:vs[a * i.size+b]? =some (zv.cells[b]'(by omega)):=by
        simp only[vs,hzs',Array.getElem?_map];rw[Array.getElem?_eq_getElem (by simpa using hlt)];simp[e1,show b<zv.cells.size by omega]
       rw[e2]at hv;obtain rfl:=Option.some.inj hv;have hbz:z[b]? =some (z[b]'(by omega)):=List.getElem?_eq_getElem _;exact toD1_ok (k2 b _ c hbz hcc) ((hzr w ok g (Q4 s.mem)).2.1 b _ _ hbz (by simp[show b<zv.cells.size by omega]))
      have hmax:n'.toNat≤maxLen:=by rw[maxLen_eq0];omega
      obtain⟨g',q1,q3,q2⟩:=MS.new hM d (Fq hsm') e' vs (.arr e' i.size (List.replicate n'.toNat zd)) n'.toNat ⟨rfl,hpos,fun a r hr=>by
       have ha:a<n'.toNat:=by have:=(List.getElem?_eq_some_iff.1 hr).1;simpa using this
       rw[List.getElem?_replicate,if_pos ha]at hr;obtain rfl:=Option.some.inj hr;omega,by simp,hmax,hvs,hcell⟩
      have hl':=hev l;rw[hl]at hl';have hc':=hev c0;rw[hc]at hc';refine⟨.slice (some ⟨w.heap.size,0,none⟩) n'.toNat n'.toNat,_,.inl ?_,St.after hs hdf hf (some d) hd _ _ ⟨[d],[(d,some (.arr e' i.size (List.replicate n'.toNat zd)))]⟩ q2 (fun _=>.arr _ _ _ _ rfl fun e2 sz2 rows2 hx=>?_)⟩
      ·have hw:=Bj (n:=n') ⟨by omega,hnm⟩;have hbb:(i.bytes:Int) * n'≤140737488355328:=by rw[Int.mul_comm];exact hnb
       have hszr:(sizeOf e').run P w= .ok i.size w:=by simp[sizeOf,typeInfo,hi]
       have hinf:(typeInfo e').run P w= .ok i w:=by simp[typeInfo,hi]
       simp only[execOp,Instr.makeSlice,hl'.Zv.J7.1,hc'.Zv.J7.1,Sem.run_bind,run_underlying hu,Result.andThen_ok,asInt,asIntOf,Sem.run_pure,hinf,hw];have hc1:(decide (n'<0)||decide ((i.bytes:Int) * n' > 2 ^ 48))=false:=by
        simp only[Bool.or_eq_false_iff,decide_eq_false_iff_not];exact⟨by omega,by omega⟩
       have hc2:((decide (n'<0)||decide ((i.bytes:Int) * n' > 2 ^ 48))||decide (n'<0)||decide (n' > n'))=false:=by
        rw[hc1];simp;omega
       rw[if_neg (by simpa using hc2)];by_cases hz1:n'.toNat * i.size=0
       ·simp only[Sem.run_bind,run_askRoom,Result.andThen_ok,hszr,Sem.run_pure,if_pos hz1,newRow,run_newObj];simp only[vs,zs,if_pos hz1];rfl
       ·simp only[Sem.run_bind,run_askRoom,Result.andThen_ok,hszr,Sem.run_pure,if_neg hz1,hzv,newRow,run_newObj];simp only[vs,zs,if_neg hz1];rfl
      ·simp only[X5,Z9,beq_self_eq_true,if_true,Q4]at hx;cases hx;refine⟨by simp,.inr (.inl ⟨_,q1,?_⟩)⟩;rw[q3];simp
    ·cases he
   ·cases he
  ·cases he
 ·rename_i t pp x;split at he
  ·rename_i b n cs hty hcs;split at he
   ·rename_i hcl;split at he
    ·rename_i o x' hwr;simp only[Option.some.injEq,Prod.mk.injEq]at he;obtain⟨rfl,rfl,rfl⟩:=he;have hv:=(hev x).cells hcs;obtain⟨b,off,w',hpv,hst,k⟩:=MS.wr (P:=P) hM hwr (hev pp) hv;refine⟨undef,w',.inr ⟨?_,rfl⟩,St.after hs hdf hf dst hd .any undef ⟨[],[(o,some x')]⟩ k (fun _=>.any _)⟩;have hl:=hv.1;simp at hl;have hszr:=(run_isAgg hty w).2;have hne:¬(a.eval x).cells.size≠n:=by omega
     simp only[execOp,Instr.storeAt,hpv,Instr.sureAddr,Sem.run_bind,Sem.run_pure,Result.andThen_ok,storeVar,hszr,if_neg hne,hst]
    ·cases he
   ·cases he
  ·cases he
 ·rename_i cc;split at he
  ·rename_i sa sb t t' hcal hargs htys;obtain⟨callee,args,argTypes⟩:=cc;dsimp only at hcal hargs htys;subst hcal;have ha:args= #[sa,sb]:=by rw[←Array.toArray_toList (xs:=args),hargs]
   have hty:argTypes= #[t,t']:=by rw[←Array.toArray_toList (xs:=argTypes),htys]
   subst ha hty;split at he
   ·rename_i d e' sz0 htel;obtain⟨hu,i0,hi0,_⟩:=Bw htel;split at he
    ·rename_i sz bb hone;obtain⟨i,z,hi,hz,hzs,hpos,rfl,rfl⟩:=tyOne_inv hone;split at he
     ·rename_i rows2 p' hsrc;have hx:=hev sa;split at he
      ·rename_i o n ex;rw[ex]at hx;split at he
       ·rename_i e2 sz2 rows hm;split at he
        ·rename_i hc;obtain⟨rfl,rfl,rfl,hko⟩:=hc;simp only[Option.some.injEq,Prod.mk.injEq]at he;obtain⟨rfl,rfl,rfl⟩:=he;obtain⟨hp1,hp2,hp3,hp4⟩:=hp;subst hp2;obtain⟨q1,A,cc',news,q2,q3,q4,q5,q6⟩:=srcRows_ok hM hsrc hp1 (hev sb);obtain⟨h0,h1,h2⟩:=hM.obj o _ hm;obtain⟨h3,h4⟩:=hx.Qv4 hm;have hgo:∃xs,w.ownsRow 0 e2 i.size (a.eval sa) rows.length xs∧(∀b,(a.eval sa).ownBlock=some b→g.bl o=some b∧∃x,Q4 s.mem o=some x)∧
           ∀(k j:Nat) (r:List D) (d:D) (u:Value),rows[k]? =some r→r[j]? =some d→xs[k * i.size+j]? =some u→Rep w ok d u:=by
          rcases h2 with⟨hb,rfl⟩|⟨b,cur,hb,hw,hc1,hc2,hc3,hc4⟩
          ·rcases h4 with⟨_,hv,_⟩|⟨b,hb',_⟩|⟨h5,_⟩
           ·exact⟨[],by rw[hv];exact World.ownsRow_nil w 0 e2 i.size,(fun b hb=>by rw[hv]at hb;cases hb),by simp⟩
           ·rw[hb]at hb';cases hb'
           ·omega
          ·rcases h4 with⟨hb',_⟩|⟨b',hb',hv⟩|⟨h5,_⟩
           ·rw[hb]at hb';cases hb'
           ·rw[hb]at hb';obtain rfl:=Option.some.inj hb';simp only[Nat.zero_mul,Nat.sub_zero]at hv;refine⟨cur.toList.take (rows.length * i.size),⟨?_,.inr ⟨b,g.cp o,cur,hv,Nat.zero_le _,hw,hc1,hc2,hc3,rfl⟩⟩,(fun b' hb'=>?_),(fun k j r d u hr hd hu=>?_)⟩
            ·have:rows.length * i.size≤g.cp o * i.size:=Nat.mul_le_mul_right _ hc1;simp;omega
            ·rw[hv]at hb';simp[Value.ownBlock]at hb';subst hb';exact⟨hb,_,hm⟩
            ·rw[List.getElem?_take]at hu;split at hu
             ·exact hc4 k j r d u hr hd (by simpa using hu)
             ·cases hu
           ·omega
         obtain⟨xs,g1,g2,g3⟩:=hgo;have hk:kept o=false:=hko;obtain⟨v',w',g',r1,r2,r3,r4⟩:=MS.app (P:=P) (tr:=ty) (cc:=cc') hM o hk hu hi hz hzs hpos g1 g2 rfl h1 g3 q1 q3 q4 q5 q6 hp3 hp4;refine⟨v',w',.inl ?_,St.after hs hdf hf (some d) hd _ _ ⟨[o],[(o,some (.arr e2 i.size (rows++rows2)))]⟩ ⟨r2,r3⟩ (fun _=>r4)⟩;simp only[execOp,resolve,invoke,builtin,Sem.run_bind,Sem.run_pure,Result.andThen_ok,List.map_toArray,List.map_cons,List.map_nil,q2,r1]
        ·cases he
       ·cases he
      ·rename_i ex;rw[ex]at hx;split at he
       ·rename_i hc;obtain⟨rfl,hsm⟩:=hc;simp only[Option.some.injEq,Prod.mk.injEq]at he;obtain⟨rfl,rfl,rfl⟩:=he;obtain⟨hp1,hp3,hp4⟩:=hp;obtain⟨q1,A,cc',news,q2,q3,q4,q5,q6⟩:=srcRows_ok hM hsrc hp1 (hev sb);have hv:=hx.Wv.1;obtain⟨v',w',g',r1,r2,r3,r4⟩:=MS.app (P:=P) (tr:=ty) (cc:=cc') (rows:=[]) (v:=a.eval sa) (n:=0) (xs:=[]) hM d (Fq hsm) hu hi hz hzs hpos (by rw[hv];exact World.ownsRow_nil w 0 e' i.size) (fun b hb=>by rw[hv]at hb;cases hb) rfl (by simp) (by simp) q1 q3 q4 q5 q6 (by simpa using hp3) (by simpa using hp4);simp only[List.nil_append,List.length_nil,Nat.zero_add]at r2 r3 r4;refine⟨v',w',.inl ?_,St.after hs hdf hf (some d) hd _ _ ⟨[d],[(d,some (.arr e' i.size rows2))]⟩ ⟨r2,r3⟩ (fun _=>r4)⟩;simp only[execOp,resolve,invoke,builtin,Sem.run_bind,Sem.run_pure,Result.andThen_ok,List.map_toArray,List.map_cons,List.map_nil,q2,r1]
       ·cases he
      ·rename_i rows ex;rw[ex]at hx;split at he
       ·rename_i hc;obtain⟨rfl,hsm⟩:=hc;simp only[Option.some.injEq,Prod.mk.injEq]at he;obtain⟨rfl,rfl,rfl⟩:=he;obtain⟨hp1,hp5,hp2,hp3,hp4⟩:=hp;obtain⟨q1,A,cc',news,q2,q3,q4,q5,q6⟩:=srcRows_ok hM hsrc hp1 (hev sb);obtain⟨⟨a0,hv⟩,hR⟩:=hx.fl_inv;rw[hv]at hR;obtain⟨xs,n1,n2,n3,n4⟩:=hR.news hp5;obtain⟨v',w',g',r1,r2,r3,r4⟩:=MS.app0 (P:=P) (tr:=ty) (cc:=cc') (v:=a.eval sa) (ob:=none) hM d (Fq hsm) hu hi hz hzs hpos n1 (fun b hb=>by cases hb) rfl hp5 n4 q1 q3 q4 q5 q6
         (by rw[hv];exact run_append_full w t ty e' i z hu hi hz hzs hpos a0 rows.length xs n1 n2 A rows2.length cc' news q3 q4 q5 hp2 hp3 hp4)
        refine⟨v',w',.inl ?_,St.after hs hdf hf (some d) hd _ _ ⟨[d],[(d,some (.arr e' i.size (rows++rows2)))]⟩ ⟨r2,r3⟩ (fun _=>r4)⟩;simp only[execOp,resolve,invoke,builtin,Sem.run_bind,Sem.run_pure,Result.andThen_ok,List.map_toArray,List.map_cons,List.map_nil,q2,r1]
       ·cases he
      ·cases he
     ·cases he
    ·cases he
   ·cases he
  ·exact pure rfl he
 ·exact pure rfl he
end
end Go.Proofs.YtjpldhjgehoffaaGreatDoor
namespace Go.Proofs.YtjpldhjgehoffaaGreatDoor
open Go.RowKit
set_option linter.unusedVariables false
def oneM (d:Nat) (x:Option Qz):Me:=fun i=>if d==i then x else none
def noM:Me:=fun _=>none
def noG:Gh:=⟨fun _=>none,fun _=>0⟩
structure Z4 (P:Program) (k:Nat) (args:List AV) (r:Nat→AV) (x:Option Qz):Prop where
 ent:∃fn,P.funcs[k]? =some fn∧(fn.name== "runtime.NumGoroutine")=false∧fn.body.isNone=false
 rcl:∀d,(r d).has (fun i=>!(d==i))=false
 nil:x=none→∀d,(r d).has (fun _=>true)=false
 arr:∀y,x=some y→∃e sz rows,y= .arr e sz rows
 run:∀(d:Nat) (w:World) (ok:Nat→Prop) (vals:Array Value),GI w→(∀b,ok b→b<w.heap.size)→args.length=vals.size→(∀(i:Nat) (c:AV) (v:Value),args[i]? =some c→vals[i]? =some v→VR w ok noG noM c v)→
  Calls P k vals w fun e w'=>∃v ok' g',e= .returned v∧Below w.heap.size w w'∧(∀b,ok b→ok' b)∧(∀b,ok' b→ok b∨(w.heap.size≤b∧b<w'.heap.size))∧VR w' ok' g' (oneM d x) (r d) v∧
   (∀y,x=some y→OR w' ok' g' (oneM d x) d y∧∀b,g'.bl d=some b→¬ok' b∧w.heap.size≤b∧b<w'.heap.size)
theorem VR.toNo {w:World} {ok:Nat→Prop} {g g':Gh} {m:Me} {c:AV} {v:Value} (h:VR w ok g m c v):VR w ok g' noM c v:=
 h.mono (fun _=>false) (AV.V3 (fun _=>rfl) c) (fun _ _=>rfl) (fun _ h=>h) fun o x' _ hx'=>by cases hx'
def J4 (d:Nat) (x:Option Qz):Eff:=match x with|some y=>⟨[d],[(d,some y)]⟩|none=>⟨[],[]⟩
theorem Z4.step {P:Program} {C:Cx} {k:Nat} {args:List AV} {r:Nat→AV} {x:Option Qz} (hS:Z4 P k args r x) {s:AS} {a:Act} {w:World} {ok:Nat→Prop} {g:Gh} (hM:MS C w ok g (Q4 s.mem)) (hs:a.tmps.size=s.n) (hdf:a.defers=[])
  (hf:∀t,VR w ok g (Q4 s.mem) (Zj s.fr t) (a.tmps.getD t undef)) (dst:Option Nat) (hd:∀d,dst=some d→d<s.n) (d:Nat) (hdd:x≠none→Nat.ble 500 d=false)
  {vals:Array Value} (hl:args.length=vals.size) (hv:∀(i:Nat) (c:AV) (v:Value),args[i]? =some c→vals[i]? =some v→VR w ok g (Q4 s.mem) c v):
  Calls P k vals w fun e w'=>∃v,e= .returned v∧St C (s.after dst (r d) (J4 d x)) (a.put dst v) w':=by
 refine(hS.run d w ok vals hM.giw (fun b hb=>(hM.okb b hb).1) hl (fun i c v hc hvi=>(hv i c v hc hvi).toNo)).mono ?_;rintro e w' ⟨v,ok',g',rfl,hb,hok,hokn,hr,hx⟩;refine⟨v,rfl,?_⟩;have hokc:∀b,ok b→w'.heap[b]? =w.heap[b]?:=fun b h=>hb.block b (hM.okb b h).1
 let g2:Gh:=⟨fun i=>if (d==i && x.isSome)=true then g'.bl d else g.bl i,fun i=>if (d==i && x.isSome)=true then g'.cp d else g.cp i⟩
 have hUd:∀i,Jw (J4 d x).ws i=(d==i && x.isSome):=fun i=>by
  cases x with
  |none=>simp[J4,Jw]
  |some y=>simp[J4,Z9]
 have hqd:∀i,Z5 (J4 d x).q i=(d==i && x.isSome):=fun i=>by
  cases x with
  |none=>simp[J4,Z5]
  |some y=>simp[J4,Kw]
 have hNd:∀i y,Q4 (J4 d x).ws i=some y→d=i∧x=some y:=fun i y hy=>by
  cases x with
  |none=>cases hy
  |some z=>
   simp only[J4,Q4]at hy;split at hy
   ·rename_i h;exact⟨by simpa using h,hy⟩
   ·cases hy
 have hdi:∀i,(d==i && x.isSome)=true→d=i∧x≠none:=fun i hi=>by
  simp only[Bool.and_eq_true,beq_iff_eq]at hi;exact⟨hi.1,by rintro rfl;simp at hi⟩
 have hMS:=MS.eff (w':=w') (ok':=ok') (g':=g2) hM (Jw (J4 d x).ws) (Z5 (J4 d x).q) (Q4 (J4 d x).ws)
  (fun i hi=>by rw[hqd]at hi;rw[hUd];exact hi)
  (fun i y hU hN=>by
   obtain⟨rfl,hxy⟩:=hNd i y hN;obtain⟨e,sz,rows,rfl⟩:=hS.arr y hxy;have hss:x.isSome=true:=by rw[hxy];rfl
   refine(hx _ hxy).1.mono (fun _=>true) trivial (fun _ _=>rfl) (by simp[g2,hss]) (by simp[g2,hss]) (fun _ _=>rfl) (fun _ h=>h) (fun i y hi hy=>by cases hi))
  (fun i hq=>by rw[hqd]at hq;simp[g2,hq])
  (fun i y hU hq hN=>by rw[hUd]at hU;rw[hqd]at hq;rw[hU]at hq;cases hq)
  (fun i y b hU hy hbi=>hb.block b (hM.own i y b hy hbi).2.1)
  hokc hok
  (fun b hb'=>by
   rcases hokn b hb' with h|⟨h1,h2⟩
   ·exact .inl h
   ·refine .inr ⟨h2,by have:=hM.size;omega,fun i y _ hy hbi=>?_⟩;have:=(hM.own i y b hy hbi).2.1;omega)
  (fun i y b hU hN hbi=>by
   obtain⟨rfl,hxy⟩:=hNd i y hN;have hss:x.isSome=true:=by rw[hxy];rfl
   have hbd:g'.bl d=some b:=by simpa[g2,hss]using hbi
   obtain⟨k1,k2,k3⟩:=(hx y hxy).2 b hbd;refine⟨k1,k3,.inl (by have:=hM.size;omega),fun j xj hUj hj hbj=>?_,fun j xj hUj _ _=>?_⟩
   ·have:=(hM.own j xj b hj hbj).2.1;omega
   ·rw[hUd]at hUj;exact(hdi j hUj).1)
  (fun i hi=>by
   rw[hqd]at hi;obtain⟨rfl,hne⟩:=hdi i hi;exact Fq (hdd hne))
  hb.size
  (fun b hbs _=>hb.block b (by have:=hM.size;omega))
  hb.os hb.tape hb.output
 refine St.after (ok':=ok') (g':=g2) hs hdf hf dst hd (r d) v (J4 d x) hMS (fun _=>?_);cases hx0:x with
 |none=>
  subst hx0;exact hr.mono (fun _=>true) (hS.nil rfl d) (fun _ _=>rfl) (fun _ h=>h) (fun o x' hq _=>by cases hq)
 |some y=>
  subst hx0;refine hr.mono (fun i=>!(d==i)) (hS.rcl d) (fun _ _=>rfl) (fun _ h=>h) (fun o x' hq hx'=>?_);have e2:d=o:=by simpa using hq
  subst e2;simp only[J4,X5,Z9,beq_self_eq_true,if_true,Q4]at hx';exact⟨x',by simpa[oneM]using hx',Qz.D9 _,by simp[g2],by simp[g2]⟩
def Jq:AV→Option (Nat×List AV)
 | .d (.fn k)=>some (k,[])
 | .clo k cap=>some (k,cap)
 |_=>none
abbrev PHint:=(Nat→AV)×Option Qz
def doOp (P:Program) (s:AS) (o:Oper) (hs:List PHint):Option (AS×Prop×List PHint):=
 match Yw P (Q4 s.mem) (evA s.fr) o.dst o.op with
 |some (c,e,p)=>some (s.after o.dst c e,p,hs)
 |none=>match o.op,hs with
  | .call cc,(r,x)::hs=>match cc.callee with
   | .value f=>match Jq (evA s.fr f)with
    |some (k,cap)=>
     let d:=o.dst.getD 0
     if x.isSome && Nat.ble 500 d then none else
     some (s.after o.dst (r d) (J4 d x),Z4 P k (cc.args.toList.map (evA s.fr)++cap) r x,hs)
    |none=>none
   |_=>none
  |_,_=>none
def Rw (s:AS) (o:Oper):Bool:=match o.dst with|some d=>Nat.ble (d+1) s.n|none=>true
theorem doOp_ok {P:Program} {C:Cx} {s s':AS} {o:Oper} {h h':List PHint} {p:Prop} (hd:Rw s o=true) (he:doOp P s o h=some (s',p,h')) (hp:p) {a:Act} {w:World} (hst:St C s a w) {K:Act→World→Prop} {Q:Exit→Act→World→Prop} (hK:∀a w,St C s' a w→K a w):o.wp P a w K Q:=by
 have hd':∀d,o.dst=some d→d<s.n:=fun d h=>by
  simp only[Rw,h]at hd;exact Nat.lt_of_succ_le (Nat.le_of_ble_eq_true hd)
 unfold doOp at he;split at he
 ·rename_i c e p' heff;simp only[Option.some.injEq,Prod.mk.injEq]at he;obtain⟨rfl,rfl,rfl⟩:=he;obtain⟨v,w',hrun,hst'⟩:=effOp_ok hst heff hp hd';unfold Oper.wp;rcases hrun with hrun|⟨hrun,rfl⟩
  ·rw[hrun];exact hK _ _ hst'
  ·rw[hrun];exact hK _ _ hst'
 ·split at he
  ·rename_i cc r x hs' hop;split at he
   ·rename_i f hcal;split at he
    ·rename_i k cap hk;dsimp only at he;split at he
     ·cases he
     ·rename_i hx;simp only[Option.some.injEq,Prod.mk.injEq]at he;obtain⟨rfl,rfl,rfl⟩:=he;obtain⟨ok,g,hM,hs,hdf,hf⟩:=hst;have hev:∀x,VR w ok g (Q4 s.mem) (evA s.fr x) (a.eval x):=Qq0 hf;obtain⟨fn,hfn,hnm,hbd⟩:=hp.ent;have hnm':¬fn.name= "runtime.NumGoroutine":=by simpa using hnm
      have hbd':¬fn.body=none:=fun e=>by rw[e]at hbd;cases hbd
      have hcf:=hev f;obtain⟨capv,hcv,hcl,hcr⟩:∃capv:Array Value,a.eval f= .func (.func k) #[] capv∧cap.length=capv.size∧∀(i:Nat) (c:AV) (v:Value),cap[i]? =some c→capv[i]? =some v→VR w ok g (Q4 s.mem) c v:=by
       unfold Jq at hk;split at hk
       ·rename_i k' ek;rw[ek]at hcf;simp only[Option.some.injEq,Prod.mk.injEq]at hk;obtain⟨rfl,rfl⟩:=hk;have hcf':=hcf.Zv;generalize a.eval f=vv at hcf'⊢;cases hcf' with
        |fn f=>exact⟨#[],rfl,rfl,by simp⟩
       ·rename_i k' cap' ek;rw[ek]at hcf;simp only[Option.some.injEq,Prod.mk.injEq]at hk;obtain⟨rfl,rfl⟩:=hk;obtain⟨vs,h1,h2,h3⟩:=hcf.clo_inv;exact⟨vs,h1,h2,h3⟩
       ·cases hk
      obtain⟨hal,har⟩:=VR.map hev cc.args;have hcall:=hp.step hM hs hdf hf o.dst hd' (o.dst.getD 0) (fun hne=>by
       cases x with
       |none=>exact absurd rfl hne
       |some y=>
        rcases hb:Nat.ble 500 (o.dst.getD 0)
        ·rfl
        ·simp[hb]at hx) (vals:=cc.args.map a.eval++capv) (by simp[hcl]) (fun i c v hc hv=>by
       rw[List.getElem?_append]at hc;rw[Array.getElem?_append]at hv;simp only[List.length_map,Array.length_toList]at hc;simp only[Array.size_map]at hv;split at hc
       ·rw[if_pos (by assumption)]at hv;exact har i c v hc hv
       ·rw[if_neg (by assumption)]at hv;exact hcr _ c v hc hv)
      have hrun:(execOp a.eval o).run P w= .ok (.enter k (cc.args.map a.eval++capv)) w:=by
       unfold execOp;rw[hop];obtain⟨callee,args,argTypes⟩:=cc;dsimp only at hcal;subst hcal;simp[resolve,Deferred.ofValue,hcv,invoke,callFunc,hfn,hnm',hbd']
      unfold Oper.wp;rw[hrun];refine Calls.mono hcall ?_;rintro e w' ⟨v,rfl,hst'⟩;exact hK _ _ hst'
    ·cases he
   ·cases he
  ·cases he
end Go.Proofs.YtjpldhjgehoffaaGreatDoor
namespace Go.Proofs.YtjpldhjgehoffaaGreatDoor
open Go.RowKit
set_option linter.unusedVariables false
def zAt:List (Nat×List Nat)→Nat→List Nat
 |[],_=>[]
 |(i,l)::r,k=>if i==k then l else zAt r k
def Uk:List Nat→AS→Option AS
 |[],s=>some s
 |o::r,s=>if Nat.ble 500 o then none else Uk r (s.frz o)
def Kj (ops:Array Oper) (s:AS) (o:Oper):Option Bool:=
 match o.guard with
 |none=>some true
 |some (j,want)=>match (ops[j]?).bind (·.dst)with
  |some t=>match Zj s.fr t with
   | .d (.bool b)=>some (b==want)
   | .tuple []=>some false
   |_=>none
  |none=>none
def runL (P:Program) (ops:Array Oper) (z:List (Nat×List Nat)):List Oper→Nat→List PHint→AS→Option (AS×Prop)
 |[],_,_,s=>some (s,True)
 |o::rest,k,h,s=>match Uk (zAt z k) s with
  |none=>none
  |some s=>if Rw s o then (match Kj ops s o with
   |some true=>match doOp P s o h with
    |some (s',p,h')=>match runL P ops z rest (k+1) h' s' with
     |some (s'',p')=>some (s'',p∧p')
     |none=>none
    |none=>none
   |some false=>runL P ops z rest (k+1) h (s.after o.dst .any ⟨[],[]⟩)
   |none=>none)else none
theorem frzs_ok {C:Cx}:∀(l:List Nat) {s s':AS},Uk l s=some s'→∀{a:Act} {w:World},St C s a w→St C s' a w
 |[],s,s',h,a,w,hs=>by simp[Uk]at h;subst h;exact hs
 |o::r,s,s',h,a,w,hs=>by
  unfold Uk at h;split at h
  ·cases h
  ·rename_i ho;exact frzs_ok r h (hs.frz o (by rw[←Bool.not_eq_true];exact ho))
theorem guardOk_ok {C:Cx} {ops:Array Oper} {s:AS} {o:Oper} {b:Bool} (h:Kj ops s o=some b) {a:Act} {w:World} (hs:St C s a w):Region.wanted o (yielded ops a.tmps)=b:=by
 unfold Kj at h;unfold Region.wanted;split at h
 ·rename_i hg;simp at h;subst h;simp[hg]
 ·rename_i j want hg;rw[hg];split at h
  ·rename_i t ht;split at h
   ·rename_i b' hb;simp at h;subst h;obtain⟨ok,g,hM,h1,h2,h3⟩:=hs;have:=h3 t;rw[hb]at this;have hv:=this.Zv.M7;have hg:a.tmps[t]? =some (.bool b'):=by
     rcases Nat.lt_or_ge t a.tmps.size with hlt|hge
     ·rw[Array.getElem?_eq_getElem hlt];simp[hlt]at hv;rw[hv]
     ·simp[hge,undef]at hv
    simp[yielded,ht,hg]
   ·rename_i hb;simp at h;subst h;obtain⟨ok,g,hM,h1,h2,h3⟩:=hs;have hv:=h3 t;rw[hb]at hv;have hv':a.tmps.getD t undef= .tuple #[]:=by
     generalize a.tmps.getD t undef=v at hv;cases hv with
     |tuple cs vs hl h=>
      have:vs= #[]:=Array.eq_empty_of_size_eq_zero (by simpa using hl.symm);rw[this]
    have hy:yielded ops a.tmps j=none:=by
     unfold yielded;rw[ht];simp only[Option.bind_some];rcases Nat.lt_or_ge t a.tmps.size with hlt|hge
     ·rw[Array.getElem?_eq_getElem hlt];simp[hlt]at hv';rw[hv']
     ·simp[hge]
    dsimp only;rw[hy];rfl
   ·cases h
  ·cases h
theorem St.skipT {C:Cx} {s:AS} {a:Act} {w:World} (h:St C s a w) (dst:Option Nat) (hd:∀d,dst=some d→d<s.n):St C (s.after dst (.tuple []) ⟨[],[]⟩) (a.put dst undef) w:=by
 obtain⟨ok,g,hM,hs,hdf,hf⟩:=h;refine St.after (ok:=ok) (g:=g) (ok':=ok) (g':=g) hs hdf hf dst hd (.tuple []) undef ⟨[],[]⟩ ?_ (fun _=>.tuple [] #[] rfl (fun i c v hc=>by simp at hc));rw[meEff_nil];exact⟨hM,fun c v _ h=>h⟩
theorem St.skip {C:Cx} {s:AS} {a:Act} {w:World} (h:St C s a w) (dst:Option Nat) (hd:∀d,dst=some d→d<s.n) (v:Value):St C (s.after dst .any ⟨[],[]⟩) (a.put dst v) w:=by
 obtain⟨ok,g,hM,hs,hdf,hf⟩:=h;refine St.after (ok:=ok) (g:=g) (ok':=ok) (g':=g) hs hdf hf dst hd .any v ⟨[],[]⟩ ?_ (fun _=>.any _);rw[meEff_nil];exact⟨hM,fun c v _ h=>h⟩
theorem dstOk_lt {s:AS} {o:Oper} (hd:Rw s o=true):∀d,o.dst=some d→d<s.n:=fun d h=>by
 simp only[Rw,h]at hd;exact Nat.lt_of_succ_le (Nat.le_of_ble_eq_true hd)
theorem runL_ok {P:Program} {C:Cx} {ops:Array Oper} {z:List (Nat×List Nat)} {Q:Exit→Act→World→Prop}:∀(l:List Oper) (k:Nat) (h:List PHint) (s s':AS) (p:Prop),runL P ops z l k h s=some (s',p)→p→(∀a w,St C s' a w→Q .normal a w)→
  ∀(a:Act) (w:World),St C s a w→wpList P ops Q l a w
 |[],k,h,s,s',p,hr,hp,hQ,a,w,hs=>by
  simp only[runL,Option.some.injEq,Prod.mk.injEq]at hr;obtain⟨rfl,_⟩:=hr;exact hQ a w hs
 |o::rest,k,h,s,s',p,hr,hp,hQ,a,w,hs=>by
  simp only[runL]at hr;split at hr
  ·cases hr
  ·rename_i s1 hz;have hs1:=frzs_ok _ hz hs;split at hr
   ·rename_i hd;split at hr
    ·rename_i hg;have hw:=guardOk_ok hg hs1;split at hr
     ·rename_i s2 p2 h2 ho;split at hr
      ·rename_i s3 p3 hrest;simp only[Option.some.injEq,Prod.mk.injEq]at hr;obtain⟨rfl,rfl⟩:=hr;refine wpList_step fun K hK=>?_
       rw[if_pos hw];exact doOp_ok hd ho hp.1 hs1 fun a' w' hs'=>hK a' w' (runL_ok rest _ _ _ _ _ hrest hp.2 hQ a' w' hs')
      ·cases hr
     ·cases hr
    ·rename_i hg;have hw:=guardOk_ok hg hs1;refine wpList_step fun K hK=>?_
     rw[if_neg (by rw[hw];simp)];exact hK _ _ (runL_ok rest _ _ _ _ _ hr hp hQ _ _ (hs1.skip o.dst (dstOk_lt hd) undef))
    ·cases hr
   ·cases hr
def Le (s s':AS):Prop:=∀(C:Cx) (a:Act) (w:World),St C s a w→St C s' a w
theorem Le.refl (s:AS):Le s s:=fun _ _ _ h=>h
theorem Le.trans {a b c:AS} (h:Le a b) (k:Le b c):Le a c:=fun C x w hs=>k C x w (h C x w hs)
theorem Le.frz (s:AS) (o:Nat) (ho:Nat.ble 500 o=false):Le s (s.frz o):=fun _ _ _ h=>h.frz o ho
theorem Le.Uk {s s':AS} (l:List Nat) (h:Uk l s=some s'):Le s s':=fun _ _ _ hs=>frzs_ok l h hs
def Dq (f:List (Nat×AV)):List Nat→List (Nat×AV)
 |[]=>[]
 |t::r=>(t,Zj f t)::Dq f r
def Dw (f:List (Nat×Option Qz)):List Nat→List (Nat×Option Qz)
 |[]=>[]
 |t::r=>(t,Q4 f t)::Dw f r
theorem keepF_get (f:List (Nat×AV)) (l:List Nat) (t:Nat):Zj (Dq f l) t= .any∨Zj (Dq f l) t=Zj f t:=by
 induction l with
 |nil=>exact .inl rfl
 |cons u r ih=>
  simp only[Dq,Zj];by_cases h:(u==t)=true
  ·rw[if_pos h];have:u=t:=by simpa using h
   rw[this];exact .inr rfl
  ·rw[if_neg h];exact ih
theorem keepM_get (f:List (Nat×Option Qz)) (l:List Nat) (o:Nat) (x:Qz) (h:Q4 (Dw f l) o=some x):Q4 f o=some x:=by
 induction l with
 |nil=>cases h
 |cons u r ih=>
  simp only[Dw,Q4]at h;split at h
  ·rename_i hu;have:u=o:=by simpa using hu
   rw[←this];exact h
  ·exact ih h
theorem Le.keep (s:AS) (lf lm:List Nat):Le s ⟨s.n,Dq s.fr lf,Dw s.mem lm⟩:=fun _ _ _ h=>
 h.weak rfl (fun t=>keepF_get s.fr lf t) (fun o x=>keepM_get s.mem lm o x)
def AWp (P:Program) (c:Code) (Q:Exit→AS→Prop) (s:AS):Prop:=
 ∀(C:Cx) (a:Act) (w:World),St C s a w→c.wp P (fun e a' w'=>∃s',Q e s'∧St C s' a' w') a w
def Qq (K:AS→Prop) (Q:Exit→AS→Prop):Exit→AS→Prop
 | .normal,s=>K s
 |e,s=>Q e s
def Q6 (id:Nat) (Q:Exit→AS→Prop):Exit→AS→Prop
 | .exit id',s=>if id'=id then Q .normal s else Q (.exit id') s
 |e,s=>Q e s
section
variable {P:Program} {Q:Exit→AS→Prop} {s:AS}
theorem AWp.mono {c:Code} {Q':Exit→AS→Prop} (h:AWp P c Q s) (hq:∀e s,Q e s→Q' e s):AWp P c Q' s:=fun C a w hs=>wp_mono (h C a w hs) fun e a w ⟨s',h1,h2⟩=>⟨s',hq e s' h1,h2⟩
theorem AWp.le {c:Code} {s':AS} (hl:Le s s') (h:AWp P c Q s'):AWp P c Q s:=fun C a w hs=>h C a w (hl C a w hs)
theorem AWp.skip (h:Q .normal s):AWp P .skip Q s:=fun C a w hs=>wp_skip ⟨s,h,hs⟩
theorem AWp.exit {id:Nat} (h:Q (.exit id) s):AWp P (.exit id) Q s:=fun C a w hs=>wp_exit ⟨s,h,hs⟩
theorem AWp.ret (h:Q .ret s):AWp P .ret Q s:=fun C a w hs=>wp_ret ⟨s,h,hs⟩
theorem AWp.seq {x y:Code} (h:AWp P x (Qq (AWp P y Q) Q) s):AWp P (.seq x y) Q s:=fun C a w hs=>
 wp_seq (wp_mono (h C a w hs) fun e a' w' ⟨s',h1,h2⟩=>by
  cases e with
  |normal=>exact h1 C a' w' h2
  |_=>exact⟨s',h1,h2⟩)
theorem AWp.block {id:Nat} {c:Code} (h:AWp P c (Q6 id Q) s):AWp P (.block id c) Q s:=fun C a w hs=>
 wp_block (wp_mono (h C a w hs) fun e a' w' ⟨s',h1,h2⟩=>by
  cases e with
  |exit id'=>
   simp only[Exit.inBlock,Q6]at h1⊢;split
   ·rename_i hid;rw[if_pos hid]at h1;exact⟨s',h1,h2⟩
   ·rename_i hid;rw[if_neg hid]at h1;exact⟨s',h1,h2⟩
  |_=>exact⟨s',h1,h2⟩)
theorem AWp.cond {c:Operand} {x y:Code} {t:Bool} (hc:evA s.fr c= .d (.bool t)) (ht:t=true→AWp P x Q s) (hf:t=false→AWp P y Q s):AWp P (.cond c x y) Q s:=fun C a w hs=>by
 have hb:a.eval c= .bool t:=by
  obtain⟨ok,g,hM,h1,h2,h3⟩:=hs;have:=Qq0 h3 c;rw[hc]at this;exact this.Zv.M7
 exact wp_cond_split hb (fun h=>ht h C a w hs) (fun h=>hf h C a w hs)
theorem AWp.condU {c:Operand} {x y:Code} (hc:evA s.fr c= .d .ub) (ht:AWp P x Q s) (hf:AWp P y Q s):AWp P (.cond c x y) Q s:=fun C a w hs=>by
 have hs':=hs;obtain⟨ok,g,hM,h1,h2,h3⟩:=hs;have hv:=Qq0 h3 c;rw[hc]at hv;obtain⟨b,hb⟩:∃b,a.eval c= .bool b:=by
  have:=hv.Zv;generalize a.eval c=v at this;cases this;exact⟨_,rfl⟩
 cases b with
 |true=>exact wp_cond_true hb (ht C a w hs')
 |false=>exact wp_cond_false hb (hf C a w hs')
theorem AWp.region {id:Nat} {l:List Oper} (z:List (Nat×List Nat)) (hints:List PHint) {s':AS} {p:Prop} (hr:runL P l.toArray z l 0 hints s=some (s',p)) (hp:p) (h:Q .normal s'):AWp P (.region id l.toArray false) Q s:=fun C a w hs=>
 wp_region_lit (runL_ok l 0 hints s s' p hr hp (fun a w hs=>⟨s',h,hs⟩) a w hs)
theorem AWp.loop {c:Code} {ι:Type} (σ:ι→AS) (μ:ι→Nat) (i0:ι) (h0:Le s (σ i0)) (round:∀i,AWp P c (Qq (fun s'=>∃j,μ j<μ i∧Le s' (σ j)) Q) (σ i)):AWp P (.loop c) Q s:=fun C a w hs=>by
 have key:∀n i a w,μ i=n→St C (σ i) a w→∀(b:Frame) (k:List Item) (cs:List Frame),∃e a' w',(∃s',Q e s'∧St C s' a' w')∧Arrives P (lone (b.at a (.code c:: .inLoop c::k)) cs w) b k cs e a' w':=by
  intro n;induction n using Nat.strongRecOn with
  |_ n ih=>
   intro i a w hn hi b k cs;obtain⟨e,a1,w1,⟨s',hq,hs'⟩,harr⟩:=round i C a w hi b (.inLoop c::k) cs;cases e with
   |normal=>
    obtain⟨j,hlt,hle⟩:=hq;obtain⟨e2,a2,w2,hq2,harr2⟩:=ih (μ j) (hn▸hlt) j a1 w1 rfl (hle C a1 w1 hs') b k cs;exact⟨e2,a2,w2,hq2,.of_steps (Steps.trans harr (.one step_inLoop)) harr2⟩
   |exit id=>exact⟨_,a1,w1,⟨s',hq,hs'⟩,.pass (x:=.inLoop c) rfl (fun _ _=>.inl (by simp)) harr⟩
   |goto l=>exact⟨_,a1,w1,⟨s',hq,hs'⟩,.pass (x:=.inLoop c) rfl (fun _ _=>.inl (by simp)) harr⟩
   |ret=>exact⟨_,a1,w1,⟨s',hq,hs'⟩,.pass (x:=.inLoop c) rfl (fun _ _=>.inl (by simp)) harr⟩
   |panic ch=>exact⟨_,a1,w1,⟨s',hq,hs'⟩,.pass (x:=.inLoop c) rfl (fun _ _=>.inl (by simp)) harr⟩
   |outgrown=>exact⟨_,a1,w1,⟨s',hq,hs'⟩,.pass (x:=.inLoop c) rfl (fun _ _=>.inl (by simp)) harr⟩
 intro b k cs;obtain⟨e,a',w',hq,harr⟩:=key _ i0 a w rfl (h0 C a w hs) b k cs;exact⟨e,a',w',hq,.of_steps (.one step_loop) harr⟩
end
def Qx1:Nat→List AV→List (Nat×AV)
 |_,[]=>[]
 |k,c::r=>(k,c)::Qx1 (k+1) r
theorem frOf_get (l:List AV) (k t:Nat):Zj (Qx1 k l) t=if k≤t then (l[t-k]?).getD .any else .any:=by
 induction l generalizing k with
 |nil=>simp[Qx1,Zj]
 |cons c r ih=>
  simp only[Qx1,Zj,ih];by_cases h:k=t
  ·subst h;simp
  ·have h':(k==t)=false:=by simpa using h
   rw[h'];simp only[Bool.false_eq_true,if_false];by_cases hk:k≤t
   ·have e:t-k=(t-(k+1))+1:=by omega
    rw[if_pos hk,if_pos (by omega),e];simp
   ·rw[if_neg hk,if_neg (by omega)]
def Q9 (P:Program) (s:AS):List ResultVar→Option (List AV)
 |[]=>some []
 | .tmp t::r=>match Q9 P s r with
  |some l=>some (Zj s.fr t::l)
  |none=>none
 | .cell t ty::r=>match U4 P ty with
  |some (b,n)=>match Y1 (Q4 s.mem) (Zj s.fr t) n with
   |some cs=>match H6 b cs,Q9 P s r with
    |some c,some l=>some (c::l)
    |_,_=>none
   |none=>none
  |none=>none
def Z6:List AV→AV
 |[c]=>c
 |l=>.tuple l
def resOne (a:Act):ResultVar→Sem Value
 | .tmp t=>pure (a.tmps.getD t undef)
 | .cell t ty=>do loadVar ty (←asAddr (a.tmps.getD t undef))
theorem resAV_ok {P:Program} {C:Cx} {s:AS} {a:Act} {w:World} {ok:Nat→Prop} {g:Gh} (hM:MS C w ok g (Q4 s.mem)) (hf:∀t,VR w ok g (Q4 s.mem) (Zj s.fr t) (a.tmps.getD t undef)):
  ∀(l:List ResultVar) (cs:List AV),Q9 P s l=some cs→∃vs:List Value,(l.mapM (resOne a)).run P w= .ok vs w∧cs.length=vs.length∧∀(i:Nat) (c:AV) (v:Value),cs[i]? =some c→vs[i]? =some v→VR w ok g (Q4 s.mem) c v
 |[],cs,h=>by simp[Q9]at h;subst h;exact⟨[],rfl,rfl,by simp⟩
 | .tmp t::r,cs,h=>by
  unfold Q9 at h;split at h
  ·rename_i l hl;simp at h;subst h;obtain⟨vs,h1,h2,h3⟩:=resAV_ok hM hf r l hl;refine⟨a.tmps.getD t undef::vs,?_,by simpa using h2,fun i c v hc hv=>?_⟩
   ·rw[List.mapM_cons];simp only[resOne,Sem.run_bind,Sem.run_pure,Result.andThen_ok,h1]
   ·rcases i with _|i
    ·obtain rfl:Zj s.fr t=c:=Option.some.inj hc;obtain rfl:a.tmps.getD t undef=v:=Option.some.inj hv;exact hf t
    ·exact h3 i c v hc hv
  ·cases h
 | .cell t ty::r,cs,h=>by
  unfold Q9 at h;split at h
  ·rename_i b n hty;split at h
   ·rename_i cs' hcs;split at h
    ·rename_i c l hc hl;simp at h;subst h;obtain⟨vs,h1,h2,h3⟩:=resAV_ok hM hf r l hl;obtain⟨bb,off,us,hv,hlu,hcell,hvs⟩:=hM.rd (hf t) hcs;obtain⟨k1,k2⟩:=mkVal_ok hc hvs;obtain⟨l1,l2⟩:=run_loadVar_at (P:=P) hty hlu hcell;have hval:∃v,(loadVar ty ⟨bb,off,none⟩).run P w= .ok v w∧VR w ok g (Q4 s.mem) c v:=by
      cases b
      ·obtain⟨v,hv1,hr⟩:=k2 rfl;exact⟨v,l2 rfl v hv1,hr⟩
      ·exact⟨_,l1 rfl,k1 rfl⟩
     obtain⟨v,hv1,hv2⟩:=hval;refine⟨v::vs,?_,by simpa using h2,fun i c v hc hv=>?_⟩
     ·rw[List.mapM_cons];simp only[resOne,Sem.run_bind,hv,asAddr,Sem.run_pure,Result.andThen_ok,hv1,h1]
     ·rcases i with _|i
      ·simp at hc hv;subst hc hv;exact hv2
      ·exact h3 i c v hc hv
    ·cases h
   ·cases h
  ·cases h
theorem Qj5 {P:Program} {C:Cx} {s:AS} {a:Act} {w:World} {ok:Nat→Prop} {g:Gh} (hM:MS C w ok g (Q4 s.mem)) (hf:∀t,VR w ok g (Q4 s.mem) (Zj s.fr t) (a.tmps.getD t undef))
  {fn:Func} {cs:List AV} (h:Q9 P s fn.results.toList=some cs):∃v,(results fn a.tmps).run P w= .ok v w∧VR w ok g (Q4 s.mem) (Z6 cs) v:=by
 obtain⟨vs,h1,h2,h3⟩:=resAV_ok hM hf _ cs h;refine⟨if h:vs.toArray.size=1 then vs.toArray[0]else .tuple vs.toArray,?_,?_⟩
 ·have e:∀l:Array ResultVar,(do
    let vs←l.mapM (resOne a)
    (Pure.pure (if h:vs.size=1 then vs[0]else .tuple vs):Sem Value)).run P w=((l.toList.mapM (resOne a)).run P w).andThen fun vs w=>.ok (if h:vs.toArray.size=1 then vs.toArray[0]else .tuple vs.toArray) w:=fun l=>by
   rw[←Array.toArray_toList (xs:=l),List.mapM_toArray];simp only[Sem.run_bind,Sem.run_map,Sem.run_pure];cases(l.toList.mapM (resOne a)).run P w<;> rfl
  refine(e fn.results).trans ?_;simp only[h1,Result.andThen_ok]
 ·match cs,vs,h2,h3 with
  |[c],[v],_,h3=>exact h3 0 c v rfl rfl
  |[],[],_,h3=>exact .tuple _ _ rfl (by simp)
  |c::c'::cs,v::v'::vs,h2,h3=>
   simp only[Z6,List.size_toArray,List.length_cons];rw[dif_neg (by omega)];exact .tuple _ _ (by simpa using h2) (fun i c v hc hv=>h3 i c v hc (by simpa using hv))
def Z7 (n:Nat) (args:List AV):AS:=⟨n,Qx1 0 args,[]⟩
mutual
def AV.Xk:AV→AV
 | .lit (.slice none 0 0)=>.d (.sl [])
 | .agg cs=>.agg (K4 cs)
 | .tuple cs=>.tuple (K4 cs)
 |c=>c
def K4:List AV→List AV
 |[]=>[]
 |c::cs=>AV.Xk c::K4 cs
end
theorem nilDL_eq (cs:List AV):K4 cs=cs.map AV.Xk:=by
 induction cs with
 |nil=>rfl
 |cons c cs ih=>simp only[K4,List.map_cons,ih]
theorem VR.Xk {w:World} {ok:Nat→Prop} {g:Gh} {m:Me} {c:AV} {v:Value} (h:VR w ok g m c v):VR w ok g m c.Xk v:=by
 induction h with
 |any v=>exact .any v
 |d d v h=>exact .d d v h
 |lit v h=>
  unfold AV.Xk;split
  ·rename_i e;cases e;exact .d _ _ (.empty none 0 (fun _=>rfl) (Nat.zero_le _))
  ·rename_i e;cases e
  ·rename_i e;cases e
  ·exact .lit v h
 |fl rows v h hr=>exact .fl rows v h hr
 |ptr o off v hv h=>exact .ptr o off v hv h
 |arr o l n v hv h=>exact .arr o l n v hv h
 |U2 o i j v hv h=>exact .U2 o i j v hv h
 |mp o v hv h=>exact .mp o v hv h
 |agg cs vs hl h h1 ih=>
  simp only[AV.Xk,nilDL_eq];refine .agg _ _ (by simpa using hl) (fun i c v hc hv=>?_) h1;rw[List.getElem?_map]at hc;obtain⟨c',hc',rfl⟩:=Option.map_eq_some_iff.1 hc;exact ih i c' v hc' hv
 |tuple cs vs hl h ih=>
  simp only[AV.Xk,nilDL_eq];refine .tuple _ _ (by simpa using hl) (fun i c v hc hv=>?_);rw[List.getElem?_map]at hc;obtain⟨c',hc',rfl⟩:=Option.map_eq_some_iff.1 hc;exact ih i c' v hc' hv
 |clo f cs vs hl h ih=>exact .clo f cs vs hl h
def Z8 (P:Program) (fn:Func) (r:Nat→AV) (x:Option Qz) (o:Nat):Exit→AS→Prop:=fun e s=>
 (e= .ret∨e= .normal)∧∃s',Le s s'∧∃cs,Q9 P s' fn.results.toList=some cs∧(Z6 cs).Xk=(r o).Xk∧(r o).Xk=r o∧(∀y,x=some y→Q4 s'.mem o=some y∧Nat.ble 500 o=false)
theorem Z4.of {P:Program} {k:Nat} {fn:Func} {c:Code} (hf:P.funcs[k]? =some fn) (hnm:(fn.name== "runtime.NumGoroutine")=false) (hb:fn.body=some c) {args:List AV} {r:AV} (hcl:r.has (fun _=>true)=false) (hn:args.length≤fn.ntmps)
  (h:AWp P c (Z8 P fn (fun _=>r) none 0) (Z7 fn.ntmps args)):Z4 P k args (fun _=>r) none:=by
 have hany:∀q:Nat→Bool,r.has q=false:=by
  have key:∀c:AV,c.has (fun _=>true)=false→∀q:Nat→Bool,c.has q=false:=fun c=>
   AV.rec (motive_1:=fun c=>c.has (fun _=>true)=false→∀q:Nat→Bool,c.has q=false) (motive_2:=fun l=>AV.K6 (fun _=>true) l=false→∀q:Nat→Bool,AV.K6 q l=false)
    (fun _ _=>rfl) (fun _ _ _=>rfl) (fun _ _ _=>rfl) (fun _ _ _=>rfl) (fun o off h=>by simp[AV.has]at h) (fun o l n h=>by simp[AV.has]at h) (fun o i j h=>by simp[AV.has]at h) (fun o h=>by simp[AV.has]at h)
    (fun cs ih h q=>ih h q) (fun cs ih h q=>ih h q) (fun _ cs ih h q=>ih h q) (fun _ _=>rfl) (fun x l h1 h2 h q=>by
     simp only[AV.K6,Bool.or_eq_false_iff]at h⊢;exact⟨h1 h.1 q,h2 h.2 q⟩) c
  exact key r hcl
 refine⟨⟨fn,hf,hnm,by rw[hb];rfl⟩,fun d=>hany _,fun _ d=>hany _,by simp,fun d w ok vals hgi hok hl hv=>?_⟩;refine calls_of_wp hf hb ?_;have hst:St ⟨w,ok,fun _=>False,noG⟩ (Z7 fn.ntmps args) { tmps:=vals++Array.replicate (fn.ntmps-vals.size) undef,defers:=[] } w:=by
  refine⟨ok,noG,⟨(fun o x hx=>by cases hx),(fun i j xi xj b hi=>by cases hi),(fun i x b hi=>by cases hi),fun b hb=>⟨hok b hb,.inl hb⟩,fun b hb=>hb,Nat.le_refl _,fun b _ _=>rfl,fun i _=>⟨rfl,rfl⟩,rfl,rfl,rfl,hgi,fun _ _ h=>h⟩,by simp[Z7];omega,rfl,fun t=>?_⟩;simp only[Z7,frOf_get,Nat.zero_le,if_true,Nat.sub_zero];rcases Nat.lt_or_ge t args.length with hlt|hge
  ·have e1:args[t]? =some args[t]:=List.getElem?_eq_getElem hlt;have e2:vals[t]? =some (vals[t]'(by omega)):=Array.getElem?_eq_getElem (by omega);rw[e1];have e3:(vals++Array.replicate (fn.ntmps-vals.size) undef).getD t undef=vals[t]'(by omega):=by
    simp[Array.getElem?_append,show t<vals.size by omega]
   rw[e3];exact hv t _ _ e1 e2
  ·rw[List.getElem?_eq_none hge];exact .any _
 refine wp_mono (h _ _ w hst) ?_;rintro e a' w' ⟨s,⟨he,s',hle,cs,hres,hr,hrn,_⟩,hs⟩;have hs':=hle _ _ _ hs;obtain⟨ok',g,hM,h1,h2,h3⟩:=hs';obtain⟨v,hv1,hv2⟩:=Qj5 hM h3 hres;have hfin:a'.defers=[]∧∃v,(results fn a'.tmps).run P w'= .ok v w'∧∃v' ok' g',Ending.returned v= .returned v'∧Below w.heap.size w w'∧(∀b,ok b→ok' b)∧(∀b,ok' b→ok b∨(w.heap.size≤b∧b<w'.heap.size))∧VR w' ok' g' (oneM d none) r v'∧
   (∀y,(none:Option Qz)=some y→OR w' ok' g' (oneM d none) d y∧∀b,g'.bl d=some b→¬ok' b∧w.heap.size≤b∧b<w'.heap.size):=by
  refine⟨h2,v,hv1,v,ok',noG,rfl,⟨hM.os,hM.tape,hM.output,hM.size,fun b hb=>hM.heap b hb (fun h=>h)⟩,hM.okk,fun b hb=>?_,?_,by simp⟩
  ·obtain⟨k1,k2⟩:=hM.okb b hb;rcases k2 with k2|k2
   ·exact .inl k2
   ·exact .inr ⟨k2,k1⟩
  ·have hv2:=hv2.Xk;rw[hr,hrn]at hv2;exact hv2.mono (fun _=>false) (hany _) (fun _ _=>rfl) (fun _ h=>h) fun o x' _ hx'=>by simp[oneM]at hx'
 rcases he with rfl|rfl
 ·exact hfin
 ·exact hfin
end Go.Proofs.YtjpldhjgehoffaaGreatDoor
namespace Go.Proofs.YtjpldhjgehoffaaGreatDoor
open Go.RowKit
set_option linter.unusedVariables false
mutual
def AV.ids:AV→List Nat
 | .ptr o _=>[o]
 | .arr o _ _=>[o]
 | .U2 o _ _=>[o]
 | .mp o=>[o]
 | .agg cs=>Mj cs
 | .tuple cs=>Mj cs
 | .clo _ cs=>Mj cs
 |_=>[]
def Mj:List AV→List Nat
 |[]=>[]
 |c::cs=>AV.ids c++Mj cs
end
def Qz.ids:Qz→List Nat
 | .blk _ cs=>Mj cs
 | .arr _ _ _=>[]
 | .map _ _ _ _=>[]
 | .raw _=>[]
theorem AV.M3 (q:Nat→Bool) (c:AV):c.has q=c.ids.any q:=
 AV.rec (motive_1:=fun c=>c.has q=c.ids.any q) (motive_2:=fun l=>AV.K6 q l=(Mj l).any q) rfl (fun _=>rfl) (fun _=>rfl) (fun _=>rfl) (fun o _=>by simp[AV.has,AV.ids]) (fun o _ _=>by simp[AV.has,AV.ids]) (fun o _ _=>by simp[AV.has,AV.ids]) (fun o=>by simp[AV.has,AV.ids])
  (fun cs h=>h) (fun cs h=>h) (fun _ cs h=>h) rfl (fun x r h1 h2=>by simp only[AV.K6,Mj,List.any_append,h1,h2]) c
theorem R6 {l:List Nat} {i:Nat}:Z5 l i=true↔i∈l:=by
 unfold Z5;rw[List.any_eq_true];constructor
 ·rintro⟨j,hj,h⟩;have:j=i:=by simpa using h
  rw[←this];exact hj
 ·intro h;exact⟨i,h,by simp⟩
theorem Az {l:List (Nat×Option Qz)} {i:Nat}:Jw l i=true↔i∈l.map (·.1):=by
 unfold Jw;rw[List.any_eq_true,List.mem_map];constructor
 ·rintro⟨x,hx,h⟩;exact⟨x,hx,by simpa using h⟩
 ·rintro⟨x,hx,h⟩;exact⟨x,hx,by simpa using h⟩
def J8 (m:Me):List Nat→List Nat
 |[]=>[]
 |i::r=>(match m i with|some x=>x.ids|none=>[])++J8 m r
def Kq (f:Operand→AV):List Operand→List Nat
 |[]=>[]
 |x::r=>(f x).ids++Kq f r
mutual
def AV.ren (ρ:Nat→Nat):AV→AV
 | .ptr o k=>.ptr (ρ o) k
 | .arr o l n=>.arr (ρ o) l n
 | .U2 o i j=>.U2 (ρ o) i j
 | .mp o=>.mp (ρ o)
 | .agg cs=>.agg (E5 ρ cs)
 | .tuple cs=>.tuple (E5 ρ cs)
 | .clo f cs=>.clo f (E5 ρ cs)
 | .any=>.any
 | .d d=>.d d
 | .lit v=>.lit v
 | .fl r=>.fl r
def E5 (ρ:Nat→Nat):List AV→List AV
 |[]=>[]
 |c::cs=>AV.ren ρ c::E5 ρ cs
end
theorem D6 (ρ:Nat→Nat) (cs:List AV):E5 ρ cs=cs.map (AV.ren ρ):=by
 induction cs with
 |nil=>rfl
 |cons c cs ih=>simp only[E5,List.map_cons,ih]
def Qz.ren (ρ:Nat→Nat):Qz→Qz
 | .blk t cs=>.blk t (E5 ρ cs)
 | .arr e sz rows=>.arr e sz rows
 | .map ks ag n ents=>.map ks ag n ents
 | .raw r=>.raw r
theorem VR.unren {w:World} {ok:Nat→Prop} {g g0:Gh} {M m:Me} (ρ:Nat→Nat) (hm:∀o x,m o=some x→M (ρ o)=some (x.ren ρ)∧g0.bl o=g.bl (ρ o)∧g0.cp o=g.cp (ρ o)) {c0:AV} {v:Value} (h:VR w ok g M (c0.ren ρ) v):VR w ok g0 m c0 v:=by
 have key:∀c0:AV,∀v,VR w ok g M (c0.ren ρ) v→VR w ok g0 m c0 v:=fun c0=>
  AV.rec (motive_1:=fun c0=>∀v,VR w ok g M (c0.ren ρ) v→VR w ok g0 m c0 v) (motive_2:=fun l=>∀(i:Nat) (c:AV),l[i]? =some c→∀v,VR w ok g M (c.ren ρ) v→VR w ok g0 m c v)
   (fun v _=>.any v) (fun d v h=>.d d v h.Zv) (fun u v h=>by obtain⟨h1,h2⟩:=VR.Wv h;rw[h1];exact .lit u h2)
   (fun rows v h=>by obtain⟨h1,h2⟩:=VR.fl_inv h;exact .fl rows v h1 h2)
   (fun o off v h=>by
    cases h with
    |ptr _ _ _ hv h=>
     refine .ptr o off v hv fun x hx=>?_
     obtain⟨h1,h2,_⟩:=hm o x hx;rw[h2];exact h _ h1)
   (fun o l n v h=>by
    cases h with
    |arr _ _ _ _ hv h=>
     refine .arr o l n v hv fun e sz rows hx=>?_
     obtain⟨h1,h2,h3⟩:=hm o _ hx;rw[h2,h3];exact h _ _ _ h1)
   (fun o i j v h=>by
    cases h with
    |U2 _ _ _ _ hv h=>
     refine .U2 o i j v hv fun e sz rows hx=>?_
     obtain⟨h1,h2,h3⟩:=hm o _ hx;rw[h2];exact h _ _ _ h1)
   (fun o v h=>by
    cases h with
    |mp _ _ hv h=>
     refine .mp o v hv fun x hx=>?_
     obtain⟨h1,h2,_⟩:=hm o x hx;rw[h2];exact h _ h1)
   (fun cs ih v h=>by
    obtain⟨vs,rfl,hl,h1,h2⟩:=VR.Qv6 h;rw[D6]at hl h1;exact .agg cs vs (by simpa using hl) (fun i c v hc hv=>ih i c hc v (h1 i _ v (by rw[List.getElem?_map,hc];rfl) hv)) h2)
   (fun cs ih v h=>by
    obtain⟨vs,rfl,hl,h1⟩:=VR.tuple_inv h;rw[D6]at hl h1;exact .tuple cs vs (by simpa using hl) (fun i c v hc hv=>ih i c hc v (h1 i _ v (by rw[List.getElem?_map,hc];rfl) hv)))
   (fun f cs ih v h=>by
    obtain⟨vs,rfl,hl,h1⟩:=VR.clo_inv h;rw[D6]at hl h1;exact .clo f cs vs (by simpa using hl) (fun i c v hc hv=>ih i c hc v (h1 i _ v (by rw[List.getElem?_map,hc];rfl) hv)))
   (fun i c hc=>by simp at hc)
   (fun c l h1 h2 i c' hc' v h=>by
    rcases i with _|i
    ·simp at hc';subst hc';exact h1 v h
    ·exact h2 i c' (by simpa using hc') v h) c0
 exact key c0 v h
theorem VR.reren {w:World} {ok:Nat→Prop} {g g0:Gh} {M m:Me} (ρ:Nat→Nat) {c0:AV} {v:Value} (h:VR w ok g0 m c0 v) (hm:∀o∈c0.ids,∃x,m o=some x∧M (ρ o)=some (x.ren ρ)∧g0.bl o=g.bl (ρ o)∧g0.cp o=g.cp (ρ o)):VR w ok g M (c0.ren ρ) v:=by
 have idsL_mem:∀(l:List AV) (i:Nat) (c:AV),l[i]? =some c→∀o∈c.ids,o∈Mj l:=fun l=>by
  induction l with
  |nil=>intro i c hc;simp at hc
  |cons a l ih=>
   intro i c hc o ho;simp only[Mj];rcases i with _|i
   ·simp at hc;subst hc;exact List.mem_append_left _ ho
   ·exact List.mem_append_right _ (ih i c (by simpa using hc) o ho)
 induction h with
 |any v=>exact .any v
 |d d v h=>exact .d d v h
 |lit v h=>exact .lit v h
 |fl rows v h hr=>exact .fl rows v h hr
 |ptr o off v hv h=>
  obtain⟨x,h1,h2,h3,_⟩:=hm o (by simp[AV.ids]);refine .ptr _ off v hv fun y _=>?_
  rw[←h3];exact h x h1
 |arr o l n v hv h=>
  obtain⟨x,h1,h2,h3,h4⟩:=hm o (by simp[AV.ids]);refine .arr _ l n v hv fun e sz rows hy=>?_
  rw[h2]at hy;cases x with
  |blk t cs=>cases hy
  |map _ _ _ _=>cases hy
  |raw _=>cases hy
  |arr e' sz' rows'=>
   cases hy;rw[←h3,←h4];exact h _ _ _ h1
 |U2 o i j v hv h=>
  obtain⟨x,h1,h2,h3,h4⟩:=hm o (by simp[AV.ids]);refine .U2 _ i j v hv fun e sz rows hy=>?_
  rw[h2]at hy;cases x with
  |blk t cs=>cases hy
  |map _ _ _ _=>cases hy
  |raw _=>cases hy
  |arr e' sz' rows'=>
   cases hy;rw[←h3];exact h _ _ _ h1
 |mp o v hv h=>
  obtain⟨x,h1,h2,h3,_⟩:=hm o (by simp[AV.ids]);refine .mp _ v hv fun y _=>?_
  rw[←h3];exact h x h1
 |agg cs vs hl h h1 ih=>
  simp only[AV.ren,D6];refine .agg _ _ (by simpa using hl) (fun i c v hc hv=>?_) h1;rw[List.getElem?_map]at hc;obtain⟨c',hc',rfl⟩:=Option.map_eq_some_iff.1 hc;exact ih i c' v hc' hv fun o ho=>hm o (idsL_mem cs i c' hc' o ho)
 |tuple cs vs hl h ih=>
  simp only[AV.ren,D6];refine .tuple _ _ (by simpa using hl) (fun i c v hc hv=>?_);rw[List.getElem?_map]at hc;obtain⟨c',hc',rfl⟩:=Option.map_eq_some_iff.1 hc;exact ih i c' v hc' hv fun o ho=>hm o (idsL_mem cs i c' hc' o ho)
 |clo f cs vs hl h ih=>
  simp only[AV.ren,D6];refine .clo f _ _ (by simpa using hl) (fun i c v hc hv=>?_);rw[List.getElem?_map]at hc;obtain⟨c',hc',rfl⟩:=Option.map_eq_some_iff.1 hc;exact ih i c' v hc' hv fun o ho=>hm o (idsL_mem cs i c' hc' o ho)
abbrev Mo:=List (Nat×Qz)
def Xq:Mo→Nat→Option Qz
 |[],_=>none
 |(i,x)::r,j=>if i==j then some x else Xq r j
structure Qv (P:Program) (k:Nat) (args:List AV) (m:Mo) (r:AV) (m':Mo):Prop where
 ent:∃fn,P.funcs[k]? =some fn∧(fn.name== "runtime.NumGoroutine")=false∧fn.body.isNone=false
 run:∀(w:World) (ok:Nat→Prop) (g:Gh) (vals:Array Value),MS ⟨w,ok,fun b=>∃i x,Xq m i=some x∧g.bl i=some b,g⟩ w ok g (Xq m)→args.length=vals.size→(∀(i:Nat) (c:AV) (v:Value),args[i]? =some c→vals[i]? =some v→VR w ok g (Xq m) c v)→
  Calls P k vals w fun e w'=>∃v ok' g',e= .returned v∧MS ⟨w,ok,fun b=>∃i x,Xq m i=some x∧g.bl i=some b,g⟩ w' ok' g' (Xq m')∧VR w' ok' g' (Xq m') r v
def Zx:List (Nat×Nat)→Nat→Nat
 |[],i=>i
 |(a,b)::r,i=>if a==i then b else Zx r i
def E8 (ρ:Nat→Nat) (m':Mo):Mo→List (Nat×Option Qz)
 |[]=>[]
 |(i,_)::r=>(ρ i,(Xq m' i).map (Qz.ren ρ))::E8 ρ m' r
def moQ (ρ:Nat→Nat):Mo→List Nat
 |[]=>[]
 |(i,_)::r=>if Nat.ble 1000 i then moQ ρ r else ρ i::moQ ρ r
def Mk (ρ:Nat→Nat) (m m':Mo):Eff:=⟨moQ ρ m,E8 ρ m' m⟩
def R4 (m':Mo):Mo→Prop
 |[]=>True
 |(i,x)::r=>(kept i=true→∃y,Xq m' i=some y∧x.like y)∧R4 m' r
def Qv2 (ρ:Nat→Nat) (m:Mo) (r:AV) (m':Mo):Bool:=
 (m.all fun x=>Nat.ble 500 x.1) && (m.all fun x=>m.all fun y=>!(ρ x.1==ρ y.1)||x.1==y.1) && (m'.all fun x=>(Xq m x.1).isSome) &&
 (r.ids.all fun i=>(Xq m' i).isSome) && (m'.all fun x=>x.2.ids.all fun i=>(Xq m' i).isSome) && ((m.all fun x=>Nat.ble 1000 x.1||Nat.ble 500 (ρ x.1))||(m.all fun x=>Nat.ble 1000 x.1|| !(Nat.ble 500 (ρ x.1)))) &&
 (m.all fun x=>Nat.ble 1000 x.1|| !(Nat.ble 1000 (ρ x.1)))
theorem Uv {m:Mo} {i:Nat} {x:Qz} (h:Xq m i=some x):(i,x)∈m:=by
 induction m with
 |nil=>cases h
 |cons y r ih=>
  obtain⟨j,z⟩:=y;simp only[Xq]at h;split at h
  ·rename_i hj;have:j=i:=by simpa using hj
   subst this;cases h;simp
  ·exact List.mem_cons_of_mem _ (ih h)
theorem moGet_some {m:Mo} {i:Nat} {x:Qz} (h:(i,x)∈m):∃y,Xq m i=some y:=by
 induction m with
 |nil=>cases h
 |cons y r ih=>
  obtain⟨j,z⟩:=y;simp only[Xq];split
  ·exact⟨z,rfl⟩
  ·rename_i hj;rcases List.mem_cons.1 h with h|h
   ·cases h;simp at hj
   ·exact ih h
theorem moLike_get {m m':Mo} (h:R4 m' m) {i:Nat} {x:Qz} (hx:(i,x)∈m) (hk:kept i=true):∃y,Xq m' i=some y∧x.like y:=by
 induction m with
 |nil=>cases hx
 |cons y r ih=>
  obtain⟨j,z⟩:=y;rcases List.mem_cons.1 hx with hx|hx
  ·cases hx;exact h.1 hk
  ·exact ih h.2 hx
theorem moQ_mem {ρ:Nat→Nat} {m:Mo} {j:Nat}:j∈moQ ρ m↔∃i x,(i,x)∈m∧kept i=false∧ρ i=j:=by
 induction m with
 |nil=>simp[moQ]
 |cons y r ih=>
  obtain⟨i,x⟩:=y;simp only[moQ];split
  ·rename_i hk;rw[ih];constructor
   ·rintro⟨a,b,h1,h2⟩;exact⟨a,b,List.mem_cons_of_mem _ h1,h2⟩
   ·rintro⟨a,b,h1,h2⟩;rcases List.mem_cons.1 h1 with h1|h1
    ·cases h1;unfold kept at h2;rw[hk]at h2;cases h2.1
    ·exact⟨a,b,h1,h2⟩
  ·rename_i hk;rw[List.mem_cons,ih];constructor
   ·rintro(rfl|⟨a,b,h1,h2⟩)
    ·exact⟨i,x,by simp,by unfold kept;rw[←Bool.not_eq_true];exact hk,rfl⟩
    ·exact⟨a,b,List.mem_cons_of_mem _ h1,h2⟩
   ·rintro⟨a,b,h1,h2⟩;rcases List.mem_cons.1 h1 with h1|h1
    ·cases h1;exact .inl h2.2.symm
    ·exact .inr ⟨a,b,h1,h2⟩
theorem moWs_map (ρ:Nat→Nat) (m' m:Mo):(E8 ρ m' m).map (·.1)=m.map fun x=>ρ x.1:=by
 induction m with
 |nil=>rfl
 |cons y r ih=>obtain⟨i,x⟩:=y;simp only[E8,List.map_cons,ih]
theorem moWs_get {ρ:Nat→Nat} {m' m:Mo} {i:Nat} {x:Qz} (hx:(i,x)∈m) (hinj:∀a y,(a,y)∈m→ρ a=ρ i→a=i):Q4 (E8 ρ m' m) (ρ i)=(Xq m' i).map (Qz.ren ρ):=by
 induction m with
 |nil=>cases hx
 |cons y r ih=>
  obtain⟨j,z⟩:=y;simp only[E8,Q4];split
  ·rename_i hj;have:j=i:=hinj j z (by simp) (by simpa using hj);rw[this]
  ·rename_i hj;rcases List.mem_cons.1 hx with hx|hx
   ·cases hx;simp at hj
   ·exact ih hx fun a y ha=>hinj a y (List.mem_cons_of_mem _ ha)
theorem Qz.like_ren (ρ:Nat→Nat) {x y:Qz} (h:x.like y):(x.ren ρ).like (y.ren ρ):=by cases x<;> cases y<;> exact h
theorem Qv.step {P:Program} {C:Cx} {k:Nat} {args:List AV} {m m':Mo} {r:AV} (hS:Qv P k args m r m') {s:AS} {a:Act} {w:World} {ok:Nat→Prop} {g:Gh} (hM:MS C w ok g (Q4 s.mem)) (hs:a.tmps.size=s.n) (hdf:a.defers=[])
  (hf:∀t,VR w ok g (Q4 s.mem) (Zj s.fr t) (a.tmps.getD t undef)) (dst:Option Nat) (hd:∀d,dst=some d→d<s.n) (ρ:Nat→Nat) (hc:Qv2 ρ m r m'=true) (hlk:R4 m' m) (hob:∀i x,Xq m i=some x→Q4 s.mem (ρ i)=some (x.ren ρ))
  {vals:Array Value} (hl:args.length=vals.size) (hv:∀(i:Nat) (c:AV) (v:Value),args[i]? =some c→vals[i]? =some v→VR w ok g (Q4 s.mem) (c.ren ρ) v):
  Calls P k vals w fun e w'=>∃v,e= .returned v∧St C (s.after dst (r.ren ρ) (Mk ρ m m')) (a.put dst v) w':=by
 unfold Qv2 at hc;simp only[Bool.and_eq_true]at hc;obtain⟨⟨⟨⟨⟨⟨c1,c2⟩,c3⟩,c5⟩,c6⟩,c7⟩,c8⟩:=hc;have h500:∀i x,(i,x)∈m→500≤i:=fun i x h=>Nat.le_of_ble_eq_true (List.all_eq_true.1 c1 _ h)
 have hinj:∀i x j y,(i,x)∈m→(j,y)∈m→ρ i=ρ j→i=j:=fun i x j y hi hj e=>by
  have:=List.all_eq_true.1 (List.all_eq_true.1 c2 _ hi) _ hj;simp only[Bool.or_eq_true,Bool.not_eq_true',beq_eq_false_iff_ne,beq_iff_eq]at this;rcases this with h|h
  ·exact absurd e h
  ·exact h
 have hsub:∀i x,Xq m' i=some x→∃y,Xq m i=some y:=fun i x h=>by
  have:=List.all_eq_true.1 c3 _ (Uv h);exact Option.isSome_iff_exists.1 this
 have hrid:∀i∈r.ids,∃x,Xq m' i=some x:=fun i h=>Option.isSome_iff_exists.1 (List.all_eq_true.1 c5 i h)
 have hxid:∀i x,Xq m' i=some x→∀j∈x.ids,∃y,Xq m' j=some y:=fun i x h j hj=>Option.isSome_iff_exists.1 (List.all_eq_true.1 (List.all_eq_true.1 c6 _ (Uv h)) j hj)
 let g0:Gh:=⟨fun i=>g.bl (ρ i),fun i=>g.cp (ρ i)⟩
 have hmm:∀o x,Xq m o=some x→Q4 s.mem (ρ o)=some (x.ren ρ)∧g0.bl o=g.bl (ρ o)∧g0.cp o=g.cp (ρ o):=fun o x h=>⟨hob o x h,rfl,rfl⟩
 have hM0:MS ⟨w,ok,fun b=>∃i x,Xq m i=some x∧g0.bl i=some b,g0⟩ w ok g0 (Xq m):=by
  refine⟨fun o x hx=>?_,fun i j xi xj b hi hj hbi hbj=>?_,fun i x b hx hb=>?_,fun b hb=>⟨(hM.okb b hb).1,.inl hb⟩,fun b hb=>hb,Nat.le_refl _,fun b _ _=>rfl,fun i _=>⟨rfl,rfl⟩,rfl,rfl,rfl,hM.giw,fun b hb ⟨i,x,hx,hbi⟩=>by
   rcases(hM.own _ _ b (hob i x hx) hbi).2.2 with h|h
   ·have:=hM.gi.lt hb;omega
   ·exact hM.gb b hb h.1⟩
  ·have hO:=hM.obj _ _ (hob o x hx);cases x with
   |blk t cs=>
    obtain⟨b,vs,h1,h2,h3⟩:=hO;rw[D6]at h3;exact⟨b,vs,h1,h2,by simpa using h3.1,fun i c v hci hvi=>VR.unren ρ hmm (h3.2.1 i _ v (by rw[List.getElem?_map,hci];rfl) hvi),h3.2.2⟩
   |arr e sz rows=>exact hO
   |map ks ag n ents=>exact hO
   |raw r=>exact hO
  ·exact hinj i xi j xj (Uv hi) (Uv hj) (hM.inj _ _ _ _ b (hob i xi hi) (hob j xj hj) hbi hbj)
  ·obtain⟨h1,h2,h3⟩:=hM.own _ _ b (hob i x hx) hb;exact⟨h1,h2,.inr ⟨⟨i,x,hx,hb⟩,h500 i x (Uv hx)⟩⟩
 refine(hS.run w ok g0 vals hM0 hl fun i c v hci hvi=>VR.unren ρ hmm (hv i c v hci hvi)).mono ?_;rintro e w' ⟨v,ok',g',rfl,hM',hr⟩;refine⟨v,rfl,?_⟩
 -- the names' way back
 let σ:Nat→Nat:=fun j=>((m.find? fun x=>ρ x.1==j).map (·.1)).getD 0
 have hσ:∀i x,(i,x)∈m→σ (ρ i)=i:=fun i x hx=>by
  have:∃y,m.find? (fun x=>ρ x.1==ρ i)=some y:=Option.isSome_iff_exists.1 (by rw[List.find?_isSome];exact⟨(i,x),hx,by simp⟩);obtain⟨y,hy⟩:=this;have h1:=List.find?_some hy;have h2:=List.mem_of_find?_eq_some hy;show((m.find? fun x=>ρ x.1==ρ i).map (·.1)).getD 0=i;rw[hy];exact hinj y.1 y.2 i x h2 hx (by simpa using h1)
 have hUm:∀j,Jw (E8 ρ m' m) j=true↔∃i x,(i,x)∈m∧ρ i=j:=fun j=>by
  rw[Az,moWs_map,List.mem_map];constructor
  ·rintro⟨⟨i,x⟩,h1,h2⟩;exact⟨i,x,h1,h2⟩
  ·rintro⟨i,x,h1,h2⟩;exact⟨(i,x),h1,h2⟩
 let U:=Jw (E8 ρ m' m)
 let g2:Gh:=⟨fun j=>if U j=true then g'.bl (σ j)else g.bl j,fun j=>if U j=true then g'.cp (σ j)else g.cp j⟩
 have hNj:∀j y,U j=true→Q4 (E8 ρ m' m) j=some y→∃i x x',(i,x)∈m∧ρ i=j∧Xq m' i=some x'∧y=x'.ren ρ∧σ j=i:=fun j y hU hy=>by
  obtain⟨i,x,h1,rfl⟩:=(hUm j).1 hU;rw[moWs_get h1 (fun b z hb e=>hinj b z i x hb h1 e)]at hy;obtain⟨x',hx',rfl⟩:=Option.map_eq_some_iff.1 hy;exact⟨i,x,x',h1,rfl,hx',rfl,hσ i x h1⟩
 have hres:∀i x',Xq m' i=some x'→X5 (Q4 s.mem) U (Z5 (moQ ρ m)) (Q4 (E8 ρ m' m)) (ρ i)=some (x'.ren ρ)∧g'.bl i=g2.bl (ρ i)∧g'.cp i=g2.cp (ρ i):=fun i x' hx'=>by
  obtain⟨x,hx⟩:=hsub i x' hx';have hxm:=Uv hx;have hU:U (ρ i)=true:=(hUm _).2 ⟨i,x,hxm,rfl⟩;refine⟨?_,by simp only[g2];rw[if_pos hU,hσ i x hxm],by simp only[g2];rw[if_pos hU,hσ i x hxm]⟩;unfold X5;rw[if_pos hU,moWs_get hxm (fun b z hb e=>hinj b z i x hb hxm e),hx'];rfl
 have hTU:∀b,(∃i x,Xq m i=some x∧g0.bl i=some b)→∀j xj,U j=false→Q4 s.mem j=some xj→g.bl j≠some b:=fun b ⟨i,x,hx,hb⟩ j xj hUj hj hbj=>by
  have:ρ i=j:=hM.inj _ _ _ _ b (hob i x hx) hj hb hbj;have:U j=true:=(hUm j).2 ⟨i,x,Uv hx,this⟩;rw[this]at hUj;cases hUj
 have hkb:∀i x,Xq m i=some x→kept i=true→g'.bl i=g.bl (ρ i)∧g'.cp i=g.cp (ρ i):=fun i x _ hk=>hM'.keep i hk
 have hokc:∀b,ok b→w'.heap[b]? =w.heap[b]?:=fun b hb=>hM'.heap b (hM.okb b hb).1 fun⟨i,x,hx,hbi⟩=>(hM.own _ _ b (hob i x hx) hbi).1 hb
 have hEff:=MS.eff (w':=w') (ok':=ok') (g':=g2) hM U (Z5 (moQ ρ m)) (Q4 (E8 ρ m' m))
  (fun j hj=>by
   obtain⟨i,x,h1,_,h3⟩:=moQ_mem.1 (R6.1 hj);exact(hUm j).2 ⟨i,x,h1,h3⟩)
  (fun j y hU hy=>by
   obtain⟨i,x,x',h1,rfl,hx',rfl,hsj⟩:=hNj j y hU hy;obtain⟨_,e1,e2⟩:=hres i x' hx';have hO:=hM'.obj i x' hx';cases x' with
   |blk t cs=>
    obtain⟨b,vs,k1,k2,k3⟩:=hO;refine⟨b,vs,by rw[←e1];exact k1,k2,by rw[D6];simpa using k3.1,fun n c v hci hvi=>?_,k3.2.2⟩;rw[D6,List.getElem?_map]at hci;obtain⟨c',hc',rfl⟩:=Option.map_eq_some_iff.1 hci;refine VR.reren ρ (k3.2.1 n c' v hc' hvi) fun o ho=>?_
    have hoid:o∈(Qz.blk t cs).ids:=by
     have idsL_mem:∀(l:List AV) (i:Nat) (c:AV),l[i]? =some c→∀o∈c.ids,o∈Mj l:=fun l=>by
      induction l with
      |nil=>intro i c hc;simp at hc
      |cons a l ih=>
       intro i c hc o ho;simp only[Mj];rcases i with _|i
       ·simp at hc;subst hc;exact List.mem_append_left _ ho
       ·exact List.mem_append_right _ (ih i c (by simpa using hc) o ho)
     exact idsL_mem cs n c' hc' o ho
    obtain⟨y,hy⟩:=hxid i _ hx' o hoid;obtain⟨f1,f2,f3⟩:=hres o y hy;exact⟨y,hy,f1,f2,f3⟩
   |arr e sz rows=>
    obtain⟨k0,k1,k2⟩:=hO;refine⟨k0,k1,?_⟩;rw[←e1,←e2];exact k2
   |map ks ag n ents=>
    obtain⟨b,es,clock,k1,k2⟩:=hO;exact⟨b,es,clock,by rw[←e1];exact k1,k2⟩
   |raw r=>exact RawR.at' hO e1.symm)
  (fun j hq=>by
   by_cases hU:U j=true
   ·obtain⟨i,x,h1,rfl⟩:=(hUm j).1 hU;have hk:kept i=true:=by
     rcases hk:kept i
     ·have:Z5 (moQ ρ m) (ρ i)=true:=R6.2 (moQ_mem.2 ⟨i,x,h1,hk,rfl⟩);rw[this]at hq;cases hq
     ·rfl
    obtain⟨y,hy⟩:=moGet_some h1;have:=hkb i y hy hk;simp only[g2];rw[if_pos hU,if_pos hU,hσ i x h1];exact this
   ·simp only[g2];rw[if_neg hU,if_neg hU];exact⟨rfl,rfl⟩)
  (fun j y hU hq hy=>by
   obtain⟨i,x,x',h1,rfl,hx',rfl,hsj⟩:=hNj j y hU hy;have hk:kept i=true:=by
    rcases hk:kept i
    ·have:Z5 (moQ ρ m) (ρ i)=true:=R6.2 (moQ_mem.2 ⟨i,x,h1,hk,rfl⟩);rw[this]at hq;cases hq
    ·rfl
   obtain⟨z,hz⟩:=moGet_some h1;obtain⟨y',hy',hlike⟩:=moLike_get hlk (Uv hz) hk;rw[hx']at hy';obtain rfl:=Option.some.inj hy';exact⟨_,hob i z hz,Qz.like_ren ρ hlike⟩)
  (fun j xj b hUj hj hbj=>by
   obtain⟨_,h2,_⟩:=hM.own j xj b hj hbj;exact hM'.heap b h2 fun hT=>hTU b hT j xj hUj hj hbj)
  hokc hM'.okk
  (fun b hb=>by
   obtain⟨h1,h2⟩:=hM'.okb b hb;rcases h2 with h2|h2
   ·exact .inl h2
   ·refine .inr ⟨h1,Nat.le_trans hM.size h2,fun i x _ hi hbi=>?_⟩;have:=(hM.own i x b hi hbi).2.1;have h2':w.heap.size≤b:=h2;omega)
  (fun j y b hU hy hb=>by
   obtain⟨i,x,x',h1,rfl,hx',rfl,hsj⟩:=hNj j y hU hy;obtain⟨_,e1,e2⟩:=hres i x' hx';rw[←e1]at hb;obtain⟨k1,k2,k3⟩:=hM'.own i x' b hx' hb;refine⟨k1,k2,?_,fun j' xj hUj hj hbj=>?_,fun j' y' hUj hj hbj=>?_⟩
   ·rcases k3 with k3|⟨hT,k3⟩
    ·exact .inl (Nat.le_trans hM.size k3)
    ·obtain⟨i2,x2,hx2,hb2⟩:=hT;obtain⟨_,_,q3⟩:=hM.own _ _ b (hob i2 x2 hx2) hb2;rcases q3 with q3|⟨q3,q4⟩
     ·exact .inl q3
     ·right;refine⟨q3,?_⟩
      -- whose block is it now?
      rcases hk:kept i
      ·rcases hk2:kept i2
       ·have hx1':=h1;rcases(Bool.or_eq_true _ _).mp c7 with c|c
        ·have:=List.all_eq_true.1 c _ h1;simp only[Bool.or_eq_true]at this;rcases this with t|t
         ·unfold kept at hk;rw[t]at hk;cases hk
         ·exact Nat.le_of_ble_eq_true t
        ·have:=List.all_eq_true.1 c _ (Uv hx2);simp only[Bool.or_eq_true,Bool.not_eq_true']at this;rcases this with t|t
         ·unfold kept at hk2;rw[t]at hk2;cases hk2
         ·have:=ble_false t;omega
       ·obtain⟨y2,hy2,_⟩:=moLike_get hlk (Uv hx2) hk2;have:=(hkb i2 x2 hx2 hk2).1;have e3:i=i2:=hM'.inj i i2 x' y2 b hx' hy2 hb (by rw[this];exact hb2);rw[e3]at hk;rw[hk]at hk2;cases hk2
      ·obtain⟨z,hz⟩:=moGet_some h1;have:=(hkb i z hz hk).1;rw[this]at hb;have e3:ρ i=ρ i2:=hM.inj _ _ _ _ b (hob i z hz) (hob i2 x2 hx2) hb hb2;rw[e3];exact q4
   ·rcases k3 with k3|⟨hT,k3⟩
    ·have k3':w.heap.size≤b:=k3;have:=(hM.own j' xj b hj hbj).2.1;omega
    ·exact hTU b hT j' xj hUj hj hbj
   ·obtain⟨i2,x2,x2',h12,rfl,hx2',_,hs2⟩:=hNj j' y' hUj hj;obtain⟨_,e12,_⟩:=hres i2 x2' hx2';rw[←e12]at hbj;rw[hM'.inj i i2 x' x2' b hx' hx2' hb hbj])
  (fun j hj=>by
   obtain⟨i,x,h1,h2,rfl⟩:=moQ_mem.1 (R6.1 hj);have:=List.all_eq_true.1 c8 _ h1;simp only[Bool.or_eq_true,Bool.not_eq_true']at this;rcases this with t|t
   ·unfold kept at h2;rw[t]at h2;cases h2
   ·exact t)
  hM'.size
  (fun b hb hT=>hM'.heap b (Nat.lt_of_lt_of_le hb hM.size) fun ⟨i,x,hx,hbi⟩=>by
   obtain⟨_,_,q3⟩:=hM.own _ _ b (hob i x hx) hbi;rcases q3 with q3|⟨q3,_⟩
   ·omega
   ·exact hT q3)
  hM'.os hM'.tape hM'.output
 refine St.after (ok':=ok') (g':=g2) hs hdf hf dst hd (r.ren ρ) v (Mk ρ m m') hEff (fun _=>?_);refine VR.reren ρ hr fun o ho=>?_
 obtain⟨x,hx⟩:=hrid o ho;obtain⟨f1,f2,f3⟩:=hres o x hx;exact⟨x,hx,f1,f2,f3⟩
end Go.Proofs.YtjpldhjgehoffaaGreatDoor
namespace Go.Proofs.YtjpldhjgehoffaaGreatDoor
open Go.RowKit
set_option linter.unusedVariables false
inductive Hint where
 |p (r:Nat→AV) (x:Option Qz)
 |c (π:List (Nat×Nat)) (args:List AV) (mo:Mo) (r:AV) (mo':Mo)
 |n (π:List (Nat×Nat)) (args:List AV) (mo:Mo) (r:AV) (mo':Mo) (ph:List Nat)
def phO:List Nat→Mo
 |[]=>[]
 |i::r=>(i,.arr 0 1 [])::phO r
def Zw (m:Me) (f:Operand→AV) (op:Op):List Nat:=(Kq f op.operands.toList++J8 m (Kq f op.operands.toList))++J8 m (J8 m (Kq f op.operands.toList))
def Yk (m:Me) (ρ:Nat→Nat):Mo→Prop
 |[]=>True
 |(i,x)::r=>m (ρ i)=some (x.ren ρ)∧Yk m ρ r
def Y8 (P:Program) (m:Me) (f:Operand→AV) (o:Oper) (h:Option Hint):Option (AV×Eff×Prop):=
 match o.op,h with
 | .call cc,some (.p r x)=>match cc.callee with
  | .value g=>match Jq (f g)with
   |some (k,cap)=>if x.isSome && Nat.ble 500 (o.dst.getD 0)then none else some (r (o.dst.getD 0),J4 (o.dst.getD 0) x,Z4 P k (cc.args.toList.map f++cap) r x)
   |none=>none
  |_=>none
 | .call cc,some (.c π args mo r mo')=>match cc.callee with
  | .value g=>match Jq (f g)with
   |some (k,cap)=>if Qv2 (Zx π) mo r mo' && (mo.all fun x=>Z5 (Zw m f (.call cc)) (Zx π x.1))then some (r.ren (Zx π),Mk (Zx π) mo mo',Qv P k args mo r mo'∧cc.args.toList.map f++cap=args.map (AV.ren (Zx π))∧R4 mo' mo∧Yk m (Zx π) mo)else none
   |none=>none
  |_=>none
 | .call cc,some (.n π args mo r mo' ph)=>match cc.callee with
  | .value g=>match Jq (f g)with
   |some (k,cap)=>if (Qv2 (Zx π) (mo++phO ph) r mo' && (mo.all fun x=>Z5 (Zw m f (.call cc)) (Zx π x.1))) && ((ph.all fun i=>!(Nat.ble 1000 i) && !(Nat.ble 500 (Zx π i))) && (!(AV.K6 (Z5 (ph.map (Zx π))) (cc.args.toList.map f++cap)) && (mo.all fun x=>!(Z5 (ph.map (Zx π)) (Zx π x.1)) && !((x.2.ren (Zx π)).ids.any (Z5 (ph.map (Zx π)))))))
     then some (r.ren (Zx π),Mk (Zx π) (mo++phO ph) mo',Qv P k args (mo++phO ph) r mo'∧cc.args.toList.map f++cap=args.map (AV.ren (Zx π))∧R4 mo' (mo++phO ph)∧Yk m (Zx π) mo)else none
   |none=>none
  |_=>none
 |_,_=>none
def Yj (P:Program) (m:Me) (f:Operand→AV) (o:Oper) (h:Option Hint):Option (AV×Eff×Prop):=
 match Yw P m f o.dst o.op with
 |some r=>some r
 |none=>match Yq P m f o.dst o.op with
  |some r=>some r
  |none=>match Vv P f o.op with
   |some (v,p)=>some (v,⟨[],[]⟩,p)
   |none=>Y8 P m f o h
def Bz:Option (AV×Eff×Prop)→Option (AV×Eff×Prop)
 |some (c,⟨q,[(o,some x)]⟩,p)=>if Nat.ble 500 o then none else some (c.frz o x,⟨o::q,[(o,none)]⟩,p)
 |_=>none
def V9 (P:Program) (m:Me) (f:Operand→AV) (o:Oper) (h:Option Hint) (z:Bool):Option (AV×Eff×Prop):=
 if z then (match Vw f o.op with
  |some v=>some (v,⟨[],[]⟩,True)
  |none=>Bz (Yj P m f o h))else Yj P m f o h
section
variable {P:Program} {m m1:Me} {f f1:Operand→AV}
def Sees (m m1:Me) (c:AV):Prop:=∀i,c.has (fun j=>j==i)=true→m1 i=m i
theorem Sees.ptr {o off:Nat} (h:Sees m m1 (.ptr o off)):m1 o=m o:=h o (by simp[AV.has])
theorem Sees.arr {o l n:Nat} (h:Sees m m1 (.arr o l n)):m1 o=m o:=h o (by simp[AV.has])
theorem Sees.U2 {o i j:Nat} (h:Sees m m1 (.U2 o i j)):m1 o=m o:=h o (by simp[AV.has])
theorem Sees.mp {o:Nat} (h:Sees m m1 (.mp o)):m1 o=m o:=h o (by simp[AV.has])
theorem rdCells_see {p:AV} (h:Sees m m1 p) (n:Nat):Y1 m1 p n=Y1 m p n:=by
 unfold Y1;cases p<;> try rfl
 case d d=>cases d<;> rfl
 case ptr o off=>simp only[h.ptr]
 case U2 o i j=>simp only[h.U2]
theorem wrCells_see {p:AV} (h:Sees m m1 p) (cs:List AV):Y3 m1 p cs=Y3 m p cs:=by
 unfold Y3;cases p<;> try rfl
 case ptr o off=>simp only[h.ptr]
 case U2 o i j=>simp only[h.U2]
theorem fldAddr_see {p:AV} (h:Sees m m1 p) (n:Nat):Vx m1 n p=Vx m n p:=by
 unfold Vx;cases p<;> try rfl
 case d d=>cases d<;> rfl
 case ptr o off=>simp only[h.ptr]
 case U2 o i j=>simp only[h.U2]
theorem idxAddr_see {p:AV} (h:Sees m m1 p) (n:Nat) (k:Int):U1 m1 n p k=U1 m n p k:=by
 unfold U1;cases p<;> try rfl
 case d d=>cases d<;> rfl
 case arr o l n=>simp only[h.arr]
theorem srcRows_see {p:AV} (h:Sees m m1 p) (n:Nat):U0 m1 n p=U0 m n p:=by
 unfold U0;cases p<;> try rfl
 case d d=>cases d<;> rfl
 case lit v=>first|rfl|(cases v<;> first|rfl|(rename_i a b c;cases a<;> first|rfl|(cases b<;> first|rfl|(cases c<;> rfl))))
 case arr o l n=>simp only[h.arr]
theorem litRows_congr (sz:Nat):∀(l:List (Nat×Operand)) (k:Nat),(∀x∈l,f1 x.2=f x.2)→Yz sz f1 k l=Yz sz f k l
 |[],k,_=>rfl
 |(i,x)::l,k,h=>by
  unfold Yz;rw[h (i,x) (by simp),litRows_congr sz l (k+1) (fun y hy=>h y (by simp[hy]))]
theorem Qj8 {x:Option Operand} (h:∀y,x=some y→f1 y=f y):Ij f1 x=Ij f x:=by
 cases x with
 |none=>rfl
 |some y=>simp only[Ij,h y rfl]
theorem pureOp_see {op:Op} (hf:∀x∈op.operands,f1 x=f x) (hm:∀x∈op.operands,Sees m m1 (f x)):J3 P m1 f1 op=J3 P m f op:=by
 cases op<;> simp only[Op.operands]at hf hm<;> try rfl
 case move x=>simp only[J3,hf x (by simp)]
 case assign x=>simp only[J3,hf x (by simp)]
 case pick c a b=>simp only[J3,hf c (by simp),hf a (by simp),hf b (by simp)]
 case build t parts=>
  simp only[J3];rw[List.map_congr_left (fun x hx=>by rw[hf x.2 (by simp;exact⟨x.1,by simpa using hx⟩)])]
 case fieldAddr s x k=>simp only[J3,hf x (by simp),fldAddr_see (hm x (by simp))]
 case field s x k=>simp only[J3,hf x (by simp)]
 case indexAddr t x i=>simp only[J3,hf x (by simp),hf i (by simp),idxAddr_see (hm x (by simp))]
 case extract x i=>simp only[J3,hf x (by simp)]
 case binOp op t x y t2=>simp only[J3,hf x (by simp),hf y (by simp)]
 case unOp op t x=>cases op<;> simp only[J3,hf x (by simp)]
 case makeFunc k first cap=>
  cases k<;> simp only[J3]
  rw[List.map_congr_left (fun x hx=>hf x (by simp at hx⊢;exact .inr hx))]
 case load t x=>simp only[J3,hf x (by simp),rdCells_see (hm x (by simp))]
 case slice t x lo hi mx=>
  cases mx with
  |some y=>rfl
  |none=>
   simp only[J3];rw[Qj8 (x:=lo) (fun y hy=>hf y (by simp[hy])),Qj8 (x:=hi) (fun y hy=>hf y (by simp[hy])),hf x (by simp)];have h:=hm x (by simp);generalize f x=c at h;cases c<;> try rfl
   case d d=>cases d<;> rfl
   case arr o l n=>simp only[h.arr]
 case call c=>
  obtain⟨callee,args,tys⟩:=c;cases callee with
  |value g=>rfl
  |invoke g n=>rfl
  |builtin b=>
   cases b<;> try rfl
   simp only[J3];rcases ha:args.toList with _|⟨x,_|⟨y,r⟩⟩<;> try rfl
   rcases tys.toList with _|⟨t,_|⟨t',r'⟩⟩<;> try rfl
   have hx:x∈(Op.call ⟨.builtin .len,args,tys⟩).operands:=by
    simp only[Op.operands,Call.operands,Array.mem_append];exact .inr (by rw[←Array.mem_toList_iff,ha];simp)
   dsimp only;rw[hf x hx];have h:=hm x hx;generalize f x=cc at h;cases cc<;> try rfl
   case d d=>cases d<;> rfl
   case lit v=>first|rfl|(cases v<;> first|rfl|(rename_i a b c;cases a<;> first|rfl|(cases b<;> first|rfl|(cases c<;> rfl))))
   case arr o l n=>simp only[h.arr]
theorem effOp_see {op:Op} (dst:Option Nat) (hf:∀x∈op.operands,f1 x=f x) (hm:∀x∈op.operands,Sees m m1 (f x)):Yw P m1 f1 dst op=Yw P m f dst op:=by
 have hp:=pureOp_see (P:=P) hf hm;cases op<;> try (simp only[Yw,hp];done)
 case box t x=>
  simp only[Op.operands]at hf hm;simp only[Yw,hf x (by simp)]
 case buildSlice t n parts=>
  simp only[Op.operands]at hf hm;simp only[Yw];have:=fun sz=>litRows_congr (f:=f) (f1:=f1) sz parts.toList 0 (fun x hx=>hf x.2 (by simp;exact⟨x.1,by simpa using hx⟩))
  simp only[this]
 case makeSlice t l c=>
  simp only[Op.operands]at hf hm;simp only[Yw,hf l (by simp),hf c (by simp)]
 case store t p x=>
  simp only[Op.operands]at hf hm;simp only[Yw,hf x (by simp),hf p (by simp),wrCells_see (hm p (by simp))]
 case call c=>
  obtain⟨callee,args,tys⟩:=c;cases callee with
  |value g=>simp only[Yw,hp]
  |invoke g n=>simp only[Yw,hp]
  |builtin bb=>
   by_cases hb:bb= .append
   ·subst hb;rcases ha:args.toList with _|⟨a,_|⟨b,_|⟨y,r⟩⟩⟩
    ·simp only[Yw,ha,hp]
    ·simp only[Yw,ha,hp]
    ·rcases ht:tys.toList with _|⟨t,_|⟨t',_|⟨t2,r'⟩⟩⟩
     ·simp only[Yw,ha,ht,hp]
     ·simp only[Yw,ha,ht,hp]
     ·have hxa:a∈(Op.call ⟨.builtin .append,args,tys⟩).operands:=by
       simp only[Op.operands,Call.operands,Array.mem_append];exact .inr (by rw[←Array.mem_toList_iff,ha];simp)
      have hxb:b∈(Op.call ⟨.builtin .append,args,tys⟩).operands:=by
       simp only[Op.operands,Call.operands,Array.mem_append];exact .inr (by rw[←Array.mem_toList_iff,ha];simp)
      simp only[Yw,ha,ht];have hsr:=fun sz=>srcRows_see (hm b hxb) sz
      rw[hf a hxa,hf b hxb];simp only[hsr];have h:=hm a hxa;generalize f a=ca at h;cases ca<;> try rfl
      case lit v=>first|rfl|(cases v<;> first|rfl|(rename_i a b c;cases a<;> first|rfl|(cases b<;> first|rfl|(cases c<;> rfl))))
      case arr o l n=>
       have h':=h.arr;cases l<;> first|rfl|(simp only[h'])
     ·simp only[Yw,ha,ht,hp]
    ·simp only[Yw,ha,hp]
   ·cases bb<;> first|exact absurd rfl hb|simp only[Yw,hp]
theorem mapOp_see {op:Op} (dst:Option Nat) (hf:∀x∈op.operands,f1 x=f x) (hm:∀x∈op.operands,Sees m m1 (f x)):Yq P m1 f1 dst op=Yq P m f dst op:=by
 cases op<;> try (rfl;done)
 case nilCheck x=>
  simp only[Op.operands]at hf hm;have h:=hm x (by simp);simp only[Yq,hf x (by simp)];generalize f x=c at h;cases c<;> try rfl
  case d d=>cases d<;> rfl
  case ptr o k=>simp only[h.ptr]
  case U2 o i j=>simp only[h.U2]
 case makeMap t r=>cases r<;> rfl
 case binOp op t x y t2=>
  simp only[Op.operands]at hf hm;simp only[Yq,hf x (by simp),hf y (by simp)]
 case lookup t x k c=>
  simp only[Op.operands]at hf hm;have h:=hm x (by simp);simp only[Yq,hf x (by simp),hf k (by simp)];generalize f x=cx at h;rcases Fv P t with _|⟨e,ks,ag,n⟩<;> try rfl
  generalize f k=ck;cases ck<;> try rfl
  rename_i kd;dsimp only;generalize tyZv P e ag=zz;cases cx
  case mp o=>cases zz<;> first|rfl|(dsimp only;rw[h.mp])
  case lit v=>cases zz<;> cases v<;> first|rfl|(rename_i q;cases q<;> rfl)
  all_goals cases zz<;> rfl
 case mapUpdate t x k v=>
  simp only[Op.operands]at hf hm;have h:=hm x (by simp);simp only[Yq,hf x (by simp),hf k (by simp),hf v (by simp)];generalize f x=cx at h;rcases Fv P t with _|⟨e,ks,ag,n⟩<;> try rfl
  generalize f k=ck;cases cx<;> cases ck<;> first|rfl|(dsimp only;rw[h.mp])
 case insert t x k v=>
  simp only[Op.operands]at hf hm;have h:=hm x (by simp);simp only[Yq,hf x (by simp),hf k (by simp),hf v (by simp)];generalize f x=cx at h;rcases Fv P t with _|⟨e,ks,ag,n⟩<;> try rfl
  generalize f k=ck;cases cx<;> cases ck<;> first|rfl|(dsimp only;rw[h.mp])
 case index t x i=>
  simp only[Op.operands]at hf hm;simp only[Yq,hf x (by simp),hf i (by simp)]
 case mapEntry t x k=>
  simp only[Op.operands]at hf hm;have h:=hm x (by simp);simp only[Yq,hf x (by simp),hf k (by simp)];generalize f x=cx at h;rcases Fv P t with _|⟨e,ks,ag,n⟩<;> try rfl
  generalize f k=ck;cases cx<;> cases ck<;> first|rfl|(dsimp only;rw[h.mp])
 case entryStore t x s v=>
  simp only[Op.operands]at hf hm;have h:=hm x (by simp);simp only[Yq,hf x (by simp),hf s (by simp),hf v (by simp)];generalize f x=cx at h;rcases Fv P t with _|⟨e,ks,ag,n⟩<;> try rfl
  cases cx
  case mp o=>
   cases f s<;> try rfl
   rename_i u;cases u<;> try rfl
   rename_i kk c;cases kk<;> first|rfl|(dsimp only;rw[h.mp])
  all_goals rfl
 case call cc=>
  obtain⟨callee,args,tys⟩:=cc;cases callee with
  |value g=>rfl
  |invoke g n=>rfl
  |builtin bb=>
   have hin:∀y∈args.toList,y∈(Op.call ⟨.builtin bb,args,tys⟩).operands:=fun y hy=>by
    simp only[Op.operands,Call.operands,Array.mem_append];exact .inr (by rw[←Array.mem_toList_iff];exact hy)
   rcases ha:args.toList with _|⟨a,_|⟨b,_|⟨y,r⟩⟩⟩
   ·cases bb<;> simp only[Yq,ha]
   ·have h1:=hf a (hin a (by simp[ha]));have h:=hm a (hin a (by simp[ha]));cases bb<;> simp only[Yq,ha]
    case clear=>
     rcases ht:tys.toList with _|⟨t,_|⟨t',r'⟩⟩<;> try rfl
     simp only[h1];generalize f a=ca at h;rcases Ux P t with _|⟨e,_|_|sz⟩<;> try rfl
     cases ca
     case arr o l n=>
      have h':=h.arr;simp only[h']
     all_goals rfl
    case len=>
     rcases ht:tys.toList with _|⟨t,_|⟨t',r'⟩⟩<;> try rfl
     simp only[h1];generalize f a=ca at h;rcases Fv P t with _|⟨e,ks,ag,n⟩<;> try rfl
     cases ca
     case mp o=>first|rfl|(dsimp only;rw[h.mp])
     case lit v=>cases v<;> first|rfl|(rename_i q;cases q<;> rfl)
     all_goals rfl
   ·have h1:=hf a (hin a (by simp[ha]));have h2:=hf b (hin b (by simp[ha]));have h:=hm a (hin a (by simp[ha]));cases bb<;> simp only[Yq,ha]
    rcases ht:tys.toList with _|⟨t,_|⟨t',_|⟨t2,r'⟩⟩⟩<;> try rfl
    simp only[h1,h2];generalize f a=ca at h;generalize f b=cb;rcases Fv P t with _|⟨e,ks,ag,n⟩<;> try rfl
    cases ca<;> cases cb<;> first|rfl|(dsimp only;rw[h.mp])
   ·cases bb<;> simp only[Yq,ha]
theorem opnIds_mem {f:Operand→AV}:∀(xs:List Operand),∀x∈xs,∀i∈(f x).ids,i∈Kq f xs:=fun xs=>by
 induction xs with
 |nil=>intro x hx;cases hx
 |cons y ys ih=>
  intro x hx i hi;simp only[Kq];rcases List.mem_cons.1 hx with rfl|hx
  ·exact List.mem_append_left _ hi
  ·exact List.mem_append_right _ (ih x hx i hi)
theorem opnIds_congr:∀(xs:List Operand),(∀x∈xs,f1 x=f x)→Kq f1 xs=Kq f xs:=fun xs=>by
 induction xs with
 |nil=>intro _;rfl
 |cons y ys ih=>intro h;simp only[Kq,h y (by simp),ih fun x hx=>h x (by simp[hx])]
theorem C9:∀(is:List Nat),(∀i∈is,m1 i=m i)→J8 m1 is=J8 m is:=fun is=>by
 induction is with
 |nil=>intro _;rfl
 |cons y ys ih=>intro h;simp only[J8,h y (by simp),ih fun x hx=>h x (by simp[hx])]
theorem moHave_congr (ρ:Nat→Nat):∀(mo:Mo),(∀x∈mo,m1 (ρ x.1)=m (ρ x.1))→Yk m1 ρ mo=Yk m ρ mo:=fun mo=>by
 induction mo with
 |nil=>intro _;rfl
 |cons y ys ih=>intro h;obtain⟨i,x⟩:=y;simp only[Yk,h (i,x) (by simp),ih fun x hx=>h x (by simp[hx])]
theorem viewIds_congr {op:Op} (hf:∀x∈op.operands,f1 x=f x) (hm:∀i∈Kq f op.operands.toList++J8 m (Kq f op.operands.toList),m1 i=m i):Zw m1 f1 op=Zw m f op:=by
 unfold Zw;rw[opnIds_congr op.operands.toList (fun x hx=>hf x (by simpa using hx)),C9 _ (fun i hi=>hm i (List.mem_append_left _ hi)),C9 _ (fun i hi=>hm i (List.mem_append_right _ hi))]
theorem extOp_see {op:Op} (hf:∀x∈op.operands,f1 x=f x):Vv P f1 op=Vv P f op:=by
 cases op<;> try rfl
 case convert src dst x=>
  simp only[Op.operands]at hf;simp only[Vv,hf x (by simp)]
 case slice t x lo hi mx=>
  simp only[Op.operands]at hf;cases mx with
  |none=>
   simp only[Vv,hf x (by simp)];rw[Qj8 (x:=lo) (fun y hy=>hf y (by simp[hy])),Qj8 (x:=hi) (fun y hy=>hf y (by simp[hy]))]
  |some m=>
   cases lo with
   |some l=>rfl
   |none=>
    cases hi with
    |none=>rfl
    |some h=>simp only[Vv,hf x (by simp),hf h (by simp),hf m (by simp)]
 case call c=>
  obtain⟨callee,args,tys⟩:=c;simp only[Op.operands,Call.operands]at hf;simp only[Vv];have ha:∀x∈args.toList,f1 x=f x:=fun x hx=>hf x (by simp;exact .inr (by simpa using hx))
  generalize args.toList=l at ha;split
  ·rw[ha _ (by simp),ha _ (by simp)]
  ·rw[ha _ (by simp),ha _ (by simp)]
  ·rfl
theorem wrapOp_see {op:Op} (hf:∀x∈op.operands,f1 x=f x):Vw f1 op=Vw f op:=by
 cases op<;> try rfl
 case binOp op t x y t2=>
  simp only[Op.operands]at hf;simp only[Vw,hf x (by simp),hf y (by simp)]
theorem opEff_see {o:Oper} (h:Option Hint) (z:Bool) (hf:∀x∈o.op.operands,f1 x=f x) (hv:∀i∈Zw m f o.op,m1 i=m i):V9 P m1 f1 o h z=V9 P m f o h z:=by
 have hm:∀x∈o.op.operands,Sees m m1 (f x):=fun x hx i hi=>hv i (List.mem_append_left _<|List.mem_append_left _ (opnIds_mem _ x (by simpa using hx) i (by
  rw[AV.M3,List.any_eq_true]at hi;obtain⟨j,hj,e⟩:=hi;have:j=i:=by simpa using e
  rw[←this];exact hj)))
 have h0:Yj P m1 f1 o h=Yj P m f o h:=by
  have hc:Y8 P m1 f1 o h=Y8 P m f o h:=by
   obtain⟨dst,op,ty,pos,after,guard⟩:=o;dsimp only at hf hv hm;cases op<;> try rfl
   rename_i cc;obtain⟨callee,args,tys⟩:=cc;cases h with
   |none=>rfl
   |some h=>
    cases callee with
    |value g=>
     have hg:f1 g=f g:=hf g (by simp[Op.operands,Call.operands]);have ha:args.toList.map f1=args.toList.map f:=List.map_congr_left fun x hx=>hf x (by simp[Op.operands,Call.operands];exact .inr (by simpa using hx))
     have hvi:=viewIds_congr hf (fun i hi=>hv i (List.mem_append_left _ hi));cases h with
     |p r x=>simp only[Y8,hg,ha]
     |c π ars mo r mo'=>
      simp only[Y8,hg,ha,hvi];split
      ·rename_i k cap hk;split
       ·rename_i hcond;rw[Bool.and_eq_true]at hcond;have:Yk m1 (Zx π) mo=Yk m (Zx π) mo:=moHave_congr _ mo fun x hx=>hv _ (R6.1 (List.all_eq_true.1 hcond.2 x hx))
        rw[this]
       ·rfl
      ·rfl
     |n π ars mo r mo' ph=>
      simp only[Y8,hg,ha,hvi];split
      ·rename_i k cap hk;split
       ·rename_i hcond;rw[Bool.and_eq_true,Bool.and_eq_true]at hcond;have:Yk m1 (Zx π) mo=Yk m (Zx π) mo:=moHave_congr _ mo fun x hx=>hv _ (R6.1 (List.all_eq_true.1 hcond.1.2 x hx))
        rw[this]
       ·rfl
      ·rfl
    |_=>cases h<;> rfl
  simp only[Yj,effOp_see o.dst hf hm,mapOp_see o.dst hf hm,extOp_see hf,hc]
 simp only[V9,h0,wrapOp_see hf]
end
end Go.Proofs.YtjpldhjgehoffaaGreatDoor
namespace Go.Proofs.YtjpldhjgehoffaaGreatDoor
open Go.RowKit
set_option linter.unusedVariables false
theorem AV.Rz {q:Nat→Bool} {c:AV} (h:c.has q=false):c.kill q=c:=by unfold AV.kill;rw[h];rfl
theorem Qz.Rz {q:Nat→Bool} {x:Qz} (h:x.ids.any q=false):x.kill q=x:=by
 cases x with
 |arr e sz rows=>rfl
 |map ks ag n ents=>rfl
 |raw r=>rfl
 |blk t cs=>
  have h':(Mj cs).any q=false:=h;simp only[Qz.kill,Qz.blk.injEq,true_and];induction cs with
  |nil=>rfl
  |cons c r ih=>
   simp only[Mj,List.any_append,Bool.or_eq_false_iff]at h';rw[List.map_cons,AV.Rz (by rw[AV.M3];exact h'.1),ih h'.2 h'.2]
theorem AV.Qz8 (q1 q2:Nat→Bool) (c:AV):(c.kill q1).kill q2=(c.kill q2).kill q1:=by
 unfold AV.kill;by_cases h1:c.has q1=true<;> by_cases h2:c.has q2=true<;> simp[h1,h2,AV.has]
theorem Qz.Qz8 (q1 q2:Nat→Bool) (x:Qz):(x.kill q1).kill q2=(x.kill q2).kill q1:=by
 cases x with
 |arr e sz rows=>rfl
 |map ks ag n ents=>rfl
 |raw r=>rfl
 |blk t cs=>simp only[Qz.kill,List.map_map,Qz.blk.injEq,true_and];exact List.map_congr_left fun c _=>AV.Qz8 q1 q2 c
structure Rc where
 o:Oper
 h:Option Hint
 z:Bool
 run:Bool
 c:AV
 e:Eff
 p:Prop
 M:List Nat
 nk:Bool
 an:Bool
 ld:Option Nat
 st:Option Nat
def Wj:AV→Bool
 | .any=>true
 |_=>false
def Mv:AV→Bool
 | .any=>false
 | .agg l=>l.all fun c=>!Wj c
 |_=>true
def Nw:Op→Option Operand
 | .load _ a=>some a
 | .move a=>some a
 | .assign a=>some a
 | .nilCheck a=>some a
 | .fieldAddr _ a _=>some a
 |_=>none
def ldOf (f:Operand→AV) (op:Op) (c:AV):Option Nat:=match Nw op with
 |some a=>match f a with
  | .ptr o _=>if Mv c then some o else none
  |_=>none
 |none=>none
theorem ldArg_mem {op:Op} {a:Operand} (h:Nw op=some a):a∈op.operands:=by
 unfold Nw at h;split at h<;> first|(cases h;simp[Op.operands])|cases h
def stOk (e:Eff):Bool:=match e.ws with
 |[(_,some (.blk _ cs))]=>cs.all fun c=>!Wj c
 |_=>false
def stOf (f:Operand→AV) (op:Op) (e:Eff) (z:Bool):Option Nat:=if z then none else match op with
 | .store _ a _=>match f a with
  | .ptr o _=>if stOk e then some o else none
  |_=>none
 |_=>none
def isMv:Op→Bool
 | .move _=>true
 | .assign _=>true
 |_=>false
def Rc.pu (r:Rc):Bool:=isMv r.o.op && r.run && !Wj r.c
theorem isMv_spec {op:Op} (h:isMv op=true):∃a,op.operands= #[a]∧(op= .move a∨op= .assign a):=by
 unfold isMv at h;split at h
 ·exact⟨_,rfl,.inl rfl⟩
 ·exact⟨_,rfl,.inr rfl⟩
 ·cases h
def G6 (f:Operand→AV):List Operand→Bool
 |[]=>false
 |x::r=>Wj (f x)||G6 f r
def G7:Qz→Bool
 | .blk _ cs=>cs.any Wj
 | .arr _ _ _=>false
 | .map _ _ _ _=>false
 | .raw _=>false
def G9 (m:Me):List Nat→Bool
 |[]=>false
 |i::r=>(match m i with|some x=>G7 x|none=>false)||G9 m r
theorem memAny_get {m:Me}:∀{l:List Nat},G9 m l=false→∀i∈l,∀x,m i=some x→G7 x=false
 |[],_,i,hi,_,_=>by cases hi
 |j::r,h,i,hi,x,hx=>by
  simp only[G9,Bool.or_eq_false_iff]at h;rcases List.mem_cons.1 hi with rfl|hi
  ·have:=h.1;rw[hx]at this;exact this
  ·exact memAny_get h.2 i hi x hx
def frNo (q:Nat→Bool):List (Nat×AV)→Bool
 |[]=>true
 |(_,c)::r=>!(c.has q) && frNo q r
def Nv (q:Nat→Bool):List (Nat×Option Qz)→Bool
 |[]=>true
 |(_,none)::r=>Nv q r
 |(_,some x)::r=>!(x.ids.any q) && Nv q r
theorem frNo_get {q:Nat→Bool} {f:List (Nat×AV)} (h:frNo q f=true) (t:Nat):(Zj f t).has q=false:=by
 induction f with
 |nil=>rfl
 |cons x r ih=>
  obtain⟨u,c⟩:=x;simp only[frNo,Bool.and_eq_true,Bool.not_eq_true']at h;simp only[Zj];split
  ·exact h.1
  ·exact ih h.2
theorem memNo_get {q:Nat→Bool} {f:List (Nat×Option Qz)} (h:Nv q f=true) (t:Nat) (x:Qz) (hx:Q4 f t=some x):x.kill q=x:=by
 induction f with
 |nil=>cases hx
 |cons y r ih=>
  obtain⟨u,c⟩:=y;cases c with
  |none=>
   simp only[Nv]at h;simp only[Q4]at hx;split at hx
   ·cases hx
   ·exact ih h hx
  |some z=>
   simp only[Nv,Bool.and_eq_true,Bool.not_eq_true']at h;simp only[Q4]at hx;split at hx
   ·cases hx;exact Qz.Rz h.1
   ·exact ih h.2 hx
section
variable (P:Program) (ops:Array Oper)
structure Jk (s:AS) (r:Rc):Prop where
 d:Rw s r.o=true
 g:Kj ops s r.o=some r.run
 e:r.run=true→V9 P (Q4 s.mem) (evA s.fr) r.o r.h r.z=some (r.c,r.e,r.p)
 e':r.run=false→r.c= .tuple []∧r.e=⟨[],[]⟩
 M:r.pu=false→∀i∈Zw (Q4 s.mem) (evA s.fr) r.o.op,i∈r.M∧∀y,Q4 s.mem i=some y→∀j∈y.ids,j∈r.M
 nk:r.nk=true→(∀t,(Zj s.fr t).has (Z5 r.e.q)=false)∧∀i y,Q4 s.mem i=some y→y.kill (Z5 r.e.q)=y
 an:r.pu=false→r.an=false→(∀x∈r.o.op.operands,Wj (evA s.fr x)=false)∧∀i∈Zw (Q4 s.mem) (evA s.fr) r.o.op,∀x,Q4 s.mem i=some x→G7 x=false
 ld:∀o,r.ld=some o→r.run=true∧Mv r.c=true∧∃a off,Nw r.o.op=some a∧evA s.fr a= .ptr o off
 st:∀o,r.st=some o→r.run=true∧r.z=false∧stOk r.e=true∧∃t a v off,r.o.op= .store t a v∧evA s.fr a= .ptr o off
def Zq (s:AS) (r:Rc):AS:=s.after r.o.dst r.c r.e
def Trace:List Rc→AS→Prop
 |[],_=>True
 |r::l,s=>Jk P ops s r∧Trace l (Zq s r)
def runR:List Rc→AS→AS
 |[],s=>s
 |r::l,s=>runR l (Zq s r)
end
structure Eqv (s t:AS):Prop where
 n:s.n=t.n
 f:∀i,Zj s.fr i=Zj t.fr i
 m:∀i,Q4 s.mem i=Q4 t.mem i
theorem Eqv.refl (s:AS):Eqv s s:=⟨rfl,fun _=>rfl,fun _=>rfl⟩
theorem Eqv.symm {s t:AS} (h:Eqv s t):Eqv t s:=⟨h.n.symm,fun i=>(h.f i).symm,fun i=>(h.m i).symm⟩
theorem Eqv.trans {s t u:AS} (h:Eqv s t) (k:Eqv t u):Eqv s u:=⟨h.n.trans k.n,fun i=>(h.f i).trans (k.f i),fun i=>(h.m i).trans (k.m i)⟩
theorem Eqv.st {C:Cx} {s t:AS} (h:Eqv s t) {a:Act} {w:World} (hs:St C s a w):St C t a w:=
 hs.weak h.n.symm (fun i=>.inr (h.f i).symm) (fun o x hx=>by rw[h.m];exact hx)
theorem Eqv.evA {s t:AS} (h:Eqv s t):evA s.fr=evA t.fr:=by
 funext x;cases x<;> first|rfl|exact h.f _
theorem Eqv.memF {s t:AS} (h:Eqv s t):Q4 s.mem=Q4 t.mem:=funext h.m
theorem Eqv.next {s t:AS} (h:Eqv s t) (r:Rc):Eqv (Zq s r) (Zq t r):=by
 refine⟨h.n,fun i=>?_,fun i=>?_⟩
 ·simp only[Zq,AS.Jz,h.f]
 ·simp only[Zq,AS.K8,h.memF]
theorem Jk.eqv {P:Program} {ops:Array Oper} {s t:AS} {r:Rc} (h:Jk P ops s r) (k:Eqv s t):Jk P ops t r:=by
 refine⟨by have:=h.d;unfold Rw at this⊢;rw[←k.n];exact this,?_,fun hr=>by rw[←k.evA,←k.memF];exact h.e hr,h.e',?_,fun hr=>?_,fun hp hr=>by rw[←k.evA,←k.memF];exact h.an hp hr,fun o ho=>by rw[←k.evA];exact h.ld o ho,fun o ho=>by rw[←k.evA];exact h.st o ho⟩
 ·have:=h.g;unfold Kj at this⊢;simp only[←k.f];exact this
 ·rw[←k.evA,←k.memF];exact h.M
 ·obtain⟨h1,h2⟩:=h.nk hr;exact⟨fun i=>by rw[←k.f];exact h1 i,fun i y hy=>h2 i y (by rw[k.m];exact hy)⟩
theorem Trace.eqv {P:Program} {ops:Array Oper}:∀(l:List Rc) {s t:AS},Trace P ops l s→Eqv s t→Trace P ops l t∧Eqv (runR l s) (runR l t)
 |[],s,t,_,k=>⟨trivial,k⟩
 |r::l,s,t,h,k=>by
  obtain⟨h1,h2⟩:=Trace.eqv l h.2 (k.next r);exact⟨⟨h.1.eqv k,h1⟩,h2⟩
def Rc.W (r:Rc):List Nat:=r.e.q++r.e.ws.map (·.1)
def wsIds:List (Nat×Option Qz)→List Nat
 |[]=>[]
 |(_,none)::r=>wsIds r
 |(_,some x)::r=>x.ids++wsIds r
def Rc.R (r:Rc):List Nat:=r.c.ids++wsIds r.e.ws
def disj (a b:List Nat):Bool:=a.all fun i=>!(b.contains i)
def indep (ops:Array Oper) (x y:Rc):Bool:=
 Oper.apart ops x.o y.o && (disj x.W y.W && (disj x.e.q y.R && (disj y.e.q x.R && ((x.pu||disj y.W x.M) && (y.pu||(match y.st with
  |some o=>!(x.W.contains o)
  |none=>match y.ld with
   |some o=>!(x.W.contains o)
   |none=>disj x.W y.M && (x.nk||x.e.q.isEmpty|| !y.an)))))))
theorem Aw {a b:List Nat} (h:disj a b=true):∀i∈a,i ∉ b:=by
 intro i hi hb;unfold disj at h;rw[List.all_eq_true]at h;have:=h i hi;simp[hb]at this
theorem M8 {l:List Nat} {q:List Nat} (h:∀i∈q,i ∉ l):l.any (Z5 q)=false:=by
 rw[←Bool.not_eq_true,List.any_eq_true];rintro⟨i,hi,hq⟩;exact h i (R6.1 hq) hi
theorem R5 {q:Nat→Bool} {c:AV} (h:Wj (c.kill q)=false):c.kill q=c:=by
 unfold AV.kill at h⊢;split
 ·rename_i hc;rw[if_pos hc]at h;cases h
 ·rfl
theorem kill_objAny {q:Nat→Bool} {x:Qz} (h:G7 (x.kill q)=false):x.kill q=x:=by
 cases x with
 |arr e sz rows=>rfl
 |map ks ag n ents=>rfl
 |raw r=>rfl
 |blk t cs=>
  simp only[Qz.kill,G7,List.any_map,List.any_eq_false,Function.comp]at h⊢;congr 1;refine(List.map_congr_left fun c hc=>?_).trans (List.map_id _);exact R5 (by simpa using h c hc)
theorem wsIds_get {l:List (Nat×Option Qz)} {i:Nat} {x:Qz} (h:Q4 l i=some x):∀j∈x.ids,j∈wsIds l:=by
 induction l with
 |nil=>cases h
 |cons y r ih=>
  obtain⟨u,c⟩:=y;simp only[Q4]at h;intro j hj;split at h
  ·subst h;simp only[wsIds];exact List.mem_append_left _ hj
  ·cases c with
   |none=>exact ih h j hj
   |some z=>exact List.mem_append_right _ (ih h j hj)
theorem Cw {ops:Array Oper} {s t:AS} {o:Oper} {b:Bool} (h:Kj ops s o=some b) (ht:∀u,(match o.guard with|some (g,_)=>(ops[g]?).bind (·.dst)|none=>none)=some u→∀c,(c= .tuple []∨∃b,c= .d (.bool b))→Zj s.fr u=c→Zj t.fr u=c):Kj ops t o=some b:=by
 unfold Kj at h⊢;split
 ·rename_i hg;rw[hg]at h;exact h
 ·rename_i j want hg;rw[hg]at h ht;dsimp only at h ht;split
  ·rename_i u hu;rw[hu]at h;dsimp only at h;split at h
   ·rename_i b' hb;rw[ht u hu _ (.inr ⟨_,rfl⟩) hb];exact h
   ·rename_i hb;rw[ht u hu _ (.inl rfl) hb];exact h
   ·cases h
  ·rename_i hu;rw[hu]at h;cases h
theorem Jk.halfY0 {P:Program} {ops:Array Oper} {s:AS} {x y:Rc} (hx:Jk P ops s x) (hy:Jk P ops (Zq s x) y) (ap:Oper.apart ops x.o y.o=true) (iWM:∀i∈x.W,i ∉ y.M) (hnk:(x.nk||x.e.q.isEmpty|| !y.an)=true) (hpu:y.pu=false) (hld:y.ld=none) (hst:y.st=none):
  Jk P ops s { y with nk:=false }:=by
 obtain⟨ap1,ap2,ap3⟩:=Oper.apart_spec ap;have uW:∀r:Rc,∀i,Jw r.e.ws i=true→i∈r.W:=fun r i h=>List.mem_append_right _ (Az.1 h)
 -- y's view ahead of x
 have fy:∀z∈y.o.op.operands,evA (Zq s x).fr z=evA s.fr z:=fun z hz=>by
  cases z with
  |tmp t=>
   have hne:x.o.dst≠some t:=fun e=>ap1 t e (List.mem_append_left _ (List.mem_filterMap.2 ⟨.tmp t,by simpa using hz,rfl⟩))
   simp only[evA,Zq,AS.Jz,if_neg hne];simp only[Bool.or_eq_true,List.isEmpty_iff,Bool.not_eq_true']at hnk;rcases hnk with(h|h)|h2
   ·exact AV.Rz ((hx.nk h).1 t)
   ·rw[h];exact AV.Rz (AV.V3 (fun _=>rfl) _)
   ·have:=(hy.an hpu h2).1 _ hz;simp only[evA,Zq,AS.Jz,if_neg hne]at this;exact R5 this
  |_=>rfl
 have my0:∀i∈Zw (Q4 (Zq s x).mem) (evA (Zq s x).fr) y.o.op,Q4 (Zq s x).mem i=Q4 s.mem i:=fun i hiV=>by
  have hiM:=(hy.M hpu i hiV).1;have hU:Jw x.e.ws i=false:=by rw[←Bool.not_eq_true];intro h;exact iWM i (uW x i h) hiM
  simp only[Bool.or_eq_true,List.isEmpty_iff,Bool.not_eq_true']at hnk;have hget:Q4 (Zq s x).mem i=(Q4 s.mem i).map (Qz.kill (Z5 x.e.q)):=by
   simp only[Zq,AS.K8,X5,hU];cases hm:Q4 s.mem i<;> rfl
  rw[hget];cases hm:Q4 s.mem i with
  |none=>rfl
  |some v=>
   rw[hm]at hget;simp only[Option.map_some,Option.some.injEq];rcases hnk with(h|h)|h2
   ·exact(hx.nk h).2 i v hm
   ·rw[h];exact Qz.Pq (fun _=>rfl) v
   ·exact kill_objAny ((hy.an hpu h2).2 i hiV _ hget)
 have opy:Kq (evA (Zq s x).fr) y.o.op.operands.toList=Kq (evA s.fr) y.o.op.operands.toList:=opnIds_congr _ fun z hz=>fy z (by simpa using hz)
 have viewy:Zw (Q4 s.mem) (evA s.fr) y.o.op=Zw (Q4 (Zq s x).mem) (evA (Zq s x).fr) y.o.op:=by
  have o1:J8 (Q4 s.mem) (Kq (evA s.fr) y.o.op.operands.toList)=J8 (Q4 (Zq s x).mem) (Kq (evA s.fr) y.o.op.operands.toList):=C9 _ fun i hi=>(my0 i (by
   refine List.mem_append_left _ (List.mem_append_left _ ?_);rw[opy];exact hi)).symm
  unfold Zw;rw[opy,o1];congr 1;refine C9 _ fun i hi=>(my0 i ?_).symm
  refine List.mem_append_left _ (List.mem_append_right _ ?_);rw[opy];exact hi
 have my:∀i∈Zw (Q4 s.mem) (evA s.fr) y.o.op,Q4 (Zq s x).mem i=Q4 s.mem i:=fun i hi=>my0 i (by rw[←viewy];exact hi)
 have hyS:Jk P ops s { y with nk:=false }:=by
  refine⟨hy.d,Cw hy.g fun u hu b hbc hb=>?_,fun hr=>?_,hy.e',fun _ i hi=>?_,(fun hr=>by cases hr),fun _ hr=>⟨fun z hz=>by rw[←fy z hz];exact(hy.an hpu hr).1 z hz,fun i hi v hv=>(hy.an hpu hr).2 i (by rw[←viewy];exact hi) v (by rw[my i hi];exact hv)⟩,(fun o ho=>by rw[show({ y with nk:=false }:Rc).ld=y.ld from rfl,hld]at ho;cases ho),(fun o ho=>by rw[show({ y with nk:=false }:Rc).st=y.st from rfl,hst]at ho;cases ho)⟩
  ·have hne:x.o.dst≠some u:=fun e=>ap1 u e (List.mem_append_right _ (by
    cases hg:y.o.guard with
    |none=>rw[hg]at hu;cases hu
    |some gg=>obtain⟨g1,g2⟩:=gg;rw[hg]at hu;simpa using hu))
   simp only[Zq,AS.Jz,if_neg hne]at hb;have:Wj ((Zj s.fr u).kill (Z5 x.e.q))=false:=by rw[hb];rcases hbc with rfl|⟨b,rfl⟩<;> rfl
   rw[R5 this]at hb;exact hb
  ·have hxe:=opEff_see (P:=P) (m:=Q4 s.mem) (m1:=Q4 (Zq s x).mem) (f:=evA s.fr) (f1:=evA (Zq s x).fr) (o:=y.o) y.h y.z fy my;rw[←hxe];exact hy.e hr
  ·have h:=hy.M hpu i (by rw[←viewy];exact hi);exact⟨h.1,fun v hv j hj=>h.2 v (by rw[my i hi];exact hv) j hj⟩
 exact hyS
theorem Jk.halfX0 {P:Program} {ops:Array Oper} {s:AS} {x y:Rc} (hx:Jk P ops s x) (ap:Oper.apart ops x.o y.o=true) (iqR:∀i∈x.e.q,i ∉ y.R) (iWM':∀i∈y.W,i ∉ x.M) (hpu:x.pu=false):
  Jk P ops (Zq s y) x:=by
 obtain⟨ap1,ap2,ap3⟩:=Oper.apart_spec ap;have qW:∀r:Rc,∀i∈r.e.q,i∈r.W:=fun r i h=>List.mem_append_left _ h
 have uW:∀r:Rc,∀i,Jw r.e.ws i=true→i∈r.W:=fun r i h=>List.mem_append_right _ (Az.1 h)
 -- x's view behind y
 have kq:∀c:AV,(∀i∈c.ids,i∈x.M)→c.kill (Z5 y.e.q)=c:=fun c hc=>AV.Rz (by
  rw[AV.M3];exact M8 fun i hi h=>iWM' i (qW y i hi) (hc i h))
 have fx:∀z∈x.o.op.operands,evA (Zq s y).fr z=evA s.fr z:=fun z hz=>by
  cases z with
  |tmp t=>
   have hne:y.o.dst≠some t:=fun e=>ap3 t e (List.mem_append_left _ (List.mem_filterMap.2 ⟨.tmp t,by simpa using hz,rfl⟩))
   simp only[evA,Zq,AS.Jz,if_neg hne];exact kq _ fun i hi=>(hx.M hpu i (List.mem_append_left _<|List.mem_append_left _ (opnIds_mem _ (.tmp t) (by simpa using hz) i hi))).1
  |_=>rfl
 have mx:∀i∈Zw (Q4 s.mem) (evA s.fr) x.o.op,Q4 (Zq s y).mem i=Q4 s.mem i:=fun i hi=>by
  obtain⟨hiM,hiC⟩:=hx.M hpu i hi;have hU:Jw y.e.ws i=false:=by rw[←Bool.not_eq_true];intro h;exact iWM' i (uW y i h) hiM
  simp only[Zq,AS.K8,X5,hU];cases hm:Q4 s.mem i with
  |none=>rfl
  |some v=>
   simp only[Bool.false_eq_true,if_false,Option.map_some,Option.some.injEq];exact Qz.Rz (M8 fun j hj h=>iWM' j (qW y j hj) (hiC v hm j h))
 have viewx:Zw (Q4 (Zq s y).mem) (evA (Zq s y).fr) x.o.op=Zw (Q4 s.mem) (evA s.fr) x.o.op:=viewIds_congr fx fun i hi=>mx i (List.mem_append_left _ hi)
 have hxS:Jk P ops (Zq s y) x:=by
  refine⟨hx.d,Cw hx.g fun u hu b hbc hb=>?_,fun hr=>?_,hx.e',fun _ i hi=>?_,fun hr=>⟨fun t=>?_,fun i v hv=>?_⟩,fun _ hr=>⟨fun z hz=>by rw[fx z hz];exact(hx.an hpu hr).1 z hz,fun i hi v hv=>(hx.an hpu hr).2 i (by rw[←viewx];exact hi) v (by rw[←mx i (by rw[←viewx];exact hi)];exact hv)⟩,fun o ho=>by
   obtain⟨l1,l2,a,off,l3,l4⟩:=hx.ld o ho;exact⟨l1,l2,a,off,l3,by rw[fx a (ldArg_mem l3)];exact l4⟩,fun o ho=>by
   obtain⟨l1,l2,l5,t',a,v,off,l3,l4⟩:=hx.st o ho;exact⟨l1,l2,l5,t',a,v,off,l3,by rw[fx a (by rw[l3];simp[Op.operands])];exact l4⟩⟩
  ·have hne:y.o.dst≠some u:=fun e=>ap3 u e (List.mem_append_right _ (by
    cases hg:x.o.guard with
    |none=>rw[hg]at hu;cases hu
    |some gg=>obtain⟨g1,g2⟩:=gg;rw[hg]at hu;simpa using hu))
   simp only[Zq,AS.Jz,if_neg hne,hb];rcases hbc with rfl|⟨b,rfl⟩<;> rfl
  ·have hye:=opEff_see (P:=P) (m:=Q4 s.mem) (m1:=Q4 (Zq s y).mem) (f:=evA s.fr) (f1:=evA (Zq s y).fr) (o:=x.o) x.h x.z fx mx;rw[hye];exact hx.e hr
  ·rw[viewx]at hi;have h:=hx.M hpu i hi;exact⟨h.1,fun v hv j hj=>h.2 v (by rw[←mx i hi];exact hv) j hj⟩
  ·obtain⟨h1,h2⟩:=hx.nk hr;simp only[Zq,AS.Jz];split
   ·rw[AV.M3];exact M8 fun i hi h=>iqR i hi (List.mem_append_left _ h)
   ·unfold AV.kill;split
    ·rfl
    ·exact h1 t
  ·obtain⟨h1,h2⟩:=hx.nk hr;simp only[Zq,AS.K8,X5]at hv;split at hv
   ·exact Qz.Rz (M8 fun j hj h=>iqR j hj (List.mem_append_right _ (wsIds_get hv j h)))
   ·obtain⟨v',hv',rfl⟩:=Option.map_eq_some_iff.1 hv;rw[Qz.Qz8,h2 i v' hv']
 exact hxS
theorem Eqv.swap {ops:Array Oper} {s:AS} {x y:Rc} (ap:Oper.apart ops x.o y.o=true) (iWW:∀i∈x.W,i ∉ y.W) (iqR:∀i∈x.e.q,i ∉ y.R) (iqR':∀i∈y.e.q,i ∉ x.R):
  Eqv (Zq (Zq s x) y) (Zq (Zq s y) x):=by
 obtain⟨ap1,ap2,ap3⟩:=Oper.apart_spec ap;have uW:∀r:Rc,∀i,Jw r.e.ws i=true→i∈r.W:=fun r i h=>List.mem_append_right _ (Az.1 h)
 refine⟨rfl,fun t=>?_,fun i=>?_⟩
 ·simp only[Zq,AS.Jz];by_cases h1:y.o.dst=some t
  ·have h2:x.o.dst≠some t:=fun e=>ap2 t e h1
   rw[if_pos h1,if_neg h2,if_pos h1];exact(AV.Rz (by rw[AV.M3];exact M8 fun i hi h=>iqR i hi (List.mem_append_left _ h))).symm
  ·rw[if_neg h1,if_neg h1];by_cases h2:x.o.dst=some t
   ·rw[if_pos h2,if_pos h2];exact AV.Rz (by rw[AV.M3];exact M8 fun i hi h=>iqR' i hi (List.mem_append_left _ h))
   ·rw[if_neg h2,if_neg h2];exact AV.Qz8 _ _ _
 ·simp only[Zq,AS.K8,X5];by_cases h1:Jw y.e.ws i=true
  ·have h2:Jw x.e.ws i=false:=by rw[←Bool.not_eq_true];intro h;exact iWW i (uW x i h) (uW y i h1)
   rw[if_pos h1,h2,if_pos h1];simp only[Bool.false_eq_true,if_false];cases hm:Q4 y.e.ws i with
   |none=>rfl
   |some v=>simp only[Option.map_some,Qz.Rz (M8 fun j hj h=>iqR j hj (List.mem_append_right _ (wsIds_get hm j h)))]
  ·rw[Bool.not_eq_true]at h1;rw[h1];simp only[Bool.false_eq_true,if_false];by_cases h2:Jw x.e.ws i=true
   ·rw[if_pos h2,if_pos h2];cases hm:Q4 x.e.ws i with
    |none=>rfl
    |some v=>simp only[Option.map_some,Qz.Rz (M8 fun j hj h=>iqR' j hj (List.mem_append_right _ (wsIds_get hm j h)))]
   ·rw[if_neg h2,if_neg h2];simp only[Option.map_map];congr 1;funext v;exact Qz.Qz8 _ _ _
theorem viewM_ok (m:Me) (f:Operand→AV) (op:Op):∀i∈Zw m f op,i∈Zw m f op++J8 m (Zw m f op)∧∀y,m i=some y→∀j∈y.ids,j∈Zw m f op++J8 m (Zw m f op):=fun i hi=>by
 have hO:∀(is:List Nat),∀i∈is,∀y,m i=some y→∀j∈y.ids,j∈J8 m is:=fun is=>by
  induction is with
  |nil=>intro i hi;cases hi
  |cons k ks ih=>
   intro i hi y hy j hj;simp only[J8];rcases List.mem_cons.1 hi with rfl|hi
   ·rw[hy];exact List.mem_append_left _ hj
   ·exact List.mem_append_right _ (ih i hi y hy j hj)
 exact⟨List.mem_append_left _ hi,fun y hy j hj=>List.mem_append_right _ (hO _ i hi y hy j hj)⟩
def loadR (P:Program) (t:TypeId) (rd:Nat→Option (List AV)):Option (AV×Eff×Prop):=match U4 P t with
 |some (b,n)=>match rd n with
  |some cs=>match H6 b cs with
   |some c=>some (c,⟨[],[]⟩,True)
   |none=>none
  |none=>none
 |none=>none
theorem opEff_load {P:Program} {m:Me} {f:Operand→AV} {o:Oper} {h:Option Hint} {z:Bool} {t:TypeId} {a:Operand} (ho:o.op= .load t a):
  V9 P m f o h z=if z then none else loadR P t (Y1 m (f a)):=by
 have h0:Yj P m f o h=loadR P t (Y1 m (f a)):=by
  unfold Yj loadR;rw[ho];simp only[Yw,J3];cases h1:U4 P t with
  |none=>simp[Yq,Vv,Y8,ho]
  |some bn=>
   obtain⟨b,n⟩:=bn;dsimp only;cases h2:Y1 m (f a) n with
   |none=>simp[Yq,Vv,Y8,ho]
   |some cs=>
    dsimp only;cases h3:H6 b cs with
    |none=>simp[Yq,Vv,Y8,ho]
    |some c=>rfl
 unfold V9;rw[h0];split
 ·rw[ho];simp only[Vw];unfold loadR;repeat' split
  all_goals first|rfl|simp_all [Bz]
 ·rfl
theorem kill_cells {q:Nat→Bool} {b:Bool} {l:List AV} {c:AV} (h:H6 b (l.map (AV.kill q))=some c) (hc:Mv c=true):l.map (AV.kill q)=l:=by
 unfold H6 at h;split at h
 ·cases h;simp only[Mv,List.all_eq_true,Bool.not_eq_true']at hc;refine(List.map_congr_left fun c hcl=>?_).trans (List.map_id _);exact R5 (hc _ (List.mem_map.2 ⟨c,hcl,rfl⟩))
 ·rcases l with _|⟨c1,_|⟨c2,l⟩⟩
  ·cases h
  ·simp only[List.map_cons,List.map_nil,Option.some.injEq]at h;subst h;simp only[List.map_cons,List.map_nil];rw[R5];cases hk:c1.kill q<;> rw[hk]at hc<;> first|rfl|cases hc
  ·cases h
theorem opEff_ld {P:Program} {m m1:Me} {f f1:Operand→AV} {o:Oper} {h:Option Hint} {z:Bool} {a:Operand} {o1 off:Nat} {q:Nat→Bool} {c:AV} {e:Eff} {p:Prop}
  (hop:Nw o.op=some a) (ha:f a= .ptr o1 off) (ha1:f1 a= .ptr o1 off) (hm:m1 o1=(m o1).map (Qz.kill q)) (he:V9 P m1 f1 o h z=some (c,e,p)) (hc:Mv c=true):
  V9 P m f o h z=some (c,e,p)∧e=⟨[],[]⟩:=by
 have zn:∀{v:AV} {p:Prop},Bz (some (v,⟨[],[]⟩,p))=none:=rfl;unfold Nw at hop;split at hop
 ·rename_i t a' lo;cases hop;rw[opEff_load lo]at he⊢;cases hz:z with
  |true=>rw[hz]at he;cases he
  |false=>
  rw[hz]at he;simp only[Bool.false_eq_true,if_false]at he⊢;rw[ha1]at he;rw[ha];unfold loadR at he⊢;cases h1:U4 P t with
  |none=>rw[h1]at he;cases he
  |some bn=>
   obtain⟨b,n⟩:=bn;rw[h1]at he;dsimp only at he⊢;cases h2:Y1 m1 (.ptr o1 off) n with
   |none=>rw[h2]at he;cases he
   |some cs=>
    rw[h2]at he;dsimp only at he;cases h3:H6 b cs with
    |none=>rw[h3]at he;cases he
    |some c'=>
     rw[h3]at he;simp only[Option.some.injEq,Prod.mk.injEq]at he;obtain⟨rfl,rfl,rfl⟩:=he;have:Y1 m (.ptr o1 off) n=some cs:=by
      simp only[Y1]at h2⊢;rw[hm]at h2;cases hmm:m o1 with
      |none=>rw[hmm]at h2;cases h2
      |some v=>
       rw[hmm]at h2;cases v with
       |blk tt cl=>
        simp only[Option.map_some,Qz.kill,List.length_map]at h2;dsimp only;split at h2
        ·rename_i hl;rw[if_pos hl];simp only[Option.some.injEq]at h2;rw[←h2,←List.map_drop,←List.map_take]at h3;rw[←h2,←List.map_drop,←List.map_take,kill_cells h3 hc]
        ·cases h2
       |_=>cases h2
     rw[this];dsimp only;rw[h3];exact⟨rfl,rfl⟩
 ·rename_i a' lo;cases hop;simp only[V9,Yj,lo,Yw,J3,Vw,zn,ha,ha1]at he⊢;cases z
  ·simp only[Bool.false_eq_true,if_false,Option.some.injEq,Prod.mk.injEq]at he⊢;exact⟨he,he.2.1.symm⟩
  ·cases he
 ·rename_i a' lo;cases hop;simp only[V9,Yj,lo,Yw,J3,Vw,zn,ha,ha1]at he⊢;cases z
  ·simp only[Bool.false_eq_true,if_false,Option.some.injEq,Prod.mk.injEq]at he⊢;exact⟨he,he.2.1.symm⟩
  ·cases he
 ·rename_i a' lo;cases hop;simp only[V9,Yj,lo,Yw,J3,Yq,Vw,ha,ha1,hm]at he⊢;cases hmm:m o1 with
  |none=>rw[hmm]at he;cases z<;> simp[Vv,Y8,lo,Bz]at he
  |some v=>
   rw[hmm]at he;cases z
   ·simp only[Option.map_some,Bool.false_eq_true,if_false,Option.some.injEq,Prod.mk.injEq]at he⊢;exact⟨he,he.2.1.symm⟩
   ·cases he
 ·rename_i t a' k lo;cases hop;simp only[V9,Yj,lo,Yw,J3,Vw,Vx,ha,ha1,hm]at he⊢;cases h1:Xv P t k with
  |none=>rw[h1]at he;cases z<;> simp[Yq,Vv,Y8,lo,Bz]at he
  |some bn=>
   obtain⟨b,n⟩:=bn;rw[h1]at he;cases hmm:m o1 with
   |none=>rw[hmm]at he;cases z<;> simp[Yq,Vv,Y8,lo,Bz]at he
   |some v=>
    rw[hmm]at he;cases v with
    |blk tt cl=>
     cases z
     ·simp only[Option.map_some,Qz.kill,Bool.false_eq_true,if_false,Option.some.injEq,Prod.mk.injEq]at he⊢;exact⟨he,he.2.1.symm⟩
     ·cases he
    |_=>cases z<;> simp[Qz.kill,Yq,Vv,Y8,lo,Bz]at he
 ·cases hop
theorem opEff_mv {P:Program} {o:Oper} {a:Operand} (ho:o.op= .move a∨o.op= .assign a) (m:Me) (f:Operand→AV) (h:Option Hint) (z:Bool):V9 P m f o h z=if z then none else some (f a,⟨[],[]⟩,True):=by
 rcases ho with ho|ho<;> (unfold V9 Yj;rw[ho];cases z<;> rfl)
theorem Rc.pu_spec {P:Program} {ops:Array Oper} {s:AS} {r:Rc} (h:Jk P ops s r) (hp:r.pu=true):∃a,r.o.op.operands= #[a]∧(r.o.op= .move a∨r.o.op= .assign a)∧r.z=false∧r.run=true∧r.c=evA s.fr a∧Wj r.c=false∧r.e=⟨[],[]⟩∧r.p=True:=by
 unfold Rc.pu at hp;simp only[Bool.and_eq_true,Bool.not_eq_true']at hp;obtain⟨⟨h1,h2⟩,h3⟩:=hp;obtain⟨a,h4,h5⟩:=isMv_spec h1;have he:=h.e h2;rw[opEff_mv h5]at he;cases hz:r.z with
 |true=>rw[hz]at he;cases he
 |false=>
  rw[hz]at he;simp only[Bool.false_eq_true,if_false,Option.some.injEq,Prod.mk.injEq]at he;exact⟨a,h4,h5,rfl,h2,he.1.symm,h3,he.2.1.symm,he.2.2.symm⟩
theorem Jk.halfYP {P:Program} {ops:Array Oper} {s:AS} {x y:Rc} (hy:Jk P ops (Zq s x) y) (ap:Oper.apart ops x.o y.o=true) (hpu:y.pu=true):Jk P ops s { y with nk:=false }:=by
 obtain⟨ap1,ap2,ap3⟩:=Oper.apart_spec ap;obtain⟨a,h1,h2,h3,h4,h5,h6,h7,h8⟩:=Rc.pu_spec hy hpu;have fa:evA s.fr a=evA (Zq s x).fr a:=by
  cases a with
  |tmp u=>
   have hne:x.o.dst≠some u:=fun e=>ap1 u e (List.mem_append_left _ (List.mem_filterMap.2 ⟨.tmp u,by rw[h1];simp,rfl⟩))
   rw[h5]at h6;simp only[evA,Zq,AS.Jz,if_neg hne]at h6⊢;exact(R5 h6).symm
  |_=>rfl
 have hpu':({ y with nk:=false }:Rc).pu=true:=hpu;refine⟨hy.d,Cw hy.g fun u hu b hbc hb=>?_,fun _=>?_,hy.e',(fun h=>by rw[hpu']at h;cases h),(fun h=>by cases h),(fun h=>by rw[hpu']at h;cases h),fun o ho=>?_,fun o ho=>by
  obtain⟨_,_,_,t',a',v',off,l3,_⟩:=hy.st o ho;rcases h2 with h2|h2<;> rw[h2]at l3<;> cases l3⟩
 ·have hne:x.o.dst≠some u:=fun e=>ap1 u e (List.mem_append_right _ (by
   cases hg:y.o.guard with
   |none=>rw[hg]at hu;cases hu
   |some gg=>obtain⟨g1,g2⟩:=gg;rw[hg]at hu;simpa using hu))
  simp only[Zq,AS.Jz,if_neg hne]at hb;have:Wj ((Zj s.fr u).kill (Z5 x.e.q))=false:=by rw[hb];rcases hbc with rfl|⟨b,rfl⟩<;> rfl
  rw[R5 this]at hb;exact hb
 ·show V9 P (Q4 s.mem) (evA s.fr) y.o y.h y.z=some (y.c,y.e,y.p);rw[opEff_mv h2,h3,h5,h7,h8,fa];rfl
 ·obtain⟨l1,l2,a',off,l3,l4⟩:=hy.ld o ho;have:a'=a:=by
   have:=ldArg_mem l3;rw[h1]at this;simpa using this
  subst this;exact⟨l1,l2,a',off,l3,by rw[fa];exact l4⟩
theorem Jk.halfXP {P:Program} {ops:Array Oper} {s:AS} {x y:Rc} (hx:Jk P ops s x) (ap:Oper.apart ops x.o y.o=true) (iqR':∀i∈y.e.q,i ∉ x.R) (hpu:x.pu=true):Jk P ops (Zq s y) x:=by
 obtain⟨ap1,ap2,ap3⟩:=Oper.apart_spec ap;obtain⟨a,h1,h2,h3,h4,h5,h6,h7,h8⟩:=Rc.pu_spec hx hpu;have fa:evA (Zq s y).fr a=evA s.fr a:=by
  cases a with
  |tmp u=>
   have hne:y.o.dst≠some u:=fun e=>ap3 u e (List.mem_append_left _ (List.mem_filterMap.2 ⟨.tmp u,by rw[h1];simp,rfl⟩))
   simp only[evA,Zq,AS.Jz,if_neg hne];refine AV.Rz ?_;rw[AV.M3];refine M8 fun i hi h=>iqR' i hi (List.mem_append_left _ ?_)
   rw[h5];exact h
  |_=>rfl
 refine⟨hx.d,Cw hx.g fun u hu b hbc hb=>?_,fun _=>?_,hx.e',(fun h=>by rw[hpu]at h;cases h),fun _=>?_,(fun h=>by rw[hpu]at h;cases h),fun o ho=>?_,fun o ho=>by
  obtain⟨_,_,_,t',a',v',off,l3,_⟩:=hx.st o ho;rcases h2 with h2|h2<;> rw[h2]at l3<;> cases l3⟩
 ·have hne:y.o.dst≠some u:=fun e=>ap3 u e (List.mem_append_right _ (by
   cases hg:x.o.guard with
   |none=>rw[hg]at hu;cases hu
   |some gg=>obtain⟨g1,g2⟩:=gg;rw[hg]at hu;simpa using hu))
  simp only[Zq,AS.Jz,if_neg hne,hb];rcases hbc with rfl|⟨b,rfl⟩<;> rfl
 ·rw[opEff_mv h2,h3,h5,h7,h8,fa];rfl
 ·rw[h7];exact⟨fun t=>AV.V3 (fun _=>rfl) _,fun i y _=>Qz.Pq (fun _=>rfl) y⟩
 ·obtain⟨l1,l2,a',off,l3,l4⟩:=hx.ld o ho;have:a'=a:=by
   have:=ldArg_mem l3;rw[h1]at this;simpa using this
  subst this;exact⟨l1,l2,a',off,l3,by rw[fa];exact l4⟩
theorem Jk.halfYL {P:Program} {ops:Array Oper} {s:AS} {x y:Rc} (hy:Jk P ops (Zq s x) y) (ap:Oper.apart ops x.o y.o=true) {o:Nat} (hld:y.ld=some o) (hst:y.st=none) (hoW:(x.W.contains o)=false):
  ∃M,Jk P ops s { y with M:=M,nk:=false,an:=true }:=by
 obtain⟨ap1,ap2,ap3⟩:=Oper.apart_spec ap;obtain⟨lr,lc,a,off,lo,la⟩:=hy.ld o hld;have hoW':o ∉ x.W:=fun h=>by rw[List.contains_iff_mem.2 h]at hoW;cases hoW
 have la':evA s.fr a= .ptr o off:=by
  cases a with
  |tmp u=>
   have hne:x.o.dst≠some u:=fun e=>ap1 u e (List.mem_append_left _ (List.mem_filterMap.2 ⟨.tmp u,by simpa using ldArg_mem lo,rfl⟩))
   simp only[evA,Zq,AS.Jz,if_neg hne]at la⊢;have:=R5 (q:=Z5 x.e.q) (c:=Zj s.fr u) (by rw[la];rfl);rw[this]at la;exact la
  |_=>exact la
 have uW:∀r:Rc,∀i,Jw r.e.ws i=true→i∈r.W:=fun r i h=>List.mem_append_right _ (Az.1 h)
 have hU:Jw x.e.ws o=false:=by rw[←Bool.not_eq_true];intro h;exact hoW' (uW x o h)
 have hget:Q4 (Zq s x).mem o=(Q4 s.mem o).map (Qz.kill (Z5 x.e.q)):=by
  simp only[Zq,AS.K8,X5,hU];cases hm:Q4 s.mem o<;> rfl
 obtain⟨hrd,hye0⟩:=opEff_ld lo la' la hget (hy.e lr) lc;have hyS:∃M,Jk P ops s { y with M:=M,nk:=false,an:=true }:=by
  refine⟨Zw (Q4 s.mem) (evA s.fr) y.o.op++J8 (Q4 s.mem) (Zw (Q4 s.mem) (evA s.fr) y.o.op),hy.d,Cw hy.g fun u hu b hbc hb=>?_,fun _=>hrd,hy.e',(fun _=>viewM_ok _ _ _),(fun h=>by cases h),(fun _ h=>by cases h),fun o' ho'=>?_,(fun o' ho'=>by have h9:y.st=some o':=ho';rw[hst]at h9;cases h9)⟩
  ·have hne:x.o.dst≠some u:=fun e=>ap1 u e (List.mem_append_right _ (by
    cases hg:y.o.guard with
    |none=>rw[hg]at hu;cases hu
    |some gg=>obtain⟨g1,g2⟩:=gg;rw[hg]at hu;simpa using hu))
   simp only[Zq,AS.Jz,if_neg hne]at hb;have:Wj ((Zj s.fr u).kill (Z5 x.e.q))=false:=by rw[hb];rcases hbc with rfl|⟨b,rfl⟩<;> rfl
   rw[R5 this]at hb;exact hb
  ·have:y.ld=some o':=ho';rw[hld]at this;cases this;exact⟨lr,lc,a,off,lo,la'⟩
 exact hyS
def storeR (P:Program) (t:TypeId) (vc:Option (List AV)) (wr:List AV→Option (Nat×Qz)):Option (AV×Eff×Prop):=match U4 P t,vc with
 |some (_,n),some cs=>if cs.length=n then (match wr cs with
  |some (o,x')=>some (.any,⟨[],[(o,some x')]⟩,True)
  |none=>none)else none
 |_,_=>none
theorem opEff0_store {P:Program} {m:Me} {f:Operand→AV} {o:Oper} {h:Option Hint} {t:TypeId} {a v:Operand} (ho:o.op= .store t a v):
  Yj P m f o h=storeR P t (f v).cells (Y3 m (f a)):=by
 unfold Yj storeR;rw[ho];simp only[Yw];cases h1:U4 P t with
 |none=>simp[Yq,Vv,Y8,ho]
 |some bn=>
  obtain⟨b,n⟩:=bn;cases h2:(f v).cells with
  |none=>simp[Yq,Vv,Y8,ho]
  |some cs=>
   dsimp only;by_cases h3:cs.length=n
   ·rw[if_pos h3];cases h4:Y3 m (f a) cs with
    |none=>simp[Yq,Vv,Y8,ho]
    |some oo=>rfl
   ·rw[if_neg h3];simp[Yq,Vv,Y8,ho]
theorem kill_all {q:Nat→Bool}:∀{l:List AV},(∀c∈l,Wj (c.kill q)=false)→l.map (AV.kill q)=l:=fun {l} h=>
 (List.map_congr_left fun c hc=>R5 (h c hc)).trans (List.map_id _)
theorem setAt_kill {q:Nat→Bool}:∀(old:List AV) (off:Nat) (cs:List AV),(∀c∈setAt (old.map (AV.kill q)) off cs,Wj c=false)→setAt (old.map (AV.kill q)) off cs=setAt old off cs
 |l,n,[],h=>by
  have e:∀l:List AV,setAt l n []=l:=fun l=>by cases l<;> cases n<;> simp[setAt]
  rw[e]at h;rw[e,e];exact kill_all fun c hc=>h _ (List.mem_map.2 ⟨c,hc,rfl⟩)
 |[],_,_::_,_=>rfl
 |x::l,0,c::cs,h=>by
  rw[List.map_cons,setAt]at h;rw[List.map_cons,setAt,setAt,setAt_kill l 0 cs fun c hc=>h c (List.mem_cons_of_mem _ hc)]
 |x::l,n+1,c::cs,h=>by
  rw[List.map_cons,setAt]at h;rw[List.map_cons,setAt,setAt,setAt_kill l n (c::cs) fun c hc=>h c (List.mem_cons_of_mem _ hc),R5 (h _ (List.mem_cons_self ..))]
theorem opEff_st {P:Program} {m m1:Me} {f f1:Operand→AV} {o:Oper} {h:Option Hint} {t:TypeId} {a v:Operand} {o1 off:Nat} {q:Nat→Bool} {c:AV} {e:Eff} {p:Prop}
  (lo:o.op= .store t a v) (ha:f a= .ptr o1 off) (ha1:f1 a= .ptr o1 off) (hv:f1 v=(f v).kill q∨f1 v=f v) (hm:m1 o1=(m o1).map (Qz.kill q)) (he:V9 P m1 f1 o h false=some (c,e,p)) (hs:stOk e=true):
  V9 P m f o h false=some (c,e,p):=by
 have z0:∀m f,V9 P m f o h false=storeR P t (f v).cells (Y3 m (f a)):=fun m f=>by
  show Yj P m f o h=_;exact opEff0_store lo
 rw[z0]at he⊢;have hv1:f1 v=f v:=by
  rcases hv with hv|hv
  ·unfold AV.kill at hv;split at hv
   ·rw[hv]at he;unfold storeR at he;simp only[AV.cells]at he;split at he<;> simp_all
   ·exact hv
  ·exact hv
 rw[hv1,ha1]at he;rw[ha];unfold storeR at he⊢;cases h1:U4 P t with
 |none=>rw[h1]at he;cases he
 |some bn=>
  obtain⟨b,n⟩:=bn;rw[h1]at he;cases h2:(f v).cells with
  |none=>rw[h2]at he;cases he
  |some cs=>
   rw[h2]at he;dsimp only at he⊢;by_cases h3:cs.length=n
   ·rw[if_pos h3]at he⊢;have:Y3 m (.ptr o1 off) cs=Y3 m1 (.ptr o1 off) cs:=by
     simp only[Y3]at he⊢;rw[hm]at he⊢;cases hmm:m o1 with
     |none=>rfl
     |some y=>
      rw[hmm]at he;cases y with
      |blk tt old=>
       simp only[Option.map_some,Qz.kill,List.length_map]at he⊢;by_cases hl:off+cs.length≤old.length
       ·rw[if_pos hl]at he⊢;dsimp only at he;simp only[Option.some.injEq,Prod.mk.injEq]at he;obtain⟨_,rfl,_⟩:=he;simp only[stOk,List.all_eq_true,Bool.not_eq_true']at hs;have e1:=setAt_kill old off cs hs;simp only[if_pos hl];rw[e1]
       ·rw[if_neg hl,if_neg hl]
      |_=>rfl
    rw[this];exact he
   ·rw[if_neg h3]at he;cases he
theorem Jk.halfYS {P:Program} {ops:Array Oper} {s:AS} {x y:Rc} (hy:Jk P ops (Zq s x) y) (ap:Oper.apart ops x.o y.o=true) {o:Nat} (hst:y.st=some o) (hoW:(x.W.contains o)=false):
  ∃M,Jk P ops s { y with M:=M,nk:=false,an:=true }:=by
 obtain⟨ap1,ap2,ap3⟩:=Oper.apart_spec ap;obtain⟨lr,lz,ls,t,a,v,off,lo,la⟩:=hy.st o hst;have hoW':o ∉ x.W:=fun h=>by rw[List.contains_iff_mem.2 h]at hoW;cases hoW
 have fk:∀z∈y.o.op.operands,evA (Zq s x).fr z=(evA s.fr z).kill (Z5 x.e.q)∨evA (Zq s x).fr z=evA s.fr z:=fun z hz=>by
  cases z with
  |tmp u=>
   have hne:x.o.dst≠some u:=fun e=>ap1 u e (List.mem_append_left _ (List.mem_filterMap.2 ⟨.tmp u,by simpa using hz,rfl⟩))
   left;simp only[evA,Zq,AS.Jz,if_neg hne]
  |_=>exact .inr rfl
 have la':evA s.fr a= .ptr o off:=by
  rcases fk a (by rw[lo];simp[Op.operands])with h|h
  ·rw[la]at h;have:=R5 (q:=Z5 x.e.q) (c:=evA s.fr a) (by rw[←h];rfl);rw[←this,←h]
  ·rw[←h];exact la
 have uW:∀r:Rc,∀i,Jw r.e.ws i=true→i∈r.W:=fun r i h=>List.mem_append_right _ (Az.1 h)
 have hU:Jw x.e.ws o=false:=by rw[←Bool.not_eq_true];intro h;exact hoW' (uW x o h)
 have hget:Q4 (Zq s x).mem o=(Q4 s.mem o).map (Qz.kill (Z5 x.e.q)):=by
  simp only[Zq,AS.K8,X5,hU];cases hm:Q4 s.mem o<;> rfl
 have he:=hy.e lr;rw[lz]at he;have hrd:=opEff_st lo la' la (fk v (by rw[lo];simp[Op.operands])) hget he ls;refine⟨Zw (Q4 s.mem) (evA s.fr) y.o.op++J8 (Q4 s.mem) (Zw (Q4 s.mem) (evA s.fr) y.o.op),hy.d,Cw hy.g fun u hu b hbc hb=>?_,fun _=>(by show V9 P _ _ y.o y.h y.z=_;rw[lz];exact hrd),hy.e',(fun _=>viewM_ok _ _ _),(fun h=>by cases h),(fun _ h=>by cases h),fun o' ho'=>?_,fun o' ho'=>?_⟩
 ·have hne:x.o.dst≠some u:=fun e=>ap1 u e (List.mem_append_right _ (by
   cases hg:y.o.guard with
   |none=>rw[hg]at hu;cases hu
   |some gg=>obtain⟨g1,g2⟩:=gg;rw[hg]at hu;simpa using hu))
  simp only[Zq,AS.Jz,if_neg hne]at hb;have:Wj ((Zj s.fr u).kill (Z5 x.e.q))=false:=by rw[hb];rcases hbc with rfl|⟨b,rfl⟩<;> rfl
  rw[R5 this]at hb;exact hb
 ·obtain⟨_,_,a',off',l3,_⟩:=hy.ld o' ho';rw[lo]at l3;cases l3
 ·have:y.st=some o':=ho';rw[hst]at this;cases this;exact⟨lr,lz,ls,t,a,v,off,lo,la'⟩
theorem Jk.swap {P:Program} {ops:Array Oper} {s:AS} {x y:Rc} (hx:Jk P ops s x) (hy:Jk P ops (Zq s x) y) (hi:indep ops x y=true):
  (∃M an,Jk P ops s { y with M:=M,nk:=false,an:=an }∧(y.ld=none→y.st=none→M=y.M∧an=y.an))∧Jk P ops (Zq s y) x∧Eqv (Zq (Zq s x) y) (Zq (Zq s y) x):=by
 unfold indep at hi;simp only[Bool.and_eq_true]at hi;obtain⟨ap,dWW,dqR,dqR',hX,hY⟩:=hi;refine⟨?_,?_,Eqv.swap ap (Aw dWW) (Aw dqR) (Aw dqR')⟩
 ·by_cases hpu:y.pu=true
  ·exact⟨y.M,y.an,Jk.halfYP hy ap hpu,fun _ _=>⟨rfl,rfl⟩⟩
  ·rw[Bool.not_eq_true]at hpu;rw[hpu,Bool.false_or]at hY;by_cases hst:y.st=none;rotate_left
   ·obtain⟨o,ho⟩:=Option.ne_none_iff_exists'.1 hst;rw[ho]at hY;obtain⟨M,h⟩:=Jk.halfYS hy ap ho (by simpa using hY);exact⟨M,true,h,fun _ h=>absurd h hst⟩
   rw[hst]at hY;dsimp only at hY;by_cases hld:y.ld=none
   ·rw[hld]at hY;simp only[Bool.and_eq_true]at hY;exact⟨y.M,y.an,Jk.halfY0 hx hy ap (Aw hY.1) hY.2 hpu hld hst,fun _ _=>⟨rfl,rfl⟩⟩
   ·obtain⟨o,ho⟩:=Option.ne_none_iff_exists'.1 hld;rw[ho]at hY;obtain⟨M,h⟩:=Jk.halfYL hy ap ho hst (by simpa using hY);exact⟨M,true,h,fun h _=>absurd h hld⟩
 ·by_cases hpu:x.pu=true
  ·exact Jk.halfXP hx ap (Aw dqR') hpu
  ·rw[Bool.not_eq_true]at hpu;rw[hpu,Bool.false_or]at hX;exact Jk.halfX0 hx ap (Aw dqR) (Aw hX) hpu
theorem Trace.front {P:Program} {ops:Array Oper} (y:Rc) (l2:List Rc):∀(l1:List Rc) (s:AS),Trace P ops (l1++y::l2) s→(∀x∈l1,indep ops x y=true)→
  (∃M an,Jk P ops s { y with M:=M,nk:=false,an:=an }∧(y.ld=none→y.st=none→M=y.M∧an=y.an))∧Trace P ops (l1++l2) (Zq s y)∧Eqv (runR (l1++y::l2) s) (runR (l1++l2) (Zq s y))
 |[],s,h,_=>by
  refine⟨⟨y.M,y.an,?_,fun _ _=>⟨rfl,rfl⟩⟩,h.2,Eqv.refl _⟩;have h1:=h.1;exact⟨h1.d,h1.g,h1.e,h1.e',h1.M,(fun h=>by cases h),h1.an,h1.ld,h1.st⟩
 |x::l1,s,h,hi=>by
  obtain⟨⟨M,an,a1,a0⟩,a2,a3⟩:=Trace.front y l2 l1 (Zq s x) h.2 (fun z hz=>hi z (by simp[hz]));have hi':indep ops x { y with M:=M,nk:=false,an:=an }=true:=by
   have h0:=hi x (by simp);unfold indep at h0⊢;cases hst:y.st with
   |some o=>
    rw[hst]at h0;exact h0
   |none=>
   rw[hst]at h0;cases hld:y.ld with
   |none=>
    obtain⟨rfl,rfl⟩:=a0 hld hst;rw[hld]at h0;exact h0
   |some o=>
    rw[hld]at h0;exact h0
  obtain⟨⟨M',an',b1,b0⟩,b2,b3⟩:=Jk.swap h.1 a1 hi';obtain⟨c1,c2⟩:=Trace.eqv _ a2 b3;exact⟨⟨M',an',b1,fun h k=>⟨(b0 h k).1.trans (a0 h k).1,(b0 h k).2.trans (a0 h k).2⟩⟩,⟨b2,c1⟩,a3.trans c2⟩
def Qz.le:Qz→Qz→Prop
 | .blk t cs,.blk t' cs'=>t=t'∧cs.length=cs'.length∧∀i:Nat,cs[i]? =some .any∨cs[i]? =cs'[i]?
 | .arr e sz rows,.arr e' sz' rows'=>e=e'∧sz=sz'∧rows=rows'
 | .map ks ag n ents,.map ks' ag' n' ents'=>ks=ks'∧ag=ag'∧n=n'∧ents=ents'
 | .raw r,.raw r'=>r=r'
 |_,_=>False
theorem St.weak2 {C:Cx} {s s':AS} {a:Act} {w:World} (h:St C s a w) (hn:s'.n=s.n) (hf:∀t,Zj s'.fr t= .any∨Zj s'.fr t=Zj s.fr t) (hm:∀o x,Q4 s'.mem o=some x→∃y,Q4 s.mem o=some y∧x.le y):St C s' a w:=by
 obtain⟨ok,g,hM,h1,h2,h3⟩:=h;have hlk:∀o x',(fun _=>false) o=false→Q4 s'.mem o=some x'→∃x,Q4 s.mem o=some x∧x.like x'∧g.bl o=g.bl o∧g.cp o=g.cp o:=fun o x' _ hx'=>by
  obtain⟨y,hy,hle⟩:=hm o x' hx';refine⟨y,hy,?_,rfl,rfl⟩;cases x'<;> cases y<;> simp_all [Qz.le,Qz.like]
 have mono:∀c v,VR w ok g (Q4 s.mem) c v→VR w ok g (Q4 s'.mem) c v:=fun c v hv=>
  hv.mono (fun _=>false) (AV.V3 (fun _=>rfl) c) (fun _ _=>rfl) (fun _ h=>h) hlk
 refine⟨ok,g,⟨fun o x hx=>?_,fun i j xi xj b hi hj=>?_,fun i x b hi=>?_,hM.okb,hM.okk,hM.size,hM.heap,hM.keep,hM.os,hM.tape,hM.output,hM.gi,hM.gb⟩,by rw[hn];exact h1,h2,fun t=>?_⟩
 ·obtain⟨y,hy,hle⟩:=hm o x hx;have hO:=hM.obj o y hy;cases x with
  |arr e sz rows=>
   cases y with
   |blk t cs=>exact hle.elim
   |map _ _ _ _=>exact hle.elim
   |raw _=>exact hle.elim
   |arr e' sz' rows'=>
    obtain⟨rfl,rfl,rfl⟩:=hle;exact hO
  |map ks ag n ents=>
   cases y with
   |blk t cs=>exact hle.elim
   |arr _ _ _=>exact hle.elim
   |raw _=>exact hle.elim
   |map ks' ag' n' ents'=>
    obtain⟨rfl,rfl,rfl,rfl⟩:=hle;exact hO
  |raw r=>
   cases y with
   |blk t cs=>exact hle.elim
   |arr _ _ _=>exact hle.elim
   |map _ _ _ _=>exact hle.elim
   |raw r'=>
    obtain rfl:r=r':=hle;exact hO
  |blk t cs=>
   cases y with
   |arr e' sz' rows'=>exact hle.elim
   |map _ _ _ _=>exact hle.elim
   |raw _=>exact hle.elim
   |blk t' cs'=>
    obtain⟨rfl,hl,hc⟩:=hle;obtain⟨b,vs,k1,k2,k3⟩:=hO;refine⟨b,vs,k1,k2,by rw[hl];exact k3.1,fun i c v hci hvi=>?_,k3.2.2⟩;rcases hc i with h|h
    ·rw[h]at hci;obtain rfl:=Option.some.inj hci;exact .any _
    ·rw[h]at hci;exact mono c v (k3.2.1 i c v hci hvi)
 ·obtain⟨yi,hyi,_⟩:=hm i xi hi;obtain⟨yj,hyj,_⟩:=hm j xj hj;exact hM.inj i j yi yj b hyi hyj
 ·obtain⟨y,hy,_⟩:=hm i x hi;exact hM.own i y b hy
 ·rcases hf t with h|h
  ·rw[h];exact .any _
  ·rw[h];exact mono _ _ (h3 t)
theorem AV.frz_id {o:Nat} {x:Qz} (c:AV):c.has (fun j=>j==o)=false→c.frz o x=c:=
 AV.rec (motive_1:=fun c=>c.has (fun j=>j==o)=false→c.frz o x=c) (motive_2:=fun l=>AV.K6 (fun j=>j==o) l=false→Ik o x l=l)
  (fun _=>rfl) (fun _ _=>rfl) (fun _ _=>rfl) (fun _ _=>rfl) (fun o' _ h=>by simp only[AV.has]at h;simp[AV.frz,Pz,h]) (fun o' _ _ h=>by simp only[AV.has]at h;simp[AV.frz,Pz,h]) (fun o' _ _ h=>by simp only[AV.has]at h;simp[AV.frz,Pz,h]) (fun o' h=>by simp only[AV.has]at h;simp[AV.frz,Pz,h])
  (fun cs ih h=>by simp only[AV.frz,ih h]) (fun cs ih h=>by simp only[AV.frz,ih h]) (fun _ cs ih h=>by simp only[AV.frz,ih h]) (fun _=>rfl)
  (fun c r h1 h2 h=>by
   simp only[AV.K6,Bool.or_eq_false_iff]at h;simp only[Ik,h1 h.1,h2 h.2]) c
theorem idIn_cons (o:Nat) (q:List Nat) (i:Nat):Z5 (o::q) i=(o==i||Z5 q i):=by simp[Z5]
theorem kill_cons {o:Nat} {q:List Nat} {x:Qz} (c:AV):c.kill (Z5 (o::q))= .any∨c.kill (Z5 (o::q))=(c.kill (Z5 q)).frz o x:=by
 unfold AV.kill;by_cases h:c.has (Z5 (o::q))=true
 ·rw[if_pos h];exact .inl rfl
 ·right;rw[if_neg h];rw[Bool.not_eq_true,AV.M3]at h;have h1:c.has (Z5 q)=false:=by
   rw[AV.M3,←Bool.not_eq_true,List.any_eq_true];rintro⟨i,hi,hq⟩;have:c.ids.any (Z5 (o::q))=true:=List.any_eq_true.2 ⟨i,hi,by rw[idIn_cons,hq,Bool.or_true]⟩;rw[this]at h;cases h
  have h2:c.has (fun j=>j==o)=false:=by
   rw[AV.M3,←Bool.not_eq_true,List.any_eq_true];rintro⟨i,hi,hq⟩;have e:i=o:=by simpa using hq
   have:c.ids.any (Z5 (o::q))=true:=List.any_eq_true.2 ⟨i,hi,by rw[idIn_cons,e];simp⟩;rw[this]at h;cases h
  rw[if_neg (by rw[h1];simp),AV.frz_id c h2]
theorem St.Bz {C:Cx} {s:AS} {dst:Option Nat} {c:AV} {q:List Nat} {o:Nat} {x:Qz} (ho:Nat.ble 500 o=false) {a:Act} {w:World} (h:St C (s.after dst c ⟨q,[(o,some x)]⟩) a w):St C (s.after dst (c.frz o x) ⟨o::q,[(o,none)]⟩) a w:=by
 have hx:Q4 (s.after dst c ⟨q,[(o,some x)]⟩).mem o=some x:=by rw[AS.K8];simp[X5,Jw,Q4]
 have hz:=h.frz o ho;unfold AS.frz at hz;rw[hx]at hz;refine hz.weak2 rfl (fun t=>?_) (fun i y hy=>?_)
 ·dsimp only;rw[AS.Jz,frGet_frz,AS.Jz];split
  ·exact .inr rfl
  ·exact kill_cons _
 ·dsimp only;rw[AS.K8]at hy;rw[memGet_frz,AS.K8];simp only[X5,Z9]at hy⊢;by_cases hi:(o==i)=true
  ·have e:o=i:=by simpa using hi
   subst e;simp[Q4]at hy
  ·rw[if_neg hi]at hy;have hi':(i==o)=false:=by
    rw[←Bool.not_eq_true];intro h;have:i=o:=by simpa using h
    subst this;simp at hi
   rw[if_neg (by rw[hi'];simp),if_neg hi];obtain⟨v,hv,rfl⟩:=Option.map_eq_some_iff.1 hy;rw[hv];refine⟨_,rfl,?_⟩;cases v with
   |arr e sz rows=>exact⟨rfl,rfl,rfl⟩
   |map ks ag n ents=>exact⟨rfl,rfl,rfl,rfl⟩
   |raw r=>rfl
   |blk t cs=>
    refine⟨rfl,by simp[Qk8],fun k=>?_⟩;simp only[Qk8,List.getElem?_map];cases hk:cs[k]? with
    |none=>exact .inr rfl
    |some d=>
     simp only[Option.map_some,Option.some.injEq];exact kill_cons d
theorem moHave_get {m:Me} {ρ:Nat→Nat} {mo:Mo} (h:Yk m ρ mo) (i:Nat) (x:Qz) (hx:Xq mo i=some x):m (ρ i)=some (x.ren ρ):=by
 have hm:=Uv hx;clear hx;induction mo with
 |nil=>cases hm
 |cons y r ih=>
  obtain⟨j,z⟩:=y;rcases List.mem_cons.1 hm with hm|hm
  ·cases hm;exact h.1
  ·exact ih h.2 hm
theorem callC_ok {P:Program} {C:Cx} {s:AS} {o:Oper} {cc:Call} {f:Operand} {k:Nat} {cap:List AV} {π:List (Nat×Nat)} {ars:List AV} {mo mo':Mo} {r:AV} (hd:Rw s o=true) (hop:o.op= .call cc) (hcal:cc.callee= .value f) (hk:Jq (evA s.fr f)=some (k,cap))
  (hchk:Qv2 (Zx π) mo r mo'=true) (hS:Qv P k ars mo r mo') (harg:cc.args.toList.map (evA s.fr)++cap=ars.map (AV.ren (Zx π))) (hlk:R4 mo' mo) (hhv:Yk (Q4 s.mem) (Zx π) mo)
  {a:Act} {w:World} (hst:St C s a w) {K:Act→World→Prop} {Q:Exit→Act→World→Prop} (hK:∀a w,St C (s.after o.dst (r.ren (Zx π)) (Mk (Zx π) mo mo')) a w→K a w):o.wp P a w K Q:=by
 obtain⟨ok,g,hM,hs,hdf,hf⟩:=hst;have hev:∀x,VR w ok g (Q4 s.mem) (evA s.fr x) (a.eval x):=Qq0 hf;obtain⟨fn,hfn,hnm,hbd⟩:=hS.ent;have hnm':¬fn.name= "runtime.NumGoroutine":=by simpa using hnm
 have hbd':¬fn.body=none:=fun e=>by rw[e]at hbd;cases hbd
 have hcf:=hev f;obtain⟨capv,hcv,hcl,hcr⟩:∃capv:Array Value,a.eval f= .func (.func k) #[] capv∧cap.length=capv.size∧∀(i:Nat) (c:AV) (v:Value),cap[i]? =some c→capv[i]? =some v→VR w ok g (Q4 s.mem) c v:=by
  unfold Jq at hk;split at hk
  ·rename_i k' ek;rw[ek]at hcf;simp only[Option.some.injEq,Prod.mk.injEq]at hk;obtain⟨rfl,rfl⟩:=hk;have hcf':=hcf.Zv;generalize a.eval f=vv at hcf'⊢;cases hcf' with
   |fn f=>exact⟨#[],rfl,rfl,by simp⟩
  ·rename_i k' cap' ek;rw[ek]at hcf;simp only[Option.some.injEq,Prod.mk.injEq]at hk;obtain⟨rfl,rfl⟩:=hk;obtain⟨vs,h1,h2,h3⟩:=hcf.clo_inv;exact⟨vs,h1,h2,h3⟩
  ·cases hk
 obtain⟨hal,har⟩:=VR.map hev cc.args;have hlen:ars.length=(cc.args.map a.eval++capv).size:=by
  have:=congrArg List.length harg;simp at this;simp[hcl]at this⊢;omega
 have hcall:=hS.step hM hs hdf hf o.dst (dstOk_lt hd) (Zx π) hchk hlk (fun i x hx=>moHave_get hhv i x hx) (vals:=cc.args.map a.eval++capv) hlen (fun i c v hc hv=>by
  have hc':(cc.args.toList.map (evA s.fr)++cap)[i]? =some (c.ren (Zx π)):=by rw[harg,List.getElem?_map,hc];rfl
  rw[List.getElem?_append]at hc';rw[Array.getElem?_append]at hv;simp only[List.length_map,Array.length_toList]at hc';simp only[Array.size_map]at hv;split at hc'
  ·rw[if_pos (by assumption)]at hv;exact har i _ v hc' hv
  ·rw[if_neg (by assumption)]at hv;exact hcr _ _ v hc' hv)
 have hrun:(execOp a.eval o).run P w= .ok (.enter k (cc.args.map a.eval++capv)) w:=by
  unfold execOp;rw[hop];obtain⟨callee,args,argTypes⟩:=cc;dsimp only at hcal;subst hcal;simp[resolve,Deferred.ofValue,hcv,invoke,callFunc,hfn,hnm',hbd']
 unfold Oper.wp;rw[hrun];refine Calls.mono hcall ?_;rintro e w' ⟨v,rfl,hst'⟩;exact hK _ _ hst'
theorem AV.kill_sub {q1 q2:Nat→Bool} (h:∀i,q1 i=true→q2 i=true) (c:AV):(c.kill q1).kill q2=c.kill q2:=by
 unfold AV.kill;by_cases h1:c.has q1=true
 ·have h2:c.has q2=true:=by
   rw[AV.M3,List.any_eq_true]at h1⊢;obtain⟨i,hi,hq⟩:=h1;exact⟨i,hi,h i hq⟩
  rw[if_pos h1,if_pos h2];simp[AV.has]
 ·rw[if_neg h1]
theorem Qz.kill_sub {q1 q2:Nat→Bool} (h:∀i,q1 i=true→q2 i=true) (x:Qz):(x.kill q1).kill q2=x.kill q2:=by
 cases x with
 |blk t cs=>simp only[Qz.kill,List.map_map];congr 1;exact List.map_congr_left fun c _=>AV.kill_sub h c
 |arr e sz rows=>rfl
 |map ks ag n ents=>rfl
 |raw r=>rfl
theorem phW_mem (qs:List Nat) (i:Nat):Jw (qs.map fun i=>(i,some (Qz.arr 0 1 []))) i=Z5 qs i:=by
 unfold Jw Z5;rw[List.any_map];rfl
theorem phW_get (qs:List Nat) (i:Nat):Q4 (qs.map fun i=>(i,some (Qz.arr 0 1 []))) i=if Z5 qs i=true then some (.arr 0 1 [])else none:=by
 induction qs with
 |nil=>rfl
 |cons q r ih=>
  have hc:Z5 (q::r) i=(q==i||Z5 r i):=by simp[Z5]
  rw[hc];simp only[List.map_cons,Q4];cases h:(q==i)with
  |true=>simp
  |false=>rw[ih];simp
abbrev AS.Bv (s:AS) (qs:List Nat):AS:=s.after none .any ⟨qs,qs.map fun i=>(i,some (Qz.arr 0 1 []))⟩
theorem St.phantoms {C:Cx} {s:AS} {a:Act} {w:World} (qs:List Nat) (hq:∀i∈qs,i<500) (h:St C s a w):St C (s.Bv qs) a w:=by
 obtain⟨ok,g,hM,h1,h2,h3⟩:=h;have hkq:∀i,Z5 qs i=true→kept i=false:=fun i hi=>by
  have:=hq i (R6.1 hi);unfold kept;cases hb:Nat.ble 1000 i with
  |false=>rfl
  |true=>have:=Nat.le_of_ble_eq_true hb;omega
 let g':Gh:=⟨fun i=>if Z5 qs i=true then none else g.bl i,fun i=>if Z5 qs i=true then 0 else g.cp i⟩
 have hE:=MS.eff (w':=w) (ok':=ok) (g':=g') hM (Jw (qs.map fun i=>(i,some (Qz.arr 0 1 [])))) (Z5 qs) (Q4 (qs.map fun i=>(i,some (Qz.arr 0 1 []))))
  (fun i hi=>by rw[phW_mem];exact hi)
  (fun i x hU hN=>by
   rw[phW_mem]at hU;rw[phW_get,if_pos hU]at hN;cases hN;exact⟨Nat.one_pos,(fun j r hr=>by simp at hr),.inl ⟨by simp only[g'];rw[if_pos hU],rfl⟩⟩)
  (fun i hi=>by simp only[g'];rw[if_neg (by rw[hi];simp),if_neg (by rw[hi];simp)];exact⟨rfl,rfl⟩)
  (fun i x' hU hi _=>by rw[phW_mem,hi]at hU;cases hU)
  (fun i x b _ _ _=>rfl) (fun b _=>rfl) (fun b h=>h) (fun b h=>.inl h)
  (fun i x b hU _ hb=>by rw[phW_mem]at hU;simp only[g']at hb;rw[if_pos hU]at hb;cases hb)
  hkq (Nat.le_refl _) (fun b _ _=>rfl) rfl rfl rfl
 exact St.after (ok':=ok) (g':=g') h1 h2 h3 none (fun d hd=>by cases hd) .any undef ⟨qs,_⟩ hE (fun h=>absurd rfl h)
theorem moHave_iff {m:Me} {ρ:Nat→Nat}:∀{mo:Mo},Yk m ρ mo↔∀x∈mo,m (ρ x.1)=some (x.2.ren ρ)
 |[]=>by simp[Yk]
 |(i,x)::r=>by simp only[Yk,moHave_iff (mo:=r),List.mem_cons,forall_eq_or_imp]
theorem phO_mem {x:Nat×Qz}:∀{ph:List Nat},x∈phO ph↔x.1∈ph∧x.2= .arr 0 1 []
 |[]=>by simp[phO]
 |i::r=>by
  obtain⟨j,y⟩:=x;simp only[phO,List.mem_cons,phO_mem (ph:=r),Prod.mk.injEq];constructor
  ·rintro(⟨rfl,rfl⟩|⟨h1,h2⟩)
   ·exact⟨.inl rfl,rfl⟩
   ·exact⟨.inr h1,h2⟩
  ·rintro⟨rfl|h1,h2⟩
   ·exact .inl ⟨rfl,h2⟩
   ·exact .inr ⟨h1,h2⟩
theorem AV.hasL_mem {q:Nat→Bool}:∀{l:List AV},AV.K6 q l=false→∀c∈l,c.has q=false
 |a::l,h,c,hc=>by
  simp only[AV.K6,Bool.or_eq_false_iff]at h;rcases List.mem_cons.1 hc with rfl|hc
  ·exact h.1
  ·exact AV.hasL_mem h.2 c hc
theorem AV.hasL_of {q:Nat→Bool}:∀{l:List AV},(∀c∈l,c.has q=false)→AV.K6 q l=false
 |[],_=>rfl
 |a::l,h=>by simp only[AV.K6,h a (by simp),AV.hasL_of fun c hc=>h c (List.mem_cons_of_mem _ hc),Bool.or_self]
theorem callN_ok {P:Program} {C:Cx} {s:AS} {o:Oper} {cc:Call} {f:Operand} {k:Nat} {cap:List AV} {π:List (Nat×Nat)} {ars:List AV} {mo mo':Mo} {r:AV} {ph:List Nat} (hd:Rw s o=true) (hop:o.op= .call cc) (hcal:cc.callee= .value f) (hk:Jq (evA s.fr f)=some (k,cap))
  (hchk:Qv2 (Zx π) (mo++phO ph) r mo'=true) (hph:∀i∈ph,Nat.ble 1000 i=false∧Nat.ble 500 (Zx π i)=false) (hha:AV.K6 (Z5 (ph.map (Zx π))) (cc.args.toList.map (evA s.fr)++cap)=false)
  (hhm:∀x∈mo,Z5 (ph.map (Zx π)) (Zx π x.1)=false∧(x.2.ren (Zx π)).ids.any (Z5 (ph.map (Zx π)))=false)
  (hS:Qv P k ars (mo++phO ph) r mo') (harg:cc.args.toList.map (evA s.fr)++cap=ars.map (AV.ren (Zx π))) (hlk:R4 mo' (mo++phO ph)) (hhv:Yk (Q4 s.mem) (Zx π) mo)
  {a:Act} {w:World} (hst:St C s a w) {K:Act→World→Prop} {Q:Exit→Act→World→Prop} (hK:∀a w,St C (s.after o.dst (r.ren (Zx π)) (Mk (Zx π) (mo++phO ph) mo')) a w→K a w):o.wp P a w K Q:=by
 obtain⟨qs,hqs⟩:∃qs,qs=ph.map (Zx π):=⟨_,rfl⟩
 rw[←hqs]at hha hhm;have hq5:∀i∈qs,i<500:=fun i hi=>by
  rw[hqs]at hi;obtain⟨j,hj,rfl⟩:=List.mem_map.1 hi;exact ble_false (hph j hj).2
 have hs1:=hst.phantoms qs hq5;have hfr:∀x,(evA s.fr x).has (Z5 qs)=false→evA (s.Bv qs).fr x=evA s.fr x:=fun x hx=>by
  cases x with
  |tmp t=>
   show Zj (s.Bv qs).fr t=Zj s.fr t;rw[AS.Jz,if_neg (by simp)];exact AV.Rz hx
  |const v=>rfl
  |global g=>rfl
  |func g=>rfl
 have hcap:∀c∈cap,c.has (Z5 qs)=false:=fun c hc=>AV.hasL_mem hha c (List.mem_append_right _ hc)
 have hk':Jq (evA (s.Bv qs).fr f)=some (k,cap):=by
  rw[hfr f ?_]
  ·exact hk
  ·unfold Jq at hk;split at hk
   ·rename_i k' ek;rw[ek];simp[AV.has]
   ·rename_i k' cap' ek;rw[ek];simp only[Option.some.injEq,Prod.mk.injEq]at hk;obtain⟨rfl,rfl⟩:=hk;simp only[AV.has];exact AV.hasL_of hcap
   ·cases hk
 have hargs:cc.args.toList.map (evA (s.Bv qs).fr)=cc.args.toList.map (evA s.fr):=List.map_congr_left fun x hx=>hfr x (AV.hasL_mem hha _ (List.mem_append_left _ (List.mem_map.2 ⟨x,hx,rfl⟩)))
 have hmem:∀i,Z5 qs i=false→Q4 (s.Bv qs).mem i=(Q4 s.mem i).map (Qz.kill (Z5 qs)):=fun i hi=>by
  rw[AS.K8];unfold X5;rw[if_neg (by rw[phW_mem,hi];simp)]
 have hhv':Yk (Q4 (s.Bv qs).mem) (Zx π) (mo++phO ph):=by
  rw[moHave_iff]at hhv⊢;intro x hx;rcases List.mem_append.1 hx with hx|hx
  ·rw[hmem _ (hhm x hx).1,hhv x hx,Option.map_some,Qz.Rz (hhm x hx).2]
  ·obtain⟨h1,h2⟩:=phO_mem.1 hx;have:Z5 qs (Zx π x.1)=true:=R6.2 (by rw[hqs];exact List.mem_map.2 ⟨_,h1,rfl⟩);rw[AS.K8];unfold X5;rw[if_pos (by rw[phW_mem];exact this),phW_get,if_pos this,h2];rfl
 refine callC_ok (s:=s.Bv qs) hd hop hcal hk' hchk hS (by rw[hargs];exact harg) hlk hhv' hs1 fun a' w' hs'=>hK a' w' ?_
 have hsub:∀i,Z5 qs i=true→Z5 (Mk (Zx π) (mo++phO ph) mo').q i=true:=fun i hi=>by
  have:=R6.1 hi;rw[hqs]at this;obtain⟨j,hj,rfl⟩:=List.mem_map.1 this;exact R6.2 (moQ_mem.2 ⟨j,.arr 0 1 [],List.mem_append_right _ (phO_mem.2 ⟨hj,rfl⟩),by unfold kept;exact(hph j hj).1,rfl⟩)
 have hsubU:∀i,Z5 qs i=true→Jw (Mk (Zx π) (mo++phO ph) mo').ws i=true:=fun i hi=>by
  have:=R6.1 hi;rw[hqs]at this;obtain⟨j,hj,rfl⟩:=List.mem_map.1 this;refine Az.2 ?_;show Zx π j∈(E8 (Zx π) mo' (mo++phO ph)).map (·.1);rw[moWs_map];exact List.mem_map.2 ⟨(j,.arr 0 1 []),List.mem_append_right _ (phO_mem.2 ⟨hj,rfl⟩),rfl⟩
 have hE:Eqv ((s.Bv qs).after o.dst (r.ren (Zx π)) (Mk (Zx π) (mo++phO ph) mo')) (s.after o.dst (r.ren (Zx π)) (Mk (Zx π) (mo++phO ph) mo')):=by
  refine⟨rfl,fun t=>?_,fun i=>?_⟩
  ·rw[AS.Jz (s.Bv qs) o.dst (r.ren (Zx π)) (Mk (Zx π) (mo++phO ph) mo'),AS.Jz s o.dst (r.ren (Zx π)) (Mk (Zx π) (mo++phO ph) mo')];by_cases ht:o.dst=some t
   ·rw[if_pos ht,if_pos ht]
   ·rw[if_neg ht,if_neg ht,AS.Jz,if_neg (by simp)];exact AV.kill_sub hsub _
  ·rw[AS.K8 (s.Bv qs) o.dst (r.ren (Zx π)) (Mk (Zx π) (mo++phO ph) mo'),AS.K8 s o.dst (r.ren (Zx π)) (Mk (Zx π) (mo++phO ph) mo')];unfold X5;by_cases hU:Jw (Mk (Zx π) (mo++phO ph) mo').ws i=true
   ·rw[if_pos hU,if_pos hU]
   ·rw[if_neg hU,if_neg hU,hmem i (by
     cases hq:Z5 qs i with
     |false=>rfl
     |true=>exact absurd (hsubU i hq) hU)]
    cases Q4 s.mem i with
    |none=>rfl
    |some x=>simp only[Option.map_some];rw[Qz.kill_sub hsub]
 exact hE.st hs'
theorem opEff_ok {P:Program} {C:Cx} {s:AS} {o:Oper} {h:Option Hint} {z:Bool} {c:AV} {e:Eff} {p:Prop} (hd:Rw s o=true) (he:V9 P (Q4 s.mem) (evA s.fr) o h z=some (c,e,p)) (hp:p) {a:Act} {w:World} (hst:St C s a w) {K:Act→World→Prop} {Q:Exit→Act→World→Prop} (hK:∀a w,St C (s.after o.dst c e) a w→K a w):o.wp P a w K Q:=by
 have base:∀{c:AV} {e:Eff} {p:Prop},Yj P (Q4 s.mem) (evA s.fr) o h=some (c,e,p)→p→∀{K:Act→World→Prop},(∀a w,St C (s.after o.dst c e) a w→K a w)→o.wp P a w K Q:=fun {c e p} he hp {K} hK=>by
  unfold Yj at he;split at he
  ·rename_i r hr;simp only[Option.some.injEq]at he;subst he;exact doOp_ok (h:=[]) (h':=[]) hd (by unfold doOp;rw[hr]) hp hst hK
  ·rename_i hr;split at he
   ·rename_i r hmo;simp only[Option.some.injEq]at he;subst he;have hd':∀d,o.dst=some d→d<s.n:=fun d h=>by
     simp only[Rw,h]at hd;exact Nat.lt_of_succ_le (Nat.le_of_ble_eq_true hd)
    obtain⟨v,w',hrun,hst'⟩:=mapOp_ok hst hmo hp hd';unfold Oper.wp;rcases hrun with hrun|⟨hrun,rfl⟩
    ·rw[hrun];exact hK _ _ hst'
    ·rw[hrun];exact hK _ _ hst'
   split at he
   ·rename_i v p' hex;simp only[Option.some.injEq,Prod.mk.injEq]at he;obtain⟨rfl,rfl,rfl⟩:=he;obtain⟨v,hrun,hst'⟩:=St.value (P:=P) (o:=o) hst (dstOk_lt hd) fun ok g hev=>extOp_ok (P:=P) hev hex hp
    unfold Oper.wp;rw[hrun];exact hK _ _ hst'
   unfold Y8 at he;split at he
   ·rename_i cc r x hop _;split at he
    ·rename_i f hcal;split at he
     ·rename_i k cap hk;split at he
      ·cases he
      ·rename_i hx;simp only[Option.some.injEq,Prod.mk.injEq]at he;obtain⟨rfl,rfl,rfl⟩:=he;refine doOp_ok (h:=[(r,x)]) (h':=[]) (s':=s.after o.dst (r (o.dst.getD 0)) (J4 (o.dst.getD 0) x)) (p:=Z4 P k (cc.args.toList.map (evA s.fr)++cap) r x) hd ?_ hp hst hK;unfold doOp;rw[hr];simp only[hop,hcal,hk];rw[if_neg hx]
     ·cases he
    ·cases he
   ·rename_i cc π ars mo r mo' hop _;split at he
    ·rename_i f hcal;split at he
     ·rename_i k cap hk;split at he
      ·rename_i hcond;simp only[Option.some.injEq,Prod.mk.injEq]at he;obtain⟨rfl,rfl,rfl⟩:=he;exact callC_ok hd hop hcal hk (by rw[Bool.and_eq_true]at hcond;exact hcond.1) hp.1 hp.2.1 hp.2.2.1 hp.2.2.2 hst hK
      ·cases he
     ·cases he
    ·cases he
   ·rename_i cc π ars mo r mo' ph hop _;split at he
    ·rename_i f hcal;split at he
     ·rename_i k cap hk;split at he
      ·rename_i hcond;simp only[Option.some.injEq,Prod.mk.injEq]at he;obtain⟨rfl,rfl,rfl⟩:=he;rw[Bool.and_eq_true,Bool.and_eq_true,Bool.and_eq_true,Bool.and_eq_true]at hcond;obtain⟨⟨k1,_⟩,k2,k3,k4⟩:=hcond;refine callN_ok hd hop hcal hk k1 (fun i hi=>?_) (by simpa using k3) (fun x hx=>?_) hp.1 hp.2.1 hp.2.2.1 hp.2.2.2 hst hK
       ·have:=List.all_eq_true.1 k2 i hi;simpa using this
       ·have:=List.all_eq_true.1 k4 x hx;rw[Bool.and_eq_true,Bool.not_eq_true',Bool.not_eq_true']at this;exact this
      ·cases he
     ·cases he
    ·cases he
   ·cases he
 unfold V9 at he;split at he
 ·split at he
  ·rename_i v0 hwr;simp only[Option.some.injEq,Prod.mk.injEq]at he;obtain⟨rfl,rfl,rfl⟩:=he;obtain⟨v,hrun,hst'⟩:=St.value (P:=P) (o:=o) hst (dstOk_lt hd) fun ok g hev=>wrapOp_ok (P:=P) hev hwr
   unfold Oper.wp;rw[hrun];exact hK _ _ hst'
  unfold Proofs.YtjpldhjgehoffaaGreatDoor.Bz at he;split at he
  ·rename_i c0 q o' x p' h0;split at he
   ·cases he
   ·rename_i ho;simp only[Option.some.injEq,Prod.mk.injEq]at he;obtain⟨rfl,rfl,rfl⟩:=he;exact base h0 hp fun a w hs=>hK a w (hs.Bz (by rw[←Bool.not_eq_true];exact ho))
  ·cases he
 ·exact base he hp hK
theorem Jk.wp {P:Program} {C:Cx} {ops:Array Oper} {s:AS} {r:Rc} (h:Jk P ops s r) (hp:r.run=true→r.p) {a:Act} {w:World} (hs:St C s a w) {K:Act→World→Prop} {Q:Exit→Act→World→Prop} (hK:∀a w,St C (Zq s r) a w→K a w):
  if Region.wanted r.o (yielded ops a.tmps)=true then r.o.wp P a w K Q else K (a.put r.o.dst undef) w:=by
 have hw:=guardOk_ok h.g hs;rw[hw];split
 ·rename_i hr;exact opEff_ok h.d (h.e hr) (hp hr) hs hK
 ·rename_i hr;have hr':r.run=false:=by simpa using hr
  obtain⟨h1,h2⟩:=h.e' hr';refine hK _ _ ?_;rw[Zq,h1,h2];exact hs.skipT r.o.dst (dstOk_lt h.d)
end Go.Proofs.YtjpldhjgehoffaaGreatDoor
namespace Go.Proofs.YtjpldhjgehoffaaGreatDoor
open Go.RowKit
set_option linter.unusedVariables false
def Qj6 (o:Oper):List Nat:=o.after.toList.filterMap fun e=>if Region.binds .any e then some e.on else none
def Ahead (os:List Oper) (a b:Nat):Prop:=∀L:Nat→Prop,(∀j o,os[j]? =some o→L j→∀k∈Qj6 o,L k)→∀o,os[b]? =some o→(∀k∈Qj6 o,L k)→L a
def forceN (m:Nat) (k:Nat→Bool):Bool:=match m with
 |0=>k 0
 |n+1=>k (n+1)
theorem forceN_eq (m:Nat) (k:Nat→Bool):forceN m k=k m:=by cases m<;> rfl
def ancOf (ms:List Nat) (o:Oper):Nat:=(Qj6 o).foldl (fun m k=>m|||(1<<<k|||ms.getD k 0)) 0
theorem ancOf_bit {ms:List Nat} {a:Nat}:∀(l:List Nat) (m:Nat),(l.foldl (fun m k=>m|||(1<<<k|||ms.getD k 0)) m).testBit a=true→m.testBit a=true∨∃k∈l,k=a∨(ms.getD k 0).testBit a=true
 |[],m,h=>.inl h
 |k::l,m,h=>by
  rcases ancOf_bit l _ h with h|⟨j,hj,h⟩
  ·rw[Nat.testBit_or,Nat.testBit_or,Bool.or_eq_true,Bool.or_eq_true]at h;rcases h with h|h|h
   ·exact .inl h
   ·refine .inr ⟨k,List.mem_cons_self ..,.inl ?_⟩;rw[Nat.testBit_shiftLeft,Bool.and_eq_true,Nat.testBit_one_eq_true_iff_self_eq_zero]at h;have:=of_decide_eq_true h.1;omega
   ·exact .inr ⟨k,List.mem_cons_self ..,.inr h⟩
  ·exact .inr ⟨j,List.mem_cons_of_mem _ hj,h⟩
def pairGo (ops:Array Oper) (rl:List Rc):List Oper→Nat→List Nat→Bool
 |[],_,_=>true
 |o::r,b,ms=>forceN (ancOf ms o) fun m=>((List.range b).all fun a=>match rl[a]?,rl[b]? with
  |some x,some y=>Nat.testBit m a||indep ops x y
  |_,_=>true) && pairGo ops rl r (b+1) (ms++[m])
def pairChk (os:List Oper) (ops:Array Oper) (rl:List Rc):Bool:=pairGo ops rl os 0 []
theorem pairGo_ok {os:List Oper} {ops:Array Oper} {rl:List Rc}:∀(rest done:List Oper) (ms:List Nat),os=done++rest→ms.length=done.length→(∀j a,(ms.getD j 0).testBit a=true→Ahead os a j)→
  pairGo ops rl rest done.length ms=true→∀b,done.length≤b→b<os.length→∀a,a<b→∀x y,rl[a]? =some x→rl[b]? =some y→indep ops x y=true∨Ahead os a b
 |[],done,ms,h1,h2,h3,h4,b,hb,hb2,a,ha,x,y,hx,hy=>by rw[h1,List.append_nil]at hb2;omega
 |o::r,done,ms,h1,h2,h3,h4,b,hb,hb2,a,ha,x,y,hx,hy=>by
  rw[pairGo,forceN_eq,Bool.and_eq_true]at h4;obtain⟨h4,h5⟩:=h4;have ho:os[done.length]? =some o:=by rw[h1,List.getElem?_append_right (Nat.le_refl _),Nat.sub_self];rfl
  have hm:∀a,(ancOf ms o).testBit a=true→Ahead os a done.length:=fun a ha L hdown o' ho' hp=>by
   rw[ho]at ho';cases ho';rcases ancOf_bit _ _ ha with h|⟨k,hk,rfl|h⟩
   ·simp at h
   ·exact hp k hk
   ·have hkl:k<ms.length:=Nat.lt_of_not_le fun hge=>by
     rw[List.getD_eq_getElem?_getD,List.getElem?_eq_none hge]at h;simp at h
    have hko:k<os.length:=by rw[h1,List.length_append];omega
    exact h3 k a h L hdown _ (List.getElem?_eq_getElem hko) (hdown k _ (List.getElem?_eq_getElem hko) (hp k hk))
  rcases Nat.lt_or_ge done.length b with hlt|hge
  ·refine pairGo_ok r (done++[o]) (ms++[ancOf ms o]) (by rw[h1];simp) (by simp[h2]) (fun j a h=>?_) (by simpa using h5) b (by simp;omega) hb2 a ha x y hx hy;rw[List.getD_eq_getElem?_getD]at h;rcases Nat.lt_trichotomy j ms.length with hj|hj|hj
   ·rw[List.getElem?_append_left hj,←List.getD_eq_getElem?_getD]at h;exact h3 j a h
   ·subst hj;rw[List.getElem?_append_right (Nat.le_refl _),Nat.sub_self]at h;rw[h2];exact hm a h
   ·rw[List.getElem?_eq_none (by simp;omega)]at h;simp at h
  ·have e:b=done.length:=by omega
   subst e;rw[List.all_eq_true]at h4;have h6:=h4 a (List.mem_range.2 ha);rw[hx,hy]at h6;simp only[Bool.or_eq_true]at h6;rcases h6 with h6|h6
   ·exact .inr (hm a h6)
   ·exact .inl h6
def predChk (os:List Oper):Bool:=(List.range os.length).all fun b=>match os[b]? with
 |some o=>(Qj6 o).all fun k=>Nat.blt k b
 |none=>true
section
variable {P:Program} {C:Cx} {ops:Array Oper}
theorem wpAny_of {rl:List Rc} {Q:Exit→Act→World→Prop} {send:AS} (hops:ops=(rl.map (·.o)).toArray) (hpair:pairChk (rl.map (·.o)) ops rl=true) (hpred:predChk (rl.map (·.o))=true) (hpp:∀r∈rl,r.run=true→r.p)
  (hQ:∀a w,St C send a w→Q .normal a w):∀(fuel:Nat) (listed:Array Bool) (L:List Nat) (s:AS) (a:Act) (w:World),L.length≤fuel→listed.size=rl.length→L.Pairwise (· <·)→(∀i,i∈L↔i<rl.length∧listed.getD i true=false)→
  (∀j r,rl[j]? =some r→listed.getD j true=true→∀k∈Qj6 r.o,listed.getD k true=true)→(∃rs,rs.map some=L.map (fun i=>rl[i]?)∧Trace P ops rs s∧Eqv (runR rs s) send)→St C s a w→wpAny P .any ops Q fuel listed a w:=by
 intro fuel;have hos:∀i,ops[i]? =(rl[i]?).map Rc.o:=fun i=>by rw[hops,List.getElem?_toArray,List.getElem?_map]
 have ready_iff:∀listed i,i∈Region.ready .any ops listed↔∃r,rl[i]? =some r∧listed.getD i true=false∧∀k∈Qj6 r.o,listed.getD k false=true:=fun listed i=>by
  unfold Region.ready;rw[List.mem_filter,List.mem_range,hos];have hsz:ops.size=rl.length:=by rw[hops];simp
  rw[hsz];constructor
  ·rintro⟨hi,h⟩;have hr:rl[i]? =some rl[i]:=List.getElem?_eq_getElem hi;rw[hr]at h;simp only[Option.map_some,Option.getD_some,Bool.and_eq_true,Bool.not_eq_true']at h;refine⟨rl[i],hr,h.1,fun k hk=>?_⟩;obtain⟨e,he,hek⟩:=List.mem_filterMap.1 hk;split at hek
   ·rename_i hb;simp at hek;subst hek;have:=Array.all_eq_true'.1 h.2 e (by simpa using he);rw[hb]at this;simpa using this
   ·cases hek
  ·rintro⟨r,hr,h1,h2⟩;refine⟨(List.getElem?_eq_some_iff.1 hr).1,?_⟩;rw[hr];simp only[Option.map_some,Option.getD_some,Bool.and_eq_true,Bool.not_eq_true'];refine⟨h1,Array.all_eq_true'.2 fun e he=>?_⟩;by_cases hb:Region.binds .any e=true
   ·rw[hb];simpa using h2 e.on (List.mem_filterMap.2 ⟨e,by simpa using he,by rw[if_pos hb]⟩)
   ·simp[hb]
 have getD_tf:∀(listed:Array Bool) k,listed.getD k false=true→listed.getD k true=true:=fun listed k h=>by
  simp only[Array.getD_eq_getD_getElem?]at h⊢;cases hk:listed[k]? with
  |none=>rw[hk]at h;cases h
  |some b=>rw[hk]at h;exact h
 have getD_ft:∀(listed:Array Bool) k,k<listed.size→listed.getD k true=true→listed.getD k false=true:=fun listed k hk h=>by
  simp only[Array.getD_eq_getD_getElem?,Array.getElem?_eq_getElem hk]at h⊢;exact h
 have pred_lt:∀i r,rl[i]? =some r→∀k∈Qj6 r.o,k<i:=fun i r hr k hk=>by
  unfold predChk at hpred;rw[List.all_eq_true]at hpred;have hi:i<rl.length:=(List.getElem?_eq_some_iff.1 hr).1;have:=hpred i (by simpa using hi);rw[List.getElem?_map,hr]at this;simp only[Option.map_some,List.all_eq_true]at this;have:=this k hk;unfold Nat.blt at this;exact Nat.le_of_ble_eq_true this
 -- nothing is left:the end
 have done:∀(listed:Array Bool) (L:List Nat) (s:AS) (a:Act) (w:World),listed.size=rl.length→L.Pairwise (· <·)→(∀i,i∈L↔i<rl.length∧listed.getD i true=false)→(∃rs,rs.map some=L.map (fun i=>rl[i]?)∧Trace P ops rs s∧Eqv (runR rs s) send)→St C s a w→
   Region.ready .any ops listed=[]→L=[]∧Q .normal a w:=fun listed L s a w hls hL hmem ⟨rs,hrs,htr,heq⟩ hst hrd=>by
  have hL0:L=[]:=by
   rcases L with _|⟨i,L⟩
   ·rfl
   ·exfalso;obtain⟨hi,hli⟩:=(hmem i).1 (by simp);have hr:rl[i]? =some rl[i]:=List.getElem?_eq_getElem hi;have:i∈Region.ready .any ops listed:=(ready_iff listed i).2 ⟨_,hr,hli,fun k hk=>by
     have hki:=pred_lt i _ hr k hk;refine getD_ft listed k (by omega) ?_;rcases hb:listed.getD k true
     ·have:k∈i::L:=(hmem k).2 ⟨by omega,hb⟩;rcases List.mem_cons.1 this with rfl|h
      ·omega
      ·have:=(List.pairwise_cons.1 hL).1 k h;omega
     ·rfl⟩
    rw[hrd]at this;cases this
  refine⟨hL0,?_⟩;subst hL0;have:rs=[]:=by simpa using hrs
  subst this;exact hQ a w (heq.st hst)
 induction fuel with
 |zero=>
  intro listed L s a w hl hls hL hmem hdn htr hst;have hL0:L=[]:=List.eq_nil_of_length_eq_zero (by omega);subst hL0;have hrd:Region.ready .any ops listed=[]:=by
   rcases h:Region.ready .any ops listed with _|⟨i,r⟩
   ·rfl
   ·exfalso;obtain⟨r',hr',h1,_⟩:=(ready_iff listed i).1 (by rw[h];simp);have:=(hmem i).2 ⟨(List.getElem?_eq_some_iff.1 hr').1,h1⟩;cases this
  exact⟨hrd,(done listed [] s a w hls hL hmem htr hst hrd).2⟩
 |succ fuel ih=>
  intro listed L s a w hl hls hL hmem hdn htr hst;refine⟨fun hrd=>(done listed L s a w hls hL hmem htr hst hrd).2,fun i hi=>?_⟩;obtain⟨r,hr,hli,hpr⟩:=(ready_iff listed i).1 hi;have hilt:i<rl.length:=(List.getElem?_eq_some_iff.1 hr).1;have hiL:i∈L:=(hmem i).2 ⟨hilt,hli⟩;obtain⟨L1,L2,rfl⟩:=List.append_of_mem hiL;obtain⟨rs,hrs,htrr,heq⟩:=htr;rw[List.map_append,List.map_cons]at hrs;obtain⟨rs1,rs',rfl,hr1,hr'⟩:=List.map_eq_append_iff.1 hrs;obtain⟨r0,rs2,rfl,hr0,hr2⟩:=List.map_eq_cons_iff.1 hr';have hr00:r0=r:=by rw[hr]at hr0;exact Option.some.inj hr0
  subst hr00;have hind:∀x∈rs1,indep ops x r0=true:=fun x hx=>by
   have:some x∈L1.map (fun i=>rl[i]?):=by rw[←hr1];exact List.mem_map.2 ⟨x,hx,rfl⟩
   obtain⟨j,hj,hjx⟩:=List.mem_map.1 this;have hji:j<i:=by
    have:=(List.pairwise_append.1 hL).2.2 j hj i (by simp);exact this
   rcases pairGo_ok (os:=rl.map (·.o)) (ops:=ops) (rl:=rl) (rl.map (·.o)) [] [] rfl rfl (fun j a h=>by simp at h) (show pairGo ops rl (rl.map (·.o)) 0 []=true from hpair) i (Nat.zero_le _) (by simpa using hilt) j hji x r0 hjx hr with h2|h2
   ·exact h2
   ·exfalso;have hjl:=(hmem j).1 (by simp[hj]);have:=h2 (fun k=>listed.getD k true=true) (fun j o hjo hl k hk=>by
     rw[List.getElem?_map]at hjo;obtain⟨r',hr',rfl⟩:=Option.map_eq_some_iff.1 hjo;exact hdn j r' hr' hl k hk) r0.o (by rw[List.getElem?_map,hr];rfl) (fun k hk=>getD_tf listed k (hpr k hk))
    rw[hjl.2]at this;cases this
  obtain⟨⟨_,_,f1,_⟩,f2,f3⟩:=Trace.front r0 rs2 rs1 s htrr hind;have hrl:r0∈rl:=List.mem_of_getElem? hr;unfold wpOp;rw[hos i,hr];dsimp only[Option.map_some];have hgetset:∀k d,(listed.setIfInBounds i true).getD k d=if i=k then true else listed.getD k d:=fun k d=>by
   simp only[Array.getD_eq_getD_getElem?,Array.getElem?_setIfInBounds];split
   ·have:i<listed.size:=by omega
    simp[this]
   ·rfl
  have next:∀a' w',St C (Zq s r0) a' w'→wpAny P .any ops Q fuel (listed.setIfInBounds i true) a' w':=fun a' w' hs'=>by
   refine ih (listed.setIfInBounds i true) (L1++L2) (Zq s r0) a' w' (by simp at hl⊢;omega) (by simpa using hls) (hL.sublist (by simp)) (fun k=>?_) (fun j r' hr' hlj k hk=>?_) ⟨rs1++rs2,by rw[List.map_append,List.map_append,hr1,hr2],f2,f3.symm.trans heq⟩ hs'
   ·rw[hgetset];have hk:=hmem k;have hnd:i ∉ L1∧i ∉ L2:=by
     refine⟨fun h=>?_,fun h=>?_⟩
     ·have:=(List.pairwise_append.1 hL).2.2 i h i (by simp);omega
     ·have:=(List.pairwise_cons.1 (List.pairwise_append.1 hL).2.1).1 i h;omega
    by_cases hki:i=k
    ·subst hki;simp[hnd.1,hnd.2]
    ·rw[if_neg hki,←hk];simp[Ne.symm hki]
   ·rw[hgetset]at hlj⊢;by_cases hij:i=j
    ·subst hij;rw[hr]at hr';obtain rfl:=Option.some.inj hr';split
     ·rfl
     ·exact getD_tf listed k (hpr k hk)
    ·rw[if_neg hij]at hlj;split
     ·rfl
     ·exact hdn j r' hr' hlj k hk
  have hw:=Jk.wp f1 (fun h=>hpp r0 hrl h) hst (K:=wpAny P .any ops Q fuel (listed.setIfInBounds i true)) (Q:=Q) next;split
  ·rename_i hwt;rw[if_pos hwt]at hw;exact .inl hw
  ·rename_i hwt;rw[if_neg hwt]at hw;exact hw
end
def U6:Op→Bool
 | .call c=>match c.callee with
  | .builtin _=>false
  |_=>true
 |_=>false
def mkRc (P:Program) (ops:Array Oper) (s:AS) (o:Oper) (h:Option Hint) (z:Bool):Option Rc:=
 if Rw s o then (match Kj ops s o with
  |some true=>match V9 P (Q4 s.mem) (evA s.fr) o h z with
   |some (c,e,p)=>some { o,h,z,run:=true,c,e,p,M:=Zw (Q4 s.mem) (evA s.fr) o.op++J8 (Q4 s.mem) (Zw (Q4 s.mem) (evA s.fr) o.op),nk:=frNo (Z5 e.q) s.fr && Nv (Z5 e.q) s.mem,an:=G6 (evA s.fr) o.op.operands.toList||G9 (Q4 s.mem) (Zw (Q4 s.mem) (evA s.fr) o.op),ld:=ldOf (evA s.fr) o.op c,st:=stOf (evA s.fr) o.op e z }
   |none=>none
  |some false=>some { o,h,z,run:=false,c:=.tuple [],e:=⟨[],[]⟩,p:=True,M:=Zw (Q4 s.mem) (evA s.fr) o.op++J8 (Q4 s.mem) (Zw (Q4 s.mem) (evA s.fr) o.op),nk:=true,an:=G6 (evA s.fr) o.op.operands.toList||G9 (Q4 s.mem) (Zw (Q4 s.mem) (evA s.fr) o.op),ld:=none,st:=none }
  |none=>none)else none
theorem mkRc_ok {P:Program} {ops:Array Oper} {s:AS} {o:Oper} {h:Option Hint} {z:Bool} {r:Rc} (hr:mkRc P ops s o h z=some r):Jk P ops s r∧r.o=o:=by
 have hO:∀(is:List Nat),∀i∈is,∀y,Q4 s.mem i=some y→∀j∈y.ids,j∈J8 (Q4 s.mem) is:=fun is=>by
  induction is with
  |nil=>intro i hi;cases hi
  |cons k ks ih=>
   intro i hi y hy j hj;simp only[J8];rcases List.mem_cons.1 hi with rfl|hi
   ·rw[hy];exact List.mem_append_left _ hj
   ·exact List.mem_append_right _ (ih i hi y hy j hj)
 have hA:∀(xs:List Operand),G6 (evA s.fr) xs=false→∀x∈xs,Wj (evA s.fr x)=false:=fun xs=>by
  induction xs with
  |nil=>intro _ x hx;cases hx
  |cons y ys ih=>
   intro h x hx;simp only[G6,Bool.or_eq_false_iff]at h;rcases List.mem_cons.1 hx with rfl|hx
   ·exact h.1
   ·exact ih h.2 x hx
 have hMM:∀i∈Zw (Q4 s.mem) (evA s.fr) o.op,i∈Zw (Q4 s.mem) (evA s.fr) o.op++J8 (Q4 s.mem) (Zw (Q4 s.mem) (evA s.fr) o.op)∧∀y,Q4 s.mem i=some y→∀j∈y.ids,j∈Zw (Q4 s.mem) (evA s.fr) o.op++J8 (Q4 s.mem) (Zw (Q4 s.mem) (evA s.fr) o.op):=fun i hi=>
  ⟨List.mem_append_left _ hi,fun y hy j hj=>List.mem_append_right _ (hO _ i hi y hy j hj)⟩
 unfold mkRc at hr;split at hr
 ·rename_i hd;split at hr
  ·rename_i hg;split at hr
   ·rename_i c e p he;simp at hr;subst hr;refine⟨⟨hd,hg,fun _=>he,(fun h=>by cases h),(fun _=>hMM),fun h=>?_,fun _ h=>⟨fun x hx=>hA _ (Bool.or_eq_false_iff.1 h).1 x (by simpa using hx),fun i hi x hx=>memAny_get (Bool.or_eq_false_iff.1 h).2 i hi x hx⟩,fun o' ho'=>?_,fun o' ho'=>?_⟩,rfl⟩
    ·simp only[Bool.and_eq_true]at h;exact⟨frNo_get h.1,memNo_get h.2⟩
    ·have h1:ldOf (evA s.fr) o.op c=some o':=ho';unfold ldOf at h1;split at h1
     ·rename_i a hop;split at h1
      ·rename_i o2 off ha;split at h1
       ·rename_i hn;cases h1;exact⟨rfl,hn,a,off,hop,ha⟩
       ·cases h1
      ·cases h1
     ·cases h1
    ·have h1:stOf (evA s.fr) o.op e z=some o':=ho';unfold stOf at h1;split at h1
     ·cases h1
     rename_i hz;split at h1
     ·rename_i t' a v hop;split at h1
      ·rename_i o2 off ha;split at h1
       ·rename_i hn;cases h1;exact⟨rfl,by simpa using hz,hn,t',a,v,off,hop,ha⟩
       ·cases h1
      ·cases h1
     ·cases h1
   ·cases hr
  ·rename_i hg;simp at hr;subst hr;refine⟨⟨hd,hg,(fun h=>by cases h),fun _=>⟨rfl,rfl⟩,(fun _=>hMM),fun _=>⟨fun t=>AV.V3 (fun _=>rfl) _,fun i y _=>Qz.Pq (fun _=>rfl) y⟩,fun _ h=>⟨fun x hx=>hA _ (Bool.or_eq_false_iff.1 h).1 x (by simpa using hx),fun i hi x hx=>memAny_get (Bool.or_eq_false_iff.1 h).2 i hi x hx⟩,(fun o h=>by cases h),(fun o h=>by cases h)⟩,rfl⟩
  ·cases hr
 ·cases hr
def Iz (P:Program) (ops:Array Oper) (zs:List Nat):List Oper→Nat→List Hint→AS→Option (List Rc×AS×Prop)
 |[],_,_,s=>some ([],s,True)
 |o::rest,k,h,s=>match mkRc P ops s o (if U6 o.op then h.head? else none) (Z5 zs k)with
  |some r=>match Iz P ops zs rest (k+1) (if U6 o.op && r.run then h.tail else h) (Zq s r)with
   |some (rs,s',p)=>some (r::rs,s',r.p∧p)
   |none=>none
  |none=>none
theorem runD_ok {P:Program} {ops:Array Oper} {zs:List Nat}:∀(l:List Oper) (k:Nat) (h:List Hint) (s s':AS) (rs:List Rc) (p:Prop),Iz P ops zs l k h s=some (rs,s',p)→p→Trace P ops rs s∧runR rs s=s'∧rs.map (·.o)=l∧∀r∈rs,r.p
 |[],k,h,s,s',rs,p,hr,hp=>by
  simp only[Iz,Option.some.injEq,Prod.mk.injEq]at hr;obtain⟨rfl,rfl,_⟩:=hr;exact⟨trivial,rfl,rfl,by simp⟩
 |o::rest,k,h,s,s',rs,p,hr,hp=>by
  simp only[Iz]at hr;split at hr
  ·rename_i r hmk;split at hr
   ·rename_i rs' s2 p2 hrest;simp only[Option.some.injEq,Prod.mk.injEq]at hr;obtain⟨rfl,rfl,rfl⟩:=hr;obtain⟨h1,h2⟩:=mkRc_ok hmk;obtain⟨k1,k2,k3,k4⟩:=runD_ok rest _ _ _ _ _ _ hrest hp.2;refine⟨⟨h1,k1⟩,k2,by rw[List.map_cons,h2,k3],fun x hx=>?_⟩;rcases List.mem_cons.1 hx with rfl|hx
    ·exact hp.1
    ·exact k4 x hx
   ·cases hr
  ·cases hr
theorem St.drew {C:Cx} {s:AS} {a:Act} {w:World} (h:St C s a w) (n:Nat):St C s a { w with drawn:=n }:=by
 obtain⟨ok,g,hM,h1,h2,h3⟩:=h;have hk:∀p:Addr,ok p.block→World.cell? { w with drawn:=n } p=w.cell? p:=fun _ _=>rfl
 have hm:∀o x',(fun _=>false) o=false→Q4 s.mem o=some x'→∃x,Q4 s.mem o=some x∧x.like x'∧g.bl o=g.bl o∧g.cp o=g.cp o:=fun o x' _ hx=>⟨x',hx,Qz.D9 _,rfl,rfl⟩
 refine⟨ok,g,⟨fun o x hx=>(hM.obj o x hx).mono (fun _=>false) ?_ (fun _ _=>rfl) rfl rfl hk (fun _ h=>h) hm,hM.inj,hM.own,hM.okb,hM.okk,hM.size,hM.heap,hM.keep,hM.os,hM.tape,hM.output,hM.gi,hM.gb⟩,h1,h2,fun t=>(h3 t).mono (fun _=>false) (AV.V3 (fun _=>rfl) _) hk (fun _ h=>h) hm⟩;cases x with
 |arr e sz rows=>trivial
 |map ks ag n ents=>trivial
 |raw r=>trivial
 |blk t cs=>
  have:∀l:List AV,AV.K6 (fun _=>false) l=false:=fun l=>by
   induction l with
   |nil=>rfl
   |cons c r ih=>simp only[AV.K6,ih,AV.V3 (fun _=>rfl) c,Bool.or_self]
  exact this cs
theorem AWp.draw {P:Program} {Q:Exit→AS→Prop} {s:AS} {id:Nat} {l:List Oper} (zs:List Nat) (hints:List Hint) {rs:List Rc} {s':AS} {p:Prop} (hm:P.follows .mixedOrders=true) (hr:Iz P l.toArray zs l 0 hints s=some (rs,s',p)) (hc:(pairChk l l.toArray rs && predChk l)=true) (hp:p) (h:Q .normal s'):
  AWp P (.region id l.toArray true) Q s:=fun C a w hs=>by
 obtain⟨h1,h2,h3,h4⟩:=runD_ok l 0 hints s s' rs p hr hp;simp only[Bool.and_eq_true]at hc;refine wp_region_any hm ?_;have hlen:rs.length=l.length:=by rw[←h3,List.length_map]
 refine wpAny_of (C:=C) (rl:=rs) (send:=s') (by rw[h3]) (by rw[h3];exact hc.1) (by rw[h3];exact hc.2) (fun r hr _=>h4 r hr) (fun a w hs=>⟨s',h,hs⟩) l.toArray.size (Array.replicate l.toArray.size false) (List.range rs.length) s a _ (by simp[hlen]) (by simp[hlen]) List.pairwise_lt_range (fun i=>?_) (fun j r hj hl=>?_) ⟨rs,?_,h1,by rw[h2];exact Eqv.refl _⟩ (hs.drew _)
 ·simp only[List.mem_range,Array.getD_eq_getD_getElem?];constructor
  ·intro hi;refine⟨hi,?_⟩;rw[Array.getElem?_replicate,if_pos (by simp;omega)];rfl
  ·exact fun h=>h.1
 ·exfalso;have hj':=(List.getElem?_eq_some_iff.1 hj).1;simp only[Array.getD_eq_getD_getElem?]at hl;rw[Array.getElem?_replicate,if_pos (by simp;omega)]at hl;cases hl
 ·apply List.ext_getElem?;intro i;simp only[List.getElem?_map];rcases Nat.lt_or_ge i rs.length with hi|hi
  ·simp[hi]
  ·simp[hi]
theorem AWp.dw {P:Program} {Q Q0:Exit→AS→Prop} {c0:Code} {s:AS} {id:Nat} {l:List Oper} (zs:List Nat) (hints:List Hint) {rs:List Rc} {s':AS} {p:Prop} (hm:P.follows .mixedOrders=true) (h:Q .normal s')
  (hs:AWp P (.region id l.toArray true) Q s→AWp P c0 Q0 s:=by
  intro h;repeat (first|refine AWp.seq ?_|refine AWp.block ?_)
  exact h)
  (hr:Iz P l.toArray zs l 0 hints s=some (rs,s',p):=by conv=>lhs;simp) (hc:(pairChk l l.toArray rs && predChk l)=true:=by kernel_rfl) (hp:p:=by(repeat' apply And.intro)<;> first|omega|assumption|trivial|(intros;subst_vars;rfl)|(intro i r h;rcases i with _|i<;> simp at h;subst h;rfl)|(simp[inI,maxLen];done)|(simp[inI,maxLen];omega)):AWp P c0 Q0 s:=
 hs (AWp.draw zs hints hm hr hc hp h)
theorem AWp.reg {P:Program} {Q:Exit→AS→Prop} {s:AS} {id:Nat} {l:List Oper} (zs:List Nat) (hints:List Hint) {rs:List Rc} {s':AS} {p:Prop} (hr:Iz P l.toArray zs l 0 hints s=some (rs,s',p)) (hp:p) (h:Q .normal s'):AWp P (.region id l.toArray false) Q s:=fun C a w hs=>by
 obtain⟨h1,h2,h3,h4⟩:=runD_ok l 0 hints s s' rs p hr hp;refine wp_region_lit ?_;have key:∀(rs:List Rc) (s:AS) (a:Act) (w:World),Trace P l.toArray rs s→runR rs s=s'→(∀r∈rs,r.p)→St C s a w→wpList P l.toArray (fun e a' w'=>∃s',Q e s'∧St C s' a' w') (rs.map (·.o)) a w:=fun rs=>by
  induction rs with
  |nil=>intro s a w _ h2 _ hs;simp only[runR]at h2;subst h2;exact⟨s,h,hs⟩
  |cons r rs ih=>
   intro s a w h1 h2 h4 hs;exact wpList_step fun K hK=>Jk.wp h1.1 (fun _=>h4 r (by simp)) hs fun a' w' hs'=>hK a' w' (ih (Zq s r) a' w' h1.2 h2 (fun x hx=>h4 x (by simp[hx])) hs')
 rw[←h3]at key⊢;exact key rs s a w (by rw[h3];exact h1) h2 h4 hs
theorem AWp.rg {P:Program} {Q Q0:Exit→AS→Prop} {c0:Code} {s:AS} {id:Nat} {l:List Oper} (zs:List Nat) (hints:List Hint) {rs:List Rc} {s':AS} {p:Prop} (h:Q .normal s')
  (hs:AWp P (.region id l.toArray false) Q s→AWp P c0 Q0 s:=by
  intro h;repeat (first|refine AWp.seq ?_|refine AWp.block ?_)
  exact h)
  (hr:Iz P l.toArray zs l 0 hints s=some (rs,s',p):=by conv=>lhs;simp) (hp:p:=by(repeat' apply And.intro)<;> first|omega|assumption|trivial|(intros;subst_vars;rfl)|(intro i r h;rcases i with _|i<;> simp at h;subst h;rfl)|(simp[inI,maxLen];done)|(simp[inI,maxLen];omega)):AWp P c0 Q0 s:=
 hs (AWp.reg zs hints hr hp h)
theorem AWp.cy {P:Program} {Q Q0:Exit→AS→Prop} {c0:Code} {s:AS} {c:Operand} {x y:Code} (h:AWp P x Q s)
  (hs:AWp P (.cond c x y) Q s→AWp P c0 Q0 s:=by
  intro h;repeat (first|refine AWp.seq ?_|refine AWp.block ?_)
  exact h)
  (hc:evA s.fr c= .d (.bool true):=by rfl):AWp P c0 Q0 s:=
 hs (AWp.cond hc (fun _=>h) (fun h=>by cases h))
theorem AWp.cn {P:Program} {Q Q0:Exit→AS→Prop} {c0:Code} {s:AS} {c:Operand} {x y:Code} (h:AWp P y Q s)
  (hs:AWp P (.cond c x y) Q s→AWp P c0 Q0 s:=by
  intro h;repeat (first|refine AWp.seq ?_|refine AWp.block ?_)
  exact h)
  (hc:evA s.fr c= .d (.bool false):=by rfl):AWp P c0 Q0 s:=
 hs (AWp.cond hc (fun h=>by cases h) (fun _=>h))
end Go.Proofs.YtjpldhjgehoffaaGreatDoor
namespace Go.Proofs.YtjpldhjgehoffaaGreatDoor
open Go.RowKit
set_option linter.unusedVariables false
def Mw:Mo→List (Nat×Option Qz)
 |[]=>[]
 |(i,x)::r=>(i,some x)::Mw r
theorem moMem_get (m:Mo) (i:Nat):Q4 (Mw m) i=Xq m i:=by
 induction m with
 |nil=>rfl
 |cons y r ih=>obtain⟨j,x⟩:=y;simp only[Mw,Q4,Xq,ih]
def Zz (n:Nat) (args:List AV) (m:Mo):AS:=⟨n,Qx1 0 args,Mw m⟩
def Qx (f:List (Nat×Option Qz)):Mo→Prop
 |[]=>True
 |(i,x)::r=>Q4 f i=some x∧Qx f r
theorem moEnd_get {f:List (Nat×Option Qz)} {m:Mo} (h:Qx f m) (i:Nat) (x:Qz) (hx:Xq m i=some x):Q4 f i=some x:=by
 have hm:=Uv hx;clear hx;induction m with
 |nil=>cases hm
 |cons y r ih=>
  obtain⟨j,z⟩:=y;rcases List.mem_cons.1 hm with hm|hm
  ·cases hm;exact h.1
  ·exact ih h.2 hm
def Qk (P:Program) (fn:Func) (r:AV) (m':Mo):Exit→AS→Prop:=fun e s=>
 (e= .ret∨e= .normal)∧∃s',Le s s'∧∃cs,Q9 P s' fn.results.toList=some cs∧(Z6 cs).Xk=r.Xk∧r.Xk=r∧Qx s'.mem m'
theorem frStart {C:Cx} {w:World} {ok:Nat→Prop} {g:Gh} {m:Me} {n:Nat} {args:List AV} {vals:Array Value} (hl:args.length=vals.size) (hn:args.length≤n) (hv:∀(i:Nat) (c:AV) (v:Value),args[i]? =some c→vals[i]? =some v→VR w ok g m c v) (t:Nat):
  VR w ok g m (Zj (Qx1 0 args) t) ((vals++Array.replicate (n-vals.size) undef).getD t undef):=by
 simp only[frOf_get,Nat.zero_le,if_true,Nat.sub_zero];rcases Nat.lt_or_ge t args.length with hlt|hge
 ·have e1:args[t]? =some args[t]:=List.getElem?_eq_getElem hlt;have e2:vals[t]? =some (vals[t]'(by omega)):=Array.getElem?_eq_getElem (by omega);rw[e1];have e3:(vals++Array.replicate (n-vals.size) undef).getD t undef=vals[t]'(by omega):=by
   simp[Array.getElem?_append,show t<vals.size by omega]
  rw[e3];exact hv t _ _ e1 e2
 ·rw[List.getElem?_eq_none hge];exact .any _
theorem MS.sub {C:Cx} {w:World} {ok:Nat→Prop} {g:Gh} {m m':Me} (hM:MS C w ok g m) (hsub:∀i x,m' i=some x→m i=some x):MS C w ok g m'∧∀c v,VR w ok g m c v→VR w ok g m' c v:=by
 have hm:∀o x',(fun _=>false) o=false→m' o=some x'→∃x,m o=some x∧x.like x'∧g.bl o=g.bl o∧g.cp o=g.cp o:=fun o x' _ hx=>⟨x',hsub o x' hx,Qz.D9 _,rfl,rfl⟩
 refine⟨⟨fun o x hx=>(hM.obj o x (hsub o x hx)).mono (fun _=>false) ?_ (fun _ _=>rfl) rfl rfl (fun _ _=>rfl) (fun _ h=>h) hm,fun i j xi xj b hi hj=>hM.inj i j xi xj b (hsub i xi hi) (hsub j xj hj),fun i x b hi=>hM.own i x b (hsub i x hi),hM.okb,hM.okk,hM.size,hM.heap,hM.keep,hM.os,hM.tape,hM.output,hM.gi,hM.gb⟩,
  fun c v hv=>hv.mono (fun _=>false) (AV.V3 (fun _=>rfl) c) (fun _ _=>rfl) (fun _ h=>h) hm⟩
 cases x with
 |arr e sz rows=>trivial
 |map ks ag n ents=>trivial
 |raw r=>trivial
 |blk t cs=>
  have:∀l:List AV,AV.K6 (fun _=>false) l=false:=fun l=>by
   induction l with
   |nil=>rfl
   |cons c r ih=>simp only[AV.K6,ih,AV.V3 (fun _=>rfl) c,Bool.or_self]
  exact this cs
theorem Qv.of {P:Program} {k:Nat} {fn:Func} {c:Code} (hf:P.funcs[k]? =some fn) (hnm:(fn.name== "runtime.NumGoroutine")=false) (hb:fn.body=some c) {args:List AV} {m m':Mo} {r:AV} (hn:args.length≤fn.ntmps)
  (h:AWp P c (Qk P fn r m') (Zz fn.ntmps args m)):Qv P k args m r m':=by
 refine⟨⟨fn,hf,hnm,by rw[hb];rfl⟩,fun w ok g vals hM hl hv=>?_⟩;refine calls_of_wp hf hb ?_;have e:Q4 (Mw m)=Xq m:=funext (moMem_get m);have hst:St ⟨w,ok,fun b=>∃i x,Xq m i=some x∧g.bl i=some b,g⟩ (Zz fn.ntmps args m) { tmps:=vals++Array.replicate (fn.ntmps-vals.size) undef,defers:=[] } w:=by
  refine⟨ok,g,?_,by simp[Zz];omega,rfl,fun t=>?_⟩
  ·simp only[Zz,e];exact hM
  ·simp only[Zz,e];exact frStart (C:=⟨w,ok,fun _=>False,g⟩) hl hn hv t
 refine wp_mono (h _ _ w hst) ?_;rintro e a' w' ⟨s,⟨he,s',hle,cs,hres,hr,hrn,hmo⟩,hs⟩;obtain⟨ok',g',hM',h1,h2,h3⟩:=hle _ _ _ hs;obtain⟨v,hv1,hv2⟩:=Qj5 hM' h3 hres;obtain⟨q1,q2⟩:=hM'.sub (m':=Xq m') fun i x hx=>moEnd_get hmo i x hx
 have hv2:=hv2.Xk;rw[hr,hrn]at hv2;rcases he with rfl|rfl
 ·exact⟨h2,v,hv1,v,ok',g',rfl,q1,q2 _ _ hv2⟩
 ·exact⟨h2,v,hv1,v,ok',g',rfl,q1,q2 _ _ hv2⟩
theorem Z4.ofArr {P:Program} {k:Nat} {fn:Func} {c:Code} (hf:P.funcs[k]? =some fn) (hnm:(fn.name== "runtime.NumGoroutine")=false) (hb:fn.body=some c) {args:List AV} (r:Nat→AV) (o:Nat) {e:TypeId} {sz:Nat} {rows:List (List D)} (hn:args.length≤fn.ntmps)
  (hren:∀d,r d=(r o).ren (fun _=>d)) (hids:∀i∈(r o).ids,i=o) (hrcl:∀d,(r d).has (fun i=>!(d==i))=false) (h:AWp P c (Z8 P fn r (some (.arr e sz rows)) o) (Z7 fn.ntmps args)):Z4 P k args r (some (.arr e sz rows)):=by
 refine⟨⟨fn,hf,hnm,by rw[hb];rfl⟩,hrcl,(fun h=>by cases h),fun y hy=>⟨e,sz,rows,by cases hy;rfl⟩,fun d w ok vals hgi hok hl hv=>?_⟩;refine calls_of_wp hf hb ?_;have hst:St ⟨w,ok,fun _=>False,noG⟩ (Z7 fn.ntmps args) { tmps:=vals++Array.replicate (fn.ntmps-vals.size) undef,defers:=[] } w:=by
  refine⟨ok,noG,⟨(fun o x hx=>by cases hx),(fun i j xi xj b hi=>by cases hi),(fun i x b hi=>by cases hi),fun b hb=>⟨hok b hb,.inl hb⟩,fun b hb=>hb,Nat.le_refl _,fun b _ _=>rfl,fun i _=>⟨rfl,rfl⟩,rfl,rfl,rfl,hgi,fun _ _ h=>h⟩,by simp[Z7];omega,rfl,fun t=>?_⟩;exact frStart (C:=⟨w,ok,fun _=>False,noG⟩) hl hn hv t
 refine wp_mono (h _ _ w hst) ?_;rintro ex a' w' ⟨s,⟨he,s',hle,cs,hres,hr,hrn,hx⟩,hs⟩;obtain⟨ok',g,hM,h1,h2,h3⟩:=hle _ _ _ hs;obtain⟨v,hv1,hv2⟩:=Qj5 hM h3 hres;obtain⟨hxo,hxs⟩:=hx _ rfl;have hv2:=hv2.Xk;rw[hr,hrn]at hv2;have hfin:a'.defers=[]∧∃v,(results fn a'.tmps).run P w'= .ok v w'∧∃v' ok' g',Ending.returned v= .returned v'∧Below w.heap.size w w'∧(∀b,ok b→ok' b)∧(∀b,ok' b→ok b∨(w.heap.size≤b∧b<w'.heap.size))∧VR w' ok' g' (oneM d (some (.arr e sz rows))) (r d) v'∧
   (∀y,(some (.arr e sz rows):Option Qz)=some y→OR w' ok' g' (oneM d (some (.arr e sz rows))) d y∧∀b,g'.bl d=some b→¬ok' b∧w.heap.size≤b∧b<w'.heap.size):=by
  refine⟨h2,v,hv1,v,ok',⟨fun _=>g.bl o,fun _=>g.cp o⟩,rfl,⟨hM.os,hM.tape,hM.output,hM.size,fun b hb=>hM.heap b hb (fun h=>h)⟩,hM.okk,fun b hb=>?_,?_,fun y hy=>?_⟩
  ·obtain⟨k1,k2⟩:=hM.okb b hb;rcases k2 with k2|k2
   ·exact .inl k2
   ·exact .inr ⟨k2,k1⟩
  ·rw[hren d];refine VR.reren _ hv2 fun i hi=>?_
   have:=hids i hi;subst this;exact⟨_,hxo,by simp[oneM,Qz.ren],rfl,rfl⟩
  ·cases hy;have hO:=hM.obj o _ hxo;refine⟨hO,fun b hb=>?_⟩;obtain⟨k1,k2,k3⟩:=hM.own o _ b hxo hb;refine⟨k1,?_,k2⟩;rcases k3 with k3|⟨k3,_⟩
   ·exact k3
   ·exact k3.elim
 rcases he with rfl|rfl
 ·exact hfin
 ·exact hfin
theorem Hq {α β:Type} (f:α→β) (l:List α):(l.map f).take l.length=l.map f:=List.take_of_length_le (by simp)
theorem Hz {α:Type} (l:List α):l.take l.length=l:=List.take_length
theorem bleF (a b:Nat):(Nat.ble a b=false)=(b<a):=by
 rw[←Bool.not_eq_true,Nat.ble_eq];simp
def Ak (f:List (Nat×AV)):List (Nat×AV)→Prop
 |[]=>True
 |(t,v)::r=>Zj f t=v∧Ak f r
def F8 (f:List (Nat×Option Qz)):List (Nat×Option Qz)→Prop
 |[]=>True
 |(t,v)::r=>Q4 f t=v∧F8 f r
theorem Le.sub {s:AS} {fr:List (Nat×AV)} {mem:List (Nat×Option Qz)} (hf:Ak s.fr fr) (hm:F8 s.mem mem):Le s ⟨s.n,fr,mem⟩:=fun C a w h=>by
 refine h.weak rfl (fun t=>?_) (fun o x hx=>?_)
 ·dsimp only;induction fr with
  |nil=>exact .inl rfl
  |cons y r ih=>
   obtain⟨u,v⟩:=y;simp only[Zj];split
   ·rename_i hu;have:u=t:=by simpa using hu
    subst this;exact .inr hf.1.symm
   ·exact ih hf.2
 ·dsimp only at hx;induction mem with
  |nil=>cases hx
  |cons y r ih=>
   obtain⟨u,v⟩:=y;simp only[Q4]at hx;split at hx
   ·rename_i hu;have:u=o:=by simpa using hu
    subst this;rw[hm.1];exact hx
   ·exact ih hm.2 hx
theorem Z8.ret {P:Program} {fn:Func} {r:Nat→AV} {o:Nat} {s:AS} {cs:List AV} (hrn:(r o).Xk=r o) (h:Q9 P s fn.results.toList=some cs) (hr:(Z6 cs).Xk=(r o).Xk):Z8 P fn r none o .ret s:=
 ⟨.inl rfl,s,Le.refl s,cs,h,hr,hrn,fun y hy=>by cases hy⟩
theorem Z8.normal {P:Program} {fn:Func} {r:Nat→AV} {o:Nat} {s:AS} {cs:List AV} (hrn:(r o).Xk=r o) (h:Q9 P s fn.results.toList=some cs) (hr:(Z6 cs).Xk=(r o).Xk):Z8 P fn r none o .normal s:=
 ⟨.inr rfl,s,Le.refl s,cs,h,hr,hrn,fun y hy=>by cases hy⟩
theorem Z8.retF {P:Program} {fn:Func} {r:Nat→AV} {o:Nat} {s s':AS} (l:List Nat) {cs:List AV} (hrn:(r o).Xk=r o) (hz:Uk l s=some s') (h:Q9 P s' fn.results.toList=some cs) (hr:(Z6 cs).Xk=(r o).Xk):Z8 P fn r none o .ret s:=
 ⟨.inl rfl,s',Le.Uk l hz,cs,h,hr,hrn,fun y hy=>by cases hy⟩
theorem Qk.ret {P:Program} {fn:Func} {r:AV} {m':Mo} {s:AS} {cs:List AV} (hrn:r.Xk=r) (h:Q9 P s fn.results.toList=some cs) (hr:(Z6 cs).Xk=r.Xk) (hm:Qx s.mem m'):Qk P fn r m' .ret s:=
 ⟨.inl rfl,s,Le.refl s,cs,h,hr,hrn,hm⟩
theorem Qk.retF {P:Program} {fn:Func} {r:AV} {m':Mo} {s s':AS} (l:List Nat) {cs:List AV} (hrn:r.Xk=r) (hz:Uk l s=some s') (h:Q9 P s' fn.results.toList=some cs) (hr:(Z6 cs).Xk=r.Xk) (hm:Qx s'.mem m'):Qk P fn r m' .ret s:=
 ⟨.inl rfl,s',Le.Uk l hz,cs,h,hr,hrn,hm⟩
theorem Qk.normal {P:Program} {fn:Func} {r:AV} {m':Mo} {s:AS} {cs:List AV} (hrn:r.Xk=r) (h:Q9 P s fn.results.toList=some cs) (hr:(Z6 cs).Xk=r.Xk) (hm:Qx s.mem m'):Qk P fn r m' .normal s:=
 ⟨.inr rfl,s,Le.refl s,cs,h,hr,hrn,hm⟩
end Go.Proofs.YtjpldhjgehoffaaGreatDoor
namespace Go.Proofs.YtjpldhjgehoffaaGreatDoor
open Go.RowKit
set_option linter.unusedVariables false
mutual
def Low (N:List Nat) (ρ:Nat→Nat):AV→AV→Prop
 | .any,_=>True
 | .arr o l n,c=>(Z5 N o=true∧l=0∧n=0∧c= .lit (.slice none 0 0))∨(Z5 N o=false∧c= .arr (ρ o) l n)
 | .ptr o k,c=>Z5 N o=false∧c= .ptr (ρ o) k
 | .U2 o i j,c=>Z5 N o=false∧c= .U2 (ρ o) i j
 | .mp o,c=>Z5 N o=false∧c= .mp (ρ o)
 | .agg cs,c=>∃ds,c= .agg ds∧Ex N ρ cs ds
 | .tuple cs,c=>∃ds,c= .tuple ds∧Ex N ρ cs ds
 | .clo f cs,c=>∃ds,c= .clo f ds∧Ex N ρ cs ds
 | .d d,c=>c= .d d∨(d= .sl []∧c= .lit (.slice none 0 0))
 | .lit v,c=>c= .lit v
 | .fl r,c=>c= .fl r
def Ex (N:List Nat) (ρ:Nat→Nat):List AV→List AV→Prop
 |[],[]=>True
 |c::cs,d::ds=>Low N ρ c d∧Ex N ρ cs ds
 |_,_=>False
end
theorem LowL_len (N:List Nat) (ρ:Nat→Nat):∀(cs ds:List AV),Ex N ρ cs ds→cs.length=ds.length
 |[],[],_=>rfl
 |c::cs,d::ds,h=>by
  simp only[Ex]at h;simp[LowL_len N ρ cs ds h.2]
 |[],d::ds,h=>by simp[Ex]at h
 |c::cs,[],h=>by simp[Ex]at h
theorem LowL_get (N:List Nat) (ρ:Nat→Nat):∀(cs ds:List AV),Ex N ρ cs ds→∀(i:Nat) (c d:AV),cs[i]? =some c→ds[i]? =some d→Low N ρ c d
 |[],_,_=>by intro i c d hc;simp at hc
 |c::cs,[],h=>by simp[Ex]at h
 |c::cs,d::ds,h=>by
  simp only[Ex]at h;intro i c' d' hc hd;rcases i with _|i
  ·simp at hc hd;subst hc;subst hd;exact h.1
  ·exact LowL_get N ρ cs ds h.2 i c' d' (by simpa using hc) (by simpa using hd)
def Uj (N:List Nat) (ρ:Nat→Nat):Qz→Qz→Prop
 | .blk t cs,.blk u ds=>t=u∧Ex N ρ cs ds
 | .arr e sz rows,y=>y= .arr e sz rows
 | .map ks ag n ents,y=>∃ents',y= .map ks ag n ents'∧ents'.Perm ents
 | .raw r,y=>y= .raw r
 |_,_=>False
def Kv:Qz→Prop
 | .arr e sz rows=>0<sz∧rows=[]
 |_=>False
def Ew (N:List Nat) (ρ:Nat→Nat) (f:List (Nat×AV)):List (Nat×AV)→Prop
 |[]=>True
 |(t,v)::r=>Low N ρ v (Zj f t)∧Ew N ρ f r
def Gx (N:List Nat) (ρ:Nat→Nat) (f:List (Nat×Option Qz)) (i:Nat):Option Qz→Prop
 |none=>True
 |some x=>if Z5 N i then Kv x else∃y,Q4 f (ρ i)=some y∧Uj N ρ x y
def Dk (N:List Nat) (ρ:Nat→Nat) (f:List (Nat×Option Qz)):List (Nat×Option Qz)→Prop
 |[]=>True
 |(i,x)::r=>Gx N ρ f i x∧Dk N ρ f r
def lowChk (N:List Nat) (π:List (Nat×Nat)) (ids:List Nat):Bool:=
 (N.all fun i=>!(Nat.ble 500 i)) && (π.all fun x=>!(Nat.ble 500 x.1) && !(Nat.ble 500 x.2)) &&
 (ids.all fun i=>ids.all fun j=>Z5 N i||Z5 N j|| !(Zx π i==Zx π j)||i==j)
theorem frLow_get {N:List Nat} {ρ:Nat→Nat} {f:List (Nat×AV)}:∀{fr:List (Nat×AV)},Ew N ρ f fr→∀t,Low N ρ (Zj fr t) (Zj f t)
 |[],_,t=>by simp[Zj,Low]
 |(u,v)::r,h,t=>by
  simp only[Zj];split
  ·rename_i hu;have:u=t:=by simpa using hu
   subst this;exact h.1
  ·exact frLow_get h.2 t
theorem Qk1 {N:List Nat} {ρ:Nat→Nat} {f:List (Nat×Option Qz)}:∀{m:List (Nat×Option Qz)},Dk N ρ f m→∀i x,Q4 m i=some x→i∈m.map (·.1)∧if Z5 N i then Kv x else∃y,Q4 f (ρ i)=some y∧Uj N ρ x y
 |[],_,i,x=>by simp[Q4]
 |(u,v)::r,h,i,x=>by
  simp only[Q4];split
  ·rename_i hu;have:u=i:=by simpa using hu
   subst this;intro hv;subst hv;exact⟨by simp,h.1⟩
  ·intro hx;obtain⟨h1,h2⟩:=Qk1 h.2 i x hx;exact⟨by simp only[List.map_cons,List.mem_cons];exact .inr h1,h2⟩
def lowG (N:List Nat) (ρ:Nat→Nat) (g:Gh):Gh:=⟨fun i=>if Z5 N i then none else g.bl (ρ i),fun i=>g.cp (ρ i)⟩
theorem VR.low {w:World} {ok:Nat→Prop} {g:Gh} {M m:Me} (N:List Nat) (ρ:Nat→Nat)
  (hm:∀o x,m o=some x→if Z5 N o then Kv x else∃y,M (ρ o)=some y∧Uj N ρ x y)
  (c0:AV):∀(c:AV) (v:Value),Low N ρ c0 c→VR w ok g M c v→VR w ok (lowG N ρ g) m c0 v:=
 AV.rec (motive_1:=fun c0=>∀c v,Low N ρ c0 c→VR w ok g M c v→VR w ok (lowG N ρ g) m c0 v)
  (motive_2:=fun l=>∀(i:Nat) (c0:AV),l[i]? =some c0→∀c v,Low N ρ c0 c→VR w ok g M c v→VR w ok (lowG N ρ g) m c0 v)
  (fun c v _ _=>.any v)
  (fun d c v hl h=>by
   simp only[Low]at hl;rcases hl with rfl|⟨rfl,rfl⟩
   ·exact .d d v h.Zv
   ·have:=h.Xk;simp only[AV.Xk]at this;exact .d _ v this.Zv)
  (fun u c v hl h=>by
   simp only[Low]at hl;subst hl;obtain⟨h1,h2⟩:=VR.Wv h;rw[h1];exact .lit u h2)
  (fun rows c v hl h=>by
   simp only[Low]at hl;subst hl;obtain⟨h1,h2⟩:=VR.fl_inv h;exact .fl rows v h1 h2)
  (fun o off c v hl h=>by
   simp only[Low]at hl;obtain⟨hN,rfl⟩:=hl;cases h with
   |ptr _ _ _ hv h=>
    refine .ptr o off v hv fun x hx=>?_
    have h1:=hm o x hx;rw[if_neg (by simp[hN])]at h1;obtain⟨y,h2,_⟩:=h1;simp only[lowG,hN];exact h y h2)
  (fun o l n c v hl h=>by
   simp only[Low]at hl;rcases hl with⟨hN,rfl,rfl,rfl⟩|⟨hN,rfl⟩
   ·obtain⟨h1,h2⟩:=VR.Wv h;refine .arr o 0 0 v (by rw[h1];exact h2) fun e sz rows hx=>?_
    exact⟨by omega,.inl ⟨by simp[lowG,hN],h1,rfl,rfl⟩⟩
   ·cases h with
    |arr _ _ _ _ hv h=>
     refine .arr o l n v hv fun e sz rows hx=>?_
     have h1:=hm o _ hx;rw[if_neg (by simp[hN])]at h1;obtain⟨y,h2,h3⟩:=h1;simp only[Uj]at h3;subst h3;simp only[lowG,hN];exact h _ _ _ h2)
  (fun o i j c v hl h=>by
   simp only[Low]at hl;obtain⟨hN,rfl⟩:=hl;cases h with
   |U2 _ _ _ _ hv h=>
    refine .U2 o i j v hv fun e sz rows hx=>?_
    have h1:=hm o _ hx;rw[if_neg (by simp[hN])]at h1;obtain⟨y,h2,h3⟩:=h1;simp only[Uj]at h3;subst h3;simp only[lowG,hN];exact h _ _ _ h2)
  (fun o c v hl h=>by
   simp only[Low]at hl;obtain⟨hN,rfl⟩:=hl;cases h with
   |mp _ _ hv h=>
    refine .mp o v hv fun x hx=>?_
    have h1:=hm o x hx;rw[if_neg (by simp[hN])]at h1;obtain⟨y,h2,_⟩:=h1;simp only[lowG,hN];exact h y h2)
  (fun cs ih c v hl h=>by
   simp only[Low]at hl;obtain⟨ds,rfl,hl⟩:=hl;obtain⟨vs,rfl,hn,h1,h2⟩:=VR.Qv6 h;have hln:=LowL_len N ρ cs ds hl;refine .agg cs vs (hln.trans hn) (fun i c v hc hv=>?_) h2;have hi:i<ds.length:=by rw[←hln];exact(List.getElem?_eq_some_iff.1 hc).1
   have hd:ds[i]? =some ds[i]:=List.getElem?_eq_getElem hi;exact ih i c hc _ v (LowL_get N ρ cs ds hl i c _ hc hd) (h1 i _ v hd hv))
  (fun cs ih c v hl h=>by
   simp only[Low]at hl;obtain⟨ds,rfl,hl⟩:=hl;obtain⟨vs,rfl,hn,h1⟩:=VR.tuple_inv h;have hln:=LowL_len N ρ cs ds hl;refine .tuple cs vs (hln.trans hn) (fun i c v hc hv=>?_);have hi:i<ds.length:=by rw[←hln];exact(List.getElem?_eq_some_iff.1 hc).1
   have hd:ds[i]? =some ds[i]:=List.getElem?_eq_getElem hi;exact ih i c hc _ v (LowL_get N ρ cs ds hl i c _ hc hd) (h1 i _ v hd hv))
  (fun f cs ih c v hl h=>by
   simp only[Low]at hl;obtain⟨ds,rfl,hl⟩:=hl;obtain⟨vs,rfl,hn,h1⟩:=VR.clo_inv h;have hln:=LowL_len N ρ cs ds hl;refine .clo f cs vs (hln.trans hn) (fun i c v hc hv=>?_);have hi:i<ds.length:=by rw[←hln];exact(List.getElem?_eq_some_iff.1 hc).1
   have hd:ds[i]? =some ds[i]:=List.getElem?_eq_getElem hi;exact ih i c hc _ v (LowL_get N ρ cs ds hl i c _ hc hd) (h1 i _ v hd hv))
  (fun i c hc=>by simp at hc)
  (fun c l h1 h2 i c' hc'=>by
   rcases i with _|i
   ·simp at hc';subst hc';exact h1
   ·exact h2 i c' (by simpa using hc')) c0
theorem OR.low {w:World} {ok:Nat→Prop} {g:Gh} {M m:Me} (N:List Nat) (ρ:Nat→Nat)
  (hm:∀o x,m o=some x→if Z5 N o then Kv x else∃y,M (ρ o)=some y∧Uj N ρ x y)
  {o:Nat} {x:Qz} (hx:m o=some x) (hM:∀y,M (ρ o)=some y→OR w ok g M (ρ o) y):OR w ok (lowG N ρ g) m o x:=by
 have h1:=hm o x hx;cases hN:Z5 N o with
 |true=>
  rw[if_pos hN]at h1;cases x with
  |blk t cs=>exact h1.elim
  |map _ _ _ _=>exact h1.elim
  |raw _=>exact h1.elim
  |arr e sz rows=>
   obtain⟨h2,rfl⟩:=h1;exact⟨h2,by simp,.inl ⟨by simp[lowG,hN],rfl⟩⟩
 |false=>
  rw[if_neg (by simp[hN])]at h1;obtain⟨y,h2,h3⟩:=h1;have h4:=hM y h2;cases x with
  |arr e sz rows=>
   simp only[Uj]at h3;subst h3;obtain⟨k1,k2,k3⟩:=h4;refine⟨k1,k2,?_⟩;simp only[lowG,hN];exact k3
  |map ks ag n ents=>
   obtain⟨ents',rfl,hp⟩:=h3;obtain⟨b,es,clock,k1,k2,k3⟩:=h4;exact⟨b,es,clock,by simp only[lowG,hN];exact k1,k2,k3.reorder hp⟩
  |raw r=>
   simp only[Uj]at h3;subst h3;exact RawR.at' h4 (by simp[lowG,hN])
  |blk t cs=>
   cases y with
   |arr=>exact h3.elim
   |map=>exact h3.elim
   |raw=>exact h3.elim
   |blk u ds=>
    obtain⟨rfl,h3⟩:=h3;obtain⟨b,vs,k1,k2,k3,k4,k5⟩:=h4;have hln:=LowL_len N ρ cs ds h3;refine⟨b,vs,by simp only[lowG,hN];exact k1,k2,hln.trans k3,fun i c v hc hv=>?_,k5⟩;have hi:i<ds.length:=by rw[←hln];exact(List.getElem?_eq_some_iff.1 hc).1
    have hd:ds[i]? =some ds[i]:=List.getElem?_eq_getElem hi;exact VR.low N ρ hm c _ v (LowL_get N ρ cs ds h3 i c _ hc hd) (k4 i _ v hd hv)
theorem ble_lt {a b:Nat} (h:Nat.ble a b=false):b<a:=by
 rcases Nat.lt_or_ge b a with h1|h1
 ·exact h1
 ·rw[Nat.ble_eq_true_of_le h1]at h;cases h
theorem renOf_small:∀{π:List (Nat×Nat)},(∀x∈π,x.1<500∧x.2<500)→(∀i,500≤i→Zx π i=i)∧∀i,i<500→Zx π i<500
 |[],_=>⟨fun _ _=>rfl,fun _ h=>h⟩
 |(a,b)::r,h=>by
  obtain⟨h1,h2⟩:=renOf_small (π:=r) fun x hx=>h x (List.mem_cons_of_mem _ hx)
  have h3:=h (a,b) (List.mem_cons_self ..);dsimp only at h3;refine⟨fun i hi=>?_,fun i hi=>?_⟩
  ·simp only[Zx];rw[if_neg (by simp;omega)];exact h1 i hi
  ·simp only[Zx];split
   ·exact h3.2
   ·exact h2 i hi
theorem Le.low (N:List Nat) (π:List (Nat×Nat)) {s:AS} {fr:List (Nat×AV)} {mem:List (Nat×Option Qz)} (hchk:lowChk N π (mem.map (·.1))=true)
  (hf:Ew N (Zx π) s.fr fr) (hm:Dk N (Zx π) s.mem mem):Le s ⟨s.n,fr,mem⟩:=fun C a w ⟨ok,g,hM,h1,h2,h3⟩=>by
 simp only[lowChk,Bool.and_eq_true]at hchk;obtain⟨⟨c1,c2⟩,c3⟩:=hchk;have hN:∀i,Z5 N i=true→i<500:=fun i hi=>by
  have:=List.all_eq_true.1 c1 i (R6.1 hi);exact ble_lt (by simpa using this)
 obtain⟨hr1,hr2⟩:=renOf_small (π:=π) fun x hx=>by
  have:=List.all_eq_true.1 c2 x hx;simp only[Bool.and_eq_true,Bool.not_eq_true']at this;exact⟨ble_lt this.1,ble_lt this.2⟩
 have hm':∀o x,Q4 mem o=some x→if Z5 N o then Kv x else∃y,Q4 s.mem (Zx π o)=some y∧Uj N (Zx π) x y:=fun o x hx=>(Qk1 hm o x hx).2
 have gbl:∀i b,(lowG N (Zx π) g).bl i=some b→Z5 N i=false∧g.bl (Zx π i)=some b:=fun i b hb=>by
  simp only[lowG]at hb;cases hi:Z5 N i with
  |true=>rw[hi]at hb;simp at hb
  |false=>rw[hi]at hb;exact⟨rfl,by simpa using hb⟩
 have src:∀i x,Q4 mem i=some x→Z5 N i=false→∃y,Q4 s.mem (Zx π i)=some y:=fun i x hx hi=>by
  have:=hm' i x hx;rw[if_neg (by simp[hi])]at this;obtain⟨y,hy,_⟩:=this;exact⟨y,hy⟩
 refine⟨ok,lowG N (Zx π) g,⟨fun o x hx=>OR.low N _ hm' hx fun y hy=>hM.obj _ y hy,fun i j xi xj b hi hj hbi hbj=>?_,fun i x b hx hb=>?_,hM.okb,hM.okk,hM.size,hM.heap,fun i hi=>?_,hM.os,hM.tape,hM.output,hM.gi,hM.gb⟩,h1,h2,fun t=>?_⟩
 ·obtain⟨n1,b1⟩:=gbl i b hbi;obtain⟨n2,b2⟩:=gbl j b hbj;obtain⟨y1,s1⟩:=src i xi hi n1;obtain⟨y2,s2⟩:=src j xj hj n2;have he:=hM.inj _ _ _ _ b s1 s2 b1 b2;have:=List.all_eq_true.1 (List.all_eq_true.1 c3 i (Qk1 hm i xi hi).1) j (Qk1 hm j xj hj).1;rw[n1,n2,he]at this;simpa using this
 ·obtain⟨n1,b1⟩:=gbl i b hb;obtain⟨y1,s1⟩:=src i x hx n1;obtain⟨k1,k2,k3⟩:=hM.own _ y1 b s1 b1;refine⟨k1,k2,k3.imp id fun h=>⟨h.1,?_⟩⟩;rcases Nat.lt_or_ge i 500 with h4|h4
  ·have:=hr2 i h4;omega
  ·exact h4
 ·have hi':1000≤i:=Nat.le_of_ble_eq_true hi;have hn:Z5 N i=false:=by
   cases h:Z5 N i with
   |false=>rfl
   |true=>have:=hN i h;omega
  simp only[lowG,hn];rw[hr1 i (by omega)];exact hM.keep i hi
 ·exact VR.low N _ hm' _ _ _ (frLow_get hf t) (h3 t)
end Go.Proofs.YtjpldhjgehoffaaGreatDoor
