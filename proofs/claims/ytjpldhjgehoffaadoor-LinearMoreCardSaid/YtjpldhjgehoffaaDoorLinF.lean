import Derived.Test.YtjpldhjgehoffaaDoorPlainW
import Derived.Test.YtjpldhjgehoffaaDoorShowP
import Derived.Test.YtjpldhjgehoffaaDoorFuseQ
import Derived.Test.YtjpldhjgehoffaaDoorCheckA
import Derived.Shelf.SlMaps.Clone
import Derived.Shelf.Sort.Plain
import Derived.Sort.OwnSorted
import Derived.Shelf.Slices.CompactS
import Derived.Lib.RowBridge
namespace Go.Proofs.YtjpldhjgehoffaaDoor
open Go.RowKit
set_option linter.unusedVariables false
set_option linter.unusedSimpArgs false
def O7 (c : Int) (n : Nat) : List ByteArray:=(List.range n).map fun (i : Nat)=>wNm (c + 1 + (i : Int))
theorem seqW_add (c : Int) (m n : Nat) : O7 c (m + n) = O7 c m ++ O7 (c + m) n:=by
 unfold O7
 rw [List.range_add,List.map_append,List.map_map]
 congr 1
 refine List.map_congr_left fun i _=>?_
 simp only [Function.comp]
 congr 1
 push_cast
 omega
theorem seqW_one (c : Int) : O7 c 1 = [wNm (c + 1)]:=by simp [O7]
theorem seqW_nodup {c : Int} (hc : 0≤c) (n : Nat) : (O7 c n).Nodup:=by
 unfold O7
 rw [List.nodup_iff_pairwise_ne,List.pairwise_map]
 refine List.Pairwise.imp ?_ List.nodup_range
 intro a b hab e
 have:=wNm_inj (by omega) (by omega) e
 omega
def bsBd : Bs→List ByteArray
 | []=>[]
 | b :: r=>b.1 :: (b.2.bd ++ bsBd r)
theorem around_bd : ∀ (bs : Bs) (t : Tm),(around bs t).bd = bsBd bs ++ t.bd
 | [],t=>rfl
 | b :: r,t=>by simp [around,Tm.bd,Tm.bdL,Cs.bdL,bsBd,around_bd r t]
theorem bdL_nil : ∀ l : List Tm,(∀ x∈l,x.bd = [])→Tm.bdL l = []
 | [],_=>rfl
 | x :: r,h=>by rw [Tm.bdL,h x (List.mem_cons_self ..),bdL_nil r fun y hy=>h y (List.mem_cons_of_mem _ hy)];rfl
theorem var_bd {d : Nat} {t : Tm} (hR : t.Rt d) (h : t.tk = 1) : t.bd = []:=by
 obtain ⟨k,n,a,b,vs,xs,cs⟩:=t
 change k = 1 at h
 subst h
 cases d with
 | zero=>exact hR.elim
 | succ d =>
  obtain ⟨_,hmany,_⟩:=hR
  unfold Xq at hmany
  simp at hmany
  obtain ⟨rfl,rfl⟩:=hmany
  rfl
theorem perm_mid {α : Type} {x a b c d : List α} (h1 : x.Perm (a ++ b)) : (x ++ (c ++ d)).Perm ((a ++ c) ++ (b ++ d)):=by
 refine (h1.append_right _).trans ?_
 rw [List.append_assoc,List.append_assoc]
 refine List.Perm.append_left a ?_
 rw [← List.append_assoc,← List.append_assoc]
 exact (List.perm_append_comm).append_right d
theorem pl_bd : ∀ (d : Nat) (t : Tm) (c : Int),t.Rt d→0≤c→c + t.sz < 9223372036854775807→∃ n : Nat,(t.pl c).2 = c + n∧(t.pl c).1.bd.Perm (t.bd ++ O7 c n):=by
 intro d
 induction d with
 | zero=>intro t _ h;exact h.elim
 | succ d ih =>
 intro t c hR h0 hb
 obtain ⟨k,n,a,b,vs,xs,cs⟩:=t
 have hR':=hR
 obtain ⟨hk,hmany,_,hx,hc⟩:=hR'
 have hA : ∀ (ys : List Tm) (c : Int),(∀ y∈ys,y∈xs)→0≤c→c + Tm.szs ys + 1 < 9223372036854775807→∃ m : Nat,(Tm.ats ys c).2.2 = c + m∧m≤Tm.szs ys∧(bsBd (Tm.ats ys c).2.1).Perm (Tm.bdL ys ++ O7 c m)∧(∀ x∈(Tm.ats ys c).1,x.bd = []):=by
  intro ys
  induction ys with
  | nil=>intro c _ _ _;exact ⟨0,by simp [Tm.ats],by simp,by simp [Tm.ats,bsBd,Tm.bdL,O7],by simp [Tm.ats]⟩
  | cons y r ih2 =>
   intro c hm h0 hb
   rw [Tm.szs] at hb ⊢
   have hy:=hx y (hm y (List.mem_cons_self ..))
   have hp:=sz_pos y
   rw [Tm.ats]
   by_cases h : y.tk = 1
   ·rw [if_pos h]
    obtain ⟨m,g1,g2,g3,g4⟩:=ih2 c (fun z hz=>hm z (List.mem_cons_of_mem _ hz)) h0 (by push_cast at hb;omega)
    refine ⟨m,g1,by omega,by rw [Tm.bdL,var_bd hy h,List.nil_append];exact g3,fun x hx=>?_⟩
    rcases List.mem_cons.1 hx with rfl | hx
    ·exact var_bd hy h
    ·exact g4 x hx
   ·rw [if_neg h]
    have hw : wr (c + 1) = c + 1:=wr_of (by omega) (by push_cast at hb;omega)
    rw [hw]
    have hcnt:=pl_cnt d y (c + 1) hy (by omega) (by push_cast at hb;omega)
    obtain ⟨m1,e1,e2⟩:=ih y (c + 1) hy (by omega) (by push_cast at hb;omega)
    rw [e1] at hcnt ⊢
    obtain ⟨m2,g1,g2,g3,g4⟩:=ih2 (c + 1 + m1) (fun z hz=>hm z (List.mem_cons_of_mem _ hz)) (by omega) (by push_cast at hb;omega)
    refine ⟨1 + m1 + m2,by dsimp only;rw [g1];push_cast;omega,by omega,?_,fun x hx=>?_⟩
    ·dsimp only
     rw [bsBd,Tm.bdL,seqW_add,seqW_add,seqW_one]
     have h1:=perm_mid (c:=Tm.bdL r) (d:=O7 (c + 1 + m1) m2) e2
     refine (List.Perm.cons _ (((List.Perm.refl _).append g3).trans h1)).trans ?_
     rw [show c + ((1 + m1 : Nat) : Int) = c + 1 + m1 from by push_cast;omega,show c + ((1 : Nat) : Int) = c + 1 from by push_cast;omega]
     rw [List.append_assoc [wNm (c + 1)]]
     exact (List.perm_middle (a:=wNm (c + 1)) (l₁:=y.bd ++ Tm.bdL r) (l₂:=O7 (c + 1) m1 ++ O7 (c + 1 + m1) m2)).symm
    ·rcases List.mem_cons.1 hx with rfl | hx
     ·rfl
     ·exact g4 x hx
 have hL : ∀ (ys : List Tm) (c : Int),(∀ y∈ys,y∈xs)→0≤c→c + Tm.szs ys < 9223372036854775807→∃ m : Nat,(Tm.plL ys c).2 = c + m∧m≤Tm.szs ys∧(Tm.bdL (Tm.plL ys c).1).Perm (Tm.bdL ys ++ O7 c m):=by
  intro ys
  induction ys with
  | nil=>intro c _ _ _;exact ⟨0,by simp [Tm.plL],by simp,by simp [Tm.plL,Tm.bdL,O7]⟩
  | cons y r ih2 =>
   intro c hm h0 hb
   rw [Tm.szs] at hb ⊢
   have hy:=hx y (hm y (List.mem_cons_self ..))
   have hcnt:=pl_cnt d y c hy (by omega) (by push_cast at hb;omega)
   obtain ⟨m1,e1,e2⟩:=ih y c hy (by omega) (by push_cast at hb;omega)
   rw [Tm.plL]
   rw [e1] at hcnt ⊢
   obtain ⟨m2,g1,g2,g3⟩:=ih2 (c + m1) (fun z hz=>hm z (List.mem_cons_of_mem _ hz)) (by omega) (by push_cast at hb;omega)
   refine ⟨m1 + m2,by dsimp only;rw [g1];push_cast;omega,by omega,?_⟩
   dsimp only
   rw [Tm.bdL,Tm.bdL,seqW_add]
   exact ((List.Perm.refl _).append g3).trans (perm_mid e2)
 have hC : ∀ (ys : List Cs) (c : Int),(∀ y∈ys,y∈cs)→0≤c→c + Cs.szs ys < 9223372036854775807→∃ m : Nat,(Cs.plL ys c).2 = c + m∧m≤Cs.szs ys∧(Cs.bdL (Cs.plL ys c).1).Perm (Cs.bdL ys ++ O7 c m):=by
  intro ys
  induction ys with
  | nil=>intro c _ _ _;exact ⟨0,by simp [Cs.plL],by simp,by simp [Cs.plL,Cs.bdL,O7]⟩
  | cons y r ih2 =>
   intro c hm h0 hb
   have hy:=hc y (hm y (List.mem_cons_self ..))
   obtain ⟨t,ws,y⟩:=y
   have hy:=hy.2
   change y.Rt d at hy
   rw [Cs.szs,Cs.sz] at hb ⊢
   have hcnt:=pl_cnt d y c hy (by omega) (by push_cast at hb;omega)
   obtain ⟨m1,e1,e2⟩:=ih y c hy (by omega) (by push_cast at hb;omega)
   rw [Cs.plL,Cs.pl]
   dsimp only
   rw [e1] at hcnt ⊢
   obtain ⟨m2,g1,g2,g3⟩:=ih2 (c + m1) (fun z hz=>hm z (List.mem_cons_of_mem _ hz)) (by omega) (by push_cast at hb;omega)
   refine ⟨m1 + m2,by rw [g1];push_cast;omega,by omega,?_⟩
   rw [Cs.bdL,Cs.bdL,Cs.bd,Cs.bd,seqW_add]
   refine ((List.Perm.refl _).append g3).trans (perm_mid ?_)
   rw [List.append_assoc]
   exact (List.Perm.refl _).append e2
 have hs : ((Tm.mk k n a b vs xs cs).sz : Int) = 1 + Tm.szs xs + Cs.szs cs:=by rw [Tm.sz];push_cast;omega
 rw [hs] at hb
 rw [Tm.pl]
 split
 ·rename_i h
  have hcs : cs = []:=by
   unfold Xq at hmany
   rcases h with rfl | rfl | rfl <;> simp at hmany <;> first | exact hmany.2 | (cases cs with | nil=>rfl | cons _ _=>simp at hmany)
  subst hcs
  obtain ⟨m,g1,g2,g3,g4⟩:=hA xs c (fun _ h=>h) h0 (by omega)
  refine ⟨m,g1,?_⟩
  dsimp only
  rw [around_bd,Tm.bd,Tm.bd,if_neg (by omega),bdL_nil _ g4]
  simpa [Cs.bdL] using g3
 split
 ·rename_i h
  subst h
  have hcs : cs = []:=by
   unfold Xq at hmany
   simp at hmany
   exact hmany.2
  subst hcs
  obtain ⟨m,g1,g2,g3⟩:=hL xs c (fun _ h=>h) h0 (by omega)
  refine ⟨m,g1,?_⟩
  dsimp only
  rw [Tm.bd,Tm.bd,if_pos rfl,Cs.bdL,List.append_nil,List.append_nil,List.append_assoc]
  exact (List.Perm.refl _).append g3
 split
 ·rename_i h
  subst h
  obtain ⟨m,g1,g2,g3,g4⟩:=hA xs c (fun _ h=>h) h0 (by omega)
  rw [g1]
  obtain ⟨m2,f1,f2,f3⟩:=hC cs (c + m) (fun _ h=>h) (by omega) (by omega)
  refine ⟨m + m2,by dsimp only;rw [f1];push_cast;omega,?_⟩
  dsimp only
  rw [around_bd,Tm.bd,Tm.bd,if_neg (by omega),if_neg (by omega),bdL_nil _ g4,List.nil_append,List.nil_append,List.nil_append,seqW_add]
  exact ((List.Perm.refl _).append f3).trans (perm_mid g3)
 ·exact ⟨0,by simp,by simp [O7]⟩
theorem Fn.Right.pl_bd {A : Y3} {x : Fn} (h : x.Right A) (hr : x.body.Rt 25) : x.pl.bd.Nodup:=by
 have hO:=h.plOk hr
 have hn:=x.rn_bd hr (by have:=bd_le 25 x.body hr;have:=h.sz;have:=h.params;unfold Fn.bd;rw [List.length_append];omega)
 obtain ⟨m,_,hp⟩:=Go.Proofs.YtjpldhjgehoffaaDoor.pl_bd 25 x.rn.body 0 (x.rn_rt hr) (by omega) (by have:=hO.sz;omega)
 have hp2 : x.pl.bd.Perm (x.rn.bd ++ O7 0 m):=by
  unfold Fn.bd
  rw [List.append_assoc]
  exact (List.Perm.refl x.rn.params).append hp
 refine hp2.nodup_iff.2 (List.nodup_append.2 ⟨hn,seqW_nodup (by omega) m,fun s hs t ht e=>?_⟩)
 have hw : NW s:=by
  unfold Fn.bd at hs
  rcases List.mem_append.1 hs with hs | hs
  ·exact hO.params s hs
  ·exact hO.bd s hs
 unfold O7 at ht
 obtain ⟨j,_,rfl⟩:=List.mem_map.1 ht
 exact hw _ e
theorem Fn.Right.pl_free {A : Y3} {x : Fn} (h : x.Right A) (hr : x.body.Rt 25) : ∀ s∈x.pl.body.free,s∈x.pl.params:=by
 have hR:=h.rn hr
 have hsz:=hR.sz
 exact wrong_free A _ x.pl.body x.pl.params (-151) (Nat.lt_succ_self _) (pl_wrong A 25 x.rn.body x.rn.params x.rn.params 0 0 (-151) (x.rn_rt hr) hR.wrong (fun _ h=>h) (by omega) (by omega) (by omega))
def erK (k : Int) : Bool:=decide (k = 8∨k = 9∨k = 10∨k = 11∨k = 13)
mutual
def Tm.er : Tm→Tm
 | .mk k n a b vs xs cs=>if erK k = true∧xs.length = 1 then Tm.erH xs else .mk (if k = 12 then 3 else k) n a (if k = 12 then ⟨#[]⟩ else b) vs (Tm.erL xs) (Cs.erL cs)
def Tm.erH : List Tm→Tm
 | []=>.mk 0 0 .empty .empty [] [] []
 | x :: _=>x.er
def Tm.erL : List Tm→List Tm
 | []=>[]
 | x :: r=>x.er :: Tm.erL r
def Cs.erL : List Cs→List Cs
 | []=>[]
 | c :: r=>c.er :: Cs.erL r
def Cs.er : Cs→Cs
 | .mk t ws y=>.mk t ws y.er
end
end Go.Proofs.YtjpldhjgehoffaaDoor
namespace Go.Proofs.YtjpldhjgehoffaaDoor
open Go.RowKit Go.Sort
set_option linter.unusedVariables false
set_option linter.unusedSimpArgs false
def Qk (l : List (ByteArray×Int)) : List (D×List D):=l.map fun p=>(.str p.1,[.int p.2])
def J4 (l : List (ByteArray×ByteArray)) : List (D×List D):=l.map fun p=>(.str p.1,[.str p.2])
theorem ent_del {α : Type} (f : α→D) (s : ByteArray) : ∀ l : List (ByteArray×α),D.Ew (.str s) (l.map fun p=>(D.str p.1,[f p.2])) = (Wz l s).map fun p=>(D.str p.1,[f p.2])
 | []=>rfl
 | (k,v) :: r=>by
  have ih:=ent_del f s r
  unfold D.Ew at ih ⊢
  unfold Wz at ih ⊢
  rw [List.map_cons,List.filter_cons,List.filter_cons,ih]
  by_cases h : k = s
  ·rw [if_neg (by simp [Qx7,h]),if_neg (by simp [h])]
  ·rw [if_pos (by simp [Qx7,h]),if_pos (by simp [h])];rfl
theorem ent_get {α : Type} (f : α→D) (s : ByteArray) : ∀ l : List (ByteArray×α),D.Xk (.str s) (l.map fun p=>(D.str p.1,[f p.2])) = (lkA l s).map fun v=>[f v]
 | []=>rfl
 | (k,v) :: r=>by
  rw [List.map_cons,D.Xk,Qx7,lkA,ent_get f s r]
  by_cases h : k = s
  ·rw [if_pos (by simp [h]),if_pos h];rfl
  ·rw [if_neg (by simp [h]),if_neg h]
theorem Q5 (l : List (ByteArray×Int)) (s : ByteArray) (v : Int) : D.Nk (.str s) [.int v] (Qk l) = Qk (X5 l s v):=by
 unfold D.Nk Qk X5
 rw [ent_del D.int,List.map_cons];rfl
theorem Q6 (l : List (ByteArray×Int)) (s : ByteArray) : D.Ew (.str s) (Qk l) = Qk (Wz l s):=ent_del D.int s l
theorem X4 (l : List (ByteArray×Int)) (s : ByteArray) : D.Xk (.str s) (Qk l) = (lkA l s).map fun v=>[.int v]:=ent_get D.int s l
theorem entS_put (l : List (ByteArray×ByteArray)) (s v : ByteArray) : D.Nk (.str s) [.str v] (J4 l) = J4 (X5 l s v):=by
 unfold D.Nk J4 X5
 rw [ent_del D.str,List.map_cons];rfl
theorem Ev (l : List (ByteArray×ByteArray)) (s : ByteArray) : D.Xk (.str s) (J4 l) = (lkA l s).map fun v=>[.str v]:=ent_get D.str s l
theorem ent_ents {α : Type} (f : α→D) {l : List (ByteArray×α)} (h : KN l) : I9 (l.map fun p=>(D.str p.1,[f p.2])):=by
 refine ⟨fun p hp=>?_,?_⟩
 ·obtain ⟨q,hq,rfl⟩:=List.mem_map.1 hp
  exact ⟨_,_,rfl⟩
 ·rw [List.pairwise_map]
  unfold KN List.Nodup at h
  rw [List.pairwise_map] at h
  exact h.imp fun {a b} hab=>by rw [Qx7];simpa using hab
theorem entI_ents {l : List (ByteArray×Int)} (h : KN l) : I9 (Qk l):=ent_ents D.int h
theorem entS_ents {l : List (ByteArray×ByteArray)} (h : KN l) : I9 (J4 l):=ent_ents D.str h
theorem bset_new {ents : List (D×List D)} {bents : List (Nat×D×List D)} {clock : Nat} {k : D} {z r : List D} (hp : (bents.map (·.2)).Perm ents) (hc : ∀ p∈bents,p.1 < clock) (hk : bents.find? (fun p=>D.keq p.2.1 k) = none) :
  ((Qz2 clock r (bents ++ [(clock,k,z)])).map (·.2)).Perm (D.Nk k r ents):=by
 have e1 : Qz2 clock r (bents ++ [(clock,k,z)]) = bents ++ [(clock,k,r)]:=by
  unfold Qz2
  rw [List.map_append]
  congr 1
  ·conv=>rhs;rw [← List.map_id bents]
   refine List.map_congr_left fun p hm=>?_
   have:=hc p hm
   rw [if_neg (by omega)];rfl
  ·simp
 rw [e1,List.map_append]
 have e2 : D.Ew k ents = ents:=by
  unfold D.Ew
  refine List.filter_eq_self.2 fun p hm=>?_
  obtain ⟨q,hq,rfl⟩:=List.mem_map.1 (hp.mem_iff.2 hm)
  have:=List.find?_eq_none.1 hk q hq
  simpa using this
 unfold D.Nk
 rw [e2]
 exact List.perm_append_comm.trans (List.Perm.cons _ hp)
theorem bset_old {ents : List (D×List D)} {bents : List (Nat×D×List D)} {k : D} {r : List D} {p : Nat×D×List D} (hp : (bents.map (·.2)).Perm ents) (hn : (bents.map (·.1)).Nodup) (hd : ents.Pairwise fun p q=>D.keq p.1 q.1 = false) (hk : bents.find? (fun p=>D.keq p.2.1 k) = some p) :
  ((Qz2 p.1 r bents).map (·.2)).Perm (D.Nk k r ents):=by
 have hm:=List.mem_of_find?_eq_some hk
 have hpk : p.2.1 = k:=keq_eq (by simpa using List.find?_some hk)
 obtain ⟨a,b,hab⟩:=List.append_of_mem hm
 subst hab
 rw [List.map_append,List.map_cons] at hn
 have hna:=List.nodup_append.1 hn
 have hnb:=List.nodup_cons.1 hna.2.1
 have hid : ∀ l : List (Nat×D×List D),(∀ q∈l,q.1≠p.1)→Qz2 p.1 r l = l:=fun l hl=>by
  unfold Qz2
  conv=>rhs;rw [← List.map_id l]
  refine List.map_congr_left fun q hq=>?_
  have:=hl q hq
  rw [if_neg (by omega)];rfl
 have e1 : Qz2 p.1 r (a ++ p :: b) = a ++ (p.1,p.2.1,r) :: b:=by
  have h1 : Qz2 p.1 r (a ++ p :: b) = Qz2 p.1 r a ++ ((p.1,p.2.1,r) :: Qz2 p.1 r b):=by
   unfold Qz2;rw [List.map_append,List.map_cons];simp
  rw [h1,hid a (fun q hq e=>hna.2.2 q.1 (List.mem_map.2 ⟨q,hq,rfl⟩) p.1 (List.mem_cons_self ..) e),hid b (fun q hq e=>hnb.1 (by rw [← e];exact List.mem_map.2 ⟨q,hq,rfl⟩))]
 rw [e1]
 have hd2 : ((a ++ p :: b).map (·.2)).Pairwise fun p q=>D.keq p.1 q.1 = false:=(hp.symm.pairwise_iff fun {a b} hab=>by rw [D.Ez];exact hab).1 hd
 rw [List.map_append,List.map_cons,List.pairwise_append] at hd2
 have hdb:=List.pairwise_cons.1 hd2.2.1
 have hkk : D.keq p.2.1 k = true:=by simpa using List.find?_some hk
 have e2 : D.Ew k ((a ++ p :: b).map (·.2)) = a.map (·.2) ++ b.map (·.2):=by
  unfold D.Ew
  rw [List.map_append,List.map_cons,List.filter_append,List.filter_cons,if_neg (by simp [hkk])]
  congr 1
  ·refine List.filter_eq_self.2 fun q hq=>?_
   have:=hd2.2.2 q hq _ (List.mem_cons_self ..)
   rw [hpk] at this;simp [this]
  ·refine List.filter_eq_self.2 fun q hq=>?_
   have:=hdb.1 q hq
   rw [hpk,D.Ez] at this;simp [this]
 have e3 : (D.Ew k ((a ++ p :: b).map (·.2))).Perm (D.Ew k ents):=by unfold D.Ew;exact hp.filter _
 rw [e2] at e3
 unfold D.Nk
 rw [List.map_append,List.map_cons]
 dsimp only
 rw [hpk]
 exact List.perm_middle.trans (List.Perm.cons _ e3)
theorem cs_clone {k b5 : Nat} (hent : ∃ fn,Tryd.prog.funcs[k]? = some fn∧(fn.name == "runtime.NumGoroutine") = false∧fn.body.isNone = false)
  (hc : ∀ (b : Nat) (es : Array MapEntry) (clock : Nat) (w : World),w.heap[b]? = some (.map es clock)→Calls Tryd.prog k #[.map (some b)] w fun e w'=>e = .returned (.map (some w.heap.size))∧w' = w.alloc (.map es clock)) (ks ag : Bool) (n : Nat) (ents : List (D×List D)) :
  X3 Tryd.prog k [.mp 1000] [(1000,.map ks ag n ents),(500,.arr 0 1 [])] (.mp 500) [(1000,.map ks ag n ents),(500,.map ks ag n ents)]:=by
 refine ⟨hent,fun w ok g vals hM hl hv=>?_⟩
 match vals,hl with
 | ⟨[v]⟩,_ =>
 have hx : Xz [(1000,Qz.map ks ag n ents),(500,.arr 0 1 [])] 1000 = some (.map ks ag n ents):=rfl
 obtain ⟨b,hb,rfl⟩:=(hv 0 _ v rfl rfl).Qx2 hx
 obtain ⟨b',es,clock,hb',hw,hR⟩:=hM.obj 1000 _ hx
 rw [hb] at hb'
 obtain rfl:=Option.some.inj hb'
 refine (hc b es clock w hw).mono ?_
 rintro e w' ⟨rfl,rfl⟩
 let g' : Gh:=⟨fun i=>if i == 500 then some w.heap.size else g.bl i,fun i=>if i == 500 then 0 else g.cp i⟩
 have hown:=hM.own 1000 _ b hx hb
 have hal : ∀ c,c < w.heap.size→(w.alloc (.map es clock)).heap[c]? = w.heap[c]?:=fun c hc=>Below.heap_alloc w _ c hc
 have hcell : ∀ p : Addr,ok p.block→(w.alloc (.map es clock)).cell? p = w.cell? p:=fun p hp=>World.V6 (hal _ (hM.okb _ hp).1)
 have hget : ∀ i y,Xz [(1000,Qz.map ks ag n ents),(500,.map ks ag n ents)] i = some y→(i = 1000∨i = 500)∧y = .map ks ag n ents:=fun i y hy=>by
  simp only [Xz] at hy
  split at hy
  ·rename_i h;exact ⟨.inl (by simpa using h : 1000 = i).symm,by simpa using hy.symm⟩
  ·split at hy
   ·rename_i h;exact ⟨.inr (by simpa using h : 500 = i).symm,by simpa using hy.symm⟩
   ·cases hy
 refine ⟨_,ok,g',rfl,⟨fun i y hy=>?_,fun i j xi xj c hi hj hbi hbj=>?_,fun i y c hy hbi=>?_,fun c hc=>?_,fun c hc=>hc,by simp,fun c hc _=>hal c hc,fun i hi=>?_,rfl,rfl,rfl,hM.gi,hM.gb⟩,?_⟩
 ·obtain ⟨hi2,rfl⟩:=hget i y hy
  rcases hi2 with rfl | rfl
  ·exact ⟨b,es,clock,by simpa [g'] using hb,(hal b hown.2.1).trans hw,hR.keep hcell fun _ h=>h⟩
  ·exact ⟨w.heap.size,es,clock,by simp [g'],(MapKept.heap_alloc w _).1,hR.keep hcell fun _ h=>h⟩
 ·have hi2:=(hget i xi hi).1
  have hj2:=(hget j xj hj).1
  have:=hown.2.1
  rcases hi2 with rfl | rfl <;> rcases hj2 with rfl | rfl
  ·rfl
  ·simp [g',hb] at hbi hbj;omega
  ·simp [g',hb] at hbi hbj;omega
  ·rfl
 ·obtain ⟨hi2,rfl⟩:=hget i y hy
  rcases hi2 with rfl | rfl
  ·have hbc : b = c:=by simpa [g',hb] using hbi
   subst hbc
   exact ⟨hown.1,by simp;omega,hown.2.2⟩
  ·have hbc : w.heap.size = c:=by simpa [g'] using hbi
   subst hbc
   exact ⟨fun h=>by have:=(hM.okb _ h).1;omega,by simp,.inl (Nat.le_refl _)⟩
 ·have:=hM.okb c hc
  exact ⟨by simp;omega,.inl hc⟩
 ·have hi' : (i == 500) = false:=by
   rcases h : i == 500
   ·rfl
   ·have : i = 500:=by simpa using h
    subst this;cases hi
  simp [g',hi']
 ·exact .mp _ _ rfl fun x hx=>⟨w.heap.size,by simp [g'],rfl⟩
theorem cs_CloneS (ents : List (D×List D)) : X3 Tryd.prog 121 [.mp 1000] [(1000,.map true false 1 ents),(500,.arr 0 1 [])] (.mp 500) [(1000,.map true false 1 ents),(500,.map true false 1 ents)] :=
 cs_clone (b5:=0) ⟨_,Tryd.func121,rfl,rfl⟩ (fun b es clock w hb=>AnyW.maps_Clone Tryd.cloneSS b es clock w hb) true false 1 ents
theorem cs_CloneI (ents : List (D×List D)) : X3 Tryd.prog 145 [.mp 1000] [(1000,.map true false 1 ents),(500,.arr 0 1 [])] (.mp 500) [(1000,.map true false 1 ents),(500,.map true false 1 ents)] :=
 cs_clone (b5:=0) ⟨_,Tryd.func145,rfl,rfl⟩ (fun b es clock w hb=>AnyW.maps_Clone Tryd.cloneSI b es clock w hb) true false 1 ents
def unB (b : ByteArray) : List UInt8:=b.data.toList
def reB (l : List UInt8) : ByteArray:=⟨l.toArray⟩
theorem reB_unB (b : ByteArray) : reB (unB b) = b:=rfl
theorem unB_reB (l : List UInt8) : unB (reB l) = l:=rfl
def srtB (l : List ByteArray) : List ByteArray:=((l.map unB).mergeSort fun x y=>decide (x≤y)).map reB
theorem Qq0 (l : List ByteArray) : (srtB l).Perm l:=by
 unfold srtB
 refine ((List.mergeSort_perm (l.map unB) _).map reB).trans ?_
 rw [List.map_map]
 have : (reB ∘ unB) = id:=funext reB_unB
 rw [this,List.map_id]
theorem srtB_len (l : List ByteArray) : (srtB l).length = l.length:=(Qq0 l).length_eq
theorem srtB_sorted (l : List ByteArray) : (srtB l).Pairwise fun a b=>unB a≤unB b:=by
 unfold srtB
 rw [List.pairwise_map]
 have h:=List.pairwise_mergeSort (le:=fun x y : List UInt8=>decide (x≤y)) (fun a b c h1 h2=>by simp only [decide_eq_true_eq] at *;exact List.le_trans h1 h2) (fun a b=>by simp only [Bool.or_eq_true,decide_eq_true_eq];exact List.le_total a b) (l.map unB)
 exact h.imp fun {a b} hab=>by simpa [unB_reB] using hab
theorem encStr_un (b : ByteArray) : encStr (unB b) = .string b:=rfl
theorem cs_row {k : Nat} (hent : ∃ fn,Tryd.prog.funcs[k]? = some fn∧(fn.name == "runtime.NumGoroutine") = false∧fn.body.isNone = false) (l m : List ByteArray) (hl : l.length≤8796093022208) (hlen : m.length = l.length) (hmem : ∀ s∈m,s∈l∨s = .empty)
  (r : AV) (rv : Nat→Nat→Value) (hres : ∀ w ok g b,g.bl 1000 = some b→VR w ok g (Xz [(1000,.arr 9 1 (m.map Zw))]) r (rv b (g.cp 1000)))
  (hnone : l.length = 0→∀ (w : World) (a : Option Addr) (c : Nat),Calls Tryd.prog k #[.slice a 0 c] w fun e w'=>w' = w∧∃ v,e = .returned v∧((r = .tuple []∧v = .tuple #[])∨(r = .arr 1000 0 0∧v = .slice a 0 c)))
  (hcall : 0 < l.length→∀ (w : World) (b cap : Nat),Holds encStr w b 0 (l.map unB).toArray→b < w.heap.size→l.length≤cap→Calls Tryd.prog k #[.slice (some ⟨b,0,none⟩) l.length cap] w fun e w'=>e = .returned (rv b cap)∧∃ n os,w' = grow (putRow encStr (Sort.ahead w n) b 0 (m.map unB).toArray) os) :
  X3 Tryd.prog k [.arr 1000 0 l.length] [(1000,.arr 9 1 (l.map Zw))] r [(1000,.arr 9 1 (m.map Zw))]:=by
 refine ⟨hent,fun w ok g vals hM hlen' hv=>?_⟩
 match vals,hlen' with
 | ⟨[v]⟩,_ =>
 have hx : Xz [(1000,Qz.arr 9 1 (l.map Zw))] 1000 = some (.arr 9 1 (l.map Zw)):=rfl
 have hO:=hM.obj 1000 _ hx
 have hva0:=hv 0 _ v rfl rfl
 have hva:=(hva0.Qj8 hx).2
 by_cases h0 : l.length = 0
 ·obtain rfl:=List.eq_nil_of_length_eq_zero h0
  obtain rfl:=List.eq_nil_of_length_eq_zero hlen
  have hvs : ∃ a c,v = .slice a 0 c:=by
   rcases hva with ⟨_,h1,_,_⟩ | ⟨b,_,h1⟩ | ⟨h1,_⟩
   ·exact ⟨none,0,h1⟩
   ·exact ⟨_,_,h1⟩
   ·omega
  obtain ⟨a,c,rfl⟩:=hvs
  refine (hnone h0 w a c).mono ?_
  rintro e w' ⟨rfl,u,rfl,hu⟩
  refine ⟨_,ok,g,rfl,hM,?_⟩
  rcases hu with ⟨rfl,rfl⟩ | ⟨rfl,rfl⟩
  ·exact .tuple _ _ rfl (by simp)
  ·exact hva0
 ·obtain ⟨hsz,hrl,hO⟩:=hO
  rcases hO with ⟨_,h1⟩ | ⟨b,cur,hb,hw,hcp,hcm,hcs,hcell⟩
  ·simp at h1;exact absurd (by rw [h1];rfl) h0
  obtain ⟨b',hb',hvv⟩ : ∃ b,g.bl 1000 = some b∧v = .slice (some ⟨b,0,none⟩) l.length (g.cp 1000):=by
   rcases hva with ⟨h1,_,_,_⟩ | ⟨b,h1,h2⟩ | ⟨h1,_⟩
   ·rw [hb] at h1;cases h1
   ·exact ⟨b,h1,by simpa using h2⟩
   ·omega
  rw [hb] at hb'
  obtain rfl:=Option.some.inj hb'
  subst hvv
  have hown:=hM.own 1000 _ b hx hb
  simp only [List.length_map] at hcp
  have hcur : ∀ i,(h : i < l.length)→cur[i]? = some (.string l[i])∧l[i].size≤maxLen:=fun i h=>by
   have hi : i < cur.size:=by omega
   have:=hcell i 0 (Zw l[i]) (.str l[i]) cur[i] (by simp [h]) rfl (by simp)
   obtain ⟨h1,h2⟩:=this.D9
   exact ⟨by rw [Array.getElem?_eq_getElem hi,h1],h2⟩
  have hH : Holds encStr w b 0 (l.map unB).toArray:=fun j hj=>by
   have hj' : j < l.length:=by simpa using hj
   refine ⟨?_,?_⟩
   ·rw [cell_of_row w b _ cur _ (0,0) hw]
    rw [Nat.zero_add,(hcur j hj').1]
    simp [hj',encStr_un]
   ·simp [World.frozen?,hw]
  refine (hcall (by omega) w b (g.cp 1000) hH hown.2.1 hcp).mono ?_
  rintro e w' ⟨rfl,n,os,hw'⟩
  have hlen2 : (m.map unB).length = l.length:=by rw [List.length_map,hlen]
  have hgr : w.grownBy w' (some b):=by rw [hw'];exact grownBy_sorted _
  have hbb : w'.heap[b]? = some (.cells (putCells encStr 0 (m.map unB).toArray cur) 9 (0,0)):=by rw [hw'];exact heap_sorted _ hw
  have htk:=take_putCells cur (m.map unB) (by rw [hlen2];omega)
  have hsz2 : (putCells encStr 0 (m.map unB).toArray cur).size = cur.size:=by simp [putCells]
  generalize putCells encStr 0 (m.map unB).toArray cur = cur' at hbb htk hsz2
  clear hw'
  have hhp : ∀ c,c < w.heap.size→c≠b→w'.heap[c]? = w.heap[c]?:=fun c hc hne=>hgr.block c hc fun e=>hne (Option.some.inj e)
  have hget : ∀ i y,Xz [(1000,Qz.arr 9 1 (m.map Zw))] i = some y→i = 1000∧y = .arr 9 1 (m.map Zw):=fun i y hy=>by
   simp only [Xz] at hy
   split at hy
   ·rename_i h;exact ⟨(by simpa using h : 1000 = i).symm,by simpa using hy.symm⟩
   ·cases hy
  refine ⟨_,ok,g,rfl,⟨fun i y hy=>?_,fun i j xi xj c hi hj _ _=>?_,fun i y c hy hbi=>?_,fun c hc=>?_,fun c hc=>hc,hgr.size,fun c hc hT=>?_,fun i _=>⟨rfl,rfl⟩,hgr.os,hgr.tape,hgr.output,hM.gi,hM.gb⟩,hres _ _ _ _ hb⟩
  ·obtain ⟨rfl,rfl⟩:=hget i y hy
   refine ⟨hsz,fun i r hr=>?_,.inr ⟨b,cur',hb,hbb,by rw [List.length_map,hlen];exact hcp,hcm,by rw [hsz2];exact hcs,fun i j r c v hr hc hv=>?_⟩⟩
   ·rw [List.getElem?_map] at hr
    obtain ⟨s,_,rfl⟩:=Option.map_eq_some_iff.1 hr;rfl
   ·rw [List.getElem?_map] at hr
    obtain ⟨s,hs,rfl⟩:=Option.map_eq_some_iff.1 hr
    match j,hc with
    | 0,hc =>
    obtain rfl : D.str s = c:=by simpa [Zw] using hc
    have hi : i < l.length:=by rw [← hlen];exact (List.getElem?_eq_some_iff.1 hs).1
    have e1 : (cur'.toList.take (m.map unB).length)[i]? = some (.string s):=by
     rw [htk,List.getElem?_map,List.getElem?_map,hs];rfl
    rw [List.getElem?_take_of_lt (by rw [hlen2];exact hi),Array.getElem?_toList] at e1
    rw [show i * 1 + 0 = i by omega,e1] at hv
    obtain rfl:=Option.some.inj hv
    refine .str s ?_
    rcases hmem s (List.mem_of_getElem? hs) with hm | rfl
    ·obtain ⟨q,hq⟩:=List.mem_iff_getElem?.1 hm
     obtain ⟨hq1,hq2⟩:=List.getElem?_eq_some_iff.1 hq
     rw [← hq2];exact (hcur q hq1).2
    ·exact Nat.zero_le _
  ·rw [(hget i xi hi).1,(hget j xj hj).1]
  ·obtain ⟨rfl,rfl⟩:=hget i y hy
   obtain rfl : b = c:=by rw [hb] at hbi;exact Option.some.inj hbi
   have:=hgr.size
   exact ⟨hown.1,by omega,hown.2.2⟩
  ·have:=hM.okb c hc
   have:=hgr.size
   exact ⟨by omega,.inl hc⟩
  ·exact hhp c hc fun e=>hT ⟨1000,_,rfl,by rw [e];exact hb⟩
theorem cs_Sort (l : List ByteArray) (hl : l.length≤8796093022208) : X3 Tryd.prog 140 [.arr 1000 0 l.length] [(1000,.arr 9 1 (l.map Zw))] (.tuple []) [(1000,.arr 9 1 ((srtB l).map Zw))]:=by
 refine cs_row ⟨_,Tryd.func140,rfl,rfl⟩ l (srtB l) hl (srtB_len l) (fun s hs=>.inl ((Qq0 l).mem_iff.1 hs)) (.tuple []) (fun _ _=>.tuple #[]) (fun _ _ _ _ _=>.tuple _ _ rfl (by simp)) (fun _ w a c=>?_) (fun _ w b cap hH hb hc=>?_)
 ·exact (Tryd.slices_Sort_string_none a c w).mono fun e w' h=>⟨h.2,_,h.1,.inl ⟨rfl,rfl⟩⟩
 ·have h:=Tryd.slices_Sort_string b 0 cap (l.map unB) w hH hb (by simp;omega)
  rw [List.length_map] at h
  have hse : ((l.map unB).mergeSort fun x y=>decide (x≤y)) = (srtB l).map unB:=by
   unfold srtB
   rw [List.map_map]
   have : (unB ∘ reB) = id:=funext unB_reB
   rw [this,List.map_id]
  rw [hse] at h
  exact h
def Qz0 (l : List ByteArray) : List ByteArray:=(Lib.compact (l.map unB)).map reB
theorem cmpB_un (l : List ByteArray) : (Qz0 l).map unB = Lib.compact (l.map unB):=by
 unfold Qz0
 rw [List.map_map]
 have : (unB ∘ reB) = id:=funext unB_reB
 rw [this,List.map_id]
theorem compact_mem {α : Type} [Inhabited α] [DecidableEq α] (d : Array α) (x : α) : ∀ m,x∈Lib.compactUpTo d m↔∃ j,j < m∧d[j]! = x
 | 0=>by simp [Lib.compactUpTo]
 | m + 1=>by
  rw [Lib.compactUpTo_succ,List.mem_append,compact_mem d x m]
  constructor
  ·rintro (⟨j,h1,h2⟩ | h)
   ·exact ⟨j,by omega,h2⟩
   ·split at h
    ·exact ⟨m,by omega,(List.mem_singleton.1 h).symm⟩
    ·cases h
  ·rintro ⟨j,h1,h2⟩
   by_cases hj : j < m
   ·exact .inl ⟨j,hj,h2⟩
   ·obtain rfl : j = m:=by omega
    cases hk : Lib.keeps d j with
    | true=>exact .inr (by simp [h2])
    | false =>
     have h0 : 0 < j:=by
      rcases Nat.eq_zero_or_pos j with rfl | h
      ·rw [Lib.keeps_lt_one d 0 (by omega)] at hk;cases hk
      ·exact h
     have he : d[j]! = d[j - 1]!:=Decidable.byContradiction fun hne=>by rw [Lib.keeps_pos hne] at hk;cases hk
     exact .inl ⟨j - 1,by omega,by rw [← he];exact h2⟩
theorem compact_nodup (d : Array (List UInt8)) (hs : ∀ i j,i≤j→j < d.size→d[i]!≤d[j]!) : ∀ m,m≤d.size→(Lib.compactUpTo d m).Nodup
 | 0,_=>by simp [Lib.compactUpTo]
 | m + 1,h=>by
  rw [Lib.compactUpTo_succ,List.nodup_append]
  refine ⟨compact_nodup d hs m (by omega),by split <;> simp,fun a ha b hb e=>?_⟩
  subst e
  split at hb
  ·rename_i hk
   obtain ⟨j,hj,hja⟩:=(compact_mem d a m).1 ha
   have hma : a = d[m]!:=List.mem_singleton.1 hb
   have h1:=hs j (m - 1) (by omega) (by omega)
   have h2:=hs (m - 1) m (by omega) (by omega)
   rw [hja] at h1
   rw [← hma] at h2
   have h3 : d[m - 1]! = a:=List.le_antisymm h2 h1
   rw [Lib.keeps_neg (by omega) (by rw [h3,← hma])] at hk
   cases hk
  ·cases hb
theorem cmpB_mem (l : List ByteArray) (s : ByteArray) : s∈Qz0 l↔s∈l:=by
 have h1 : s∈Qz0 l↔unB s∈Lib.compact (l.map unB):=by
  rw [← cmpB_un]
  constructor
  ·exact fun h=>List.mem_map.2 ⟨s,h,rfl⟩
  ·intro h
   obtain ⟨u,hu,he⟩:=List.mem_map.1 h
   have : u = s:=by rw [← reB_unB u,he,reB_unB]
   rw [← this];exact hu
 rw [h1,Lib.compact,compact_mem]
 constructor
 ·rintro ⟨j,hj,he⟩
  have hj' : j < l.length:=by simpa using hj
  have : unB l[j] = unB s:=by rw [← he];simp [hj']
  have : l[j] = s:=by rw [← reB_unB l[j],this,reB_unB]
  rw [← this];exact List.getElem_mem hj'
 ·intro h
  obtain ⟨j,hj,he⟩:=List.getElem_of_mem h
  exact ⟨j,by simpa using hj,by simp [hj,he]⟩
theorem cmpB_len (l : List ByteArray) : (Qz0 l).length≤l.length:=by
 have:=Lib.compact_length_le (l.map unB)
 unfold Qz0
 simpa using this
theorem cmpB_nodup {l : List ByteArray} (h : l.Pairwise fun a b=>unB a≤unB b) : (Qz0 l).Nodup:=by
 have h2 : ((Qz0 l).map unB).Nodup:=by
  rw [cmpB_un]
  refine compact_nodup _ (fun i j hij hj=>?_) _ (by simp)
  have hj' : j < l.length:=by simpa using hj
  rcases Nat.lt_or_ge i j with hlt | hge
  ·have:=List.pairwise_iff_getElem.1 h i j (by omega) hj' hlt
   simpa [hj',show i < l.length by omega] using this
  ·obtain rfl : i = j:=by omega
   exact List.le_refl _
 exact h2.of_map unB fun _ _ h e=>h (by rw [e])
theorem cs_Compact (l : List ByteArray) (hl : l.length≤8796093022208) : X3 Tryd.prog 142 [.arr 1000 0 l.length] [(1000,.arr 9 1 (l.map Zw))] (.arr 1000 0 (Qz0 l).length) [(1000,.arr 9 1 ((Qz0 l ++ List.replicate (l.length - (Qz0 l).length) ByteArray.empty).map Zw))]:=by
 have hcl:=cmpB_len l
 refine cs_row ⟨_,Tryd.func142,rfl,rfl⟩ l _ hl (by simp;omega) (fun s hs=>?_) (.arr 1000 0 (Qz0 l).length) (fun b cap=>.slice (some ⟨b,0,none⟩) (Qz0 l).length cap) (fun w ok g b hb=>?_) (fun h0 w a c=>?_) (fun _ w b cap hH hb hc=>?_)
 ·rcases List.mem_append.1 hs with hs | hs
  ·exact .inl ((cmpB_mem l s).1 hs)
  ·exact .inr (List.eq_of_mem_replicate hs)
 ·refine .arr _ _ _ _ rfl fun e sz rows hx=>?_
  simp only [Xz,beq_self_eq_true,if_true,Option.some.injEq,Qz.arr.injEq] at hx
  obtain ⟨rfl,rfl,rfl⟩:=hx
  exact ⟨by simp,.inr (.inl ⟨b,hb,by simp⟩)⟩
 ·obtain rfl:=List.eq_nil_of_length_eq_zero h0
  exact (Tryd.slices_Compact_string_empty a c w).mono fun e w' h=>⟨h.2,_,h.1,.inr ⟨rfl,rfl⟩⟩
 ·have h:=Tryd.slices_Compact_string b 0 cap (l.map unB) w hH (by simp;omega) (by simpa using hc)
  rw [List.length_map,← cmpB_un,List.length_map] at h
  refine h.mono ?_
  rintro e w' ⟨rfl,q,rfl⟩
  refine ⟨rfl,q,#[],?_⟩
  rw [grow_empty,List.map_append,List.map_replicate]
  rfl
end Go.Proofs.YtjpldhjgehoffaaDoor
namespace Go.Proofs.YtjpldhjgehoffaaDoor
open Classical Go.RowKit
set_option linter.unusedVariables false
set_option linter.unusedSimpArgs false
theorem left_of {s : LS} (h : s.Ok) (hc : ∀ n,s.c n = 0) (ht : s.tk = []) : s.left = false:=by
 unfold LS.left
 rw [ht,Bool.or_eq_false_iff]
 refine ⟨List.any_eq_false.2 fun p hp=>?_,rfl⟩
 have h1:=mem_lk h.kc (s:=p.1) (v:=p.2) hp
 have h2:=hc p.1
 unfold LS.c at h2
 rw [h1] at h2
 simp at h2
 simp [h2]
theorem use_of {s : LS} {n : ByteArray} (h : 1≤s.c n) : (s.Yj n).1 = 0:=by
 unfold LS.Yj
 unfold LS.c at h
 cases hk : lkA s.ct n with
 | none=>rw [hk] at h;simp at h
 | some k =>
  rw [hk] at h
  dsimp only
  rw [if_neg (by simp at h;omega)]
theorem useL_of : ∀ (xs : List Tm) {s : LS},s.Ok→(∀ x∈xs,x.tk = 1)→(∀ m,occ xs m≤s.c m)→(s.Vv xs).1 = 0
 | [],s,_,_,_=>rfl
 | x :: r,s,hs,hx,hc=>by
  have h1:=hc x.nm
  rw [occ_cons,if_pos rfl] at h1
  have h0 : 0≤occ r x.nm:=by unfold occ;omega
  have hu:=use_of (s:=s) (n:=x.nm) (by omega)
  obtain ⟨g1,g2,-⟩:=LS.Vw hs hu
  rw [LS.Vv,if_neg (by simpa using hx x (by simp)),if_neg (by simpa using hu)]
  refine useL_of r g1 (fun y hy=>hx y (by simp [hy])) fun m=>?_
  have:=hc m
  rw [occ_cons] at this
  rw [g2]
  split at this <;> rename_i e
  ·rw [if_pos e];omega
  ·rw [if_neg e];omega
theorem lin8_of {n : Int} {a b : ByteArray} {vs : List ByteArray} {x : Tm} {cs : List Cs} {s : LS} (h : s.there a = true) (h2 : x.lin (s.inc a) = 0) : (Tm.mk 8 n a b vs [x] cs).lin s = 0:=by
 rw [Tm.lin,if_neg (by omega),if_neg (by omega),if_neg (by omega),if_neg (by omega),if_neg (by omega),if_neg (by omega),if_pos (by omega),if_neg (by simp),if_pos rfl,if_pos h]
 exact Kq h2
theorem lin9_of {n : Int} {a b : ByteArray} {vs : List ByteArray} {x : Tm} {cs : List Cs} {s : LS} (h : (s.Yj a).1 = 0) (h2 : x.lin (s.Yj a).2 = 0) : (Tm.mk 9 n a b vs [x] cs).lin s = 0:=by
 rw [Tm.lin,if_neg (by omega),if_neg (by omega),if_neg (by omega),if_neg (by omega),if_neg (by omega),if_neg (by omega),if_pos (by omega),if_neg (by simp),if_neg (by omega),if_pos rfl,if_neg (by simpa using h)]
 exact Kq h2
theorem lin6_of {n : Int} {a b : ByteArray} {vs : List ByteArray} {x y : Tm} {cs : List Cs} {s : LS} (h : lkA s.ct a = none) (h2 : x.lin (s.fst x) = 0) (h3 : y.lin { s.rst x with ct:=X5 (s.rst x).ct a 1 } = 0) : (Tm.mk 6 n a b vs [x,y] cs).lin s = 0:=by
 rw [Tm.lin,if_neg (by omega),if_neg (by omega),if_neg (by omega),if_neg (by omega),if_pos rfl,if_neg (by simp),if_neg (by simp [h])]
 exact linL_two' h2 h3
theorem lin7_of {n : Int} {a b : ByteArray} {vs : List ByteArray} {x : Tm} {cs : List Cs} {s : LS} (h1 : x.tk = 1) (h : 1≤s.c x.nm) (h2 : ∀ c∈cs,c.lin s x.nm = 0) : (Tm.mk 7 n a b vs [x] cs).lin s = 0:=by
 rw [Tm.lin,if_neg (by omega),if_neg (by omega),if_neg (by omega),if_neg (by omega),if_neg (by omega),if_pos rfl,if_neg (by simp [hdT0,h1]),if_neg (show ¬ s.c (hdT0 [x]).nm < 1 from fun hh=>by have hh : s.c x.nm < 1:=hh;omega)]
 exact clinL_all h2
theorem cnt9_lin : ∀ (l : List ByteArray) (t : Tm) {s : LS},s.Ok→l.Nodup→(∀ n∈l,1≤s.c n)→∃ s' : LS,s'.Ok∧(∀ m,s'.c m = if m∈l then s.c m - 1 else s.c m)∧s'.tk = s.tk∧s'.inn = s.inn∧(∀ m,(lkA s'.ct m).isSome = (lkA s.ct m).isSome)∧(t.lin s' = 0→(cnt 9 l t).lin s = 0)
 | [],t,s,hs,_,_=>⟨s,hs,fun m=>by simp,rfl,rfl,fun m=>rfl,fun h=>h⟩
 | a :: r,t,s,hs,hn,hc=>by
  rw [List.nodup_cons] at hn
  have hu:=use_of (hc a (by simp))
  obtain ⟨g1,g2,g3,g4,g5,-⟩:=LS.Vw hs hu
  obtain ⟨s',k1,k2,k3,k4,k5,k6⟩:=cnt9_lin r t g1 hn.2 fun n hm=>by
   rw [g2,if_neg (fun e=>hn.1 (by rw [e];exact hm))]
   exact hc n (by simp [hm])
  refine ⟨s',k1,fun m=>?_,k3.trans g3,k4.trans g4,fun m=>(k5 m).trans (g5 m),fun h=>?_⟩
  ·rw [k2,g2]
   by_cases e : a = m
   ·subst e;rw [if_neg hn.1,if_pos rfl,if_pos (by simp)]
   ·rw [if_neg e]
    by_cases hm : m∈r
    ·rw [if_pos hm,if_pos (by simp [hm])]
    ·rw [if_neg hm,if_neg (by simp [hm];exact fun h=>e h.symm)]
  ·rw [cnt]
   exact lin9_of hu (k6 h)
theorem there_inc {s : LS} (hs : s.Ok) {n : ByteArray} (a : ByteArray) (h : s.there n = true) : (s.inc a).there n = true:=by
 have hm : ∀ m,s.c m≤(s.inc a).c m:=fun m=>by
  rw [(LS.F7 hs a).2]
  split <;> omega
 unfold LS.there at h ⊢
 have hi : (s.inc a).inn = s.inn:=rfl
 rw [hi]
 rw [Bool.or_eq_true] at h ⊢
 rcases h with h | h
 ·left
  have:=of_decide_eq_true h
  have:=hm n
  exact decide_eq_true (by omega)
 ·right
  cases hk : lkA s.inn n with
  | none=>rw [hk] at h;simp at h
  | some up =>
   rw [hk] at h
   dsimp only at h ⊢
   have:=of_decide_eq_true h
   have:=hm up
   exact decide_eq_true (by omega)
theorem cnt8_lin : ∀ (l : List ByteArray) (t : Tm) {s : LS},s.Ok→(∀ n∈l,s.there n = true)→∃ s' : LS,s'.Ok∧(∀ m,s'.c m = s.c m + occB l m)∧s'.tk = s.tk∧s'.inn = s.inn∧(∀ m,(lkA s'.ct m).isSome = ((lkA s.ct m).isSome || decide (m∈l)))∧(t.lin s' = 0→(cnt 8 l t).lin s = 0)
 | [],t,s,hs,_=>⟨s,hs,fun m=>by simp [occB],rfl,rfl,fun m=>by simp,fun h=>h⟩
 | a :: r,t,s,hs,hc=>by
  obtain ⟨g1,g2⟩:=LS.F7 hs a
  obtain ⟨s',k1,k2,k3,k4,k5,k6⟩:=cnt8_lin r t g1 fun n hm=>there_inc hs a (hc n (by simp [hm]))
  refine ⟨s',k1,fun m=>?_,k3,k4,fun m=>?_,fun h=>?_⟩
  ·rw [k2,g2,Qq4]
   split <;> omega
  ·rw [k5]
   unfold LS.inc
   dsimp only
   rw [X7]
   by_cases e : a = m
   ·subst e;simp
   ·rw [if_neg e]
    have e' : m≠a:=fun h=>e h.symm
    simp [e']
  ·rw [cnt]
   exact lin8_of (hc a (by simp)) (k6 h)
theorem N8 {l : List ByteArray} (h : l.Nodup) (n : ByteArray) : occB l n = if n∈l then 1 else 0:=by
 induction l with
 | nil=>simp [occB]
 | cons a r ih =>
  rw [List.nodup_cons] at h
  rw [Qq4,ih h.2]
  by_cases e : a = n
  ·subst e;rw [if_pos rfl,if_neg h.1,if_pos (by simp)];rfl
  ·rw [if_neg e]
   have e' : n≠a:=fun h=>e h.symm
   simp [e']
theorem moreN_occ : ∀ (xs : List Tm) (had : List ByteArray) (n : ByteArray),occB (R3 had xs) n = occ xs n - if n ∉ had∧∃ x∈xs,x.nm = n then 1 else 0
 | [],had,n=>by simp [R3,occB,occ]
 | x :: r,had,n=>by
  have ih:=moreN_occ r (had ++ [x.nm]) n
  rw [R3,occ_cons]
  by_cases hb : hasB had x.nm = true
  ·have hm:=Zx.1 hb
   rw [if_pos hb,Qq4,ih]
   by_cases e : x.nm = n
   ·subst e
    rw [if_pos rfl,if_neg (fun h=>h.1 (by simp)),if_neg (fun h=>h.1 hm)];omega
   ·rw [if_neg e]
    have e1 : (n ∉ had ++ [x.nm]∧∃ y∈r,y.nm = n)↔(n ∉ had∧∃ y∈x :: r,y.nm = n):=by
     have e' : n≠x.nm:=fun h=>e h.symm
     simp [e,e']
    by_cases h : n ∉ had ++ [x.nm]∧∃ y∈r,y.nm = n
    ·rw [if_pos h,if_pos (e1.1 h)];omega
    ·rw [if_neg h,if_neg (fun hh=>h (e1.2 hh))];omega
  ·rw [if_neg hb,ih]
   have hm : x.nm ∉ had:=fun h=>hb (Zx.2 h)
   by_cases e : x.nm = n
   ·subst e
    rw [if_pos rfl,if_neg (fun h=>h.1 (by simp)),if_pos ⟨hm,x,by simp,rfl⟩];omega
   ·rw [if_neg e]
    have e1 : (n ∉ had ++ [x.nm]∧∃ y∈r,y.nm = n)↔(n ∉ had∧∃ y∈x :: r,y.nm = n):=by
     have e' : n≠x.nm:=fun h=>e h.symm
     simp [e,e']
    by_cases h : n ∉ had ++ [x.nm]∧∃ y∈r,y.nm = n
    ·rw [if_pos h,if_pos (e1.1 h)];omega
    ·rw [if_neg h,if_neg (fun hh=>h (e1.2 hh))];omega
theorem occ_zero {xs : List Tm} {n : ByteArray} (h : ¬ ∃ x∈xs,x.nm = n) : occ xs n = 0:=by
 unfold occ
 rw [List.filter_eq_nil_iff.2 fun x hx=>by simp;exact fun e=>h ⟨x,hx,e⟩]
 rfl
theorem newL_of (nm : ByteArray) : ∀ (ws : List ByteArray) {s : LS},ws.Nodup→(∀ v∈ws,lkA s.ct v = none)→(s.Wq nm ws).1 = 0∧(∀ m,(lkA (s.Wq nm ws).2.ct m).isSome = ((lkA s.ct m).isSome || decide (m∈ws)))∧(∀ m,lkA (s.Wq nm ws).2.inn m = if m∈ws then some nm else lkA s.inn m)
 | [],s,_,_=>⟨rfl,fun m=>by simp [LS.Wq],fun m=>by simp [LS.Wq]⟩
 | v :: r,s,hn,hk=>by
  rw [List.nodup_cons] at hn
  rw [LS.Wq,if_neg (by rw [hk v (by simp)];simp)]
  obtain ⟨k1,k2,k3⟩:=newL_of nm r (s:={ s with ct:=X5 s.ct v 0,inn:=X5 s.inn v nm }) hn.2 fun u hu=>by
   dsimp only
   rw [X7,if_neg (fun e=>hn.1 (by rw [e];exact hu))]
   exact hk u (by simp [hu])
  refine ⟨k1,fun m=>?_,fun m=>?_⟩
  ·rw [k2]
   dsimp only
   rw [X7]
   by_cases e : v = m
   ·subst e;simp
   ·rw [if_neg e]
    have e' : m≠v:=fun h=>e h.symm
    simp [e']
  ·rw [k3]
   dsimp only
   rw [X7]
   by_cases hm : m∈r
   ·rw [if_pos hm,if_pos (by simp [hm])]
   ·rw [if_neg hm]
    by_cases e : v = m
    ·subst e;rw [if_pos rfl,if_pos (by simp)]
    ·rw [if_neg e,if_neg (by simp [hm];exact fun h=>e h.symm)]
theorem known_of {s : LS} {n : ByteArray} (h : s.c n≠0) : (lkA s.ct n).isSome = true:=by
 unfold LS.c at h
 cases hk : lkA s.ct n with
 | none=>rw [hk] at h;simp at h
 | some k=>rfl
theorem ow_lin : ∀ (d : Nat) (t : Tm) (has : List ByteArray) (s : LS),t.Rt d→t.isP = true→t.bd.Nodup→(∀ n∈t.bd,lkA s.ct n = none)→has.Nodup→(∀ n∈t.free,n∈has)→s.Ok→(∀ n,s.c n = if n∈has then 1 else 0)→s.tk = []→(t.ow has).lin s = 0:=by
 intro d
 induction d with
 | zero=>intro t _ _ h;exact h.elim
 | succ d ih =>
  intro t has s hR hP hbd hun hhn hfree hs hc htk
  obtain ⟨k,n0,a,b,vs,xs,cs⟩:=t
  -- drops
  have hgn : (woN has (Tm.mk k n0 a b vs xs cs).free).Nodup:=hhn.sublist List.filter_sublist
  obtain ⟨s1,o1,c1,t1,i1,k1,step⟩:=cnt9_lin (woN has (Tm.mk k n0 a b vs xs cs).free) (if k = 3∨k = 4∨k = 5 then cnt 8 (R3 [] xs) (.mk k n0 a b vs xs cs)
   else if k = 6 then cnt 8 (letD a (inN has (Tm.mk k n0 a b vs xs cs).free) xs) (.mk 6 0 a .empty [] (Tm.owZ xs (letH a (inN has (Tm.mk k n0 a b vs xs cs).free) xs)) [])
   else if k = 7 then .mk 7 0 .empty .empty [] xs (Cs.owL cs (inN has (Tm.mk k n0 a b vs xs cs).free) (nmH xs))
   else .mk k n0 a b vs xs cs) hs hgn fun n hn=>by
   rw [hc,if_pos (J8.1 hn).1];omega
  have hc1 : ∀ m,s1.c m = if m∈(Tm.mk k n0 a b vs xs cs).free then 1 else 0:=fun m=>by
   rw [c1,hc]
   by_cases hf : m∈(Tm.mk k n0 a b vs xs cs).free
   ·rw [if_neg (fun h=>(J8.1 h).2 hf),if_pos (hfree m hf),if_pos hf]
   ·rw [if_neg hf]
    by_cases hh : m∈has
    ·rw [if_pos (J8.2 ⟨hh,hf⟩),if_pos hh];rfl
    ·rw [if_neg (fun h=>hh (J8.1 h).1),if_neg hh]
  have hun1 : ∀ n∈(Tm.mk k n0 a b vs xs cs).bd,lkA s1.ct n = none:=fun n hn=>by
   have:=k1 n
   rw [hun n hn] at this
   simpa using this
  have htk1 : s1.tk = []:=t1.trans htk
  have hR':=hR
  obtain ⟨hk,-,-,hx,hcR⟩:=hR
  have hP':=hP
  rw [Tm.isP,Bool.and_eq_true] at hP
  obtain ⟨hP1,hP2⟩:=hP
  rw [Tm.ow]
  refine step ?_
  clear step
  by_cases h6 : k = 6
  ·subst h6
   obtain ⟨x,y,rfl,rfl,hxR,hyR⟩:=rt_two hR'
   have hPx:=Qx9 hP1 x (by simp)
   have hPy:=Qx9 hP1 y (by simp)
   have hbd' : (Tm.mk 6 n0 a b vs [x,y] []).bd = a :: (x.bd ++ y.bd):=by rw [Tm.bd];simp [Tm.bdL,Cs.bdL]
   have hfr : ∀ n,n∈(Tm.mk 6 n0 a b vs [x,y] []).free↔n∈x.free∨(n∈y.free∧n≠a):=fun n=>by
    rw [Tm.free,if_neg (by omega),if_pos ⟨rfl,rfl⟩,Tm.freeL,Tm.freeB,E9,E9,J8]
    simp
   rw [hbd'] at hbd hun1
   rw [List.nodup_cons,List.nodup_append] at hbd
   obtain ⟨hna,hbx,hby,hbxy⟩:=hbd
   rw [if_neg (by omega),if_pos rfl]
   generalize hF : (Tm.mk 6 n0 a b vs [x,y] []).free = F at *
   obtain ⟨O,hO⟩ : ∃ O,O = inN has F:=⟨_,rfl⟩
   rw [← hO]
   have hOm : ∀ n,n∈O↔n∈F:=fun n=>by
    rw [hO,V8];exact ⟨fun h=>h.2,fun h=>⟨hfree n h,h⟩⟩
   have hOn : O.Nodup:=by rw [hO];exact hhn.sublist List.filter_sublist
   rw [letD,letH,Tm.owZ,Tm.owZ,Tm.owZ]
   simp only [List.headD_cons,List.tail_cons]
   obtain ⟨A,hA⟩ : ∃ A,A = inN O x.free:=⟨_,rfl⟩
   obtain ⟨B,hB⟩ : ∃ B,B = inN O (woN y.free [a]):=⟨_,rfl⟩
   obtain ⟨D,hD⟩ : ∃ D,D = inN A (woN y.free [a]):=⟨_,rfl⟩
   rw [← hA,← hB,← hD]
   have hAm : ∀ n,n∈A↔n∈x.free:=fun n=>by
    rw [hA,V8,hOm,hfr];exact ⟨fun h=>h.2,fun h=>⟨.inl h,h⟩⟩
   have hBm : ∀ n,n∈B↔n∈y.free∧n≠a:=fun n=>by
    rw [hB,V8,hOm,hfr,J8];simp;exact fun h1 h2=>.inr ⟨h1,h2⟩
   have hDm : ∀ n,n∈D↔n∈A∧n∈B:=fun n=>by
    rw [hD,V8,hBm,J8];simp
   have hAn : A.Nodup:=by rw [hA];exact hOn.sublist List.filter_sublist
   have hBn : B.Nodup:=by rw [hB];exact hOn.sublist List.filter_sublist
   have hDn : D.Nodup:=by rw [hD];exact hAn.sublist List.filter_sublist
   have hkn : ∀ n∈F,(lkA s1.ct n).isSome = true:=fun n hn=>known_of (by rw [hc1,if_pos hn];omega)
   obtain ⟨s2,o2,c2,t2,i2,k2,step⟩:=cnt8_lin D (.mk 6 0 a .empty [] [x.ow A,y.ow (B ++ [a])] []) o1 fun n hn=>by
    have : n∈F:=by rw [hDm,hAm] at hn;exact (hfr n).2 (.inl hn.1)
    unfold LS.there
    rw [hc1,if_pos this];rfl
   refine step ?_
   clear step
   have hun2 : ∀ n,n∈a :: (x.bd ++ y.bd)→lkA s2.ct n = none:=fun n hn=>by
    have h1:=k2 n
    have h2:=hun1 n hn
    rw [h2] at h1
    have h3 : n ∉ D:=fun h=>by
     rw [hDm,hAm] at h
     have:=hkn n ((hfr n).2 (.inl h.1))
     rw [h2] at this;simp at this
    simpa [h3] using h1
   have hc2 : ∀ m,s2.c m = (if m∈F then 1 else 0) + if m∈D then 1 else 0:=fun m=>by rw [c2,hc1,N8 hDn]
   obtain ⟨x1,x2,x3,x4,x5,x6,x7⟩:=st_all d x A hxR hPx
   have hask : ∀ n,lkA s2.ct n≠none→((x.ow A).Fx n = true↔n∈A):=fun n hk=>by
    unfold Tm.Fx
    rw [Bool.and_eq_true,Zx,x3]
    have hnb : n ∉ x.bd:=fun h=>hk (hun2 n (by simp [h]))
    refine ⟨fun ⟨h1,_⟩=>?_,fun h=>⟨x1 n (x4 n ((hAm n).1 h)),by rw [Mj.2 hnb];rfl⟩⟩
    rcases x2 n h1 with h | h | h
    ·rcases x5 n h with h | h
     ·exact (hAm n).2 h
     ·exact absurd h hnb
    ·exact h
    ·exact absurd h hnb
   have hcn : ∀ n,lkA s2.ct n = none→s2.c n = 0:=fun n h=>by unfold LS.c;rw [h];rfl
   have hAF : ∀ n∈A,n∈F:=fun n h=>(hfr n).2 (.inl ((hAm n).1 h))
   refine lin6_of (hun2 a (by simp)) ?_ ?_
   ·refine ih x A _ hxR hPx hbx (fun n hn=>?_) hAn (fun n h=>(hAm n).2 h) (LS.Mk o2 _) (fun n=>?_) ?_
    ·unfold LS.fst
     dsimp only
     rw [Hq (fun _ k=>Dk k),Z9,hun2 n (by simp [hn])]
     split <;> rfl
    ·rw [LS.fst_c]
     by_cases hk : lkA s2.ct n = none
     ·have h0:=hcn n hk
      rw [h0]
      have : n ∉ A:=fun h=>by
       have:=hc2 n
       rw [h0,if_pos (hAF n h)] at this
       split at this <;> omega
      rw [if_neg this]
      split <;> rfl
     ·by_cases h : n∈A
      ·rw [if_pos ((hask n hk).2 h),if_pos h,hc2,if_pos (hAF n h)]
       unfold Dk
       split <;> split <;> omega
      ·rw [if_neg (fun hh=>h ((hask n hk).1 hh)),if_neg h]
    ·unfold LS.fst
     dsimp only
     rw [t2,htk1];rfl
   ·refine ih y (B ++ [a]) _ hyR hPy hby (fun n hn=>?_) ?_ (fun n h=>?_) (LS.G9 (LS.N7 o2 _) a (by omega)) (fun n=>?_) ?_
    ·dsimp only
     have hne : a≠n:=fun e=>hna (by subst e;simp [hn])
     rw [X7,if_neg hne]
     unfold LS.rst
     dsimp only
     rw [Hq (fun k v=>if (x.ow A).Fx k then v - Dk v else v),hun2 n (by simp [hn])];rfl
    ·rw [List.nodup_append]
     refine ⟨hBn,by simp,fun u hu v hv=>?_⟩
     simp only [List.mem_singleton] at hv
     subst hv
     exact ((hBm u).1 hu).2
    ·by_cases e : n = a
     ·simp [e]
     ·simp only [List.mem_append];exact .inl ((hBm n).2 ⟨h,e⟩)
    ·rw [LS.O4]
     by_cases e : a = n
     ·subst e;rw [if_pos rfl,if_pos (by simp)]
     ·rw [if_neg e,LS.rst_c]
      have e' : n≠a:=fun h=>e h.symm
      have hmem : n∈B ++ [a]↔n∈B:=by simp [e']
      by_cases hk : lkA s2.ct n = none
      ·have h0:=hcn n hk
       have h1:=hc2 n
       rw [h0] at h1
       have : n ∉ B:=fun h=>by
        have : n∈F:=(hfr n).2 (.inr ((hBm n).1 h))
        rw [if_pos this] at h1
        split at h1 <;> omega
       rw [if_neg (fun hh=>this (hmem.1 hh)),h0]
       split <;> rfl
      ·have h1:=hc2 n
       by_cases hA' : n∈A
       ·rw [if_pos ((hask n hk).2 hA'),h1,if_pos (hAF n hA')]
        by_cases hB' : n∈B
        ·rw [if_pos ((hDm n).2 ⟨hA',hB'⟩),if_pos (hmem.2 hB')];rfl
        ·rw [if_neg (fun h=>hB' ((hDm n).1 h).2),if_neg (fun h=>hB' (hmem.1 h))];rfl
       ·rw [if_neg (fun h=>hA' ((hask n hk).1 h)),h1,if_neg (fun h=>hA' ((hDm n).1 h).1)]
        by_cases hB' : n∈B
        ·rw [if_pos ((hfr n).2 (.inr ((hBm n).1 hB'))),if_pos (hmem.2 hB')];rfl
        ·have : n ∉ F:=fun h=>by
          rcases (hfr n).1 h with h | h
          ·exact hA' ((hAm n).2 h)
          ·exact hB' ((hBm n).2 h)
         rw [if_neg this,if_neg (fun h=>hB' (hmem.1 h))];rfl
    ·show (s2.rst (x.ow A)).tk = []
     unfold LS.rst
     dsimp only
     rw [t2,htk1];rfl
  ·have hvar:=isL_var h6 hP1
   have hfx : ∀ n,(∃ x∈xs,n∈x.free)↔∃ x∈xs,x.nm = n:=fun n=>by
    refine ⟨fun ⟨x,h1,h2⟩=>⟨x,h1,?_⟩,fun ⟨x,h1,h2⟩=>⟨x,h1,?_⟩⟩
    ·rw [(rt_var (hx x h1) (hvar x h1)).2.1] at h2;exact (List.mem_singleton.1 h2).symm
    ·rw [(rt_var (hx x h1) (hvar x h1)).2.1];simp [h2]
   have hfr : ∀ n,n∈(Tm.mk k n0 a b vs xs cs).free↔(k = 1∧n = a)∨(∃ x∈xs,x.nm = n)∨∃ c∈cs,n∈c.Lj:=fun n=>by
    rw [Tm.free]
    by_cases e : k = 1
    ·subst e
     rw [if_pos rfl,rt_none hR' (.inl rfl),rt_nocs hR' (by omega)];simp
    ·rw [if_neg e,if_neg (by omega),if_neg (by omega),Qx3,mem_frees,hfx]
     simp [e]
   by_cases h7 : k = 7
   ·subst h7
    obtain ⟨x0,rfl,hx0⟩:=rt_one hR'
    have hx1:=hvar x0 (by simp)
    rw [if_neg (by omega),if_neg (by omega),if_pos rfl,owL_eq]
    have hnm : nmH [x0] = x0.nm:=rfl
    rw [hnm]
    generalize hF : (Tm.mk 7 n0 a b vs [x0] cs).free = F at *
    obtain ⟨O,hO⟩ : ∃ O,O = inN has F:=⟨_,rfl⟩
    rw [← hO]
    have hOm : ∀ n,n∈O↔n∈F:=fun n=>by
     rw [hO,V8];exact ⟨fun h=>h.2,fun h=>⟨hfree n h,h⟩⟩
    have hOn : O.Nodup:=by rw [hO];exact hhn.sublist List.filter_sublist
    have hnF : x0.nm∈F:=(hfr _).2 (.inr (.inl ⟨x0,by simp,rfl⟩))
    have hkn : ∀ n∈F,lkA s1.ct n≠none:=fun n hn h=>by
     have:=known_of (s:=s1) (n:=n) (by rw [hc1,if_pos hn];omega)
     rw [h] at this;simp at this
    have hbd' : (Tm.mk 7 n0 a b vs [x0] cs).bd = Cs.bdL cs:=by
     rw [Tm.bd,if_neg (by omega),Tm.bdL,Tm.bdL,(rt_var hx0 hx1).2.2.1];simp
    rw [hbd'] at hbd hun1
    refine lin7_of hx1 (by rw [hc1,if_pos hnF];omega) fun c hcm=>?_
    obtain ⟨c0,hc0,rfl⟩:=List.mem_map.1 hcm
    obtain ⟨tg,ws,y⟩:=c0
    have hyR : y.Rt d:=(hcR _ hc0).2
    have hyP:=cisL_all hP2 tg ws y hc0
    have hb1 : (ws ++ y.bd).Nodup:=by
     have : ∀ l : List Cs,(Cs.bdL l).Nodup→Cs.mk tg ws y∈l→(ws ++ y.bd).Nodup:=by
      intro l
      induction l with
      | nil=>intro _ h;cases h
      | cons c r ih2 =>
       intro h1 h2
       rw [Cs.bdL,List.nodup_append] at h1
       rcases List.mem_cons.1 h2 with e | h2
       ·subst e;exact h1.1
       ·exact ih2 h1.2.1 h2
     exact this cs hbd hc0
    have hb2 : ∀ n∈ws ++ y.bd,lkA s1.ct n = none:=fun n hn=>hun1 n (cbdL_mem.2 ⟨_,hc0,by rw [Cs.bd];exact hn⟩)
    rw [List.nodup_append] at hb1
    obtain ⟨hwn,hyn,hwy⟩:=hb1
    obtain ⟨e0,kd,ki⟩:=newL_of x0.nm ws hwn fun v hv=>hb2 v (by simp [hv])
    obtain ⟨q1,q2,q3⟩:=LS.M9 x0.nm ws o1 e0
    rw [Cs.ow,Cs.lin,if_neg (by simpa using e0)]
    generalize s1.Wq x0.nm ws = S at e0 kd ki q1 q2 q3
    obtain ⟨U,hU⟩ : ∃ U,U = inN ws y.free:=⟨_,rfl⟩
    rw [← hU]
    have hUm : ∀ n,n∈U↔n∈ws∧n∈y.free:=fun n=>by rw [hU,V8]
    have hUn : U.Nodup:=by rw [hU];exact hwn.sublist List.filter_sublist
    obtain ⟨s3,o3,c3,t3,i3,k3,step⟩:=cnt8_lin U (cnt 9 (if hasB y.free x0.nm then [] else [x0.nm]) (y.ow (if hasB y.free x0.nm then O ++ U else woN (O ++ U) [x0.nm]))) q1 fun n hn=>by
     unfold LS.there
     rw [ki,if_pos ((hUm n).1 hn).1]
     dsimp only
     rw [q2,q2,hc1,hc1,if_pos hnF];simp
    refine step ?_
    clear step
    have hUF : ∀ n∈U,n ∉ F:=fun n h hf=>hkn n hf (hb2 n (by simp [((hUm n).1 h).1]))
    have hc3 : ∀ m,s3.c m = if m∈O ++ U then 1 else 0:=fun m=>by
     rw [c3,q2,hc1,N8 hUn]
     by_cases h1 : m∈F
     ·rw [if_pos h1,if_neg (fun h=>hUF m h h1),if_pos (by simp [hOm,h1])];rfl
     ·rw [if_neg h1]
      by_cases h2 : m∈U
      ·rw [if_pos h2,if_pos (by simp [h2])];rfl
      ·rw [if_neg h2,if_neg (by simp [hOm,h1,h2])];rfl
    have hOU : (O ++ U).Nodup:=by
     rw [List.nodup_append]
     exact ⟨hOn,hUn,fun u hu v hv e=>hUF v hv (by rw [← e];exact (hOm u).1 hu)⟩
    have hun3 : ∀ n∈y.bd,lkA s3.ct n = none:=fun n hn=>by
     have h1:=k3 n
     rw [kd,hb2 n (by simp [hn])] at h1
     have hw : n ∉ ws:=fun h=>hwy n h n hn rfl
     have hu : n ∉ U:=fun h=>hw ((hUm n).1 h).1
     simpa [hw,hu] using h1
    have hfy : ∀ n∈y.free,n∈O ++ U:=fun n hn=>by
     by_cases hw : n∈ws
     ·simp only [List.mem_append];exact .inr ((hUm n).2 ⟨hw,hn⟩)
     ·simp only [List.mem_append]
      exact .inl ((hOm n).2 ((hfr n).2 (.inr (.inr ⟨_,hc0,by rw [Cs.Lj,J8];exact ⟨hn,hw⟩⟩))))
    have ht3 : s3.tk = []:=by rw [t3,q3,htk1]
    by_cases hb : hasB y.free x0.nm = true
    ·rw [if_pos hb,if_pos hb]
     show (y.ow (O ++ U)).lin s3 = 0
     exact ih y (O ++ U) s3 hyR hyP hyn hun3 hOU hfy o3 hc3 ht3
    ·rw [if_neg hb,if_neg hb]
     have hnf : x0.nm ∉ y.free:=fun h=>hb (Zx.2 h)
     obtain ⟨s4,o4,c4,t4,i4,k4,step⟩:=cnt9_lin [x0.nm] (y.ow (woN (O ++ U) [x0.nm])) o3 (by simp) fun n hn=>by
      simp only [List.mem_singleton] at hn
      subst hn
      rw [hc3,if_pos (by simp [hOm,hnF])];omega
     refine step (ih y _ s4 hyR hyP hyn (fun n hn=>?_) (hOU.sublist List.filter_sublist) (fun n hn=>?_) o4 (fun n=>?_) (t4.trans ht3))
     ·have:=k4 n
      rw [hun3 n hn] at this
      simpa using this
     ·exact J8.2 ⟨hfy n hn,by simp;exact fun e=>hnf (by rw [← e];exact hn)⟩
     ·rw [c4,hc3]
      by_cases e : n = x0.nm
      ·subst e
       rw [if_pos (by simp),if_pos (by simp [hOm,hnF]),if_neg (fun h=>(J8.1 h).2 (by simp))];rfl
      ·rw [if_neg (by simp [e])]
       by_cases h : n∈O ++ U
       ·rw [if_pos h,if_pos (J8.2 ⟨h,by simp [e]⟩)]
       ·rw [if_neg h,if_neg (fun hh=>h (J8.1 hh).1)]
   ·have hcs:=rt_nocs hR' h7
    subst hcs
    rw [if_neg h6,if_neg h7]
    by_cases h3 : k = 3∨k = 4∨k = 5
    ·rw [if_pos h3]
     have hF : ∀ n,n∈(Tm.mk k n0 a b vs xs []).free↔∃ x∈xs,x.nm = n:=fun n=>by
      rw [hfr]
      refine ⟨fun h=>?_,fun h=>.inr (.inl h)⟩
      rcases h with h | h | ⟨c,h,_⟩
      ·omega
      ·exact h
      ·cases h
     obtain ⟨s2,o2,c2,t2,i2,k2,step⟩:=cnt8_lin (R3 [] xs) (.mk k n0 a b vs xs []) o1 fun n hn=>by
      unfold LS.there
      rw [hc1,if_pos ((hF n).2 (Av xs [] n hn))];rfl
     refine step ?_
     have hc2 : ∀ m,s2.c m = occ xs m:=fun m=>by
      rw [c2,hc1,moreN_occ]
      by_cases h : ∃ x∈xs,x.nm = m
      ·rw [if_pos ((hF m).2 h),if_pos ⟨by simp,h⟩];omega
      ·rw [if_neg (fun hh=>h ((hF m).1 hh)),if_neg (fun hh=>h hh.2),occ_zero h];rfl
     have hu:=useL_of xs o2 hvar fun m=>by rw [hc2];exact Int.le_refl _
     obtain ⟨g1,g2,g3⟩:=LS.useL_ok xs o2 hu
     rw [O9 h3,hu]
     unfold LS.Nj
     rw [left_of g1 (fun m=>by rw [g2,hc2];omega) (by rw [g3,t2,htk1])]
     simp
    ·rw [if_neg h3]
     have h12 : k = 1∨k = 2:=by omega
     have hxs:=rt_none hR' h12
     subst hxs
     rcases h12 with rfl | rfl
     ·have hF : ∀ n,n∈(Tm.mk 1 n0 a b vs [] []).free↔n = a:=fun n=>by rw [hfr];simp
      have hu:=use_of (s:=s1) (n:=a) (by rw [hc1,if_pos ((hF a).2 rfl)];omega)
      obtain ⟨g1,g2,g3,-⟩:=LS.Vw o1 hu
      rw [lin1,hu]
      unfold LS.Nj
      rw [left_of g1 (fun m=>by
       rw [g2,hc1]
       by_cases e : a = m
       ·subst e;rw [if_pos rfl,if_pos ((hF a).2 rfl)];rfl
       ·rw [if_neg e,if_neg (fun h=>e ((hF m).1 h).symm)]) (by rw [g3,htk1])]
      simp
     ·have hF : ∀ n,n ∉ (Tm.mk 2 n0 a b vs [] []).free:=fun n=>by rw [hfr];simp
      rw [lin2]
      unfold LS.Nj
      rw [left_of o1 (fun m=>by rw [hc1,if_neg (hF m)]) htk1]
      simp
end Go.Proofs.YtjpldhjgehoffaaDoor
namespace Go.Proofs.YtjpldhjgehoffaaDoor
open Go.RowKit
set_option linter.unusedVariables false
set_option linter.unusedSimpArgs false
structure LS.Sim (s s' : LS) : Prop where
 c : ∀ n,lkA s.ct n = lkA s'.ct n
 i : ∀ n,lkA s.inn n = lkA s'.inn n
 t : ∀ b,lkA s.tk b = lkA s'.tk b
theorem LS.Sim.rfl' (s : LS) : s.Sim s:=⟨fun _=>rfl,fun _=>rfl,fun _=>rfl⟩
theorem LS.Sim.cc {s s' : LS} (h : s.Sim s') (n : ByteArray) : s.c n = s'.c n:=by unfold LS.c;rw [h.c]
theorem left_iff {s : LS} (h : s.Ok) : s.left = true↔(∃ n k,lkA s.ct n = some k∧0 < k)∨∃ b k,lkA s.tk b = some k:=by
 unfold LS.left
 rw [Bool.or_eq_true,List.any_eq_true]
 refine or_congr ⟨fun ⟨p,h1,h2⟩=>⟨p.1,p.2,mem_lk h.kc h1,by simpa using h2⟩,fun ⟨n,k,h1,h2⟩=>⟨(n,k),lk_mem h1,by simpa using h2⟩⟩ ⟨fun h1=>?_,fun ⟨b,k,h1⟩=>?_⟩
 ·cases ht : s.tk with
  | nil=>rw [ht] at h1;simp at h1
  | cons p r=>exact ⟨p.1,p.2,by obtain ⟨x,y⟩:=p;rw [lkA,if_pos rfl]⟩
 ·cases ht : s.tk with
  | nil=>rw [ht] at h1;simp [lkA] at h1
  | cons p r=>simp
theorem LS.Sim.left {s s' : LS} (h : s.Sim s') (hs : s.Ok) (hs' : s'.Ok) : s.left = s'.left:=by
 rw [Bool.eq_iff_iff,left_iff hs,left_iff hs']
 simp only [h.c,h.t]
theorem LS.Sim.Nj {s s' : LS} (h : s.Sim s') (hs : s.Ok) (hs' : s'.Ok) (e : Int) : s.Nj e = s'.Nj e:=by
 unfold LS.Nj
 rw [h.left hs hs']
theorem LS.Sim.use {s s' : LS} (h : s.Sim s') (n : ByteArray) : (s.Yj n).1 = (s'.Yj n).1∧(s.Yj n).2.Sim (s'.Yj n).2:=by
 unfold LS.Yj
 rw [h.c n]
 cases lkA s'.ct n with
 | none=>exact ⟨rfl,h⟩
 | some k =>
  dsimp only
  split
  ·exact ⟨rfl,h⟩
  ·exact ⟨rfl,⟨fun m=>by dsimp only;rw [X7,X7,h.c],h.i,h.t⟩⟩
theorem LS.Sim.Vv : ∀ (xs : List Tm) {s s' : LS},s.Sim s'→(s.Vv xs).1 = (s'.Vv xs).1∧(s.Vv xs).2.Sim (s'.Vv xs).2
 | [],s,s',h=>⟨rfl,h⟩
 | x :: r,s,s',h=>by
  obtain ⟨h1,h2⟩:=h.use x.nm
  rw [LS.Vv,LS.Vv]
  split
  ·exact ⟨rfl,h⟩
  ·rw [h1]
   split
   ·exact ⟨h1,h2⟩
   ·exact LS.Sim.Vv r h2
theorem E5 {s : LS} (h : s.Ok) (n : ByteArray) : (s.Yj n).2.Ok:=by
 by_cases h0 : (s.Yj n).1 = 0
 ·exact (LS.Vw h h0).1
 ·unfold LS.Yj at h0 ⊢
  cases hk : lkA s.ct n with
  | none=>exact h
  | some k =>
   rw [hk] at h0
   dsimp only at h0 ⊢
   by_cases h1 : k < 1
   ·rw [if_pos h1];exact h
   ·rw [if_neg h1] at h0;exact absurd rfl h0
theorem Az : ∀ (xs : List Tm) {s : LS},s.Ok→(s.Vv xs).2.Ok
 | [],s,h=>h
 | x :: r,s,h=>by
  rw [LS.Vv]
  split
  ·exact h
  ·split
   ·exact E5 h _
   ·exact Az r (E5 h _)
theorem LS.Sim.inc {s s' : LS} (h : s.Sim s') (n : ByteArray) : (s.inc n).Sim (s'.inc n) :=
 ⟨fun m=>by unfold LS.inc;dsimp only;rw [X7,X7,h.c,h.cc],h.i,h.t⟩
theorem LS.Sim.Kj (nm : ByteArray) : ∀ (vs : List ByteArray) {s s' : LS},s.Sim s'→(s.Kj nm vs).1 = (s'.Kj nm vs).1∧(s.Kj nm vs).2.Sim (s'.Kj nm vs).2
 | [],s,s',h=>⟨rfl,h⟩
 | v :: r,s,s',h=>by
  rw [LS.Kj,LS.Kj,h.i]
  split
  ·exact ⟨rfl,h⟩
  ·exact LS.Sim.Kj nm r (h.inc v)
theorem Qq3 (nm : ByteArray) : ∀ (vs : List ByteArray) {s : LS},s.Ok→(s.Kj nm vs).2.Ok
 | [],s,h=>h
 | v :: r,s,h=>by
  rw [LS.Kj]
  split
  ·exact h
  ·exact Qq3 nm r (LS.F7 h v).1
theorem LS.Sim.Xv {s s' : LS} (h : s.Sim s') (nm : ByteArray) (vs : List ByteArray) : (s.Xv nm vs).1 = (s'.Xv nm vs).1∧(s.Xv nm vs).2.Sim (s'.Xv nm vs).2:=by
 obtain ⟨h1,h2⟩:=LS.Sim.Kj nm vs h
 unfold LS.Xv
 rw [h1]
 split
 ·exact ⟨h1,h2⟩
 ·exact h2.use nm
theorem Dj {s : LS} (h : s.Ok) (nm : ByteArray) (vs : List ByteArray) : (s.Xv nm vs).2.Ok:=by
 unfold LS.Xv
 split
 ·exact Qq3 nm vs h
 ·exact E5 (Qq3 nm vs h) nm
theorem LS.Sim.Wq (nm : ByteArray) : ∀ (vs : List ByteArray) {s s' : LS},s.Sim s'→(s.Wq nm vs).1 = (s'.Wq nm vs).1∧(s.Wq nm vs).2.Sim (s'.Wq nm vs).2
 | [],s,s',h=>⟨rfl,h⟩
 | v :: r,s,s',h=>by
  rw [LS.Wq,LS.Wq,h.c]
  split
  ·exact ⟨rfl,h⟩
  ·exact LS.Sim.Wq nm r ⟨fun m=>by dsimp only;rw [X7,X7,h.c],fun m=>by dsimp only;rw [X7,X7,h.i],h.t⟩
theorem LS.Sim.there {s s' : LS} (h : s.Sim s') (n : ByteArray) : s.there n = s'.there n:=by
 unfold LS.there
 rw [h.cc,h.i]
 cases lkA s'.inn n with
 | none=>rfl
 | some up=>dsimp only;rw [h.cc]
theorem LS.Sim.fst {s s' : LS} (h : s.Sim s') (t : Tm) : (s.fst t).Sim (s'.fst t):=by
 unfold LS.fst
 refine ⟨fun n=>?_,h.i,fun b=>?_⟩
 ·dsimp only
  rw [Hq (fun _ k=>Dk k),Hq (fun _ k=>Dk k),Z9,Z9,h.c]
 ·dsimp only
  rw [Z9,Z9,h.t]
theorem LS.Sim.rst {s s' : LS} (h : s.Sim s') (t : Tm) (a : ByteArray) : ({ s.rst t with ct:=X5 (s.rst t).ct a 1 } : LS).Sim { s'.rst t with ct:=X5 (s'.rst t).ct a 1 }:=by
 unfold LS.rst
 refine ⟨fun n=>?_,h.i,fun b=>?_⟩
 ·dsimp only
  rw [X7,X7,Hq (fun k v=>if t.Fx k then v - Dk v else v),Hq (fun k v=>if t.Fx k then v - Dk v else v),h.c]
 ·dsimp only
  rw [Z9 (fun k=>!t.U7 k),Z9 (fun k=>!t.U7 k),h.t]
theorem Cv : ∀ (N : Nat) (t : Tm),t.sz≤N→∀ s s' : LS,s.Ok→s'.Ok→s.Sim s'→t.lin s = 0→t.lin s' = 0:=by
 intro N
 induction N with
 | zero=>intro t h;have:=t.F8;omega
 | succ N ih =>
  intro t hN s s' hs hs' he h
  obtain ⟨k,n,a,b,vs,xs,cs⟩:=t
  rw [Tm.sz] at hN
  rcases I5 h with rfl | rfl | hk | rfl | rfl | rfl | hk
  ·obtain ⟨h1,h2⟩:=he.use a
   rw [lin1] at h ⊢
   rw [← h1,← h2.Nj (E5 hs a) (E5 hs' a)];exact h
  ·rw [lin2] at h ⊢
   rw [← he.Nj hs hs'];exact h
  ·obtain ⟨h1,h2⟩:=LS.Sim.Vv xs he
   rw [O9 hk] at h ⊢
   rw [← h1,← h2.Nj (Az xs hs) (Az xs hs')];exact h
  ·obtain ⟨h1,h2⟩:=lin12 h
   have he' : ({ s with tk:=Wz s.tk b } : LS).Sim { s' with tk:=Wz s'.tk b }:=⟨he.c,he.i,fun d=>by dsimp only;rw [Hz,Hz,he.t]⟩
   obtain ⟨h3,h4⟩:=LS.Sim.Vv xs he'
   rw [Tm.lin,if_neg (by omega),if_neg (by omega),if_neg (by omega),if_pos rfl,if_neg (by rw [← he.t,h1];simp)]
   rw [← h3,← h4.Nj (Az xs (LS.Rz hs (hs.kt.filter _))) (Az xs (LS.Rz hs' (hs'.kt.filter _)))]
   exact h2
  ·obtain ⟨x,y,rfl,h1,h2,h3⟩:=lin6 h
   simp only [Tm.szs] at hN
   have hxs:=x.F8
   have hys:=y.F8
   exact lin6_of (by rw [← he.c];exact h1) (ih x (by omega) _ _ (LS.Mk hs x) (LS.Mk hs' x) (he.fst x) h2) (ih y (by omega) _ _ (LS.G9 (LS.N7 hs x) a (by omega)) (LS.G9 (LS.N7 hs' x) a (by omega)) (he.rst x a) h3)
  ·obtain ⟨x,rfl,hx,h1,h2⟩:=lin7 h
   refine lin7_of hx (by rw [← he.cc];exact h1) fun c hc=>?_
   obtain ⟨tg,ws,y⟩:=c
   obtain ⟨g1,g2⟩:=P5 (h2 _ hc)
   obtain ⟨k1,k2⟩:=LS.Sim.Wq x.nm ws he
   have hyN : y.sz≤N:=by
    have : (Cs.mk tg ws y).sz≤Cs.szs cs:=Cs.Z4 hc
    rw [Cs.sz] at this
    omega
   rw [Cs.lin,if_neg (by rw [← k1];simpa using g1)]
   exact ih y hyN _ _ (LS.M9 _ ws hs g1).1 (LS.M9 _ ws hs' (by rw [← k1];exact g1)).1 k2 g2
  ·obtain ⟨x,rfl,p8,p9,p13,p10,p11⟩:=linS hk h
   have hxN : x.sz≤N:=by
    simp only [Tm.szs] at hN
    omega
   rw [Tm.lin,if_neg (by omega),if_neg (by omega),if_neg (by omega),if_neg (by omega),if_neg (by omega),if_neg (by omega),if_pos hk,if_neg (by simp)]
   rcases hk with rfl | rfl | rfl | rfl | rfl
   ·obtain ⟨g0,g⟩:=p8 rfl
    rw [if_pos rfl,if_pos (by rw [← he.there];exact g0)]
    exact Kq (ih x hxN _ _ (LS.F7 hs a).1 (LS.F7 hs' a).1 (he.inc a) g)
   ·obtain ⟨g0,g⟩:=p9 rfl
    obtain ⟨k1,k2⟩:=he.use a
    rw [if_neg (by omega),if_pos rfl,if_neg (by rw [← k1];simpa using g0)]
    exact Kq (ih x hxN _ _ (E5 hs a) (E5 hs' a) k2 g)
   ·obtain ⟨g0,g⟩:=p10 rfl
    obtain ⟨k1,k2⟩:=he.Xv a vs
    rw [if_neg (by omega),if_neg (by omega),if_neg (by omega),if_neg (by rw [← k1];simpa using g0),if_neg (by omega)]
    exact Kq (ih x hxN _ _ (Dj hs a vs) (Dj hs' a vs) k2 g)
   ·obtain ⟨g0,gn,gb,g⟩:=p11 rfl
    obtain ⟨k1,k2⟩:=he.Xv a vs
    rw [if_neg (by omega),if_neg (by omega),if_neg (by omega),if_neg (by rw [← k1];simpa using g0),if_pos rfl,if_neg (by rw [← he.t,gn];simp [gb])]
    refine Kq (ih x hxN _ _ (LS.Rz (Dj hs a vs) ((Dj hs a vs).kt.put _ _)) (LS.Rz (Dj hs' a vs) ((Dj hs' a vs).kt.put _ _)) ⟨k2.c,k2.i,fun d=>?_⟩ g)
    dsimp only
    rw [X7,X7,k2.t]
   ·obtain ⟨g0,g⟩:=p13 rfl
    rw [if_neg (by omega),if_neg (by omega),if_pos rfl,if_pos (by rw [← he.t];exact g0)]
    exact Kq (ih x hxN _ _ (LS.Rz hs (hs.kt.filter _)) (LS.Rz hs' (hs'.kt.filter _)) ⟨he.c,he.i,fun d=>(show lkA (Wz s.tk b) d = lkA (Wz s'.tk b) d by rw [Hz,Hz,he.t])⟩ g)
end Go.Proofs.YtjpldhjgehoffaaDoor
