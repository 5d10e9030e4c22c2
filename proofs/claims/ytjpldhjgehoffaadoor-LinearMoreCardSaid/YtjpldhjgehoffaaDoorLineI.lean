import Derived.Test.YtjpldhjgehoffaaDoorLinT
import Derived.Test.YtjpldhjgehoffaaDoorReuV
import Derived.Test.YtjpldhjgehoffaaDoorLinF
import Derived.Test.YtjpldhjgehoffaaDoorPlainW
namespace Go.Proofs.YtjpldhjgehoffaaDoor
open Classical Go.RowKit
set_option linter.unusedVariables false
set_option linter.unusedSimpArgs false
mutual
def Tm.nc : Tm→Nat
 | .mk k n a b vs xs cs=>Tm.ncL xs + Cs.ncL cs
def Tm.ncL : List Tm→Nat
 | []=>0
 | x :: r=>x.nc + Tm.ncL r
def Cs.ncL : List Cs→Nat
 | []=>0
 | c :: r=>c.nc + Cs.ncL r
def Cs.nc : Cs→Nat
 | .mk t ws y=>1 + y.nc
end
mutual
theorem Tm.nc_sz : ∀ t : Tm,t.nc + 1≤t.sz
 | .mk k n a b vs xs cs=>by
  have h1:=Tm.ncL_sz xs
  have h2:=Cs.ncL_sz cs
  rw [Tm.nc,Tm.sz];omega
theorem Tm.ncL_sz : ∀ l : List Tm,Tm.ncL l≤Tm.szs l
 | []=>Nat.le_refl _
 | x :: r=>by
  have h1:=Tm.nc_sz x
  have h2:=Tm.ncL_sz r
  rw [Tm.ncL,Tm.szs];omega
theorem Cs.ncL_sz : ∀ l : List Cs,Cs.ncL l≤Cs.szs l
 | []=>Nat.le_refl _
 | c :: r=>by
  have h1:=Cs.nc_sz c
  have h2:=Cs.ncL_sz r
  rw [Cs.ncL,Cs.szs];omega
theorem Cs.nc_sz : ∀ c : Cs,c.nc≤c.sz
 | .mk t ws y=>by
  have h1:=Tm.nc_sz y
  rw [Cs.nc,Cs.sz];omega
end
theorem S9 {k : Int} (hk : k = 8∨k = 9) : ∀ (l : List ByteArray) (t : Tm),(cnt k l t).nt = t.nt∧(cnt k l t).nc = t.nc
 | [],_=>⟨rfl,rfl⟩
 | s :: r,t=>by
  obtain ⟨h1,h2⟩:=S9 hk r t
  refine ⟨?_,?_⟩
  ·rw [cnt,Tm.nt,if_neg (by omega),Tm.ntL,Tm.ntL,Cs.ntL,h1];omega
  ·rw [cnt,Tm.nc,Tm.ncL,Tm.ncL,Cs.ncL,h2];omega
theorem rt_nt : ∀ (d : Nat) (t : Tm) (has : List ByteArray),t.Rt d→t.nt = 0∧(t.ow has).nt = 0∧(t.ow has).nc = t.nc:=by
 intro d
 induction d with
 | zero=>intro t _ h;exact h.elim
 | succ d ih =>
  intro t has hR
  obtain ⟨k,n0,a,b,vs,xs,cs⟩:=t
  have hR':=hR
  obtain ⟨hk,-,-,hx,hc⟩:=hR
  have hX : ∀ l : List Tm,(∀ x∈l,x∈xs)→Tm.ntL l = 0:=by
   intro l
   induction l with
   | nil=>intro _;rfl
   | cons x r ih2 =>
    intro hm
    rw [Tm.ntL,(ih x [] (hx x (hm x (by simp)))).1,ih2 fun z hz=>hm z (by simp [hz])]
  have hC : ∀ l : List Cs,(∀ x∈l,x∈cs)→Cs.ntL l = 0:=by
   intro l
   induction l with
   | nil=>intro _;rfl
   | cons c r ih2 =>
    intro hm
    have hcc:=(hc c (hm c (by simp))).2
    obtain ⟨t,ws,y⟩:=c
    rw [Cs.ntL,Cs.nt,(ih y [] hcc).1,ih2 fun z hz=>hm z (by simp [hz])]
  have hself : (Tm.mk k n0 a b vs xs cs).nt = 0:=by rw [Tm.nt,if_neg (by omega),hX xs fun _ h=>h,hC cs fun _ h=>h]
  refine ⟨hself,?_⟩
  rw [Tm.ow,(S9 (.inr rfl) _ _).1,(S9 (.inr rfl) _ _).2]
  split
  ·rw [(S9 (.inl rfl) _ _).1,(S9 (.inl rfl) _ _).2];exact ⟨hself,rfl⟩
  split
  ·rename_i h6
   subst h6
   obtain ⟨x,y,rfl,rfl,hxR,hyR⟩:=rt_two hR'
   generalize inN has (Tm.mk 6 n0 a b vs [x,y] []).free = O
   rw [(S9 (.inl rfl) _ _).1,(S9 (.inl rfl) _ _).2,letH,Tm.owZ,Tm.owZ,Tm.owZ]
   simp only [List.headD_cons,List.tail_cons]
   obtain ⟨-,x1,x2⟩:=ih x (inN O x.free) hxR
   obtain ⟨-,y1,y2⟩:=ih y (inN O (woN y.free [a]) ++ [a]) hyR
   refine ⟨?_,?_⟩
   ·rw [Tm.nt,if_neg (by omega),Tm.ntL,Tm.ntL,Tm.ntL,Cs.ntL,x1,y1]
   ·rw [Tm.nc,Tm.nc,Tm.ncL,Tm.ncL,Tm.ncL,Cs.ncL,Tm.ncL,Tm.ncL,Tm.ncL,x2,y2]
  split
  ·rename_i h7
   subst h7
   generalize inN has (Tm.mk 7 n0 a b vs xs cs).free = O
   have hD : ∀ l : List Cs,(∀ x∈l,x∈cs)→Cs.ntL (Cs.owL l O (nmH xs)) = 0∧Cs.ncL (Cs.owL l O (nmH xs)) = Cs.ncL l:=by
    intro l
    induction l with
    | nil=>intro _;exact ⟨rfl,rfl⟩
    | cons c r ih2 =>
     intro hm
     have hcc:=(hc c (hm c (by simp))).2
     obtain ⟨e1,e2⟩:=ih2 fun z hz=>hm z (by simp [hz])
     obtain ⟨t,ws,y⟩:=c
     obtain ⟨-,y1,y2⟩:=ih y (if hasB y.free (nmH xs) then O ++ inN ws y.free else woN (O ++ inN ws y.free) [nmH xs]) hcc
     rw [Cs.owL,Cs.ow,Cs.ntL,Cs.nt,Cs.ncL,Cs.nc,Cs.ncL,Cs.nc,(S9 (.inl rfl) _ _).1,(S9 (.inl rfl) _ _).2,(S9 (.inr rfl) _ _).1,(S9 (.inr rfl) _ _).2,y1,y2,e1,e2]
     exact ⟨rfl,rfl⟩
   obtain ⟨e1,e2⟩:=hD cs fun _ h=>h
   refine ⟨?_,?_⟩
   ·rw [Tm.nt,if_neg (by omega),hX xs fun _ h=>h,e1]
   ·rw [Tm.nc,Tm.nc,e2]
  ·exact ⟨hself,rfl⟩
theorem sr_nt : ∀ (N : Nat) (t : Tm) (rest : List ByteArray),t.sz≤N→t.S1→(t.sr rest).2.nt = t.nt:=by
 intro N
 induction N with
 | zero=>intro t _ h;have:=t.F8;omega
 | succ N ih =>
  intro t rest hN hS
  obtain ⟨k,n,a,b,vs,xs,cs⟩:=t
  rw [Tm.sr]
  by_cases hc : k = 8∧hasB rest a = true
  ·rw [if_pos hc]
   obtain ⟨⟨x,rfl⟩,rfl⟩:=hS.1 (.inl hc.1)
   obtain ⟨rfl,-⟩:=hc
   rw [Tm.srL]
   have hxN : x.sz≤N:=by
    rw [Tm.sz] at hN
    simp only [Tm.szs] at hN
    omega
   rw [ih x _ hxN hS.2.1.1,Tm.nt,if_neg (by omega),Tm.ntL,Tm.ntL,Cs.ntL];omega
  ·rw [if_neg hc]
theorem fuOne_nt {k : Int} {na : Nat} {nm : ByteArray} {ws : List ByteArray} {y : Tm} (hS : y.S1) : (G7 k na nm ws y).nt≤y.nt + 1:=by
 unfold G7
 split
 ·rename_i hcond
  obtain ⟨-,-,-,h9,hnm⟩:=hcond
  have h1:=sr_nt y.sz y ws (Nat.le_refl _) hS
  obtain ⟨used,u1,-⟩:=sr_all y.sz y ws (Nat.le_refl _) hS
  generalize y.sr ws = Z at *
  obtain ⟨rest,z⟩:=Z
  dsimp only at *
  obtain ⟨k,n,a,b,vs,xs,cs⟩:=z
  rw [Tm.tk] at h9
  subst h9
  obtain ⟨⟨x,rfl⟩,rfl⟩:=u1.1 (.inr (.inl rfl))
  have ha0 : (Tm.mk 9 n a b vs [x] []).a0 = x:=rfl
  rw [ha0,← h1,Tm.nt,Tm.nt,if_pos rfl,if_neg (by omega),Tm.ntL,Tm.ntL,Tm.ntL,Tm.ntL,(S9 (.inr rfl) _ _).1]
  omega
 ·omega
theorem fu_nt : ∀ (N : Nat) (t : Tm),t.sz≤N→t.S1→t.fu.nt≤t.nt + t.nc:=by
 intro N
 induction N with
 | zero=>intro t h;have:=t.F8;omega
 | succ N ih =>
  intro t hN hS
  obtain ⟨k,n,a,b,vs,xs,cs⟩:=t
  rw [Tm.sz] at hN
  have hX : ∀ l : List Tm,(∀ x∈l,x∈xs)→Tm.ntL (Tm.fuL l)≤Tm.ntL l + Tm.ncL l:=by
   intro l
   induction l with
   | nil=>intro _;exact Nat.le_refl _
   | cons x r ih2 =>
    intro hm
    have hx:=hm x (by simp)
    have h1:=ih x (by have:=Tm.Z4 hx;omega) (Qk0.1 hS.2.1 x hx)
    have h2:=ih2 fun z hz=>hm z (by simp [hz])
    rw [Tm.fuL,Tm.ntL,Tm.ntL,Tm.ncL];omega
  have hC : ∀ l : List Cs,(∀ x∈l,x∈cs)→Cs.ntL (Cs.fuL k xs.length (nmH xs) l)≤Cs.ntL l + Cs.ncL l:=by
   intro l
   induction l with
   | nil=>intro _;exact Nat.le_refl _
   | cons c r ih2 =>
    intro hm
    have hc:=hm c (by simp)
    have h2:=ih2 fun z hz=>hm z (by simp [hz])
    obtain ⟨t,ws,y⟩:=c
    have hs : (Cs.mk t ws y).sz≤Cs.szs cs:=Cs.Z4 hc
    rw [Cs.sz] at hs
    have hy:=P8.1 hS.2.2 _ hc
    have h1:=ih y (by omega) hy
    have h3:=fuOne_nt (k:=k) (na:=xs.length) (nm:=nmH xs) (ws:=ws) (fu_st y.sz y (Nat.le_refl _) hy).1
    rw [Cs.fuL,Cs.ntL,Cs.ntL,Cs.ncL,Cs.fu,Cs.nt,Cs.nt,Cs.nc];omega
  have h1:=hX xs fun _ h=>h
  have h2:=hC cs fun _ h=>h
  rw [Tm.fu,Tm.nt,Tm.nt,Tm.nc]
  omega
structure Lv (f : Fn) : Prop where
 lin : f.lin = 0
 shp : Shp f.body
 st : f.body.stT = []
 nt : f.body.nt≤1048576
 nd : f.params.Nodup
 nx : ∀ p∈f.params,NoX p
abbrev lin0 (f : Fn) : LS:=⟨f.params.map fun p=>(p,1),[],[]⟩
theorem lin0_lk (l : List ByteArray) (n : ByteArray) : lkA (l.map fun p=>(p,(1 : Int))) n = if n∈l then some 1 else none:=by
 induction l with
 | nil=>simp [lkA]
 | cons p r ih =>
  rw [List.map_cons,lkA,ih]
  by_cases e : p = n
  ·subst e;rw [if_pos rfl,if_pos (by simp)]
  ·rw [if_neg e]
   have e' : n≠p:=fun h=>e h.symm
   simp [e']
theorem lin0_ok {f : Fn} (h : f.params.Nodup) : (lin0 f).Ok:=by
 refine ⟨?_,KN.nil,fun n=>?_⟩
 ·unfold KN
  rw [List.map_map]
  have : ((fun x : ByteArray×Int=>x.1) ∘ fun p : ByteArray=>(p,(1 : Int))) = id:=rfl
  rw [this,List.map_id]
  exact h
 ·unfold LS.c
  dsimp only
  rw [lin0_lk]
  split <;> simp
theorem Fn.Qx5 {f : Fn} (h : f.params.Nodup) : f.lin = f.body.lin (lin0 f):=by
 unfold Fn.lin
 rw [if_pos h]
def Fn.ru (f : Fn) : Fn:=⟨f.name,f.params,(f.body.ru f.body.dp 0).1⟩
def mk2 (l : List Fn) : List Fn:=(mk1 l).map Fn.ru
theorem lv0 {l : List Fn} (hl : Gv l) (hc : Y8 l = 0) : ∀ f∈mk0 l,Lv f∧f.body.nc≤1048576:=fun f hf=>by
 unfold mk0 at hf
 obtain ⟨g,hg,rfl⟩:=List.mem_map.1 hf
 have hPt:=Bj hl hc g hg
 obtain ⟨x,hx,rfl⟩:=List.mem_map.1 hg
 have hR:=(Qj6 hc).2.2.2 x hx
 have hr:=(Tx hl hc x hx).2.1
 have hbd:=hR.pl_bd hr
 have hfree:=hR.pl_free hr
 obtain ⟨-,hrt,hisP⟩:=pl_body hl hc x.pl hg
 have hRr:=hR.rn hr
 have hw:=pl_wrong _ 25 x.rn.body x.rn.params x.rn.params 0 0 (-151) (x.rn_rt hr) hRr.wrong (fun _ h=>h) (by omega) (by have:=hRr.sz;omega) (by omega)
 have hpx : ∀ p∈x.pl.params,NoX p:=fun p hp=>nameB_noX (badB_no hRr.bad p hp)
 obtain ⟨hS,hT⟩:=wrong_shp _ _ x.pl.body x.pl.params (-151) (Nat.lt_succ_self _) hw hpx
 unfold Fn.bd at hbd
 rw [List.nodup_append] at hbd
 obtain ⟨n1,n2,n3⟩:=hbd
 have hlin : (x.pl.body.ow x.pl.params).lin (lin0 x.pl.ow) = 0:=by
  refine ow_lin 175 x.pl.body x.pl.params _ hrt hisP n2 (fun n hn=>?_) n1 hfree (lin0_ok (f:=x.pl.ow) n1) (fun n=>?_) rfl
  ·show lkA (x.pl.params.map fun p=>(p,(1 : Int))) n = none
   rw [lin0_lk,if_neg (fun h=>n3 n h n hn rfl)]
  ·unfold LS.c
   show (lkA (x.pl.params.map fun p=>(p,(1 : Int))) n).getD 0 = _
   rw [lin0_lk]
   split <;> rfl
 have hsz : x.pl.body.sz≤1048576:=by
  have hF:=hPt.fit
  generalize x.pl.body = z at hF ⊢
  obtain ⟨k,n,a,b,vs,xs,cs⟩:=z
  have:=sz_all hF
  rw [Tm.sz];exact this
 obtain ⟨-,e1,e2⟩:=rt_nt 175 x.pl.body x.pl.params hrt
 have hnc:=x.pl.body.nc_sz
 refine ⟨⟨?_,ow_shp 175 _ _ hrt hisP hS hpx,(st_all 175 x.pl.body x.pl.params hrt hisP).2.2.2.2.2.1,?_,n1,hpx⟩,?_⟩
 ·rw [Fn.Qx5 (f:=x.pl.ow) n1];exact hlin
 ·show (x.pl.body.ow x.pl.params).nt≤_
  rw [e1];omega
 ·show (x.pl.body.ow x.pl.params).nc≤_
  rw [e2];omega
theorem lv1 {l : List Fn} (hl : Gv l) (hc : Y8 l = 0) : ∀ f∈mk1 l,Lv f:=fun f hf=>by
 unfold mk1 at hf
 obtain ⟨g,hg,rfl⟩:=List.mem_map.1 hf
 obtain ⟨h,hnc⟩:=lv0 hl hc g hg
 have hs:=h.shp.s1
 have hnt:=fu_nt g.body.sz g.body (Nat.le_refl _) hs
 have hgl:=h.lin
 rw [Fn.Qx5 h.nd] at hgl
 obtain ⟨-,-,-,-,e5⟩:=fu_st g.body.sz g.body (Nat.le_refl _) hs
 refine ⟨?_,fu_shp g.body.sz g.body (Nat.le_refl _) h.shp,?_,?_,h.nd,h.nx⟩
 ·rw [Fn.Qx5 (f:=g.fu) h.nd]
  exact fu_lin g.body.sz g.body (Nat.le_refl _) hs _ (lin0_ok h.nd) hgl
 ·show g.body.fu.stT = []
  rw [e5];exact h.st
 ·show g.body.fu.nt≤_
  have:=h.nt
  have hz : g.body.nt = 0:=by
   unfold mk0 at hg
   obtain ⟨z,hz,rfl⟩:=List.mem_map.1 hg
   obtain ⟨-,hrt,-⟩:=pl_body hl hc z hz
   exact (rt_nt 175 z.body z.params hrt).2.1
  omega
theorem lv2 {l : List Fn} (hl : Gv l) (hc : Y8 l = 0) : ∀ f∈mk2 l,f.lin = 0∧f.params.Nodup:=fun f hf=>by
 unfold mk2 at hf
 obtain ⟨g,hg,rfl⟩:=List.mem_map.1 hf
 have h:=lv1 hl hc g hg
 have hgl:=h.lin
 rw [Fn.Qx5 h.nd] at hgl
 refine ⟨?_,h.nd⟩
 rw [Fn.Qx5 (f:=g.ru) h.nd]
 refine ru_lin g.body.dp g.body 0 _ (Nat.le_refl _) h.shp.nh h.shp.sh h.shp.nx (Int.le_refl _) (by have:=h.nt;omega) (fun i _=>by rw [h.st];simp) (lin0_ok h.nd) (fun i _=>rfl) (fun d=>?_) hgl
 show lkA (g.params.map fun p=>(p,(1 : Int))) (excl d) = none
 rw [lin0_lk,if_neg (fun hm=>h.nx _ hm d rfl)]
theorem put_sh (b : ByteArray) (m : Nat) (t : Tm) (h : t.Sh) : (t.put b m).Sh:=(put_r b m t.sz t (Nat.le_refl _)).sh h
theorem ru_sh : ∀ (N : Nat) (t : Tm) (c : Int),t.Sh→(t.ru N c).1.Sh:=by
 intro N
 induction N with
 | zero=>intro t c h;rw [Tm.ru];exact h
 | succ N ih =>
  intro t c hS
  obtain ⟨k,n,a,b,vs,xs,cs⟩:=t
  have hL : ∀ (l : List Tm) (c : Int),Tm.ShL l→Tm.ShL (ruL (Tm.ru N) l c).1∧((ruL (Tm.ru N) l c).1 = []↔l = []):=by
   intro l
   induction l with
   | nil=>intro c _;exact ⟨trivial,Iff.rfl⟩
   | cons x r ih2 =>
    intro c h1
    rw [ruL]
    exact ⟨⟨ih x c h1.1,(ih2 _ h1.2).1⟩,by simp⟩
  have hC : ∀ (l : List Cs) (c : Int),Cs.ShL l→Cs.ShL (ruC (Tm.ru N) l c).1∧((ruC (Tm.ru N) l c).1 = []↔l = []):=by
   intro l
   induction l with
   | nil=>intro c _;exact ⟨trivial,Iff.rfl⟩
   | cons x r ih2 =>
    intro c h1
    obtain ⟨t,ws,y⟩:=x
    rw [ruC]
    exact ⟨⟨ih y c h1.1,(ih2 _ h1.2).1⟩,by simp⟩
  rw [Tm.ru]
  split
  ·refine ⟨by omega,fun _=>rfl,by omega,(hL _ _ ?_).1,trivial⟩
   cases xs with
   | nil=>trivial
   | cons x r=>rw [Tm.G5];exact ⟨put_sh _ _ x hS.2.2.2.1.1,hS.2.2.2.1.2⟩
  ·exact ⟨fun h=>(hL _ _ hS.2.2.2.1).2.2 (hS.1 h),fun h=>(hC _ _ hS.2.2.2.2).2.2 (hS.2.1 h),fun h e=>hS.2.2.1 h ((hC _ _ hS.2.2.2.2).2.1 e),(hL _ _ hS.2.2.2.1).1,(hC _ _ hS.2.2.2.2).1⟩
mutual
def Tm.wo : Tm→Int→Tm×Bool×Int
 | .mk k n a b vs xs cs,i =>
  if (k = 8∨k = 9∨k = 13)∧i = 0 then (hdT0 xs,true,-1)
  else (.mk k n a b vs (Tm.woL xs (if k = 8∨k = 9∨k = 13 then wr (i - 1) else i)).1 (Cs.woL cs (Tm.woL xs (if k = 8∨k = 9∨k = 13 then wr (i - 1) else i)).2.2).1,
   (Tm.woL xs (if k = 8∨k = 9∨k = 13 then wr (i - 1) else i)).2.1 || (Cs.woL cs (Tm.woL xs (if k = 8∨k = 9∨k = 13 then wr (i - 1) else i)).2.2).2.1,
   (Cs.woL cs (Tm.woL xs (if k = 8∨k = 9∨k = 13 then wr (i - 1) else i)).2.2).2.2)
def Tm.woL : List Tm→Int→List Tm×Bool×Int
 | [],i=>([],false,i)
 | x :: r,i=>((x.wo i).1 :: (Tm.woL r (x.wo i).2.2).1,(x.wo i).2.1 || (Tm.woL r (x.wo i).2.2).2.1,(Tm.woL r (x.wo i).2.2).2.2)
def Cs.woL : List Cs→Int→List Cs×Bool×Int
 | [],i=>([],false,i)
 | c :: r,i=>((c.wo i).1 :: (Cs.woL r (c.wo i).2.2).1,(c.wo i).2.1 || (Cs.woL r (c.wo i).2.2).2.1,(Cs.woL r (c.wo i).2.2).2.2)
def Cs.wo : Cs→Int→Cs×Bool×Int
 | .mk t ws y,i=>(.mk t ws (y.wo i).1,(y.wo i).2)
end
mutual
def Tm.S3 : Tm→Prop
 | .mk k n a b vs xs cs=>(k = 8∨k = 9∨k = 13→∃ x,xs = [x])∧Tm.S3L xs∧Cs.S3L cs
def Tm.S3L : List Tm→Prop
 | []=>True
 | x :: r=>x.S3∧Tm.S3L r
def Cs.S3L : List Cs→Prop
 | []=>True
 | c :: r=>c.S3∧Cs.S3L r
def Cs.S3 : Cs→Prop
 | .mk t ws y=>y.S3
end
theorem S3L_iff : ∀ {l : List Tm},Tm.S3L l↔∀ x∈l,x.S3
 | []=>by simp [Tm.S3L]
 | x :: r=>by simp [Tm.S3L,S3L_iff (l:=r)]
theorem CS3L_iff : ∀ {l : List Cs},Cs.S3L l↔∀ x∈l,x.S3
 | []=>by simp [Cs.S3L]
 | x :: r=>by simp [Cs.S3L,CS3L_iff (l:=r)]
theorem wo_rem : ∀ (N : Nat) (t : Tm) (i : Int),t.sz≤N→N≤1152921504606846976→t.S3→-4611686018427387904 + t.sz≤i→i≤9223372036854775807 →
  ((t.wo i).2.1 = false→(t.wo i).1 = t∧i - t.sz≤(t.wo i).2.2∧(t.wo i).2.2≤i)∧((t.wo i).2.1 = true→0≤i∧Rem t (t.wo i).1∧(t.wo i).2.2 < 0∧-1 - (t.sz : Int)≤(t.wo i).2.2):=by
 intro N
 induction N with
 | zero=>intro t _ h;have:=t.F8;omega
 | succ N ih =>
  intro t i hN hB hS hlo hhi
  obtain ⟨k,n,a,b,vs,xs,cs⟩:=t
  rw [Tm.sz] at hN hlo
  push_cast at hlo
  have hL : ∀ (l : List Tm) (i : Int),(∀ x∈l,x.sz≤N)→Tm.szs l≤N→Tm.S3L l→-4611686018427387904 + Tm.szs l≤i→i≤9223372036854775807 →
    ((Tm.woL l i).2.1 = false→(Tm.woL l i).1 = l∧i - Tm.szs l≤(Tm.woL l i).2.2∧(Tm.woL l i).2.2≤i)∧((Tm.woL l i).2.1 = true→0≤i∧(∃ p x x' q,l = p ++ x :: q∧(Tm.woL l i).1 = p ++ x' :: q∧Rem x x')∧(Tm.woL l i).2.2 < 0∧-1 - (Tm.szs l : Int)≤(Tm.woL l i).2.2):=by
   intro l
   induction l with
   | nil=>intro i _ _ _ _ _;exact ⟨fun _=>⟨rfl,by simp [Tm.woL,Tm.szs],Int.le_refl _⟩,fun h=>by simp [Tm.woL] at h⟩
   | cons x r ih2 =>
    intro i hl hb hs h1 h2
    rw [Tm.szs] at h1 hb
    push_cast at h1
    obtain ⟨f1,t1⟩:=ih x i (hl x (by simp)) (by omega) hs.1 (by omega) h2
    rw [Tm.woL,Tm.szs]
    push_cast
    cases hx : (x.wo i).2.1 with
    | false =>
     obtain ⟨e1,e2,e3⟩:=f1 hx
     obtain ⟨f2,t2⟩:=ih2 (x.wo i).2.2 (fun z hz=>hl z (by simp [hz])) (by omega) hs.2 (by omega) (by omega)
     try dsimp only
     rw [Bool.false_or,e1]
     refine ⟨fun h=>?_,fun h=>?_⟩
     ·obtain ⟨g1,g2,g3⟩:=f2 h
      exact ⟨by rw [g1],by omega,by omega⟩
     ·obtain ⟨g0,⟨p,y,y',q,g1,g2,g3⟩,g4,g5⟩:=t2 h
      exact ⟨by omega,⟨x :: p,y,y',q,by rw [g1];rfl,by rw [g2];rfl,g3⟩,g4,by omega⟩
    | true =>
     obtain ⟨e0,e1,e2,e3⟩:=t1 hx
     obtain ⟨f2,t2⟩:=ih2 (x.wo i).2.2 (fun z hz=>hl z (by simp [hz])) (by omega) hs.2 (by omega) (by omega)
     have hr : (Tm.woL r (x.wo i).2.2).2.1 = false:=by
      cases hr : (Tm.woL r (x.wo i).2.2).2.1 with
      | false=>rfl
      | true=>have:=(t2 hr).1;omega
     obtain ⟨g1,g2,g3⟩:=f2 hr
     try dsimp only
     rw [Bool.true_or]
     refine ⟨fun h=>by simp at h,fun _=>⟨e0,⟨[],x,_,r,rfl,by rw [g1];rfl,e1⟩,by omega,by omega⟩⟩
  have hC : ∀ (l : List Cs) (i : Int),(∀ x∈l,x.sz≤N)→Cs.szs l≤N→Cs.S3L l→-4611686018427387904 + Cs.szs l≤i→i≤9223372036854775807 →
    ((Cs.woL l i).2.1 = false→(Cs.woL l i).1 = l∧i - Cs.szs l≤(Cs.woL l i).2.2∧(Cs.woL l i).2.2≤i)∧((Cs.woL l i).2.1 = true→0≤i∧(∃ p t ws y y' q,l = p ++ .mk t ws y :: q∧(Cs.woL l i).1 = p ++ .mk t ws y' :: q∧Rem y y')∧(Cs.woL l i).2.2 < 0∧-1 - (Cs.szs l : Int)≤(Cs.woL l i).2.2):=by
   intro l
   induction l with
   | nil=>intro i _ _ _ _ _;exact ⟨fun _=>⟨rfl,by simp [Cs.woL,Cs.szs],Int.le_refl _⟩,fun h=>by simp [Cs.woL] at h⟩
   | cons c r ih2 =>
    intro i hl hb hs h1 h2
    rw [Cs.szs] at h1 hb
    push_cast at h1
    have hcN:=hl c (by simp)
    obtain ⟨tg,ws,x⟩:=c
    rw [Cs.sz] at h1 hb hcN
    obtain ⟨f1,t1⟩:=ih x i hcN (by omega) hs.1 (by omega) h2
    rw [Cs.woL,Cs.szs,Cs.wo,Cs.sz]
    push_cast
    try dsimp only
    cases hx : (x.wo i).2.1 with
    | false =>
     obtain ⟨e1,e2,e3⟩:=f1 hx
     obtain ⟨f2,t2⟩:=ih2 (x.wo i).2.2 (fun z hz=>hl z (by simp [hz])) (by omega) hs.2 (by omega) (by omega)
     rw [Bool.false_or,e1]
     refine ⟨fun h=>?_,fun h=>?_⟩
     ·obtain ⟨g1,g2,g3⟩:=f2 h
      exact ⟨by rw [g1],by omega,by omega⟩
     ·obtain ⟨g0,⟨p,t',ws',y,y',q,g1,g2,g3⟩,g4,g5⟩:=t2 h
      exact ⟨by omega,⟨.mk tg ws x :: p,t',ws',y,y',q,by rw [g1];rfl,by rw [g2];rfl,g3⟩,g4,by omega⟩
    | true =>
     obtain ⟨e0,e1,e2,e3⟩:=t1 hx
     obtain ⟨f2,t2⟩:=ih2 (x.wo i).2.2 (fun z hz=>hl z (by simp [hz])) (by omega) hs.2 (by omega) (by omega)
     have hr : (Cs.woL r (x.wo i).2.2).2.1 = false:=by
      cases hr : (Cs.woL r (x.wo i).2.2).2.1 with
      | false=>rfl
      | true=>have:=(t2 hr).1;omega
     obtain ⟨g1,g2,g3⟩:=f2 hr
     rw [Bool.true_or]
     refine ⟨fun h=>by simp at h,fun _=>⟨e0,⟨[],tg,ws,x,_,r,rfl,by rw [g1];rfl,e1⟩,by omega,by omega⟩⟩
  rw [Tm.wo]
  split
  ·rename_i hc
   obtain ⟨hk,rfl⟩:=hc
   obtain ⟨x,rfl⟩:=hS.1 hk
   dsimp only [hdT0]
   rw [Tm.sz]
   push_cast
   exact ⟨fun h=>by simp at h,fun _=>⟨by first | trivial | exact Int.le_refl _,.here hk,by first | trivial | omega,by first | trivial | omega⟩⟩
  ·rename_i hc
   obtain ⟨j,hj,hj1,hj2,hj3⟩ : ∃ j,j = (if k = 8∨k = 9∨k = 13 then wr (i - 1) else i)∧i - 1≤j∧j≤i∧(0≤j→0≤i):=by
    by_cases hk : k = 8∨k = 9∨k = 13
    ·rw [if_pos hk]
     have : wr (i - 1) = i - 1:=wr_id ⟨by omega,by omega⟩
     exact ⟨_,rfl,by omega,by omega,by omega⟩
    ·rw [if_neg hk]
     exact ⟨_,rfl,by omega,by omega,by omega⟩
   rw [← hj]
   have hxs : ∀ x∈xs,x.sz≤N:=fun x hx=>by have:=Tm.Z4 hx;omega
   have hcs : ∀ x∈cs,x.sz≤N:=fun x hx=>by have:=Cs.Z4 hx;omega
   obtain ⟨f1,t1⟩:=hL xs j hxs (by omega) hS.2.1 (by omega) (by omega)
   rw [Tm.sz]
   push_cast
   generalize Tm.woL xs j = X at f1 t1 ⊢
   obtain ⟨us,o1,j1⟩:=X
   dsimp only at f1 t1 ⊢
   cases o1 with
   | false =>
    obtain ⟨e1,e2,e3⟩:=f1 rfl
    subst e1
    obtain ⟨f2,t2⟩:=hC cs j1 hcs (by omega) hS.2.2 (by omega) (by omega)
    rw [Bool.false_or]
    refine ⟨fun h=>?_,fun h=>?_⟩
    ·obtain ⟨g1,g2,g3⟩:=f2 h
     exact ⟨by rw [g1],by omega,by omega⟩
    ·obtain ⟨g0,⟨p,t',ws',y,y',q,g1,g2,g3⟩,g4,g5⟩:=t2 h
     refine ⟨by omega,?_,g4,by omega⟩
     rw [g2]
     subst g1
     exact .cas g3
   | true =>
    obtain ⟨e0,⟨p,x,x',q,e1,e2,e3⟩,e4,e5⟩:=t1 rfl
    obtain ⟨f2,t2⟩:=hC cs j1 hcs (by omega) hS.2.2 (by omega) (by omega)
    have hr : (Cs.woL cs j1).2.1 = false:=by
     cases hr : (Cs.woL cs j1).2.1 with
     | false=>rfl
     | true=>have:=(t2 hr).1;omega
    obtain ⟨g1,g2,g3⟩:=f2 hr
    rw [Bool.true_or]
    refine ⟨fun h=>by simp at h,fun _=>⟨by omega,?_,by omega,by omega⟩⟩
    rw [g1,e2]
    subst e1
    exact .arg e3
theorem wr_sub2 (i : Int) (c d : Nat) : wr (wr (i - c) - d) = wr (i - ((c + d : Nat) : Int)):=by
 unfold wr
 push_cast
 omega
theorem wo_no : ∀ (N : Nat) (t : Tm) (i : Int),t.sz≤N→N≤1152921504606846976→-9223372036854775808≤i→i≤9223372036854775807→(i < 0∨(t.sz : Int)≤i) →
  (t.wo i).2.1 = false∧∃ c : Nat,c≤t.sz∧(t.wo i).2.2 = wr (i - c):=by
 intro N
 induction N with
 | zero=>intro t _ h;have:=t.F8;omega
 | succ N ih =>
  intro t i hN hB hlo hhi hi
  obtain ⟨k,n,a,b,vs,xs,cs⟩:=t
  rw [Tm.sz] at hN hi
  push_cast at hi
  have nx : ∀ (s r c : Nat) (i : Int),s + r≤1152921504606846976→c≤s→-9223372036854775808≤i→i≤9223372036854775807→(i < 0∨((s + r : Nat) : Int)≤i) →
    -9223372036854775808≤wr (i - c)∧wr (i - c)≤9223372036854775807∧(wr (i - c) < 0∨(r : Int)≤wr (i - c)):=by
   intro s r c i h1 h2 h3 h4 h5
   unfold wr
   push_cast at h5
   omega
  have hL : ∀ (l : List Tm) (i : Int),(∀ x∈l,x.sz≤N)→Tm.szs l≤N→-9223372036854775808≤i→i≤9223372036854775807→(i < 0∨(Tm.szs l : Int)≤i) →
    (Tm.woL l i).2.1 = false∧∃ c : Nat,c≤Tm.szs l∧(Tm.woL l i).2.2 = wr (i - c):=by
   intro l
   induction l with
   | nil=>intro i _ _ h1 h2 _;exact ⟨rfl,0,Nat.zero_le _,by rw [Tm.woL,wr_id ⟨by omega,by omega⟩];simp⟩
   | cons x r ih2 =>
    intro i hl hb h1 h2 h3
    rw [Tm.szs] at h3 hb
    obtain ⟨e1,c,e2,e3⟩:=ih x i (hl x (by simp)) (by omega) h1 h2 (by omega)
    obtain ⟨g1,g2,g3⟩:=nx x.sz (Tm.szs r) c i (by omega) e2 h1 h2 (by omega)
    rw [← e3] at g1 g2 g3
    obtain ⟨f1,d,f2,f3⟩:=ih2 (x.wo i).2.2 (fun z hz=>hl z (by simp [hz])) (by omega) g1 g2 g3
    rw [Tm.woL,Tm.szs]
    refine ⟨by rw [e1,f1];rfl,c + d,by omega,?_⟩
    rw [← wr_sub2,← e3,← f3]
  have hC : ∀ (l : List Cs) (i : Int),(∀ x∈l,x.sz≤N)→Cs.szs l≤N→-9223372036854775808≤i→i≤9223372036854775807→(i < 0∨(Cs.szs l : Int)≤i) →
    (Cs.woL l i).2.1 = false∧∃ c : Nat,c≤Cs.szs l∧(Cs.woL l i).2.2 = wr (i - c):=by
   intro l
   induction l with
   | nil=>intro i _ _ h1 h2 _;exact ⟨rfl,0,Nat.zero_le _,by rw [Cs.woL,wr_id ⟨by omega,by omega⟩];simp⟩
   | cons x r ih2 =>
    intro i hl hb h1 h2 h3
    have hcN:=hl x (by simp)
    obtain ⟨tg,ws,x⟩:=x
    rw [Cs.szs,Cs.sz] at h3 hb
    rw [Cs.sz] at hcN
    obtain ⟨e1,c,e2,e3⟩:=ih x i (by omega) (by omega) h1 h2 (by omega)
    obtain ⟨g1,g2,g3⟩:=nx x.sz (Cs.szs r) c i (by omega) e2 h1 h2 (by omega)
    rw [← e3] at g1 g2 g3
    obtain ⟨f1,d,f2,f3⟩:=ih2 (x.wo i).2.2 (fun z hz=>hl z (by simp [hz])) (by omega) g1 g2 g3
    rw [Cs.woL,Cs.szs,Cs.wo,Cs.sz]
    refine ⟨by rw [e1,f1];rfl,c + d,by omega,?_⟩
    rw [← wr_sub2,← e3,← f3]
  rw [Tm.wo,Tm.sz]
  rw [if_neg (by omega)]
  obtain ⟨u,j,hu,hj,hj1,hj2,hj3⟩ : ∃ (u : Nat) (j : Int),u≤1∧j = (if k = 8∨k = 9∨k = 13 then wr (i - 1) else i)∧j = wr (i - u)∧(-9223372036854775808≤j∧j≤9223372036854775807)∧(j < 0∨(Tm.szs xs + Cs.szs cs : Int)≤j):=by
   by_cases hk : k = 8∨k = 9∨k = 13
   ·rw [if_pos hk]
    have:=nx 1 (Tm.szs xs + Cs.szs cs) 1 i (by omega) (Nat.le_refl _) hlo hhi (by push_cast;omega)
    exact ⟨1,_,Nat.le_refl _,rfl,rfl,⟨this.1,this.2.1⟩,by have:=this.2.2;push_cast at this;exact this⟩
   ·rw [if_neg hk]
    exact ⟨0,_,by omega,rfl,by rw [wr_id ⟨by omega,by omega⟩];simp,⟨hlo,hhi⟩,by omega⟩
  rw [← hj]
  have hxs : ∀ x∈xs,x.sz≤N:=fun x hx=>by have:=Tm.Z4 hx;omega
  have hcs : ∀ x∈cs,x.sz≤N:=fun x hx=>by have:=Cs.Z4 hx;omega
  obtain ⟨e1,c,e2,e3⟩:=hL xs j hxs (by omega) hj2.1 hj2.2 (by omega)
  obtain ⟨g1,g2,g3⟩:=nx (Tm.szs xs) (Cs.szs cs) c j (by omega) e2 hj2.1 hj2.2 (by push_cast;omega)
  rw [← e3] at g1 g2 g3
  obtain ⟨f1,d,f2,f3⟩:=hC cs _ hcs (by omega) g1 g2 g3
  refine ⟨by rw [e1,f1];rfl,u + (c + d),by omega,?_⟩
  rw [f3,e3,hj1,wr_sub2,wr_sub2]
mutual
theorem s3_of : ∀ t : Tm,t.S1→t.stT = []→t.S3
 | .mk k n a b vs xs cs,h,ht=>by
  rw [Tm.stT] at ht
  have h1:=List.append_eq_nil_iff.1 ht
  have h2:=List.append_eq_nil_iff.1 h1.2
  refine ⟨fun hk=>?_,s3L_of xs h.2.1 h2.1,cs3L_of cs h.2.2 h2.2⟩
  by_cases h13 : k = 13
  ·rw [if_pos (.inr h13)] at h1;simp at h1
  ·exact (h.1 (by omega)).1
theorem s3L_of : ∀ l : List Tm,Tm.S1L l→Tm.J2 l = []→Tm.S3L l
 | [],_,_=>trivial
 | x :: r,h,ht=>by
  rw [Tm.J2] at ht
  have h1:=List.append_eq_nil_iff.1 ht
  exact ⟨s3_of x h.1 h1.1,s3L_of r h.2 h1.2⟩
theorem cs3L_of : ∀ l : List Cs,Cs.S1L l→Cs.J2 l = []→Cs.S3L l
 | [],_,_=>trivial
 | c :: r,h,ht=>by
  rw [Cs.J2] at ht
  have h1:=List.append_eq_nil_iff.1 ht
  exact ⟨cs3_of c h.1 h1.1,cs3L_of r h.2 h1.2⟩
theorem cs3_of : ∀ c : Cs,c.S1→c.stT = []→c.S3
 | .mk t ws y,h,ht=>by
  rw [Cs.stT] at ht
  exact s3_of y h ht
end
theorem put_s3 (b : ByteArray) (m : Nat) : ∀ (N : Nat) (t : Tm),t.sz≤N→t.S3→(t.put b m).S3:=by
 intro N
 induction N with
 | zero=>intro t h;have:=t.F8;omega
 | succ N ih =>
  intro t hN hS
  obtain ⟨k,n,a,b0,vs,xs,cs⟩:=t
  rw [Tm.sz] at hN
  have hH : ∀ l : List Tm,(∀ x∈l,x.sz≤N)→Tm.S3L l→Tm.S3L (Tm.G5 b m l):=fun l hl h1=>by
   cases l with
   | nil=>trivial
   | cons x r=>rw [Tm.G5];exact ⟨ih x (hl x (by simp)) h1.1,h1.2⟩
  have hX : ∀ x∈xs,x.sz≤N:=fun x hx=>by have:=Tm.Z4 hx;omega
  rw [Tm.put]
  split
  ·exact ⟨fun _=>⟨_,rfl⟩,⟨hS,trivial⟩,trivial⟩
  split
  ·exact ⟨by omega,hS.2⟩
  split
  ·refine ⟨by omega,?_,hS.2.2⟩
   cases xs with
   | nil=>trivial
   | cons x r =>
    rw [Tm.O8]
    split
    ·exact ⟨ih x (hX x (by simp)) hS.2.1.1,hS.2.1.2⟩
    ·exact ⟨hS.2.1.1,hH r (fun z hz=>hX z (by simp [hz])) hS.2.1.2⟩
  split
  ·refine ⟨by omega,hS.2.1,?_⟩
   rw [O1]
   refine CS3L_iff.2 fun c h=>?_
   obtain ⟨c0,hc0,rfl⟩:=List.mem_map.1 h
   have h1:=CS3L_iff.1 hS.2.2 c0 hc0
   have hs:=Cs.Z4 hc0
   obtain ⟨t,ws,y⟩:=c0
   rw [Cs.sz] at hs
   rw [Cs.put]
   exact ih y (by omega) h1
  ·refine ⟨fun h=>?_,hH xs hX hS.2.1,hS.2.2⟩
   obtain ⟨x,rfl⟩:=hS.1 h
   exact ⟨_,rfl⟩
theorem ru_s3 : ∀ (N : Nat) (t : Tm) (c : Int),t.S3→(t.ru N c).1.S3:=by
 intro N
 induction N with
 | zero=>intro t c h;rw [Tm.ru];exact h
 | succ N ih =>
  intro t c hS
  obtain ⟨k,n,a,b,vs,xs,cs⟩:=t
  have hL : ∀ (l : List Tm) (c : Int),Tm.S3L l→Tm.S3L (ruL (Tm.ru N) l c).1:=by
   intro l
   induction l with
   | nil=>intro c _;trivial
   | cons x r ih2=>intro c h1;rw [ruL];exact ⟨ih x c h1.1,ih2 _ h1.2⟩
  have hC : ∀ (l : List Cs) (c : Int),Cs.S3L l→Cs.S3L (ruC (Tm.ru N) l c).1:=by
   intro l
   induction l with
   | nil=>intro c _;trivial
   | cons x r ih2 =>
    intro c h1
    obtain ⟨t,ws,y⟩:=x
    rw [ruC]
    exact ⟨ih y c h1.1,ih2 _ h1.2⟩
  rw [Tm.ru]
  split
  ·refine ⟨by omega,hL _ _ ?_,trivial⟩
   cases xs with
   | nil=>trivial
   | cons x r=>rw [Tm.G5];exact ⟨put_s3 _ _ x.sz x (Nat.le_refl _) hS.2.1.1,hS.2.1.2⟩
  ·refine ⟨fun h=>?_,hL _ _ hS.2.1,hC _ _ hS.2.2⟩
   obtain ⟨x,rfl⟩:=hS.1 h
   exact ⟨_,rfl⟩
structure Lf (f : Fn) : Prop where
 left : f.body.sz≤1152921504606846976→∀ i : Int,-9223372036854775808≤i→i≤9223372036854775807→(f.body.wo i).2.1 = true→(⟨f.name,f.params,(f.body.wo i).1⟩ : Fn).lin≠0
 more : ∀ (k : Int) (p : ByteArray),k = 8∨k = 9→(⟨f.name,f.params,.mk k 0 p .empty [] [f.body] []⟩ : Fn).lin≠0
 s3 : f.body.S3
theorem lf_of {f : Fn} (hn : f.params.Nodup) (hl : f.lin = 0) (hs : f.body.Sh) (h3 : f.body.S3) : Lf f:=by
 rw [Fn.Qx5 hn] at hl
 have ho:=lin0_ok hn
 refine ⟨fun hB i h0 h2 h=>?_,fun k p hk=>?_,h3⟩
 ·rw [Fn.Qx5 (f:=⟨f.name,f.params,(f.body.wo i).1⟩) hn]
  have h1 : -4611686018427387904 + f.body.sz≤i:=by
   by_cases h1 : -4611686018427387904 + f.body.sz≤i
   ·exact h1
   ·have:=(wo_no f.body.sz f.body i (Nat.le_refl _) hB h0 h2 (.inl (by omega))).1
    rw [this] at h;simp at h
  obtain ⟨-,hr,-⟩:=(wo_rem f.body.sz f.body i (Nat.le_refl _) hB h3 h1 h2).2 h
  exact rem_lin f.body.sz f.body _ (Nat.le_refl _) hs hr _ _ ho ho (LS.Eqv.rfl' _) hl
 ·rw [Fn.Qx5 (f:=⟨f.name,f.params,.mk k 0 p .empty [] [f.body] []⟩) hn]
  exact more_lin hk hs ho hl
theorem lf0 {l : List Fn} (hl : Gv l) (hc : Y8 l = 0) : ∀ f∈mk0 l,Lf f:=fun f hf=>by
 obtain ⟨h,-⟩:=lv0 hl hc f hf
 exact lf_of h.nd h.lin h.shp.sh (s3_of _ h.shp.s1 h.st)
theorem lf1 {l : List Fn} (hl : Gv l) (hc : Y8 l = 0) : ∀ f∈mk1 l,Lf f:=fun f hf=>by
 have h:=lv1 hl hc f hf
 exact lf_of h.nd h.lin h.shp.sh (s3_of _ h.shp.s1 h.st)
theorem lf2 {l : List Fn} (hl : Gv l) (hc : Y8 l = 0) : ∀ f∈mk2 l,Lf f:=fun f hf=>by
 obtain ⟨h1,h2⟩:=lv2 hl hc f hf
 unfold mk2 at hf
 obtain ⟨g,hg,rfl⟩:=List.mem_map.1 hf
 have h:=lv1 hl hc g hg
 exact lf_of h2 h1 (ru_sh _ _ _ h.shp.sh) (ru_s3 _ _ _ (s3_of _ h.shp.s1 h.st))
end Go.Proofs.YtjpldhjgehoffaaDoor
namespace Go.Proofs.YtjpldhjgehoffaaDoor
open Go.RowKit
attribute [local simp] Cq mkRc ldOf stOf Qz4 Fq M4 Rq K7 V3 Yv K4 J7 Y9 L9 evA Kv G8 Value.oneCell' Zj Q4 Z7 Iz Vz Z0 AS.after Z8 K8 Jv AV.ids Mq Qz.ids Qj3 F9 Wv U9 G6 Y0 Y5 Kk V9 V7 Yz Ov T9 setAt Vj Cj Gq Pj R9 Pk binI AV.cells J9 Jz R8 U1 AV.kill Qz.kill AV.has AV.K9 Op.operands Call.operands Gj Hw Zv Oz Zz Xz Tk moQ M6 Uz Yw AV.ren Tj Qz.ren Qz.like kept X8 M5 AV.frz Pz Cw Ex H9 F3 AS.frz Mv Uw Qz.frz Rx Rj bleF Nat.ble_eq R4 Ww K3 D.Yx F5 Uv Vx Vq phO Px Gz Wx U0 K6 Low Sq
set_option linter.unusedVariables false
set_option linter.unusedSimpArgs false
theorem linL_x (x : Tm) (s : LS) : Tm.Dv [x] [s] = x.lin s:=by
 rw [Tm.Dv,Tm.Dv]
 show (if x.lin s≠0 then x.lin s else 0) = _
 split <;> omega
def LinN (N : Nat) : Prop:=∀ t : Tm,t.sz≤N→t.Ok→∀ s : LS,s.Wd t.wg→X3 Tryd.prog 56 [.ptr 500 0,Xw t] [(500,.blk 109 [.mp 501,.mp 502,.mp 503]),(501,lcO s.ct),(502,liO s.inn),(503,lcO s.tk)] (.d (.int (t.lin s))) []
theorem LS.openE_form (c : List (ByteArray×Int)) (inn : List (ByteArray×ByteArray)) (tk : List (ByteArray×Int)) (nm : ByteArray) : ∀ vs : List ByteArray,∃ e c2,LS.Xv ⟨c,inn,tk⟩ nm vs = (e,⟨c2,inn,tk⟩):=fun vs=>by
 induction vs generalizing c with
 | nil=>rw [LS.openE_nil];exact LS.Pv c inn tk nm
 | cons v r ih =>
  rw [LS.openE_cons]
  split
  ·exact ⟨_,_,rfl⟩
  ·exact ih _
set_option maxRecDepth 20000 in
set_option maxHeartbeats 16000000 in
theorem Qq9 (N : Nat) (ih : LinN N) (tk tn : Int) (ta tb : ByteArray) (tvs : List ByteArray) (txs : List Tm) (tcs : List Cs) (hk : tk = 8∨tk = 9∨tk = 10∨tk = 11∨tk = 13) (hsz : (Tm.mk tk tn ta tb tvs txs tcs).sz≤N + 1) (hO : (Tm.mk tk tn ta tb tvs txs tcs).Ok) (s : LS) (hW : s.Wd (Tm.mk tk tn ta tb tvs txs tcs).wg) :
  X3 Tryd.prog 93 [.ptr 500 0,.d (.ptr [.int tk,.int tn,.str ta,.str tb,Q7 tvs,.sl (txs.map Tm.row),.sl (tcs.map Cs.row)])] [(500,.blk 109 [.mp 501,.mp 502,.mp 503]),(501,lcO s.ct),(502,liO s.inn),(503,lcO s.tk)] (.d (.int ((Tm.mk tk tn ta tb tvs txs tcs).lin s))) []:=by
 obtain ⟨ct,inn,tok⟩:=s
 obtain ⟨R,hR⟩ : ∃ R,R = (Tm.mk tk tn ta tb tvs txs tcs).lin ⟨ct,inn,tok⟩:=⟨_,rfl⟩
 rw [← hR]
 have hxO : ∀ x∈txs,x.Ok:=fun x hx=>Tm.Zq.1 hO.2.2.1 x hx
 obtain ⟨o1,o2,o3,o4,o5⟩:=hO.vars
 have o1' : tvs.length≤8796093022208:=by omega
 simp only [Tm.sz] at hsz
 simp only [Tm.wg] at hW
 have hwl:=hW.tl
 have hwn : (0 : Int)≤(tok.length : Int):=Int.natCast_nonneg _
 dsimp only at hwl
 obtain ⟨A,hA⟩ : ∃ A : Int,(txs.length : Int) = A:=⟨_,rfl⟩
 rcases hk with rfl | rfl | rfl | rfl | rfl
 ·rw [if_neg (by omega)] at hW hwl
  rw [Tm.lin,if_neg (by omega),if_neg (by omega),if_neg (by omega),if_neg (by omega),if_neg (by omega),if_neg (by omega),if_pos (by omega)] at hR
  refine X3.of Tryd.func93 rfl rfl (Nat.le_of_ble_eq_true rfl) ?_
  show AWp _ _ (Qv _ Tryd.f93 _ _) (X8 137 _ _)
  refine AWp.rg [] [] ?_ (hr:=by conv=>lhs;simp [Q5,Q6,Tm.row,Tm.Q3,Cs.Q3,hA])
  by_cases q1 : A = 1
  ·have q1t:=eq_true q1
   refine AWp.rg [] [] ?_ (hr:=by conv=>lhs;simp [Q5,Q6,Tm.row,Tm.Q3,Cs.Q3,hA,q1t])
   refine AWp.cn ?_
   refine AWp.skip ?_
   obtain ⟨x,hxy⟩ : ∃ x,txs = [x]:=by
    have hl1 : txs.length = 1:=by have:=q1;omega
    rcases txs with _ | ⟨y0,_ | ⟨y1,r⟩⟩
    ·simp at hl1
    ·exact ⟨y0,rfl⟩
    ·simp at hl1
   have h0x : txs[0]? = some x:=by rw [hxy];rfl
   have hmx : x∈txs:=by rw [hxy];simp
   have hxz:=Tm.Z4 hmx
   have hxw:=Tm.C8 hmx
   have hxk:=hxO x hmx
   rw [if_neg (fun h=>h (by rw [hxy];rfl))] at hR
   rw [if_pos rfl] at hR
   have hth:=cs_lthere ⟨ct,inn,tok⟩ ta hW.big
   obtain ⟨q,hq⟩ : ∃ q,LS.there ⟨ct,inn,tok⟩ ta = q:=⟨_,rfl⟩
   rw [hq] at hth hR
   refine AWp.rg [] [] ?_ (hr:=by conv=>lhs;simp [Q5,Q6,Tm.row,Tm.Q3,Cs.Q3,hA,h0x,q1t])
   refine AWp.rg [] [] ?_ (hr:=by conv=>lhs;simp [Q5,Q6,Tm.row,Tm.Q3,Cs.Q3,hA,h0x,q1t])
   refine AWp.rg [] [] ?_ (hr:=by conv=>lhs;simp [Q5,Q6,Tm.row,Tm.Q3,Cs.Q3,hA,h0x,q1t])
   refine AWp.cy ?_
   cases q with
   | true =>
    refine AWp.rg [] [.c [(1000,500),(1001,501),(1002,502),(1003,503)] [.ptr 1000 0,.d (.str ta)] [(1000,.blk 109 [.mp 1001,.mp 1002,.mp 1003]),(1001,.map true false 1 (Qk ct)),(1002,.map true false 1 (J4 inn)),(1003,.map true false 1 (Qk tok))] (.d (.bool true)) [(1000,.blk 109 [.mp 1001,.mp 1002,.mp 1003]),(1001,.map true false 1 (Qk ct)),(1002,.map true false 1 (J4 inn)),(1003,.map true false 1 (Qk tok))]] ?_ (hr:=by conv=>lhs;simp [Q5,Q6,Tm.row,Tm.Q3,Cs.Q3,hA,h0x,q1t])
    refine AWp.cn ?_
    refine AWp.skip ?_
    cases hk : lkA ct ta with
    | none =>
     have hkg : D.Xk (.str ta) (Qk ct) = none:=by rw [X4,hk];rfl
     have hin : LS.inc ⟨ct,inn,tok⟩ ta = ⟨X5 ct ta 1,inn,tok⟩:=by unfold LS.inc LS.c;rw [hk];rfl
     rw [if_pos rfl,hin] at hR
     have hWi:=LS.Wd.inc (s:=⟨ct,inn,tok⟩) (W:=x.wg) (hW.mono (by omega)) ta
     rw [hin] at hWi
     rw [hxy,linL_x] at hR
     have hx:=ih x (by omega) hxk ⟨X5 ct ta 1,inn,tok⟩ hWi
     rw [← hR] at hx
     obtain ⟨xk,xn,xa,xb,xvs,xxs,xcs⟩:=x
     refine AWp.dw [] [] mixed ?_ (hr:=by conv=>lhs;simp [Q5,Q6,Tm.row,Tm.Q3,Cs.Q3,hA,h0x,hkg,q1t])
     refine AWp.rg [] [] ?_ (hr:=by conv=>lhs;simp [Q5,Q6,Tm.row,Tm.Q3,Cs.Q3,hA,h0x,hkg,q1t])
     refine AWp.cn ?_
     refine AWp.skip ?_
     refine AWp.rg [] [.c [] [.ptr 500 0,.agg [.d (.int xk),.d (.int xn),.d (.str xa),.d (.str xb),.d (Q7 xvs),.d (.sl (xxs.map Tm.row)),.d (.sl (xcs.map Cs.row))]] [(500,.blk 109 [.mp 501,.mp 502,.mp 503]),(501,.map true false 1 (Qk (X5 ct ta 1))),(502,.map true false 1 (J4 inn)),(503,.map true false 1 (Qk tok))] (.d (.int R)) []] ?_ (hr:=by conv=>lhs;simp [Q5,Q6,Tm.row,Tm.Q3,Cs.Q3,hA,h0x,hkg,q1t])
     refine AWp.ret ?_
     try dsimp only [Qq,Q8]
     apply Qv.ret
     ·rfl
     ·conv=>lhs;simp [Q9,Tryd.results93]
     ·rfl
     ·simp [Qj,Q4]
    | some k =>
     have hkg : D.Xk (.str ta) (Qk ct) = some [.int k]:=by rw [X4,hk];rfl
     have hkb:=hW.bd.at hk
     have hin : LS.inc ⟨ct,inn,tok⟩ ta = ⟨X5 ct ta (k + 1),inn,tok⟩:=by unfold LS.inc LS.c;rw [hk];rfl
     rw [if_pos rfl,hin] at hR
     have hWi:=LS.Wd.inc (s:=⟨ct,inn,tok⟩) (W:=x.wg) (hW.mono (by omega)) ta
     rw [hin] at hWi
     rw [hxy,linL_x] at hR
     have hx:=ih x (by omega) hxk ⟨X5 ct ta (k + 1),inn,tok⟩ hWi
     rw [← hR] at hx
     obtain ⟨xk,xn,xa,xb,xvs,xxs,xcs⟩:=x
     refine AWp.dw [] [] mixed ?_ (hr:=by conv=>lhs;simp [Q5,Q6,Tm.row,Tm.Q3,Cs.Q3,hA,h0x,hkg,q1t])
     refine AWp.rg [] [] ?_ (hr:=by conv=>lhs;simp [Q5,Q6,Tm.row,Tm.Q3,Cs.Q3,hA,h0x,hkg,q1t])
     refine AWp.cn ?_
     refine AWp.skip ?_
     refine AWp.rg [] [.c [] [.ptr 500 0,.agg [.d (.int xk),.d (.int xn),.d (.str xa),.d (.str xb),.d (Q7 xvs),.d (.sl (xxs.map Tm.row)),.d (.sl (xcs.map Cs.row))]] [(500,.blk 109 [.mp 501,.mp 502,.mp 503]),(501,.map true false 1 (Qk (X5 ct ta (k + 1)))),(502,.map true false 1 (J4 inn)),(503,.map true false 1 (Qk tok))] (.d (.int R)) []] ?_ (hr:=by conv=>lhs;simp [Q5,Q6,Tm.row,Tm.Q3,Cs.Q3,hA,h0x,hkg,q1t])
     refine AWp.ret ?_
     try dsimp only [Qq,Q8]
     apply Qv.ret
     ·rfl
     ·conv=>lhs;simp [Q9,Tryd.results93]
     ·rfl
     ·simp [Qj,Q4]
   | false =>
    refine AWp.rg [] [.c [(1000,500),(1001,501),(1002,502),(1003,503)] [.ptr 1000 0,.d (.str ta)] [(1000,.blk 109 [.mp 1001,.mp 1002,.mp 1003]),(1001,.map true false 1 (Qk ct)),(1002,.map true false 1 (J4 inn)),(1003,.map true false 1 (Qk tok))] (.d (.bool false)) [(1000,.blk 109 [.mp 1001,.mp 1002,.mp 1003]),(1001,.map true false 1 (Qk ct)),(1002,.map true false 1 (J4 inn)),(1003,.map true false 1 (Qk tok))]] ?_ (hr:=by conv=>lhs;simp [Q5,Q6,Tm.row,Tm.Q3,Cs.Q3,hA,h0x,q1t])
    refine AWp.cy ?_
    refine AWp.rg [] [] ?_ (hr:=by conv=>lhs;simp [Q5,Q6,Tm.row,Tm.Q3,Cs.Q3,hA,h0x,q1t])
    refine AWp.ret ?_
    rw [if_neg (by simp)] at hR
    rw [hR]
    try dsimp only [Qq,Q8]
    apply Qv.ret
    ·rfl
    ·conv=>lhs;simp [Q9,Tryd.results93]
    ·first | rfl | simp
    ·simp [Qj,Q4]
  refine AWp.rg [] [] ?_ (hr:=by conv=>lhs;simp [Q5,Q6,Tm.row,Tm.Q3,Cs.Q3,hA,q1])
  refine AWp.cy ?_
  refine AWp.rg [] [] ?_ (hr:=by conv=>lhs;simp [Q5,Q6,Tm.row,Tm.Q3,Cs.Q3,hA,q1])
  refine AWp.ret ?_
  rw [if_pos (fun h=>q1 (by rw [← hA,h];rfl))] at hR
  rw [hR]
  try dsimp only [Qq,Q8]
  apply Qv.ret
  ·rfl
  ·conv=>lhs;simp [Q9,Tryd.results93]
  ·first | rfl | simp
  ·simp [Qj,Q4]
 ·rw [if_neg (by omega)] at hW hwl
  rw [Tm.lin,if_neg (by omega),if_neg (by omega),if_neg (by omega),if_neg (by omega),if_neg (by omega),if_neg (by omega),if_pos (by omega)] at hR
  refine X3.of Tryd.func93 rfl rfl (Nat.le_of_ble_eq_true rfl) ?_
  show AWp _ _ (Qv _ Tryd.f93 _ _) (X8 137 _ _)
  refine AWp.rg [] [] ?_ (hr:=by conv=>lhs;simp [Q5,Q6,Tm.row,Tm.Q3,Cs.Q3,hA])
  by_cases q2 : A = 1
  ·have q2t:=eq_true q2
   refine AWp.rg [] [] ?_ (hr:=by conv=>lhs;simp [Q5,Q6,Tm.row,Tm.Q3,Cs.Q3,hA,q2t])
   refine AWp.cn ?_
   refine AWp.skip ?_
   obtain ⟨x,hxy⟩ : ∃ x,txs = [x]:=by
    have hl1 : txs.length = 1:=by have:=q2;omega
    rcases txs with _ | ⟨y0,_ | ⟨y1,r⟩⟩
    ·simp at hl1
    ·exact ⟨y0,rfl⟩
    ·simp at hl1
   have h0x : txs[0]? = some x:=by rw [hxy];rfl
   have hmx : x∈txs:=by rw [hxy];simp
   have hxz:=Tm.Z4 hmx
   have hxw:=Tm.C8 hmx
   have hxk:=hxO x hmx
   rw [if_neg (fun h=>h (by rw [hxy];rfl))] at hR
   rw [if_neg (by omega),if_pos rfl] at hR
   have hu:=cs_luse ⟨ct,inn,tok⟩ ta hW.big
   have hWu:=LS.Wd.use (s:=⟨ct,inn,tok⟩) hW ta
   obtain ⟨e,c2,hue⟩:=LS.Pv ct inn tok ta
   rw [hue] at hu hWu hR
   dsimp only at hu hWu hR
   refine AWp.rg [] [] ?_ (hr:=by conv=>lhs;simp [Q5,Q6,Tm.row,Tm.Q3,Cs.Q3,hA,h0x,q2t])
   refine AWp.rg [] [] ?_ (hr:=by conv=>lhs;simp [Q5,Q6,Tm.row,Tm.Q3,Cs.Q3,hA,h0x,q2t])
   refine AWp.rg [] [] ?_ (hr:=by conv=>lhs;simp [Q5,Q6,Tm.row,Tm.Q3,Cs.Q3,hA,h0x,q2t])
   refine AWp.cn ?_
   refine AWp.rg [] [] ?_ (hr:=by conv=>lhs;simp [Q5,Q6,Tm.row,Tm.Q3,Cs.Q3,hA,h0x,q2t])
   refine AWp.cy ?_
   refine AWp.rg [] [.c [(1000,500),(1001,501),(1002,502),(1003,503)] [.ptr 1000 0,.d (.str ta)] [(1000,.blk 109 [.mp 1001,.mp 1002,.mp 1003]),(1001,.map true false 1 (Qk ct)),(1002,.map true false 1 (J4 inn)),(1003,.map true false 1 (Qk tok))] (.d (.int e)) [(1000,.blk 109 [.mp 1001,.mp 1002,.mp 1003]),(1001,.map true false 1 (Qk c2)),(1002,.map true false 1 (J4 inn)),(1003,.map true false 1 (Qk tok))]] ?_ (hr:=by conv=>lhs;simp [Q5,Q6,Tm.row,Tm.Q3,Cs.Q3,hA,h0x,q2t])
   by_cases q3 : e = 0
   ·refine AWp.rg [] [] ?_ (hr:=by conv=>lhs;simp [Q5,Q6,Tm.row,Tm.Q3,Cs.Q3,hA,h0x,q2t,q3])
    refine AWp.cn ?_
    refine AWp.skip ?_
    rw [if_neg (fun h=>h q3)] at hR
    rw [hxy,linL_x] at hR
    have hx:=ih x (by omega) hxk ⟨c2,inn,tok⟩ (hWu.mono (by omega))
    rw [← hR] at hx
    obtain ⟨xk,xn,xa,xb,xvs,xxs,xcs⟩:=x
    refine AWp.rg [] [.c [] [.ptr 500 0,.agg [.d (.int xk),.d (.int xn),.d (.str xa),.d (.str xb),.d (Q7 xvs),.d (.sl (xxs.map Tm.row)),.d (.sl (xcs.map Cs.row))]] [(500,.blk 109 [.mp 501,.mp 502,.mp 503]),(501,.map true false 1 (Qk c2)),(502,.map true false 1 (J4 inn)),(503,.map true false 1 (Qk tok))] (.d (.int R)) []] ?_ (hr:=by conv=>lhs;simp [Q5,Q6,Tm.row,Tm.Q3,Cs.Q3,hA,h0x,q2t,q3])
    refine AWp.ret ?_
    try dsimp only [Qq,Q8]
    apply Qv.ret
    ·rfl
    ·conv=>lhs;simp [Q9,Tryd.results93]
    ·rfl
    ·simp [Qj,Q4]
   refine AWp.rg [] [] ?_ (hr:=by conv=>lhs;simp [Q5,Q6,Tm.row,Tm.Q3,Cs.Q3,hA,h0x,q2t,q3])
   refine AWp.cy ?_
   refine AWp.rg [] [] ?_ (hr:=by conv=>lhs;simp [Q5,Q6,Tm.row,Tm.Q3,Cs.Q3,hA,h0x,q2t,q3])
   refine AWp.ret ?_
   rw [if_pos q3] at hR
   rw [hR]
   try dsimp only [Qq,Q8]
   apply Qv.ret
   ·rfl
   ·conv=>lhs;simp [Q9,Tryd.results93]
   ·first | rfl | simp
   ·simp [Qj,Q4]
  refine AWp.rg [] [] ?_ (hr:=by conv=>lhs;simp [Q5,Q6,Tm.row,Tm.Q3,Cs.Q3,hA,q2])
  refine AWp.cy ?_
  refine AWp.rg [] [] ?_ (hr:=by conv=>lhs;simp [Q5,Q6,Tm.row,Tm.Q3,Cs.Q3,hA,q2])
  refine AWp.ret ?_
  rw [if_pos (fun h=>q2 (by rw [← hA,h];rfl))] at hR
  rw [hR]
  try dsimp only [Qq,Q8]
  apply Qv.ret
  ·rfl
  ·conv=>lhs;simp [Q9,Tryd.results93]
  ·first | rfl | simp
  ·simp [Qj,Q4]
 ·rw [if_pos (by omega)] at hW hwl
  rw [Tm.lin,if_neg (by omega),if_neg (by omega),if_neg (by omega),if_neg (by omega),if_neg (by omega),if_neg (by omega),if_pos (by omega)] at hR
  refine X3.of Tryd.func93 rfl rfl (Nat.le_of_ble_eq_true rfl) ?_
  show AWp _ _ (Qv _ Tryd.f93 _ _) (X8 137 _ _)
  refine AWp.rg [] [] ?_ (hr:=by conv=>lhs;simp [Q5,Q6,Tm.row,Tm.Q3,Cs.Q3,hA])
  by_cases q4 : A = 1
  ·have q4t:=eq_true q4
   refine AWp.rg [] [] ?_ (hr:=by conv=>lhs;simp [Q5,Q6,Tm.row,Tm.Q3,Cs.Q3,hA,q4t])
   refine AWp.cn ?_
   refine AWp.skip ?_
   obtain ⟨x,hxy⟩ : ∃ x,txs = [x]:=by
    have hl1 : txs.length = 1:=by have:=q4;omega
    rcases txs with _ | ⟨y0,_ | ⟨y1,r⟩⟩
    ·simp at hl1
    ·exact ⟨y0,rfl⟩
    ·simp at hl1
   have h0x : txs[0]? = some x:=by rw [hxy];rfl
   have hmx : x∈txs:=by rw [hxy];simp
   have hxz:=Tm.Z4 hmx
   have hxw:=Tm.C8 hmx
   have hxk:=hxO x hmx
   rw [if_neg (fun h=>h (by rw [hxy];rfl))] at hR
   rw [if_neg (by omega),if_neg (by omega),if_neg (by omega)] at hR
   have hop:=cs_lopen ⟨ct,inn,tok⟩ 10 tn ta tb tvs txs tcs _ o1' hW.bd (by have:=hwl;omega)
   have hWo:=LS.Wd.Xv tvs (s:=⟨ct,inn,tok⟩) (W:=1 + x.wg) (hW.mono (by omega)) ta
   obtain ⟨e,c2,hue⟩:=LS.openE_form ct inn tok ta tvs
   rw [hue] at hop hWo hR
   dsimp only at hop hWo hR
   refine AWp.rg [] [] ?_ (hr:=by conv=>lhs;simp [Q5,Q6,Tm.row,Tm.Q3,Cs.Q3,hA,h0x,q4t])
   refine AWp.rg [] [] ?_ (hr:=by conv=>lhs;simp [Q5,Q6,Tm.row,Tm.Q3,Cs.Q3,hA,h0x,q4t])
   refine AWp.rg [] [] ?_ (hr:=by conv=>lhs;simp [Q5,Q6,Tm.row,Tm.Q3,Cs.Q3,hA,h0x,q4t])
   refine AWp.cn ?_
   refine AWp.rg [] [] ?_ (hr:=by conv=>lhs;simp [Q5,Q6,Tm.row,Tm.Q3,Cs.Q3,hA,h0x,q4t])
   refine AWp.cn ?_
   refine AWp.rg [] [] ?_ (hr:=by conv=>lhs;simp [Q5,Q6,Tm.row,Tm.Q3,Cs.Q3,hA,h0x,q4t])
   refine AWp.cy ?_
   refine AWp.skip ?_
   refine AWp.cy ?_
   refine AWp.rg [] [.c [(1000,500),(1001,501),(1002,502),(1003,503)] [.ptr 1000 0,.d (.ptr [.int 10,.int tn,.str ta,.str tb,Q7 tvs,.sl (txs.map Tm.row),.sl (tcs.map Cs.row)])] [(1000,.blk 109 [.mp 1001,.mp 1002,.mp 1003]),(1001,.map true false 1 (Qk ct)),(1002,.map true false 1 (J4 inn)),(1003,.map true false 1 (Qk tok))] (.d (.int e)) [(1000,.blk 109 [.mp 1001,.mp 1002,.mp 1003]),(1001,.map true false 1 (Qk c2)),(1002,.map true false 1 (J4 inn)),(1003,.map true false 1 (Qk tok))]] ?_ (hr:=by conv=>lhs;simp [Q5,Q6,Tm.row,Tm.Q3,Cs.Q3,hA,h0x,q4t])
   cases ht : lkA tok tb with
   | none =>
    have htg : D.Xk (.str tb) (Qk tok) = none:=by rw [X4,ht];rfl
    refine AWp.dw [] [] mixed ?_ (hr:=by conv=>lhs;simp [Q5,Q6,Tm.row,Tm.Q3,Cs.Q3,hA,h0x,htg,q4t])
    refine AWp.rg [] [] ?_ (hr:=by conv=>lhs;simp [Q5,Q6,Tm.row,Tm.Q3,Cs.Q3,hA,h0x,htg,q4t])
    refine AWp.cn ?_
    refine AWp.skip ?_
    by_cases q5 : e = 0
    ·refine AWp.rg [] [] ?_ (hr:=by conv=>lhs;simp [Q5,Q6,Tm.row,Tm.Q3,Cs.Q3,hA,h0x,htg,q4t,q5])
     refine AWp.cn ?_
     refine AWp.skip ?_
     rw [if_neg (fun h=>h q5),if_neg (by omega)] at hR
     rw [hxy,linL_x] at hR
     have hx:=ih x (by omega) hxk ⟨c2,inn,tok⟩ (hWo.mono (by omega))
     rw [← hR] at hx
     obtain ⟨xk,xn,xa,xb,xvs,xxs,xcs⟩:=x
     refine AWp.rg [] [.c [] [.ptr 500 0,.agg [.d (.int xk),.d (.int xn),.d (.str xa),.d (.str xb),.d (Q7 xvs),.d (.sl (xxs.map Tm.row)),.d (.sl (xcs.map Cs.row))]] [(500,.blk 109 [.mp 501,.mp 502,.mp 503]),(501,.map true false 1 (Qk c2)),(502,.map true false 1 (J4 inn)),(503,.map true false 1 (Qk tok))] (.d (.int R)) []] ?_ (hr:=by conv=>lhs;simp [Q5,Q6,Tm.row,Tm.Q3,Cs.Q3,hA,h0x,htg,q4t,q5])
     refine AWp.ret ?_
     try dsimp only [Qq,Q8]
     apply Qv.ret
     ·rfl
     ·conv=>lhs;simp [Q9,Tryd.results93]
     ·rfl
     ·simp [Qj,Q4]
    refine AWp.rg [] [] ?_ (hr:=by conv=>lhs;simp [Q5,Q6,Tm.row,Tm.Q3,Cs.Q3,hA,h0x,htg,q4t,q5])
    refine AWp.cy ?_
    refine AWp.rg [] [] ?_ (hr:=by conv=>lhs;simp [Q5,Q6,Tm.row,Tm.Q3,Cs.Q3,hA,h0x,htg,q4t,q5])
    refine AWp.ret ?_
    rw [if_pos q5] at hR
    rw [hR]
    try dsimp only [Qq,Q8]
    apply Qv.ret
    ·rfl
    ·conv=>lhs;simp [Q9,Tryd.results93]
    ·first | rfl | simp
    ·simp [Qj,Q4]
   | some k =>
    have htg : D.Xk (.str tb) (Qk tok) = some [.int k]:=by rw [X4,ht];rfl
    refine AWp.dw [] [] mixed ?_ (hr:=by conv=>lhs;simp [Q5,Q6,Tm.row,Tm.Q3,Cs.Q3,hA,h0x,htg,q4t])
    refine AWp.rg [] [] ?_ (hr:=by conv=>lhs;simp [Q5,Q6,Tm.row,Tm.Q3,Cs.Q3,hA,h0x,htg,q4t])
    refine AWp.cn ?_
    refine AWp.skip ?_
    by_cases q6 : e = 0
    ·refine AWp.rg [] [] ?_ (hr:=by conv=>lhs;simp [Q5,Q6,Tm.row,Tm.Q3,Cs.Q3,hA,h0x,htg,q4t,q6])
     refine AWp.cn ?_
     refine AWp.skip ?_
     rw [if_neg (fun h=>h q6),if_neg (by omega)] at hR
     rw [hxy,linL_x] at hR
     have hx:=ih x (by omega) hxk ⟨c2,inn,tok⟩ (hWo.mono (by omega))
     rw [← hR] at hx
     obtain ⟨xk,xn,xa,xb,xvs,xxs,xcs⟩:=x
     refine AWp.rg [] [.c [] [.ptr 500 0,.agg [.d (.int xk),.d (.int xn),.d (.str xa),.d (.str xb),.d (Q7 xvs),.d (.sl (xxs.map Tm.row)),.d (.sl (xcs.map Cs.row))]] [(500,.blk 109 [.mp 501,.mp 502,.mp 503]),(501,.map true false 1 (Qk c2)),(502,.map true false 1 (J4 inn)),(503,.map true false 1 (Qk tok))] (.d (.int R)) []] ?_ (hr:=by conv=>lhs;simp [Q5,Q6,Tm.row,Tm.Q3,Cs.Q3,hA,h0x,htg,q4t,q6])
     refine AWp.ret ?_
     try dsimp only [Qq,Q8]
     apply Qv.ret
     ·rfl
     ·conv=>lhs;simp [Q9,Tryd.results93]
     ·rfl
     ·simp [Qj,Q4]
    refine AWp.rg [] [] ?_ (hr:=by conv=>lhs;simp [Q5,Q6,Tm.row,Tm.Q3,Cs.Q3,hA,h0x,htg,q4t,q6])
    refine AWp.cy ?_
    refine AWp.rg [] [] ?_ (hr:=by conv=>lhs;simp [Q5,Q6,Tm.row,Tm.Q3,Cs.Q3,hA,h0x,htg,q4t,q6])
    refine AWp.ret ?_
    rw [if_pos q6] at hR
    rw [hR]
    try dsimp only [Qq,Q8]
    apply Qv.ret
    ·rfl
    ·conv=>lhs;simp [Q9,Tryd.results93]
    ·first | rfl | simp
    ·simp [Qj,Q4]
  refine AWp.rg [] [] ?_ (hr:=by conv=>lhs;simp [Q5,Q6,Tm.row,Tm.Q3,Cs.Q3,hA,q4])
  refine AWp.cy ?_
  refine AWp.rg [] [] ?_ (hr:=by conv=>lhs;simp [Q5,Q6,Tm.row,Tm.Q3,Cs.Q3,hA,q4])
  refine AWp.ret ?_
  rw [if_pos (fun h=>q4 (by rw [← hA,h];rfl))] at hR
  rw [hR]
  try dsimp only [Qq,Q8]
  apply Qv.ret
  ·rfl
  ·conv=>lhs;simp [Q9,Tryd.results93]
  ·first | rfl | simp
  ·simp [Qj,Q4]
 ·rw [if_pos (by omega)] at hW hwl
  rw [Tm.lin,if_neg (by omega),if_neg (by omega),if_neg (by omega),if_neg (by omega),if_neg (by omega),if_neg (by omega),if_pos (by omega)] at hR
  refine X3.of Tryd.func93 rfl rfl (Nat.le_of_ble_eq_true rfl) ?_
  show AWp _ _ (Qv _ Tryd.f93 _ _) (X8 137 _ _)
  refine AWp.rg [] [] ?_ (hr:=by conv=>lhs;simp [Q5,Q6,Tm.row,Tm.Q3,Cs.Q3,hA])
  by_cases q7 : A = 1
  ·have q7t:=eq_true q7
   refine AWp.rg [] [] ?_ (hr:=by conv=>lhs;simp [Q5,Q6,Tm.row,Tm.Q3,Cs.Q3,hA,q7t])
   refine AWp.cn ?_
   refine AWp.skip ?_
   obtain ⟨x,hxy⟩ : ∃ x,txs = [x]:=by
    have hl1 : txs.length = 1:=by have:=q7;omega
    rcases txs with _ | ⟨y0,_ | ⟨y1,r⟩⟩
    ·simp at hl1
    ·exact ⟨y0,rfl⟩
    ·simp at hl1
   have h0x : txs[0]? = some x:=by rw [hxy];rfl
   have hmx : x∈txs:=by rw [hxy];simp
   have hxz:=Tm.Z4 hmx
   have hxw:=Tm.C8 hmx
   have hxk:=hxO x hmx
   rw [if_neg (fun h=>h (by rw [hxy];rfl))] at hR
   rw [if_neg (by omega),if_neg (by omega),if_neg (by omega)] at hR
   have hop:=cs_lopen ⟨ct,inn,tok⟩ 11 tn ta tb tvs txs tcs _ o1' hW.bd (by have:=hwl;omega)
   have hWo:=LS.Wd.Xv tvs (s:=⟨ct,inn,tok⟩) (W:=1 + x.wg) (hW.mono (by omega)) ta
   obtain ⟨e,c2,hue⟩:=LS.openE_form ct inn tok ta tvs
   rw [hue] at hop hWo hR
   dsimp only at hop hWo hR
   refine AWp.rg [] [] ?_ (hr:=by conv=>lhs;simp [Q5,Q6,Tm.row,Tm.Q3,Cs.Q3,hA,h0x,q7t])
   refine AWp.rg [] [] ?_ (hr:=by conv=>lhs;simp [Q5,Q6,Tm.row,Tm.Q3,Cs.Q3,hA,h0x,q7t])
   refine AWp.rg [] [] ?_ (hr:=by conv=>lhs;simp [Q5,Q6,Tm.row,Tm.Q3,Cs.Q3,hA,h0x,q7t])
   refine AWp.cn ?_
   refine AWp.rg [] [] ?_ (hr:=by conv=>lhs;simp [Q5,Q6,Tm.row,Tm.Q3,Cs.Q3,hA,h0x,q7t])
   refine AWp.cn ?_
   refine AWp.rg [] [] ?_ (hr:=by conv=>lhs;simp [Q5,Q6,Tm.row,Tm.Q3,Cs.Q3,hA,h0x,q7t])
   refine AWp.cn ?_
   refine AWp.rg [] [] ?_ (hr:=by conv=>lhs;simp [Q5,Q6,Tm.row,Tm.Q3,Cs.Q3,hA,h0x,q7t])
   refine AWp.cy ?_
   refine AWp.rg [] [.c [(1000,500),(1001,501),(1002,502),(1003,503)] [.ptr 1000 0,.d (.ptr [.int 11,.int tn,.str ta,.str tb,Q7 tvs,.sl (txs.map Tm.row),.sl (tcs.map Cs.row)])] [(1000,.blk 109 [.mp 1001,.mp 1002,.mp 1003]),(1001,.map true false 1 (Qk ct)),(1002,.map true false 1 (J4 inn)),(1003,.map true false 1 (Qk tok))] (.d (.int e)) [(1000,.blk 109 [.mp 1001,.mp 1002,.mp 1003]),(1001,.map true false 1 (Qk c2)),(1002,.map true false 1 (J4 inn)),(1003,.map true false 1 (Qk tok))]] ?_ (hr:=by conv=>lhs;simp [Q5,Q6,Tm.row,Tm.Q3,Cs.Q3,hA,h0x,q7t])
   cases ht : lkA tok tb with
   | none =>
    have htg : D.Xk (.str tb) (Qk tok) = none:=by rw [X4,ht];rfl
    refine AWp.dw [] [] mixed ?_ (hr:=by conv=>lhs;simp [Q5,Q6,Tm.row,Tm.Q3,Cs.Q3,hA,h0x,htg,q7t])
    by_cases q8 : e = 0
    ·refine AWp.rg [] [] ?_ (hr:=by conv=>lhs;simp [Q5,Q6,Tm.row,Tm.Q3,Cs.Q3,hA,h0x,htg,q7t,q8])
     refine AWp.cy ?_
     by_cases hb : tb = ⟨#[]⟩
     ·have hbt:=eq_true hb
      refine AWp.rg [] [] ?_ (hr:=by conv=>lhs;simp [Q5,Q6,Tm.row,Tm.Q3,Cs.Q3,hA,h0x,htg,q7t,q8,hbt])
      refine AWp.cy ?_
      refine AWp.rg [] [] ?_ (hr:=by conv=>lhs;simp [Q5,Q6,Tm.row,Tm.Q3,Cs.Q3,hA,h0x,htg,q7t,q8,hbt])
      refine AWp.ret ?_
      rw [if_neg (fun h=>h q8),if_pos rfl,if_pos (Or.inr (show tb = ByteArray.empty from hb))] at hR
      rw [hR]
      try dsimp only [Qq,Q8]
      apply Qv.ret
      ·rfl
      ·conv=>lhs;simp [Q9,Tryd.results93]
      ·first | rfl | simp
      ·simp [Qj,Q4]
     refine AWp.rg [] [] ?_ (hr:=by conv=>lhs;simp [Q5,Q6,Tm.row,Tm.Q3,Cs.Q3,hA,h0x,htg,q7t,q8,hb])
     refine AWp.cn ?_
     refine AWp.skip ?_
     rw [if_neg (fun h=>h q8),if_pos rfl,if_neg (fun h=>h.elim (fun h=>by rw [ht] at h;cases h) (fun h=>hb h))] at hR
     refine AWp.dw [] [] mixed ?_ (hr:=by conv=>lhs;simp [Q5,Q6,Tm.row,Tm.Q3,Cs.Q3,hA,h0x,htg,q7t,q8,hb])
     refine AWp.rg [] [] ?_ (hr:=by conv=>lhs;simp [Q5,Q6,Tm.row,Tm.Q3,Cs.Q3,hA,h0x,htg,q7t,q8,hb])
     refine AWp.cn ?_
     refine AWp.skip ?_
     rw [hxy,linL_x] at hR
     have hx:=ih x (by omega) hxk ⟨c2,inn,X5 tok tb tvs.length⟩ (LS.Wd.tput (s:=⟨c2,inn,tok⟩) (hWo.mono (by omega)) tb tvs.length)
     rw [← hR] at hx
     obtain ⟨xk,xn,xa,xb,xvs,xxs,xcs⟩:=x
     refine AWp.rg [] [.c [] [.ptr 500 0,.agg [.d (.int xk),.d (.int xn),.d (.str xa),.d (.str xb),.d (Q7 xvs),.d (.sl (xxs.map Tm.row)),.d (.sl (xcs.map Cs.row))]] [(500,.blk 109 [.mp 501,.mp 502,.mp 503]),(501,.map true false 1 (Qk c2)),(502,.map true false 1 (J4 inn)),(503,.map true false 1 (Qk (X5 tok tb tvs.length)))] (.d (.int R)) []] ?_ (hr:=by conv=>lhs;simp [Q5,Q6,Tm.row,Tm.Q3,Cs.Q3,hA,h0x,htg,q7t,q8,hb])
     refine AWp.ret ?_
     try dsimp only [Qq,Q8]
     apply Qv.ret
     ·rfl
     ·conv=>lhs;simp [Q9,Tryd.results93]
     ·rfl
     ·simp [Qj,Q4]
    refine AWp.rg [] [] ?_ (hr:=by conv=>lhs;simp [Q5,Q6,Tm.row,Tm.Q3,Cs.Q3,hA,h0x,htg,q7t,q8])
    refine AWp.cn ?_
    refine AWp.skip ?_
    refine AWp.rg [] [] ?_ (hr:=by conv=>lhs;simp [Q5,Q6,Tm.row,Tm.Q3,Cs.Q3,hA,h0x,htg,q7t,q8])
    refine AWp.cy ?_
    refine AWp.rg [] [] ?_ (hr:=by conv=>lhs;simp [Q5,Q6,Tm.row,Tm.Q3,Cs.Q3,hA,h0x,htg,q7t,q8])
    refine AWp.ret ?_
    rw [if_pos q8] at hR
    rw [hR]
    try dsimp only [Qq,Q8]
    apply Qv.ret
    ·rfl
    ·conv=>lhs;simp [Q9,Tryd.results93]
    ·first | rfl | simp
    ·simp [Qj,Q4]
   | some k =>
    have htg : D.Xk (.str tb) (Qk tok) = some [.int k]:=by rw [X4,ht];rfl
    refine AWp.dw [] [] mixed ?_ (hr:=by conv=>lhs;simp [Q5,Q6,Tm.row,Tm.Q3,Cs.Q3,hA,h0x,htg,q7t])
    by_cases q9 : e = 0
    ·refine AWp.rg [] [] ?_ (hr:=by conv=>lhs;simp [Q5,Q6,Tm.row,Tm.Q3,Cs.Q3,hA,h0x,htg,q7t,q9])
     refine AWp.cy ?_
     refine AWp.rg [] [] ?_ (hr:=by conv=>lhs;simp [Q5,Q6,Tm.row,Tm.Q3,Cs.Q3,hA,h0x,htg,q7t,q9])
     refine AWp.cy ?_
     refine AWp.rg [] [] ?_ (hr:=by conv=>lhs;simp [Q5,Q6,Tm.row,Tm.Q3,Cs.Q3,hA,h0x,htg,q7t,q9])
     refine AWp.ret ?_
     rw [if_neg (fun h=>h q9),if_pos rfl,if_pos (Or.inl (by rw [ht];rfl))] at hR
     rw [hR]
     try dsimp only [Qq,Q8]
     apply Qv.ret
     ·rfl
     ·conv=>lhs;simp [Q9,Tryd.results93]
     ·first | rfl | simp
     ·simp [Qj,Q4]
    refine AWp.rg [] [] ?_ (hr:=by conv=>lhs;simp [Q5,Q6,Tm.row,Tm.Q3,Cs.Q3,hA,h0x,htg,q7t,q9])
    refine AWp.cn ?_
    refine AWp.skip ?_
    refine AWp.rg [] [] ?_ (hr:=by conv=>lhs;simp [Q5,Q6,Tm.row,Tm.Q3,Cs.Q3,hA,h0x,htg,q7t,q9])
    refine AWp.cy ?_
    refine AWp.rg [] [] ?_ (hr:=by conv=>lhs;simp [Q5,Q6,Tm.row,Tm.Q3,Cs.Q3,hA,h0x,htg,q7t,q9])
    refine AWp.ret ?_
    rw [if_pos q9] at hR
    rw [hR]
    try dsimp only [Qq,Q8]
    apply Qv.ret
    ·rfl
    ·conv=>lhs;simp [Q9,Tryd.results93]
    ·first | rfl | simp
    ·simp [Qj,Q4]
  refine AWp.rg [] [] ?_ (hr:=by conv=>lhs;simp [Q5,Q6,Tm.row,Tm.Q3,Cs.Q3,hA,q7])
  refine AWp.cy ?_
  refine AWp.rg [] [] ?_ (hr:=by conv=>lhs;simp [Q5,Q6,Tm.row,Tm.Q3,Cs.Q3,hA,q7])
  refine AWp.ret ?_
  rw [if_pos (fun h=>q7 (by rw [← hA,h];rfl))] at hR
  rw [hR]
  try dsimp only [Qq,Q8]
  apply Qv.ret
  ·rfl
  ·conv=>lhs;simp [Q9,Tryd.results93]
  ·first | rfl | simp
  ·simp [Qj,Q4]
 ·rw [if_neg (by omega)] at hW hwl
  rw [Tm.lin,if_neg (by omega),if_neg (by omega),if_neg (by omega),if_neg (by omega),if_neg (by omega),if_neg (by omega),if_pos (by omega)] at hR
  refine X3.of Tryd.func93 rfl rfl (Nat.le_of_ble_eq_true rfl) ?_
  show AWp _ _ (Qv _ Tryd.f93 _ _) (X8 137 _ _)
  refine AWp.rg [] [] ?_ (hr:=by conv=>lhs;simp [Q5,Q6,Tm.row,Tm.Q3,Cs.Q3,hA])
  by_cases q10 : A = 1
  ·have q10t:=eq_true q10
   refine AWp.rg [] [] ?_ (hr:=by conv=>lhs;simp [Q5,Q6,Tm.row,Tm.Q3,Cs.Q3,hA,q10t])
   refine AWp.cn ?_
   refine AWp.skip ?_
   obtain ⟨x,hxy⟩ : ∃ x,txs = [x]:=by
    have hl1 : txs.length = 1:=by have:=q10;omega
    rcases txs with _ | ⟨y0,_ | ⟨y1,r⟩⟩
    ·simp at hl1
    ·exact ⟨y0,rfl⟩
    ·simp at hl1
   have h0x : txs[0]? = some x:=by rw [hxy];rfl
   have hmx : x∈txs:=by rw [hxy];simp
   have hxz:=Tm.Z4 hmx
   have hxw:=Tm.C8 hmx
   have hxk:=hxO x hmx
   rw [if_neg (fun h=>h (by rw [hxy];rfl))] at hR
   rw [if_neg (by omega),if_neg (by omega),if_pos rfl] at hR
   refine AWp.rg [] [] ?_ (hr:=by conv=>lhs;simp [Q5,Q6,Tm.row,Tm.Q3,Cs.Q3,hA,h0x,q10t])
   refine AWp.rg [] [] ?_ (hr:=by conv=>lhs;simp [Q5,Q6,Tm.row,Tm.Q3,Cs.Q3,hA,h0x,q10t])
   refine AWp.rg [] [] ?_ (hr:=by conv=>lhs;simp [Q5,Q6,Tm.row,Tm.Q3,Cs.Q3,hA,h0x,q10t])
   refine AWp.cn ?_
   refine AWp.rg [] [] ?_ (hr:=by conv=>lhs;simp [Q5,Q6,Tm.row,Tm.Q3,Cs.Q3,hA,h0x,q10t])
   refine AWp.cn ?_
   refine AWp.rg [] [] ?_ (hr:=by conv=>lhs;simp [Q5,Q6,Tm.row,Tm.Q3,Cs.Q3,hA,h0x,q10t])
   refine AWp.cn ?_
   refine AWp.rg [] [] ?_ (hr:=by conv=>lhs;simp [Q5,Q6,Tm.row,Tm.Q3,Cs.Q3,hA,h0x,q10t])
   refine AWp.cn ?_
   refine AWp.rg [] [] ?_ (hr:=by conv=>lhs;simp [Q5,Q6,Tm.row,Tm.Q3,Cs.Q3,hA,h0x,q10t])
   refine AWp.cy ?_
   cases ht : lkA tok tb with
   | none =>
    have htg : D.Xk (.str tb) (Qk tok) = none:=by rw [X4,ht];rfl
    refine AWp.dw [] [] mixed ?_ (hr:=by conv=>lhs;simp [Q5,Q6,Tm.row,Tm.Q3,Cs.Q3,hA,h0x,htg,q10t])
    refine AWp.rg [] [] ?_ (hr:=by conv=>lhs;simp [Q5,Q6,Tm.row,Tm.Q3,Cs.Q3,hA,h0x,htg,q10t])
    refine AWp.cy ?_
    refine AWp.rg [] [] ?_ (hr:=by conv=>lhs;simp [Q5,Q6,Tm.row,Tm.Q3,Cs.Q3,hA,h0x,htg,q10t])
    refine AWp.ret ?_
    rw [if_neg (by rw [ht];simp)] at hR
    rw [hR]
    try dsimp only [Qq,Q8]
    apply Qv.ret
    ·rfl
    ·conv=>lhs;simp [Q9,Tryd.results93]
    ·first | rfl | simp
    ·simp [Qj,Q4]
   | some k =>
    have htg : D.Xk (.str tb) (Qk tok) = some [.int k]:=by rw [X4,ht];rfl
    refine AWp.dw [] [] mixed ?_ (hr:=by conv=>lhs;simp [Q5,Q6,Tm.row,Tm.Q3,Cs.Q3,hA,h0x,htg,q10t])
    refine AWp.rg [] [] ?_ (hr:=by conv=>lhs;simp [Q5,Q6,Tm.row,Tm.Q3,Cs.Q3,hA,h0x,htg,q10t])
    refine AWp.cn ?_
    refine AWp.skip ?_
    rw [if_pos (by rw [ht];rfl)] at hR
    rw [hxy,linL_x] at hR
    have hx:=ih x (by omega) hxk ⟨ct,inn,Wz tok tb⟩ ((hW.mono (by omega)).tdel tb)
    rw [← hR] at hx
    obtain ⟨xk,xn,xa,xb,xvs,xxs,xcs⟩:=x
    refine AWp.dw [] [] mixed ?_ (hr:=by conv=>lhs;simp [Q5,Q6,Tm.row,Tm.Q3,Cs.Q3,hA,h0x,htg,q10t])
    refine AWp.rg [] [] ?_ (hr:=by conv=>lhs;simp [Q5,Q6,Tm.row,Tm.Q3,Cs.Q3,hA,h0x,htg,q10t])
    refine AWp.cn ?_
    refine AWp.skip ?_
    refine AWp.rg [] [.c [] [.ptr 500 0,.agg [.d (.int xk),.d (.int xn),.d (.str xa),.d (.str xb),.d (Q7 xvs),.d (.sl (xxs.map Tm.row)),.d (.sl (xcs.map Cs.row))]] [(500,.blk 109 [.mp 501,.mp 502,.mp 503]),(501,.map true false 1 (Qk ct)),(502,.map true false 1 (J4 inn)),(503,.map true false 1 (Qk (Wz tok tb)))] (.d (.int R)) []] ?_ (hr:=by conv=>lhs;simp [Q5,Q6,Tm.row,Tm.Q3,Cs.Q3,hA,h0x,htg,q10t])
    refine AWp.ret ?_
    try dsimp only [Qq,Q8]
    apply Qv.ret
    ·rfl
    ·conv=>lhs;simp [Q9,Tryd.results93]
    ·rfl
    ·simp [Qj,Q4]
  refine AWp.rg [] [] ?_ (hr:=by conv=>lhs;simp [Q5,Q6,Tm.row,Tm.Q3,Cs.Q3,hA,q10])
  refine AWp.cy ?_
  refine AWp.rg [] [] ?_ (hr:=by conv=>lhs;simp [Q5,Q6,Tm.row,Tm.Q3,Cs.Q3,hA,q10])
  refine AWp.ret ?_
  rw [if_pos (fun h=>q10 (by rw [← hA,h];rfl))] at hR
  rw [hR]
  try dsimp only [Qq,Q8]
  apply Qv.ret
  ·rfl
  ·conv=>lhs;simp [Q9,Tryd.results93]
  ·first | rfl | simp
  ·simp [Qj,Q4]
theorem births_none {ents : List (D×List D)} {bents : List (Nat×D×List D)} {v : ByteArray} (hp : (bents.map (·.2)).Perm ents) (hg : D.Xk (.str v) ents = none) : bents.find? (fun p=>D.keq p.2.1 (.str v)) = none:=by
 have h0 : ∀ l : List (D×List D),D.Xk (.str v) l = none→∀ p∈l,D.keq p.1 (.str v) = false:=fun l=>by
  induction l with
  | nil=>intro _ p h;cases h
  | cons q r ih =>
   obtain ⟨a,b⟩:=q
   intro h p hp
   rw [D.Xk] at h
   split at h
   ·cases h
   ·rename_i hk
    rcases List.mem_cons.1 hp with rfl | hp
    ·simpa using hk
    ·exact ih h p hp
 rw [List.find?_eq_none]
 intro p hm
 have:=h0 ents hg p.2 (hp.mem_iff.1 (List.mem_map.2 ⟨p,hm,rfl⟩))
 simp [this]
theorem births_some {ents : List (D×List D)} {bents : List (Nat×D×List D)} {v : ByteArray} {r : List D} (hp : (bents.map (·.2)).Perm ents) (he : I9 ents) (hg : D.Xk (.str v) ents = some r) : ∃ k,bents.find? (fun p=>D.keq p.2.1 (.str v)) = some (k,.str v,r)∧∃ a,(∃ a_1 b,(a,a_1,b)∈bents)∧(a : Int) = (k : Int):=by
 have hm:=he.mem.2 hg
 obtain ⟨p,hp1,hp2⟩:=List.mem_map.1 (hp.mem_iff.2 hm)
 cases hf : bents.find? (fun p=>D.keq p.2.1 (.str v)) with
 | none =>
  have:=List.find?_eq_none.1 hf p hp1
  rw [hp2,Qx7] at this
  simp at this
 | some q =>
  have hq1:=List.mem_of_find?_eq_some hf
  have hq2 : q.2.1 = .str v:=keq_eq (by simpa using List.find?_some hf)
  have hq3 : (D.str v,q.2.2)∈ents:=hp.mem_iff.1 (List.mem_map.2 ⟨q,hq1,by rw [← hq2]⟩)
  have hq4:=he.mem.1 hq3
  rw [hg] at hq4
  obtain ⟨k,key,row⟩:=q
  dsimp only at hq2 hq4
  subst hq2
  rw [← Option.some.inj hq4]
  exact ⟨k,rfl,k,⟨_,_,hq1⟩,rfl⟩
set_option maxRecDepth 20000 in
set_option maxHeartbeats 16000000 in
theorem cs_lmatch (N : Nat) (ih : LinN N) (tn : Int) (ta tb : ByteArray) (tvs : List ByteArray) (txs : List Tm) (tcs : List Cs) (hsz : (Tm.mk 7 tn ta tb tvs txs tcs).sz≤N + 1) (hO : (Tm.mk 7 tn ta tb tvs txs tcs).Ok) (s : LS) (hW : s.Wd (Tm.mk 7 tn ta tb tvs txs tcs).wg) :
  X3 Tryd.prog 92 [.ptr 500 0,.d (.ptr [.int 7,.int tn,.str ta,.str tb,Q7 tvs,.sl (txs.map Tm.row),.sl (tcs.map Cs.row)])] [(500,.blk 109 [.mp 501,.mp 502,.mp 503]),(501,lcO s.ct),(502,liO s.inn),(503,lcO s.tk)] (.d (.int ((Tm.mk 7 tn ta tb tvs txs tcs).lin s))) []:=by
 obtain ⟨ct,inn,tok⟩:=s
 obtain ⟨R,hR⟩ : ∃ R,R = (Tm.mk 7 tn ta tb tvs txs tcs).lin ⟨ct,inn,tok⟩:=⟨_,rfl⟩
 rw [← hR]
 rw [Tm.lin,if_neg (by omega),if_neg (by omega),if_neg (by omega),if_neg (by omega),if_neg (by omega),if_pos rfl] at hR
 have hcO : ∀ x∈tcs,x.Ok:=fun x hx=>Cs.Zq.1 hO.2.2.2 x hx
 obtain ⟨o1,o2,o3,o4,o5⟩:=hO.vars
 simp only [Tm.sz] at hsz
 simp only [Tm.wg] at hW
 have hown:=cs_lown ⟨ct,inn,tok⟩
 obtain ⟨A,hA⟩ : ∃ A : Int,(txs.length : Int) = A:=⟨_,rfl⟩
 refine X3.of Tryd.func92 rfl rfl (Nat.le_of_ble_eq_true rfl) ?_
 show AWp _ _ (Qv _ Tryd.f92 _ _) (X8 96 _ _)
 refine AWp.rg [] [] ?_ (hr:=by conv=>lhs;simp [Q5,Tm.row,Tm.Q3,Cs.Q3,hA])
 by_cases hA1 : A = 1
 ·have hA1t:=eq_true hA1
  obtain ⟨x,hxy⟩ : ∃ x,txs = [x]:=by
   have hl1 : txs.length = 1:=by omega
   rcases txs with _ | ⟨y0,_ | ⟨y1,r⟩⟩
   ·simp at hl1
   ·exact ⟨y0,rfl⟩
   ·simp at hl1
  have h0x : txs[0]? = some x:=by rw [hxy];rfl
  obtain ⟨xk,xn,xa,xb,xvs,xxs,xcs⟩:=x
  have hR : R = if xk≠1 then 2 else if LS.c ⟨ct,inn,tok⟩ xa < 1 then 6 else Cs.Dv tcs ⟨ct,inn,tok⟩ xa:=by
   rw [hR,hxy]
   change (if (1 : Nat)≠1∨xk≠1 then (2 : Int) else if LS.c ⟨ct,inn,tok⟩ xa < 1 then 6 else Cs.Dv tcs ⟨ct,inn,tok⟩ xa) = _
   by_cases h1 : xk = 1
   ·rw [if_neg (fun h=>h.elim (fun h=>h rfl) (fun h=>h h1)),if_neg (show ¬ xk≠1 from fun h=>h h1)]
   ·rw [if_pos (Or.inr h1),if_pos h1]
  by_cases q1 : xk = 1
  ·refine AWp.rg [] [] ?_ (hr:=by conv=>lhs;simp [Q5,Tm.row,Tm.Q3,Cs.Q3,hA,h0x,hA1t,q1])
   refine AWp.cn ?_
   refine AWp.skip ?_
   refine AWp.rg [] [] ?_ (hr:=by conv=>lhs;simp [Q5,Tm.row,Tm.Q3,Cs.Q3,hA,h0x,hA1t,q1])
   rw [if_neg (fun h=>h q1)] at hR
   cases hk : lkA ct xa with
   | none =>
    have hkg : D.Xk (.str xa) (Qk ct) = none:=by rw [X4,hk];rfl
    have hcx : LS.c ⟨ct,inn,tok⟩ xa = 0:=by unfold LS.c;rw [hk];rfl
    refine AWp.rg [] [] ?_ (hr:=by conv=>lhs;simp [Q5,Tm.row,Tm.Q3,Cs.Q3,hA,h0x,hkg,hA1t,q1])
    refine AWp.cy ?_
    refine AWp.rg [] [] ?_ (hr:=by conv=>lhs;simp [Q5,Tm.row,Tm.Q3,Cs.Q3,hA,h0x,hkg,hA1t,q1])
    refine AWp.ret ?_
    rw [if_pos (by rw [hcx];omega)] at hR
    rw [hR]
    try dsimp only [Qq,Q8]
    apply Qv.ret
    ·rfl
    ·conv=>lhs;simp [Q9,Tryd.results92]
    ·first | rfl | simp
    ·simp [Qj,Q4]
   | some k =>
    have hkg : D.Xk (.str xa) (Qk ct) = some [.int k]:=by rw [X4,hk];rfl
    have hcx : LS.c ⟨ct,inn,tok⟩ xa = k:=by unfold LS.c;rw [hk];rfl
    by_cases q2 : k < 1
    ·refine AWp.rg [] [] ?_ (hr:=by conv=>lhs;simp [Q5,Tm.row,Tm.Q3,Cs.Q3,hA,h0x,hkg,hA1t,q1,q2])
     refine AWp.cy ?_
     refine AWp.rg [] [] ?_ (hr:=by conv=>lhs;simp [Q5,Tm.row,Tm.Q3,Cs.Q3,hA,h0x,hkg,hA1t,q1,q2])
     refine AWp.ret ?_
     rw [if_pos (by rw [hcx];omega)] at hR
     rw [hR]
     try dsimp only [Qq,Q8]
     apply Qv.ret
     ·rfl
     ·conv=>lhs;simp [Q9,Tryd.results92]
     ·first | rfl | simp
     ·simp [Qj,Q4]
    refine AWp.rg [] [] ?_ (hr:=by conv=>lhs;simp [Q5,Tm.row,Tm.Q3,Cs.Q3,hA,h0x,hkg,hA1t,q1,q2])
    refine AWp.cn ?_
    refine AWp.skip ?_
    rw [if_neg (by rw [hcx];exact q2)] at hR
    refine AWp.rg [] [] ?_ (hr:=by conv=>lhs;simp [Q5,Tm.row,Tm.Q3,Cs.Q3,hA,h0x,hkg,hA1t,q1,q2])
    repeat (first | refine AWp.seq ?_ | refine AWp.block ?_)
    refine AWp.loop (σ:=fun u : {u : Nat // u≤tcs.length∧R = Cs.Dv (tcs.drop u) ⟨ct,inn,tok⟩ xa}=>⟨96,[(0,.ptr 500 0),(5,.d (.str xa)),(47,.d (.sl (tcs.map Cs.row))),(48,.d (.int (tcs.length : Int))),(49,.d (.int (u.1 : Int)))],[(500,some (.blk 109 [.mp 501,.mp 502,.mp 503])),(501,some (.map true false 1 (Qk ct))),(502,some (.map true false 1 (J4 inn))),(503,some (.map true false 1 (Qk tok)))]⟩)
     (μ:=fun u=>tcs.length - u.1) ⟨0,⟨Nat.zero_le _,by rw [hR];rfl⟩⟩ (Le.sub (by simp) (by simp)) (fun ⟨i,⟨hi7,hw⟩⟩=>?_)
    dsimp only
    refine AWp.rg [] [] ?_ (hr:=by conv=>lhs;simp [Q5,Tm.row,Tm.Q3,Cs.Q3,hA,h0x,hkg,hA1t,q1,q2])
    repeat (first | refine AWp.seq ?_ | refine AWp.block ?_)
    refine AWp.cond rfl (fun hc=>?_) (fun hc=>?_)
    ·have hi1 : i < tcs.length:=by have:=of_decide_eq_true hc;omega
     clear hc
     have h1d : tcs[i]? = some tcs[i]:=List.getElem?_eq_getElem hi1
     have hmd : tcs[i]∈tcs:=List.getElem_mem hi1
     have hdd : tcs.drop i = tcs[i] :: tcs.drop (i + 1):=List.drop_eq_getElem_cons hi1
     generalize tcs[i] = d at h1d hmd hdd
     have hdO:=hcO d hmd
     have hdz:=Cs.Z4 hmd
     have hdl:=Cs.C8 hmd
     obtain ⟨dt,dws,y⟩:=d
     obtain ⟨hd1,hd2,hd3⟩:=hdO
     rw [Cs.sz] at hdz
     rw [Cs.wg] at hdl
     rw [hdd,Cs.Dv,Cs.lin] at hw
     obtain ⟨E,hE⟩ : ∃ E,E = LS.Wq ⟨ct,inn,tok⟩ xa dws:=⟨_,rfl⟩
     rw [← hE] at hw
     have hy0 : y.row = y.row:=rfl
     obtain ⟨y',hyy⟩ : ∃ y',y' = y:=⟨_,rfl⟩
     obtain ⟨yk,yn,ya,yb,yvs,yxs,ycs⟩:=y
     refine AWp.skip ?_
     refine AWp.rg [] [] ?_ (hr:=by conv=>lhs;simp [Q5,Tm.row,Tm.Q3,Cs.Q3,hA,h0x,hkg,h1d,Cs.row,hA1t,q1,q2])
     refine AWp.rg [] [.n [(1000,500),(1001,501),(1002,502),(1003,503),(500,400),(501,401),(502,402),(503,403)] [.ptr 1000 0] [(1000,.blk 109 [.mp 1001,.mp 1002,.mp 1003]),(1001,.map true false 1 (Qk ct)),(1002,.map true false 1 (J4 inn)),(1003,.map true false 1 (Qk tok))] (.ptr 500 0) [(1000,.blk 109 [.mp 1001,.mp 1002,.mp 1003]),(1001,.map true false 1 (Qk ct)),(1002,.map true false 1 (J4 inn)),(1003,.map true false 1 (Qk tok)),(500,.blk 109 [.mp 501,.mp 502,.mp 503]),(501,.map true false 1 (Qk ct)),(502,.map true false 1 (J4 inn)),(503,.map true false 1 (Qk tok))] [500,501,502,503]] ?_ (hr:=by conv=>lhs;simp [Q5,Tm.row,Tm.Q3,Cs.Q3,hA,h0x,hkg,h1d,Cs.row,hA1t,q1,q2])
     refine AWp.rg [] [] ?_ (hr:=by conv=>lhs;simp [Q5,Tm.row,Tm.Q3,Cs.Q3,hA,h0x,hkg,h1d,Cs.row,hA1t,q1,q2])
     repeat (first | refine AWp.seq ?_ | refine AWp.block ?_)
     refine AWp.loop (σ:=fun u : {u : Nat×List (ByteArray×Int)×List (ByteArray×ByteArray) // u.1≤dws.length∧(E = LS.Wq ⟨u.2.1,u.2.2,tok⟩ xa (dws.drop u.1)∧LS.Wd ⟨u.2.1,u.2.2,tok⟩ (1 + Cs.wgs tcs))}=>⟨96,[(0,.ptr 500 0),(5,.d (.str xa)),(7,.ptr 7 0),(8,.ptr 400 0),(47,.d (.sl (tcs.map Cs.row))),(48,.d (.int (tcs.length : Int))),(49,.d (.int (i : Int))),(56,.d (Q7 dws)),(57,.d (.int (dws.length : Int))),(58,.d (.int (u.1.1 : Int)))],[(7,some (.blk 42 [.d (.int dt),.d (Q7 dws),.d (.int yk),.d (.int yn),.d (.str ya),.d (.str yb),.d (Q7 yvs),.d (.sl (yxs.map Tm.row)),.d (.sl (ycs.map Cs.row))])),(400,some (.blk 109 [.mp 401,.mp 402,.mp 403])),(401,some (.map true false 1 (Qk u.1.2.1))),(402,some (.map true false 1 (J4 u.1.2.2))),(403,some (.map true false 1 (Qk tok))),(500,some (.blk 109 [.mp 501,.mp 502,.mp 503])),(501,some (.map true false 1 (Qk ct))),(502,some (.map true false 1 (J4 inn))),(503,some (.map true false 1 (Qk tok)))]⟩)
      (μ:=fun u=>dws.length - u.1.1) ⟨(0,ct,inn),⟨Nat.zero_le _,⟨by rw [hE];rfl,hW.mono (by omega)⟩⟩⟩ (Le.sub (by simp) (by simp)) (fun ⟨(m,c,f),⟨hi11,hw2⟩⟩=>?_)
     dsimp only at hi11 hw2 ⊢
     refine AWp.rg [] [] ?_ (hr:=by conv=>lhs;simp [Q5,Tm.row,Tm.Q3,Cs.Q3,hA,h0x,hkg,h1d,Cs.row,hA1t,q1,q2])
     repeat (first | refine AWp.seq ?_ | refine AWp.block ?_)
     refine AWp.cond rfl (fun hc=>?_) (fun hc=>?_)
     ·have hi1 : m < dws.length:=by have:=of_decide_eq_true hc;omega
      clear hc
      have h1v : dws[m]? = some dws[m]:=List.getElem?_eq_getElem hi1
      have hmv : dws[m]∈dws:=List.getElem_mem hi1
      have hdv : dws.drop m = dws[m] :: dws.drop (m + 1):=List.drop_eq_getElem_cons hi1
      generalize dws[m] = v at h1v hmv hdv
      obtain ⟨hE2,hWc⟩:=hw2
      rw [hdv,LS.Wq] at hE2
      dsimp only at hE2
      refine AWp.skip ?_
      refine AWp.rg [] [] ?_ (hr:=by conv=>lhs;simp [Q5,Tm.row,Tm.Q3,Cs.Q3,hA,h0x,hkg,h1d,Cs.row,h1v,hA1t,q1,q2])
      cases hv : lkA c v with
      | none =>
       have hvg : D.Xk (.str v) (Qk c) = none:=by rw [X4,hv];rfl
       refine AWp.rg [] [] ?_ (hr:=by conv=>lhs;simp [Q5,Tm.row,Tm.Q3,Cs.Q3,hA,h0x,hkg,h1d,Cs.row,h1v,hvg,hA1t,q1,q2])
       refine AWp.rg [] [] ?_ (hr:=by conv=>lhs;simp [Q5,Tm.row,Tm.Q3,Cs.Q3,hA,h0x,hkg,h1d,Cs.row,h1v,hvg,hA1t,q1,q2])
       refine AWp.cn ?_
       refine AWp.skip ?_
       rw [if_neg (by rw [hv];simp)] at hE2
       have hWn : LS.Wd ⟨X5 c v 0,X5 f v xa,tok⟩ (1 + Cs.wgs tcs):=LS.Wd.iput (s:=⟨X5 c v 0,f,tok⟩) (LS.Wd.put (s:=⟨c,f,tok⟩) hWc v (v:=0) (by omega) (by have:=hWc.tl;have : (0 : Int)≤(tok.length : Int):=Int.natCast_nonneg _;dsimp only at *;omega)) v xa
       repeat (first | refine AWp.seq ?_ | refine AWp.block ?_)
       refine AWp.birthsC 401 rfl fun b1 ck1 be1 hp1 hn1 hc1=>?_
       refine AWp.birthsC 402 rfl fun b2 ck2 be2 hp2 hn2 hc2=>?_
       have hf1:=births_none hp1 hvg
       cases hi : lkA f v with
       | none =>
        have hf2:=births_none (v:=v) hp2 (by rw [Ev,hi];rfl)
        refine AWp.dw [] [] mixed ?_ (hr:=by conv=>lhs;simp [Q5,Tm.row,Tm.Q3,Cs.Q3,hA,h0x,hkg,h1d,Cs.row,h1v,hvg,hA1t,q1,q2,hf1,hf2])
        refine AWp.le (Le.unbirth 401 (ents:=Qk (X5 c v 0)) rfl (by rw [← Q5];exact bset_new hp1 hc1 hf1)) ?_
        refine AWp.le (Le.unbirth 402 (ents:=J4 (X5 f v xa)) rfl (by rw [← entS_put];exact bset_new hp2 hc2 hf2)) ?_
        refine AWp.rg [] [] ?_ (hr:=by conv=>lhs;simp [Q5,Tm.row,Tm.Q3,Cs.Q3,hA,h0x,hkg,h1d,Cs.row,h1v,hvg,hA1t,q1,q2])
        refine ⟨⟨(m + 1,X5 c v 0,X5 f v xa),hi1,⟨hE2,hWn⟩⟩,by simp;omega,?_⟩
        dsimp only
        exact Le.sub (by simp) (by simp)
       | some q =>
        obtain ⟨kk,hf2,hm2⟩:=births_some (v:=v) hp2 (entS_ents hWc.k2) (by rw [Ev,hi];rfl)
        refine AWp.dw [] [] mixed ?_ (hr:=by conv=>lhs;simp [Q5,Tm.row,Tm.Q3,Cs.Q3,hA,h0x,hkg,h1d,Cs.row,h1v,hvg,hA1t,q1,q2,hf1,hf2])
        refine AWp.le (Le.unbirth 401 (ents:=Qk (X5 c v 0)) rfl (by rw [← Q5];exact bset_new hp1 hc1 hf1)) ?_
        refine AWp.le (Le.unbirth 402 (ents:=J4 (X5 f v xa)) rfl (by rw [← entS_put];exact bset_old hp2 hn2 (entS_ents hWc.k2).nodup hf2)) ?_
        refine AWp.rg [] [] ?_ (hr:=by conv=>lhs;simp [Q5,Tm.row,Tm.Q3,Cs.Q3,hA,h0x,hkg,h1d,Cs.row,h1v,hvg,hA1t,q1,q2])
        refine ⟨⟨(m + 1,X5 c v 0,X5 f v xa),hi1,⟨hE2,hWn⟩⟩,by simp;omega,?_⟩
        dsimp only
        exact Le.sub (by simp) (by simp)
      | some u =>
       have hvg : D.Xk (.str v) (Qk c) = some [.int u]:=by rw [X4,hv];rfl
       refine AWp.rg [] [] ?_ (hr:=by conv=>lhs;simp [Q5,Tm.row,Tm.Q3,Cs.Q3,hA,h0x,hkg,h1d,Cs.row,h1v,hvg,hA1t,q1,q2])
       refine AWp.rg [] [] ?_ (hr:=by conv=>lhs;simp [Q5,Tm.row,Tm.Q3,Cs.Q3,hA,h0x,hkg,h1d,Cs.row,h1v,hvg,hA1t,q1,q2])
       refine AWp.cy ?_
       refine AWp.rg [] [] ?_ (hr:=by conv=>lhs;simp [Q5,Tm.row,Tm.Q3,Cs.Q3,hA,h0x,hkg,h1d,Cs.row,h1v,hvg,hA1t,q1,q2])
       refine AWp.ret ?_
       rw [if_pos (by rw [hv];rfl)] at hE2
       rw [hE2] at hw
       have hw : R = 7:=by simpa using hw
       rw [hw]
       try dsimp only [Qq,Q8]
       apply Qv.ret
       ·rfl
       ·conv=>lhs;simp [Q9,Tryd.results92]
       ·first | rfl | simp
       ·simp [Qj,Q4]
     have hi1 : m = dws.length:=by have:=of_decide_eq_false hc;omega
     subst hi1
     clear hc
     obtain ⟨hE2,hWc⟩:=hw2
     rw [List.drop_length,LS.Wq] at hE2
     rw [hE2] at hw
     have hx:=ih y' (by rw [hyy];omega) (by rw [hyy];exact hd3) ⟨c,f,tok⟩ (hWc.mono (by rw [hyy];omega))
     obtain ⟨e,hee⟩ : ∃ e,e = Tm.lin y' ⟨c,f,tok⟩:=⟨_,rfl⟩
     rw [← hee] at hx
     rw [hyy] at hx hee
     replace hee:=hee.symm
     change R = if (if (0 : Int)≠0 then (0 : Int) else Tm.lin (.mk yk yn ya yb yvs yxs ycs) ⟨c,f,tok⟩)≠0 then (if (0 : Int)≠0 then (0 : Int) else Tm.lin (.mk yk yn ya yb yvs yxs ycs) ⟨c,f,tok⟩) else _ at hw
     simp only [ne_eq,not_true_eq_false,if_false] at hw
     refine AWp.exit ?_
     refine AWp.rg [] [.c [(500,400),(501,401),(502,402),(503,403)] [.ptr 500 0,.agg [.d (.int yk),.d (.int yn),.d (.str ya),.d (.str yb),.d (Q7 yvs),.d (.sl (yxs.map Tm.row)),.d (.sl (ycs.map Cs.row))]] [(500,.blk 109 [.mp 501,.mp 502,.mp 503]),(501,.map true false 1 (Qk c)),(502,.map true false 1 (J4 f)),(503,.map true false 1 (Qk tok))] (.d (.int e)) []] ?_ (hr:=by conv=>lhs;simp [Q5,Tm.row,Tm.Q3,Cs.Q3,hA,h0x,hkg,h1d,Cs.row,hA1t,q1,q2])
     by_cases q3 : e = 0
     ·refine AWp.rg [] [] ?_ (hr:=by conv=>lhs;simp [Q5,Tm.row,Tm.Q3,Cs.Q3,hA,h0x,hkg,h1d,Cs.row,hA1t,q1,q2,q3])
      refine AWp.cn ?_
      refine AWp.skip ?_
      refine AWp.rg [] [] ?_ (hr:=by conv=>lhs;simp [Q5,Tm.row,Tm.Q3,Cs.Q3,hA,h0x,hkg,h1d,Cs.row,hA1t,q1,q2,q3])
      rw [hee,q3,if_neg (by simp)] at hw
      refine ⟨⟨i + 1,hi1,hw⟩,by simp;omega,?_⟩
      dsimp only
      exact Le.sub (by simp) (by simp)
     refine AWp.rg [] [] ?_ (hr:=by conv=>lhs;simp [Q5,Tm.row,Tm.Q3,Cs.Q3,hA,h0x,hkg,h1d,Cs.row,hA1t,q1,q2,q3])
     refine AWp.cy ?_
     refine AWp.rg [] [] ?_ (hr:=by conv=>lhs;simp [Q5,Tm.row,Tm.Q3,Cs.Q3,hA,h0x,hkg,h1d,Cs.row,hA1t,q1,q2,q3])
     refine AWp.ret ?_
     rw [hee,if_pos q3] at hw
     rw [hw]
     try dsimp only [Qq,Q8]
     apply Qv.ret
     ·rfl
     ·conv=>lhs;simp [Q9,Tryd.results92]
     ·first | rfl | simp
     ·simp [Qj,Q4]
    have hi1 : i = tcs.length:=by have:=of_decide_eq_false hc;omega
    subst hi1
    clear hc
    rw [List.drop_length,Cs.Dv] at hw
    refine AWp.exit ?_
    refine AWp.rg [] [] ?_ (hr:=by conv=>lhs;simp [Q5,Tm.row,Tm.Q3,Cs.Q3,hA,h0x,hkg,hA1t,q1,q2])
    refine AWp.ret ?_
    rw [hw]
    try dsimp only [Qq,Q8]
    apply Qv.ret
    ·rfl
    ·conv=>lhs;simp [Q9,Tryd.results92]
    ·first | rfl | simp
    ·simp [Qj,Q4]
  refine AWp.rg [] [] ?_ (hr:=by conv=>lhs;simp [Q5,Tm.row,Tm.Q3,Cs.Q3,hA,h0x,hA1t,q1])
  refine AWp.cy ?_
  refine AWp.rg [] [] ?_ (hr:=by conv=>lhs;simp [Q5,Tm.row,Tm.Q3,Cs.Q3,hA,h0x,hA1t,q1])
  refine AWp.ret ?_
  rw [if_pos q1] at hR
  rw [hR]
  try dsimp only [Qq,Q8]
  apply Qv.ret
  ·rfl
  ·conv=>lhs;simp [Q9,Tryd.results92]
  ·first | rfl | simp
  ·simp [Qj,Q4]
 refine AWp.rg [] [] ?_ (hr:=by conv=>lhs;simp [Q5,Tm.row,Tm.Q3,Cs.Q3,hA,hA1])
 refine AWp.cy ?_
 refine AWp.rg [] [] ?_ (hr:=by conv=>lhs;simp [Q5,Tm.row,Tm.Q3,Cs.Q3,hA,hA1])
 refine AWp.ret ?_
 rw [if_pos (Or.inl (fun h=>hA1 (by rw [← hA,h];rfl)))] at hR
 rw [hR]
 try dsimp only [Qq,Q8]
 apply Qv.ret
 ·rfl
 ·conv=>lhs;simp [Q9,Tryd.results92]
 ·first | rfl | simp
 ·simp [Qj,Q4]
end Go.Proofs.YtjpldhjgehoffaaDoor
