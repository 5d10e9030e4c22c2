import Derived.Test.YtlbcipohiepjmaaDoorFuseO
set_option maxRecDepth 20000
set_option maxHeartbeats 16000000
set_option linter.unusedVariables false
set_option linter.unusedSimpArgs false
namespace Go.Proofs.YtlbcipohiepjmaaDoor
open Classical Go.RowKit
mutual
def Tm.nc:Tm→Nat
 | .mk k n a b vs xs cs=>Tm.ncL xs+Cs.ncL cs
def Tm.ncL:List Tm→Nat
 |[]=>0
 |x::r=>x.nc+Tm.ncL r
def Cs.ncL:List Cs→Nat
 |[]=>0
 |c::r=>c.nc+Cs.ncL r
def Cs.nc:Cs→Nat
 | .mk t ws y=>1+y.nc
end
mutual
theorem Tm.nc_sz:∀t:Tm,t.nc+1≤t.sz
 | .mk k n a b vs xs cs=>by
  have h1:=Tm.ncL_sz xs;have h2:=Cs.ncL_sz cs;rw[Tm.nc,Tm.sz];omega
theorem Tm.ncL_sz:∀l:List Tm,Tm.ncL l≤Tm.szs l
 |[]=>Nat.le_refl _
 |x::r=>by
  have h1:=Tm.nc_sz x;have h2:=Tm.ncL_sz r;rw[Tm.ncL,Tm.szs];omega
theorem Cs.ncL_sz:∀l:List Cs,Cs.ncL l≤Cs.szs l
 |[]=>Nat.le_refl _
 |c::r=>by
  have h1:=Cs.nc_sz c;have h2:=Cs.ncL_sz r;rw[Cs.ncL,Cs.szs];omega
theorem Cs.nc_sz:∀c:Cs,c.nc≤c.sz
 | .mk t ws y=>by
  have h1:=Tm.nc_sz y;rw[Cs.nc,Cs.sz];omega
end
theorem M8 {k:Int} (hk:k=8∨k=9):∀(l:List ByteArray) (t:Tm),(cnt k l t).nt=t.nt∧(cnt k l t).nc=t.nc
 |[],_=>⟨rfl,rfl⟩
 |s::r,t=>by
  obtain⟨h1,h2⟩:=M8 hk r t;refine⟨?_,?_⟩
  ·rw[cnt,Tm.nt,if_neg (by omega),Tm.ntL,Tm.ntL,Cs.ntL,h1];omega
  ·rw[cnt,Tm.nc,Tm.ncL,Tm.ncL,Cs.ncL,h2];omega
theorem rt_nt:∀(d:Nat) (t:Tm) (has:List ByteArray),t.Rt d→t.nt=0∧(t.ow has).nt=0∧(t.ow has).nc=t.nc:=by
 intro d;induction d with
 |zero=>intro t _ h;exact h.elim
 |succ d ih=>
  intro t has hR;obtain⟨k,n0,a,b,vs,xs,cs⟩:=t;have hR':=hR;obtain⟨hk,-,-,hx,hc⟩:=hR;have hX:∀l:List Tm,(∀x∈l,x∈xs)→Tm.ntL l=0:=by
   intro l;induction l with
   |nil=>intro _;rfl
   |cons x r ih2=>
    intro hm;rw[Tm.ntL,(ih x [] (hx x (hm x (by simp)))).1,ih2 fun z hz=>hm z (by simp[hz])]
  have hC:∀l:List Cs,(∀x∈l,x∈cs)→Cs.ntL l=0:=by
   intro l;induction l with
   |nil=>intro _;rfl
   |cons c r ih2=>
    intro hm;have hcc:=(hc c (hm c (by simp))).2;obtain⟨t,ws,y⟩:=c;rw[Cs.ntL,Cs.nt,(ih y [] hcc).1,ih2 fun z hz=>hm z (by simp[hz])]
  have hself:(Tm.mk k n0 a b vs xs cs).nt=0:=by rw[Tm.nt,if_neg (by omega),hX xs fun _ h=>h,hC cs fun _ h=>h]
  refine⟨hself,?_⟩;rw[Tm.ow,(M8 (.inr rfl) _ _).1,(M8 (.inr rfl) _ _).2];split
  ·rw[(M8 (.inl rfl) _ _).1,(M8 (.inl rfl) _ _).2];exact⟨hself,rfl⟩
  split
  ·rename_i h6;subst h6;obtain⟨x,y,rfl,rfl,hxR,hyR⟩:=rt_two hR';generalize inN has (Tm.mk 6 n0 a b vs [x,y] []).free=O;rw[(M8 (.inl rfl) _ _).1,(M8 (.inl rfl) _ _).2,letH,Tm.owZ,Tm.owZ,Tm.owZ];simp only[List.headD_cons,List.tail_cons];obtain⟨-,x1,x2⟩:=ih x (inN O x.free) hxR;obtain⟨-,y1,y2⟩:=ih y (inN O (woN y.free [a])++[a]) hyR;refine⟨?_,?_⟩
   ·rw[Tm.nt,if_neg (by omega),Tm.ntL,Tm.ntL,Tm.ntL,Cs.ntL,x1,y1]
   ·rw[Tm.nc,Tm.nc,Tm.ncL,Tm.ncL,Tm.ncL,Cs.ncL,Tm.ncL,Tm.ncL,Tm.ncL,x2,y2]
  split
  ·rename_i h7;subst h7;generalize inN has (Tm.mk 7 n0 a b vs xs cs).free=O;have hD:∀l:List Cs,(∀x∈l,x∈cs)→Cs.ntL (Cs.owL l O (nmH xs))=0∧Cs.ncL (Cs.owL l O (nmH xs))=Cs.ncL l:=by
    intro l;induction l with
    |nil=>intro _;exact⟨rfl,rfl⟩
    |cons c r ih2=>
     intro hm;have hcc:=(hc c (hm c (by simp))).2;obtain⟨e1,e2⟩:=ih2 fun z hz=>hm z (by simp[hz])
     obtain⟨t,ws,y⟩:=c;obtain⟨-,y1,y2⟩:=ih y (if hasB y.free (nmH xs)then O++inN ws y.free else woN (O++inN ws y.free) [nmH xs]) hcc;rw[Cs.owL,Cs.ow,Cs.ntL,Cs.nt,Cs.ncL,Cs.nc,Cs.ncL,Cs.nc,(M8 (.inl rfl) _ _).1,(M8 (.inl rfl) _ _).2,(M8 (.inr rfl) _ _).1,(M8 (.inr rfl) _ _).2,y1,y2,e1,e2];exact⟨rfl,rfl⟩
   obtain⟨e1,e2⟩:=hD cs fun _ h=>h
   refine⟨?_,?_⟩
   ·rw[Tm.nt,if_neg (by omega),hX xs fun _ h=>h,e1]
   ·rw[Tm.nc,Tm.nc,e2]
  ·exact⟨hself,rfl⟩
theorem sr_nt:∀(N:Nat) (t:Tm) (rest:List ByteArray),t.sz≤N→t.S1→(t.sr rest).2.nt=t.nt:=by
 intro N;induction N with
 |zero=>intro t _ h;have:=t.Cj;omega
 |succ N ih=>
  intro t rest hN hS;obtain⟨k,n,a,b,vs,xs,cs⟩:=t;rw[Tm.sr];by_cases hc:k=8∧hasB rest a=true
  ·rw[if_pos hc];obtain⟨⟨x,rfl⟩,rfl⟩:=hS.1 (.inl hc.1);obtain⟨rfl,-⟩:=hc;rw[Tm.srL];have hxN:x.sz≤N:=by
    rw[Tm.sz]at hN;simp only[Tm.szs]at hN;omega
   rw[ih x _ hxN hS.2.1.1,Tm.nt,if_neg (by omega),Tm.ntL,Tm.ntL,Cs.ntL];omega
  ·rw[if_neg hc]
theorem fuOne_nt {k:Int} {na:Nat} {nm:ByteArray} {ws:List ByteArray} {y:Tm} (hS:y.S1):(Wv k na nm ws y).nt≤y.nt+1:=by
 unfold Wv;split
 ·rename_i hcond;obtain⟨-,-,-,h9,hnm⟩:=hcond;have h1:=sr_nt y.sz y ws (Nat.le_refl _) hS;obtain⟨used,u1,-⟩:=sr_all y.sz y ws (Nat.le_refl _) hS;generalize y.sr ws=Z at *;obtain⟨rest,z⟩:=Z;dsimp only at *;obtain⟨k,n,a,b,vs,xs,cs⟩:=z;rw[Tm.tk]at h9;subst h9;obtain⟨⟨x,rfl⟩,rfl⟩:=u1.1 (.inr (.inl rfl));have ha0:(Tm.mk 9 n a b vs [x] []).a0=x:=rfl;rw[ha0,←h1,Tm.nt,Tm.nt,if_pos rfl,if_neg (by omega),Tm.ntL,Tm.ntL,Tm.ntL,Tm.ntL,(M8 (.inr rfl) _ _).1];omega
 ·omega
theorem fu_nt:∀(N:Nat) (t:Tm),t.sz≤N→t.S1→t.fu.nt≤t.nt+t.nc:=by
 intro N;induction N with
 |zero=>intro t h;have:=t.Cj;omega
 |succ N ih=>
  intro t hN hS;obtain⟨k,n,a,b,vs,xs,cs⟩:=t;rw[Tm.sz]at hN;have hX:∀l:List Tm,(∀x∈l,x∈xs)→Tm.ntL (Tm.fuL l)≤Tm.ntL l+Tm.ncL l:=by
   intro l;induction l with
   |nil=>intro _;exact Nat.le_refl _
   |cons x r ih2=>
    intro hm;have hx:=hm x (by simp);have h1:=ih x (by have:=Tm.Zj hx;omega) (Qd.1 hS.2.1 x hx);have h2:=ih2 fun z hz=>hm z (by simp[hz])
    rw[Tm.fuL,Tm.ntL,Tm.ntL,Tm.ncL];omega
  have hC:∀l:List Cs,(∀x∈l,x∈cs)→Cs.ntL (Cs.fuL k xs.length (nmH xs) l)≤Cs.ntL l+Cs.ncL l:=by
   intro l;induction l with
   |nil=>intro _;exact Nat.le_refl _
   |cons c r ih2=>
    intro hm;have hc:=hm c (by simp);have h2:=ih2 fun z hz=>hm z (by simp[hz])
    obtain⟨t,ws,y⟩:=c;have hs:(Cs.mk t ws y).sz≤Cs.szs cs:=Cs.Zj hc;rw[Cs.sz]at hs;have hy:=Dj.1 hS.2.2 _ hc;have h1:=ih y (by omega) hy;have h3:=fuOne_nt (k:=k) (na:=xs.length) (nm:=nmH xs) (ws:=ws) (fu_st y.sz y (Nat.le_refl _) hy).1;rw[Cs.fuL,Cs.ntL,Cs.ntL,Cs.ncL,Cs.fu,Cs.nt,Cs.nt,Cs.nc];omega
  have h1:=hX xs fun _ h=>h
  have h2:=hC cs fun _ h=>h
  rw[Tm.fu,Tm.nt,Tm.nt,Tm.nc];omega
structure Lv (f:Fn):Prop where
 lin:f.lin=0
 shp:Shp f.body
 st:f.body.stT=[]
 nt:f.body.nt≤1048576
 nd:f.params.Nodup
 nx:∀p∈f.params,NoX p
abbrev lin0 (f:Fn):LS:=⟨f.params.map fun p=>(p,1),[],[]⟩
theorem lin0_lk (l:List ByteArray) (n:ByteArray):lkA (l.map fun p=>(p,(1:Int))) n=if n∈l then some 1 else none:=by
 induction l with
 |nil=>simp[lkA]
 |cons p r ih=>
  rw[List.map_cons,lkA,ih];by_cases e:p=n
  ·subst e;rw[if_pos rfl,if_pos (by simp)]
  ·rw[if_neg e];have e':n≠p:=fun h=>e h.symm
   simp[e']
theorem lin0_ok {f:Fn} (h:f.params.Nodup):(lin0 f).Ok:=by
 refine⟨?_,KN.nil,fun n=>?_⟩
 ·unfold KN;rw[List.map_map];have:((fun x:ByteArray×Int=>x.1) ∘ fun p:ByteArray=>(p,(1:Int)))=id:=rfl;rw[this,List.map_id];exact h
 ·unfold LS.c;dsimp only;rw[lin0_lk];split<;> simp
theorem Fn.lin_of {f:Fn} (h:f.params.Nodup):f.lin=f.body.lin (lin0 f):=by
 unfold Fn.lin;rw[if_pos h]
def Fn.ru (f:Fn):Fn:=⟨f.name,f.params,(f.body.ru f.body.dp 0).1⟩
def mk2 (l:List Fn):List Fn:=(mk1 l).map Fn.ru
theorem lv0 {l:List Fn} (hl:P5 l) (hc:Yv l=0):∀f∈mk0 l,Lv f∧f.body.nc≤1048576:=fun f hf=>by
 unfold mk0 at hf;obtain⟨g,hg,rfl⟩:=List.mem_map.1 hf;have hPt:=pl_all_pt hl hc g hg;obtain⟨x,hx,rfl⟩:=List.mem_map.1 hg;have hR:=(check_zero hc).2.2.2 x hx;have hr:=(Bw hl hc x hx).2.1;have hbd:=hR.pl_bd hr;have hfree:=hR.pl_free hr;obtain⟨-,hrt,hisP⟩:=pl_body hl hc x.pl hg;have hRr:=hR.rn hr;have hw:=pl_wrong _ 25 x.rn.body x.rn.params x.rn.params 0 0 (-151) (x.rn_rt hr) hRr.wrong (fun _ h=>h) (by omega) (by have:=hRr.sz;omega) (by omega);have hpx:∀p∈x.pl.params,NoX p:=fun p hp=>nameB_noX (badB_no hRr.bad p hp)
 obtain⟨hS,hT⟩:=wrong_shp _ _ x.pl.body x.pl.params (-151) (Nat.lt_succ_self _) hw hpx;unfold Fn.bd at hbd;rw[List.nodup_append]at hbd;obtain⟨n1,n2,n3⟩:=hbd;have hlin:(x.pl.body.ow x.pl.params).lin (lin0 x.pl.ow)=0:=by
  refine ow_lin 175 x.pl.body x.pl.params _ hrt hisP n2 (fun n hn=>?_) n1 hfree (lin0_ok (f:=x.pl.ow) n1) (fun n=>?_) rfl
  ·show lkA (x.pl.params.map fun p=>(p,(1:Int))) n=none;rw[lin0_lk,if_neg (fun h=>n3 n h n hn rfl)]
  ·unfold LS.c;show(lkA (x.pl.params.map fun p=>(p,(1:Int))) n).getD 0=_;rw[lin0_lk];split<;> rfl
 have hsz:x.pl.body.sz≤1048576:=by
  have hF:=hPt.fit;generalize x.pl.body=z at hF⊢;obtain⟨k,n,a,b,vs,xs,cs⟩:=z;have:=sz_all hF;rw[Tm.sz];exact this
 obtain⟨-,e1,e2⟩:=rt_nt 175 x.pl.body x.pl.params hrt;have hnc:=x.pl.body.nc_sz;refine⟨⟨?_,ow_shp 175 _ _ hrt hisP hS hpx,(st_all 175 x.pl.body x.pl.params hrt hisP).2.2.2.2.2.1,?_,n1,hpx⟩,?_⟩
 ·rw[Fn.lin_of (f:=x.pl.ow) n1];exact hlin
 ·show(x.pl.body.ow x.pl.params).nt≤_;rw[e1];omega
 ·show(x.pl.body.ow x.pl.params).nc≤_;rw[e2];omega
theorem lv1 {l:List Fn} (hl:P5 l) (hc:Yv l=0):∀f∈mk1 l,Lv f:=fun f hf=>by
 unfold mk1 at hf;obtain⟨g,hg,rfl⟩:=List.mem_map.1 hf;obtain⟨h,hnc⟩:=lv0 hl hc g hg;have hs:=h.shp.s1;have hnt:=fu_nt g.body.sz g.body (Nat.le_refl _) hs;have hgl:=h.lin;rw[Fn.lin_of h.nd]at hgl;obtain⟨-,-,-,-,e5⟩:=fu_st g.body.sz g.body (Nat.le_refl _) hs;refine⟨?_,fu_shp g.body.sz g.body (Nat.le_refl _) h.shp,?_,?_,h.nd,h.nx⟩
 ·rw[Fn.lin_of (f:=g.fu) h.nd];exact fu_lin g.body.sz g.body (Nat.le_refl _) hs _ (lin0_ok h.nd) hgl
 ·show g.body.fu.stT=[]
  rw[e5];exact h.st
 ·show g.body.fu.nt≤_;have:=h.nt;have hz:g.body.nt=0:=by
   unfold mk0 at hg;obtain⟨z,hz,rfl⟩:=List.mem_map.1 hg;obtain⟨-,hrt,-⟩:=pl_body hl hc z hz;exact(rt_nt 175 z.body z.params hrt).2.1
  omega
end Go.Proofs.YtlbcipohiepjmaaDoor
namespace Go.Proofs.YtlbcipohiepjmaaDoor
open Go.RowKit
attribute [local simp] runD mkRc ldOf stOf stOk Mj Tv Rz Kv Kw Yq Y8 Xz Y4 Bj evA Vj F4 Value.oneCell' Z9 Q5 Qw frOf Uv Qj AS.after Z4 V4 Y3 AV.ids M7 Q6.ids frNo Mx Gj Uw Hq Jv Y5 Vx U3 U2 K4 toD1 Ez setAt U9 O0 F5 Av H6 Aw binI AV.cells J4 Jj H5 Wj AV.kill Q6.kill AV.has AV.Yj Op.operands Call.operands Nk Mv Z8 cChk Z0 X3 Ev moQ M9 R7 Yz AV.ren Ej Q6.ren Q6.like kept K5 Sq AV.frz Px Ox frSub M5 D9 AS.frz C8 G7 Q6.frz Fx bleF Nat.ble_eq Gw G6 Y1 D.Y2 Tj G5 V8 Vk phO Az F6 D7 K6 V5 Low Ew
theorem Qx:((⟨#[107]⟩:ByteArray).size≤maxLen)=True:=eq_true (by show 1≤9223372036854775807;omega)
abbrev kObj (c:Int):Q6:=.blk 57 [.d (.int c)]
def RuN (N:Nat):Prop:=∀(t:Tm) (c:Int),t.dp≤N→t.Ok→t.Fs→Y9 Tryd.prog 27 [.ptr 1000 0,Xj t] [(1000,kObj c)] (Xj (t.ru N c).1) [(1000,kObj (t.ru N c).2)]
theorem ru_step (N:Nat) (ih:RuN N):RuN (N+1):=by
 intro t c hdp hO hS;obtain⟨R,hR⟩:∃R,R=t.ru (N+1) c:=⟨_,rfl⟩
 rw[←hR];obtain⟨tk,tn,ta,tb,tvs,txs,tcs⟩:=t;rw[Tm.ru]at hR;have hxO:∀x∈txs,x.Ok:=fun x hx=>Tm.Zk.1 hO.2.2.1 x hx
 have hcO:∀x∈tcs,x.Ok:=fun x hx=>Cs.Zk.1 hO.2.2.2 x hx
 have hxS:∀x∈txs,x.Fs:=fun x hx=>Cq.1 hS.2.2.1 x hx
 have hcS:∀x∈tcs,x.Fs:=fun x hx=>Dk.1 hS.2.2.2 x hx
 obtain⟨o1,o2,o3,o4,o5⟩:=hO.vars;rw[Tm.dp]at hdp;refine Y9.of Tryd.func27 rfl rfl (Nat.le_of_ble_eq_true rfl) ?_;show AWp _ _ (Zw _ Tryd.f27 _ _) (K5 95 _ _);refine AWp.rg [] [] ?_ (hr:=by conv=>lhs;simp[Tm.row,Tm.Q3,Cs.Q3,Qx]);by_cases h10:tk=10
 ·obtain⟨x,hxy⟩:=hS.2.1 ⟨by omega,by omega⟩;have h0x:txs[0]? =some x:=by rw[hxy];rfl
  have hln:txs.length=1:=by rw[hxy];rfl
  have hmx:x∈txs:=by rw[hxy];simp
  have hft:=fit_all x.sz x tvs.length (Nat.le_refl _) (hxO x hmx) (hxS x hmx);obtain⟨q,hq⟩:∃q,Tm.fits tvs.length x=q:=⟨_,rfl⟩
  have hqH:Tm.fitH tvs.length txs=q:=by rw[hxy,Tm.fitH,hq]
  rw[hq]at hft;rw[hqH]at hR;obtain⟨us,hw⟩:∃w,Tm.Rk (kNm (wr (c+1))) tvs.length txs=w:=⟨_,rfl⟩
  have hpx:=fun htk=>put_all x.sz x (kNm (wr (c+1))) tvs.length (Nat.le_refl _) (hxO x hmx) (hxS x hmx) htk
  rw[hw]at hR;rw[hxy,Tm.Rk]at hw;obtain⟨x0,hx0⟩:∃y,y=x:=⟨_,rfl⟩
  rw[←hx0]at hw hpx hft h0x;obtain⟨xk,xn,xa,xb,xvs,xxs,xcs⟩:=x0;cases q with
  |true=>
   refine AWp.dw [] [.p (fun _=>.d (.bool true)) none] mixed ?_ (hr:=by conv=>lhs;simp[Tm.row,Tm.Q3,Cs.Q3,Qx,h0x,h10]);refine AWp.cy ?_;obtain⟨e,he⟩:∃e:Int,wr (c+1)=e:=⟨_,rfl⟩
   rw[he]at hpx hw hR;have heI:inI e:=by rw[←he];exact Mq _
   have hit:=sp_Itoa e heI;have hsz:=Uz heI;have h1s:(⟨#[107]⟩:ByteArray).size=1:=rfl;refine AWp.rg [4] [] ?_ (hr:=by conv=>lhs;simp[Tm.row,Tm.Q3,Cs.Q3,Qx,h0x,he,h10]);refine AWp.rg [] [.p (fun _=>.d (.str (Hz e))) none] ?_ (hr:=by conv=>lhs;simp[Tm.row,Tm.Q3,Cs.Q3,Qx,h0x,he,h10]);obtain⟨tok,htk⟩:∃b,((⟨#[107]⟩++(Hz e)))=b:=⟨_,rfl⟩
   rw[htk];have hkn:kNm e=tok:=htk;rw[hkn]at hpx hw hR;have htz:tok.size≤140737488355328:=by rw[←htk];simp[ByteArray.size_append];omega
   have hpx:=hpx htz;rw[if_pos ⟨h10,rfl⟩]at hR;have hzO:=put_ok tok tvs.length htz _ _ (Nat.le_refl _) (hxO x hmx);have hzS:=put_fs tok tvs.length _ _ (Nat.le_refl _) (hxS x hmx);have hzd:=(put_r tok tvs.length _ x (Nat.le_refl _)).dp;rw[←hx0]at hzO hzS hzd;generalize Tm.put tok tvs.length (.mk xk xn xa xb xvs xxs xcs)=z at hpx hw hzO hzS hzd;have hLd:∀u∈us,u.dp≤N:=fun u hu=>by
    rw[←hw]at hu;rw[List.mem_singleton.1 hu];have h1:=dpL_mem hmx;rw[←hx0]at h1;rw[if_pos h10]at hdp;omega
   have hLO:∀u∈us,u.Ok:=fun u hu=>by rw[←hw]at hu;rw[List.mem_singleton.1 hu];exact hzO
   have hLS:∀u∈us,u.Fs:=fun u hu=>by rw[←hw]at hu;rw[List.mem_singleton.1 hu];exact hzS
   obtain⟨zk,zn,za,zb,zvs,zxs,zcs⟩:=z;have hrow:[[.int zk,.int zn,.str za,.str zb,Q7 zvs,.sl (zxs.map Tm.row),.sl (zcs.map Cs.row)]]=List.map Tm.row us:=by rw[←hw];simp[Tm.row,Tm.Q3,Cs.Q3]
   have hul:us.length=1:=by rw[←hw];rfl
   have hut:List.take 1 (List.map Tm.row us)=List.map Tm.row us:=List.take_of_length_le (by simp;omega);refine AWp.dw [14] [.p (fun _=>.agg [.d (.int zk),.d (.int zn),.d (.str za),.d (.str zb),.d (Q7 zvs),.d (.sl (zxs.map Tm.row)),.d (.sl (zcs.map Cs.row))]) none] mixed ?_ (hr:=by conv=>lhs;simp[Tm.row,Tm.Q3,Cs.Q3,Qx,h0x,he,hrow,hul,h10]);obtain⟨vs0,hv0⟩:∃l:List Cs,l=[]:=⟨_,rfl⟩
   have hCd:∀u∈vs0,u.dp≤N:=by rw[hv0];simp
   have hCO:∀u∈vs0,u.Ok:=by rw[hv0];simp
   have hCS:∀u∈vs0,u.Fs:=by rw[hv0];simp
   have hLl:us.length≤1172812402960:=by omega
   have hCl:vs0.length≤925904528652:=by rw[hv0];simp
   replace hR:R=(.mk 11 0 ta tok tvs (ruL (Tm.ru N) us e).1 (ruC (Tm.ru N) vs0 (ruL (Tm.ru N) us e).2).1,(ruC (Tm.ru N) vs0 (ruL (Tm.ru N) us e).2).2):=by rw[hR,hv0];rfl
   repeat (first|refine AWp.seq ?_|refine AWp.block ?_)
   refine AWp.le (Le.low [] [] (fr:=[(0,.ptr 1000 0),(3,.ptr 3 0),(4,.ptr 4 0)]) (mem:=[(3,some (.blk 32 [.d (.int 11),.d (.int 0),.d (.str ta),.d (.str tok),.d (Q7 tvs),.d (.sl (us.map Tm.row)),.d (.sl (vs0.map Cs.row))])),(4,some (.blk 32 [.d (.int 0),.d (.int 0),.d (.str ByteArray.empty),.d (.str ByteArray.empty),.lit (.slice none 0 0),.lit (.slice none 0 0),.lit (.slice none 0 0)])),(1000,some (.blk 57 [.d (.int e)]))]) rfl (by simp[hv0,hut]) (by simp[hv0,hut])) ?_;refine AWp.rg [] [] ?_ (hr:=by conv=>lhs;simp[Tm.row,Tm.Q3,Cs.Q3,Qx,h10]);refine AWp.rg [] [] ?_ (hr:=by conv=>lhs;simp[Tm.row,Tm.Q3,Cs.Q3,Qx,h10]);refine AWp.rg [] [] ?_ (hr:=by conv=>lhs;simp[Tm.row,Tm.Q3,Cs.Q3,Qx,h10]);repeat (first|refine AWp.seq ?_|refine AWp.block ?_)
   refine AWp.le (Le.low [400] [] (fr:=[(0,.ptr 1000 0),(3,.ptr 3 0),(4,.ptr 4 0),(6,.ptr 6 0),(57,.d (.sl (us.map Tm.row))),(58,.d (.int (us.length:Int))),(59,.d (.int (0:Int)))]) (mem:=[(3,some (.blk 32 [.d (.int 11),.d (.int 0),.d (.str ta),.d (.str tok),.d (Q7 tvs),.d (.sl (us.map Tm.row)),.d (.sl (vs0.map Cs.row))])),(4,some (.blk 32 [.d (.int 0),.d (.int 0),.d (.str ByteArray.empty),.d (.str ByteArray.empty),.lit (.slice none 0 0),.lit (.slice none 0 0),.lit (.slice none 0 0)])),(6,some (.blk 32 [.d (.int 11),.d (.int 0),.d (.str ta),.d (.str tok),.d (Q7 tvs),.arr 400 0 ([]:List Tm).length,.lit (.slice none 0 0)])),(400,some (.arr 32 7 (([]:List Tm).map Tm.row))),(1000,some (.blk 57 [.d (.int (e:Int))]))]) rfl (by simp) (by simp)) ?_;refine AWp.loop (σ:=fun u:{u:Nat×List Tm×Int // u.1≤us.length∧(ruL (Tm.ru N) us e=(u.2.1++(ruL (Tm.ru N) (us.drop u.1) u.2.2).1,(ruL (Tm.ru N) (us.drop u.1) u.2.2).2)∧u.2.1.length=u.1)}=>⟨95,[(0,.ptr 1000 0),(3,.ptr 3 0),(4,.ptr 4 0),(6,.ptr 6 0),(57,.d (.sl (us.map Tm.row))),(58,.d (.int (us.length:Int))),(59,.d (.int (u.1.1:Int)))],[(3,some (.blk 32 [.d (.int 11),.d (.int 0),.d (.str ta),.d (.str tok),.d (Q7 tvs),.d (.sl (us.map Tm.row)),.d (.sl (vs0.map Cs.row))])),(4,some (.blk 32 [.d (.int 0),.d (.int 0),.d (.str ByteArray.empty),.d (.str ByteArray.empty),.lit (.slice none 0 0),.lit (.slice none 0 0),.lit (.slice none 0 0)])),(6,some (.blk 32 [.d (.int 11),.d (.int 0),.d (.str ta),.d (.str tok),.d (Q7 tvs),.arr 400 0 u.1.2.1.length,.lit (.slice none 0 0)])),(400,some (.arr 32 7 (u.1.2.1.map Tm.row))),(1000,some (.blk 57 [.d (.int u.1.2.2)]))]⟩)
    (μ:=fun u=>us.length-u.1.1) ⟨(0,[],e),⟨Nat.zero_le _,⟨by simp,rfl⟩⟩⟩ (Le.sub (by simp) (by simp)) (fun⟨(i,ys,c1),⟨hi8,hw⟩⟩=>?_)
   dsimp only at hi8 hw⊢;refine AWp.rg [] [] ?_ (hr:=by conv=>lhs;simp[Tm.row,Tm.Q3,Cs.Q3,Qx,h10]);repeat (first|refine AWp.seq ?_|refine AWp.block ?_)
   refine AWp.cond rfl (fun hc=>?_) (fun hc=>?_)
   ·have hi1:i<us.length:=by have:=of_decide_eq_true hc;omega
    clear hc;have h1y:us[i]? =some us[i]:=List.getElem?_eq_getElem hi1;have hmy:us[i]∈us:=List.getElem_mem hi1;have hdy:us.drop i=us[i]::us.drop (i+1):=List.drop_eq_getElem_cons hi1;generalize us[i]=y at h1y hmy hdy;obtain⟨hap,hyl⟩:=hw;rw[hdy,ruL]at hap;have hx:=ih y c1 (hLd y hmy) (hLO y hmy) (hLS y hmy);generalize y.ru N c1=o at hx hap;obtain⟨z,c2⟩:=o;dsimp only at hx hap;obtain⟨yk,yn,ya,yb,yvs,yxs,ycs⟩:=y;obtain⟨zk,zn,za,zb,zvs,zxs,zcs⟩:=z;refine AWp.skip ?_;refine AWp.rg [] [] ?_ (hr:=by conv=>lhs;simp[Tm.row,Tm.Q3,Cs.Q3,Qx,h1y,h10]);refine AWp.dw [] [.c [] [.ptr 1000 0,.agg [.d (.int yk),.d (.int yn),.d (.str ya),.d (.str yb),.d (Q7 yvs),.d (.sl (yxs.map Tm.row)),.d (.sl (ycs.map Cs.row))]] [(1000,.blk 57 [.d (.int c1)])] (.agg [.d (.int zk),.d (.int zn),.d (.str za),.d (.str zb),.d (Q7 zvs),.d (.sl (zxs.map Tm.row)),.d (.sl (zcs.map Cs.row))]) [(1000,.blk 57 [.d (.int c2)])]] mixed ?_ (hr:=by conv=>lhs;simp[Tm.row,Tm.Q3,Cs.Q3,Qx,h1y,h10]);refine AWp.rg [] [] ?_ (hr:=by conv=>lhs;simp[Tm.row,Tm.Q3,Cs.Q3,Qx,h1y,h10]);refine⟨⟨(i+1,ys++[.mk zk zn za zb zvs zxs zcs],c2),hi1,⟨by rw[hap];simp,by simp[hyl]⟩⟩,by simp;omega,?_⟩;dsimp only;exact Le.sub (by simp[Tm.row,Tm.Q3,Cs.Q3,hyl]) (by simp[Tm.row,Tm.Q3,Cs.Q3,hyl])
   have hi1:i=us.length:=by have:=of_decide_eq_false hc;omega
   subst hi1;clear hc;obtain⟨hap,hyl⟩:=hw;rw[List.drop_length,ruL]at hap;simp only[List.append_nil]at hap;rw[hap]at hR;dsimp only at hR;clear hap;refine AWp.exit ?_;refine AWp.rg [] [] ?_ (hr:=by conv=>lhs;simp[Tm.row,Tm.Q3,Cs.Q3,Qx,h10]);repeat (first|refine AWp.seq ?_|refine AWp.block ?_)
   refine AWp.le (Le.low [401] [] (fr:=[(0,.ptr 1000 0),(4,.ptr 4 0),(6,.ptr 6 0),(73,.d (.sl (vs0.map Cs.row))),(74,.d (.int (vs0.length:Int))),(75,.d (.int (0:Int)))]) (mem:=[(4,some (.blk 32 [.d (.int 0),.d (.int 0),.d (.str ByteArray.empty),.d (.str ByteArray.empty),.lit (.slice none 0 0),.lit (.slice none 0 0),.lit (.slice none 0 0)])),(6,some (.blk 32 [.d (.int 11),.d (.int 0),.d (.str ta),.d (.str tok),.d (Q7 tvs),.arr 400 0 ys.length,.arr 401 0 ([]:List Cs).length])),(400,some (.arr 32 7 (ys.map Tm.row))),(401,some (.arr 42 9 (([]:List Cs).map Cs.row))),(1000,some (.blk 57 [.d (.int (c1:Int))]))]) rfl (by simp) (by simp)) ?_;refine AWp.loop (σ:=fun u:{u:Nat×List Cs×Int // u.1≤vs0.length∧(ruC (Tm.ru N) vs0 c1=(u.2.1++(ruC (Tm.ru N) (vs0.drop u.1) u.2.2).1,(ruC (Tm.ru N) (vs0.drop u.1) u.2.2).2)∧u.2.1.length=u.1)}=>⟨95,[(0,.ptr 1000 0),(4,.ptr 4 0),(6,.ptr 6 0),(73,.d (.sl (vs0.map Cs.row))),(74,.d (.int (vs0.length:Int))),(75,.d (.int (u.1.1:Int)))],[(4,some (.blk 32 [.d (.int 0),.d (.int 0),.d (.str ByteArray.empty),.d (.str ByteArray.empty),.lit (.slice none 0 0),.lit (.slice none 0 0),.lit (.slice none 0 0)])),(6,some (.blk 32 [.d (.int 11),.d (.int 0),.d (.str ta),.d (.str tok),.d (Q7 tvs),.arr 400 0 ys.length,.arr 401 0 u.1.2.1.length])),(400,some (.arr 32 7 (ys.map Tm.row))),(401,some (.arr 42 9 (u.1.2.1.map Cs.row))),(1000,some (.blk 57 [.d (.int u.1.2.2)]))]⟩)
    (μ:=fun u=>vs0.length-u.1.1) ⟨(0,[],c1),⟨Nat.zero_le _,⟨by simp,rfl⟩⟩⟩ (Le.sub (by simp) (by simp)) (fun⟨(i,ds,c3),⟨hi13,hw2⟩⟩=>?_)
   dsimp only at hi13 hw2⊢;refine AWp.rg [] [] ?_ (hr:=by conv=>lhs;simp[Tm.row,Tm.Q3,Cs.Q3,Qx,h10]);repeat (first|refine AWp.seq ?_|refine AWp.block ?_)
   refine AWp.cond rfl (fun hc=>?_) (fun hc=>?_)
   ·have hi1:i<vs0.length:=by have:=of_decide_eq_true hc;omega
    clear hc;have h1d:vs0[i]? =some vs0[i]:=List.getElem?_eq_getElem hi1;have hmd:vs0[i]∈vs0:=List.getElem_mem hi1;have hdd:vs0.drop i=vs0[i]::vs0.drop (i+1):=List.drop_eq_getElem_cons hi1;generalize vs0[i]=d at h1d hmd hdd;obtain⟨hap,hdl⟩:=hw2;have hdd2:=hCd d hmd;have hdO:=hCO d hmd;have hdS:=hCS d hmd;obtain⟨dt,dws,y⟩:=d;rw[hdd,ruC]at hap;have hx:=ih y c3 hdd2 hdO.2.2 hdS;generalize y.ru N c3=o at hx hap;obtain⟨z,c2⟩:=o;dsimp only at hx hap;obtain⟨yk,yn,ya,yb,yvs,yxs,ycs⟩:=y;obtain⟨zk,zn,za,zb,zvs,zxs,zcs⟩:=z;refine AWp.skip ?_;refine AWp.rg [] [] ?_ (hr:=by conv=>lhs;simp[Tm.row,Tm.Q3,Cs.Q3,Qx,h1d,Cs.row,h10]);refine AWp.dw [] [.c [] [.ptr 1000 0,.agg [.d (.int yk),.d (.int yn),.d (.str ya),.d (.str yb),.d (Q7 yvs),.d (.sl (yxs.map Tm.row)),.d (.sl (ycs.map Cs.row))]] [(1000,.blk 57 [.d (.int c3)])] (.agg [.d (.int zk),.d (.int zn),.d (.str za),.d (.str zb),.d (Q7 zvs),.d (.sl (zxs.map Tm.row)),.d (.sl (zcs.map Cs.row))]) [(1000,.blk 57 [.d (.int c2)])]] mixed ?_ (hr:=by conv=>lhs;simp[Tm.row,Tm.Q3,Cs.Q3,Qx,h1d,Cs.row,h10]);refine AWp.rg [] [] ?_ (hr:=by conv=>lhs;simp[Tm.row,Tm.Q3,Cs.Q3,Qx,h1d,Cs.row,h10]);refine⟨⟨(i+1,ds++[.mk dt dws (.mk zk zn za zb zvs zxs zcs)],c2),hi1,⟨by rw[hap];simp,by simp[hdl]⟩⟩,by simp;omega,?_⟩;dsimp only;exact Le.sub (by simp[Cs.row,Tm.row,Tm.Q3,Cs.Q3,hdl]) (by simp[Cs.row,Tm.row,Tm.Q3,Cs.Q3,hdl])
   have hi1:i=vs0.length:=by have:=of_decide_eq_false hc;omega
   subst hi1;clear hc;obtain⟨hap,hdl⟩:=hw2;rw[List.drop_length,ruC]at hap;simp only[List.append_nil]at hap;rw[hap]at hR;dsimp only at hR;subst hR;refine AWp.exit ?_;refine AWp.rg [] [] ?_ (hr:=by conv=>lhs;simp[Tm.row,Tm.Q3,Cs.Q3,Qx,h10]);refine AWp.ret ?_;try dsimp only[Qq,Q8]
   apply Zw.retF [400,401]
   ·rfl
   ·conv=>lhs;simp
   ·conv=>lhs;simp[Qz,Tryd.results27]
   ·rfl
   ·simp[Zx,Q5]
  |false=>
   refine AWp.dw [] [.p (fun _=>.d (.bool false)) none] mixed ?_ (hr:=by conv=>lhs;simp[Tm.row,Tm.Q3,Cs.Q3,Qx,h0x,h10]);refine AWp.cn ?_;refine AWp.skip ?_;subst h10;rw[if_neg (fun h=>by have h1:=h.1;have h2:=h.2;first|omega|simp at h2)]at hR;have hLd:∀u∈txs,u.dp≤N:=fun u hu=>by have:=dpL_mem hu;split at hdp<;> omega
   have hCd:∀u∈tcs,u.dp≤N:=fun u hu=>by have:=cdpL_mem hu;split at hdp<;> omega
   have hLO:=hxO;have hLS:=hxS;have hCO:=hcO;have hCS:=hcS;have hLl:=o2;have hCl:=o3;refine AWp.rg [] [] ?_ (hr:=by conv=>lhs;simp[Tm.row,Tm.Q3,Cs.Q3,Qx]);refine AWp.rg [] [] ?_ (hr:=by conv=>lhs;simp[Tm.row,Tm.Q3,Cs.Q3,Qx]);refine AWp.rg [] [] ?_ (hr:=by conv=>lhs;simp[Tm.row,Tm.Q3,Cs.Q3,Qx]);repeat (first|refine AWp.seq ?_|refine AWp.block ?_)
   refine AWp.le (Le.low [400] [] (fr:=[(0,.ptr 1000 0),(3,.ptr 3 0),(4,.ptr 4 0),(6,.ptr 6 0),(57,.d (.sl (txs.map Tm.row))),(58,.d (.int (txs.length:Int))),(59,.d (.int (0:Int)))]) (mem:=[(3,some (.blk 32 [.d (.int 10),.d (.int tn),.d (.str ta),.d (.str tb),.d (Q7 tvs),.d (.sl (txs.map Tm.row)),.d (.sl (tcs.map Cs.row))])),(4,some (.blk 32 [.d (.int 0),.d (.int 0),.d (.str ByteArray.empty),.d (.str ByteArray.empty),.lit (.slice none 0 0),.lit (.slice none 0 0),.lit (.slice none 0 0)])),(6,some (.blk 32 [.d (.int 10),.d (.int tn),.d (.str ta),.d (.str tb),.d (Q7 tvs),.arr 400 0 ([]:List Tm).length,.lit (.slice none 0 0)])),(400,some (.arr 32 7 (([]:List Tm).map Tm.row))),(1000,some (.blk 57 [.d (.int (c:Int))]))]) rfl (by simp) (by simp)) ?_;refine AWp.loop (σ:=fun u:{u:Nat×List Tm×Int // u.1≤txs.length∧(ruL (Tm.ru N) txs c=(u.2.1++(ruL (Tm.ru N) (txs.drop u.1) u.2.2).1,(ruL (Tm.ru N) (txs.drop u.1) u.2.2).2)∧u.2.1.length=u.1)}=>⟨95,[(0,.ptr 1000 0),(3,.ptr 3 0),(4,.ptr 4 0),(6,.ptr 6 0),(57,.d (.sl (txs.map Tm.row))),(58,.d (.int (txs.length:Int))),(59,.d (.int (u.1.1:Int)))],[(3,some (.blk 32 [.d (.int 10),.d (.int tn),.d (.str ta),.d (.str tb),.d (Q7 tvs),.d (.sl (txs.map Tm.row)),.d (.sl (tcs.map Cs.row))])),(4,some (.blk 32 [.d (.int 0),.d (.int 0),.d (.str ByteArray.empty),.d (.str ByteArray.empty),.lit (.slice none 0 0),.lit (.slice none 0 0),.lit (.slice none 0 0)])),(6,some (.blk 32 [.d (.int 10),.d (.int tn),.d (.str ta),.d (.str tb),.d (Q7 tvs),.arr 400 0 u.1.2.1.length,.lit (.slice none 0 0)])),(400,some (.arr 32 7 (u.1.2.1.map Tm.row))),(1000,some (.blk 57 [.d (.int u.1.2.2)]))]⟩)
    (μ:=fun u=>txs.length-u.1.1) ⟨(0,[],c),⟨Nat.zero_le _,⟨by simp,rfl⟩⟩⟩ (Le.sub (by simp) (by simp)) (fun⟨(i,ys,c1),⟨hi8,hw⟩⟩=>?_)
   dsimp only at hi8 hw⊢;refine AWp.rg [] [] ?_ (hr:=by conv=>lhs;simp[Tm.row,Tm.Q3,Cs.Q3,Qx]);repeat (first|refine AWp.seq ?_|refine AWp.block ?_)
   refine AWp.cond rfl (fun hc=>?_) (fun hc=>?_)
   ·have hi1:i<txs.length:=by have:=of_decide_eq_true hc;omega
    clear hc;have h1y:txs[i]? =some txs[i]:=List.getElem?_eq_getElem hi1;have hmy:txs[i]∈txs:=List.getElem_mem hi1;have hdy:txs.drop i=txs[i]::txs.drop (i+1):=List.drop_eq_getElem_cons hi1;generalize txs[i]=y at h1y hmy hdy;obtain⟨hap,hyl⟩:=hw;rw[hdy,ruL]at hap;have hx:=ih y c1 (hLd y hmy) (hLO y hmy) (hLS y hmy);generalize y.ru N c1=o at hx hap;obtain⟨z,c2⟩:=o;dsimp only at hx hap;obtain⟨yk,yn,ya,yb,yvs,yxs,ycs⟩:=y;obtain⟨zk,zn,za,zb,zvs,zxs,zcs⟩:=z;refine AWp.skip ?_;refine AWp.rg [] [] ?_ (hr:=by conv=>lhs;simp[Tm.row,Tm.Q3,Cs.Q3,Qx,h1y]);refine AWp.dw [] [.c [] [.ptr 1000 0,.agg [.d (.int yk),.d (.int yn),.d (.str ya),.d (.str yb),.d (Q7 yvs),.d (.sl (yxs.map Tm.row)),.d (.sl (ycs.map Cs.row))]] [(1000,.blk 57 [.d (.int c1)])] (.agg [.d (.int zk),.d (.int zn),.d (.str za),.d (.str zb),.d (Q7 zvs),.d (.sl (zxs.map Tm.row)),.d (.sl (zcs.map Cs.row))]) [(1000,.blk 57 [.d (.int c2)])]] mixed ?_ (hr:=by conv=>lhs;simp[Tm.row,Tm.Q3,Cs.Q3,Qx,h1y]);refine AWp.rg [] [] ?_ (hr:=by conv=>lhs;simp[Tm.row,Tm.Q3,Cs.Q3,Qx,h1y]);refine⟨⟨(i+1,ys++[.mk zk zn za zb zvs zxs zcs],c2),hi1,⟨by rw[hap];simp,by simp[hyl]⟩⟩,by simp;omega,?_⟩;dsimp only;exact Le.sub (by simp[Tm.row,Tm.Q3,Cs.Q3,hyl]) (by simp[Tm.row,Tm.Q3,Cs.Q3,hyl])
   have hi1:i=txs.length:=by have:=of_decide_eq_false hc;omega
   subst hi1;clear hc;obtain⟨hap,hyl⟩:=hw;rw[List.drop_length,ruL]at hap;simp only[List.append_nil]at hap;rw[hap]at hR;dsimp only at hR;clear hap;refine AWp.exit ?_;refine AWp.rg [] [] ?_ (hr:=by conv=>lhs;simp[Tm.row,Tm.Q3,Cs.Q3,Qx]);repeat (first|refine AWp.seq ?_|refine AWp.block ?_)
   refine AWp.le (Le.low [401] [] (fr:=[(0,.ptr 1000 0),(4,.ptr 4 0),(6,.ptr 6 0),(73,.d (.sl (tcs.map Cs.row))),(74,.d (.int (tcs.length:Int))),(75,.d (.int (0:Int)))]) (mem:=[(4,some (.blk 32 [.d (.int 0),.d (.int 0),.d (.str ByteArray.empty),.d (.str ByteArray.empty),.lit (.slice none 0 0),.lit (.slice none 0 0),.lit (.slice none 0 0)])),(6,some (.blk 32 [.d (.int 10),.d (.int tn),.d (.str ta),.d (.str tb),.d (Q7 tvs),.arr 400 0 ys.length,.arr 401 0 ([]:List Cs).length])),(400,some (.arr 32 7 (ys.map Tm.row))),(401,some (.arr 42 9 (([]:List Cs).map Cs.row))),(1000,some (.blk 57 [.d (.int (c1:Int))]))]) rfl (by simp) (by simp)) ?_;refine AWp.loop (σ:=fun u:{u:Nat×List Cs×Int // u.1≤tcs.length∧(ruC (Tm.ru N) tcs c1=(u.2.1++(ruC (Tm.ru N) (tcs.drop u.1) u.2.2).1,(ruC (Tm.ru N) (tcs.drop u.1) u.2.2).2)∧u.2.1.length=u.1)}=>⟨95,[(0,.ptr 1000 0),(4,.ptr 4 0),(6,.ptr 6 0),(73,.d (.sl (tcs.map Cs.row))),(74,.d (.int (tcs.length:Int))),(75,.d (.int (u.1.1:Int)))],[(4,some (.blk 32 [.d (.int 0),.d (.int 0),.d (.str ByteArray.empty),.d (.str ByteArray.empty),.lit (.slice none 0 0),.lit (.slice none 0 0),.lit (.slice none 0 0)])),(6,some (.blk 32 [.d (.int 10),.d (.int tn),.d (.str ta),.d (.str tb),.d (Q7 tvs),.arr 400 0 ys.length,.arr 401 0 u.1.2.1.length])),(400,some (.arr 32 7 (ys.map Tm.row))),(401,some (.arr 42 9 (u.1.2.1.map Cs.row))),(1000,some (.blk 57 [.d (.int u.1.2.2)]))]⟩)
    (μ:=fun u=>tcs.length-u.1.1) ⟨(0,[],c1),⟨Nat.zero_le _,⟨by simp,rfl⟩⟩⟩ (Le.sub (by simp) (by simp)) (fun⟨(i,ds,c3),⟨hi13,hw2⟩⟩=>?_)
   dsimp only at hi13 hw2⊢;refine AWp.rg [] [] ?_ (hr:=by conv=>lhs;simp[Tm.row,Tm.Q3,Cs.Q3,Qx]);repeat (first|refine AWp.seq ?_|refine AWp.block ?_)
   refine AWp.cond rfl (fun hc=>?_) (fun hc=>?_)
   ·have hi1:i<tcs.length:=by have:=of_decide_eq_true hc;omega
    clear hc;have h1d:tcs[i]? =some tcs[i]:=List.getElem?_eq_getElem hi1;have hmd:tcs[i]∈tcs:=List.getElem_mem hi1;have hdd:tcs.drop i=tcs[i]::tcs.drop (i+1):=List.drop_eq_getElem_cons hi1;generalize tcs[i]=d at h1d hmd hdd;obtain⟨hap,hdl⟩:=hw2;have hdd2:=hCd d hmd;have hdO:=hCO d hmd;have hdS:=hCS d hmd;obtain⟨dt,dws,y⟩:=d;rw[hdd,ruC]at hap;have hx:=ih y c3 hdd2 hdO.2.2 hdS;generalize y.ru N c3=o at hx hap;obtain⟨z,c2⟩:=o;dsimp only at hx hap;obtain⟨yk,yn,ya,yb,yvs,yxs,ycs⟩:=y;obtain⟨zk,zn,za,zb,zvs,zxs,zcs⟩:=z;refine AWp.skip ?_;refine AWp.rg [] [] ?_ (hr:=by conv=>lhs;simp[Tm.row,Tm.Q3,Cs.Q3,Qx,h1d,Cs.row]);refine AWp.dw [] [.c [] [.ptr 1000 0,.agg [.d (.int yk),.d (.int yn),.d (.str ya),.d (.str yb),.d (Q7 yvs),.d (.sl (yxs.map Tm.row)),.d (.sl (ycs.map Cs.row))]] [(1000,.blk 57 [.d (.int c3)])] (.agg [.d (.int zk),.d (.int zn),.d (.str za),.d (.str zb),.d (Q7 zvs),.d (.sl (zxs.map Tm.row)),.d (.sl (zcs.map Cs.row))]) [(1000,.blk 57 [.d (.int c2)])]] mixed ?_ (hr:=by conv=>lhs;simp[Tm.row,Tm.Q3,Cs.Q3,Qx,h1d,Cs.row]);refine AWp.rg [] [] ?_ (hr:=by conv=>lhs;simp[Tm.row,Tm.Q3,Cs.Q3,Qx,h1d,Cs.row]);refine⟨⟨(i+1,ds++[.mk dt dws (.mk zk zn za zb zvs zxs zcs)],c2),hi1,⟨by rw[hap];simp,by simp[hdl]⟩⟩,by simp;omega,?_⟩;dsimp only;exact Le.sub (by simp[Cs.row,Tm.row,Tm.Q3,Cs.Q3,hdl]) (by simp[Cs.row,Tm.row,Tm.Q3,Cs.Q3,hdl])
   have hi1:i=tcs.length:=by have:=of_decide_eq_false hc;omega
   subst hi1;clear hc;obtain⟨hap,hdl⟩:=hw2;rw[List.drop_length,ruC]at hap;simp only[List.append_nil]at hap;rw[hap]at hR;dsimp only at hR;subst hR;refine AWp.exit ?_;refine AWp.rg [] [] ?_ (hr:=by conv=>lhs;simp[Tm.row,Tm.Q3,Cs.Q3,Qx]);refine AWp.ret ?_;try dsimp only[Qq,Q8]
   apply Zw.retF [400,401]
   ·rfl
   ·conv=>lhs;simp
   ·conv=>lhs;simp[Qz,Tryd.results27]
   ·rfl
   ·simp[Zx,Q5]
 refine AWp.dw [] [] mixed ?_ (hr:=by conv=>lhs;simp[Tm.row,Tm.Q3,Cs.Q3,Qx,h10]);refine AWp.cn ?_;refine AWp.skip ?_;rw[if_neg (fun h=>by have h1:=h.1;have h2:=h.2;first|omega|simp at h2)]at hR;have hLd:∀u∈txs,u.dp≤N:=fun u hu=>by have:=dpL_mem hu;split at hdp<;> omega
 have hCd:∀u∈tcs,u.dp≤N:=fun u hu=>by have:=cdpL_mem hu;split at hdp<;> omega
 have hLO:=hxO;have hLS:=hxS;have hCO:=hcO;have hCS:=hcS;have hLl:=o2;have hCl:=o3;refine AWp.rg [] [] ?_ (hr:=by conv=>lhs;simp[Tm.row,Tm.Q3,Cs.Q3,Qx,h10]);refine AWp.rg [] [] ?_ (hr:=by conv=>lhs;simp[Tm.row,Tm.Q3,Cs.Q3,Qx,h10]);refine AWp.rg [] [] ?_ (hr:=by conv=>lhs;simp[Tm.row,Tm.Q3,Cs.Q3,Qx,h10]);repeat (first|refine AWp.seq ?_|refine AWp.block ?_)
 refine AWp.le (Le.low [400] [] (fr:=[(0,.ptr 1000 0),(3,.ptr 3 0),(4,.ptr 4 0),(6,.ptr 6 0),(57,.d (.sl (txs.map Tm.row))),(58,.d (.int (txs.length:Int))),(59,.d (.int (0:Int)))]) (mem:=[(3,some (.blk 32 [.d (.int tk),.d (.int tn),.d (.str ta),.d (.str tb),.d (Q7 tvs),.d (.sl (txs.map Tm.row)),.d (.sl (tcs.map Cs.row))])),(4,some (.blk 32 [.d (.int 0),.d (.int 0),.d (.str ByteArray.empty),.d (.str ByteArray.empty),.lit (.slice none 0 0),.lit (.slice none 0 0),.lit (.slice none 0 0)])),(6,some (.blk 32 [.d (.int tk),.d (.int tn),.d (.str ta),.d (.str tb),.d (Q7 tvs),.arr 400 0 ([]:List Tm).length,.lit (.slice none 0 0)])),(400,some (.arr 32 7 (([]:List Tm).map Tm.row))),(1000,some (.blk 57 [.d (.int (c:Int))]))]) rfl (by simp) (by simp)) ?_;refine AWp.loop (σ:=fun u:{u:Nat×List Tm×Int // u.1≤txs.length∧(ruL (Tm.ru N) txs c=(u.2.1++(ruL (Tm.ru N) (txs.drop u.1) u.2.2).1,(ruL (Tm.ru N) (txs.drop u.1) u.2.2).2)∧u.2.1.length=u.1)}=>⟨95,[(0,.ptr 1000 0),(3,.ptr 3 0),(4,.ptr 4 0),(6,.ptr 6 0),(57,.d (.sl (txs.map Tm.row))),(58,.d (.int (txs.length:Int))),(59,.d (.int (u.1.1:Int)))],[(3,some (.blk 32 [.d (.int tk),.d (.int tn),.d (.str ta),.d (.str tb),.d (Q7 tvs),.d (.sl (txs.map Tm.row)),.d (.sl (tcs.map Cs.row))])),(4,some (.blk 32 [.d (.int 0),.d (.int 0),.d (.str ByteArray.empty),.d (.str ByteArray.empty),.lit (.slice none 0 0),.lit (.slice none 0 0),.lit (.slice none 0 0)])),(6,some (.blk 32 [.d (.int tk),.d (.int tn),.d (.str ta),.d (.str tb),.d (Q7 tvs),.arr 400 0 u.1.2.1.length,.lit (.slice none 0 0)])),(400,some (.arr 32 7 (u.1.2.1.map Tm.row))),(1000,some (.blk 57 [.d (.int u.1.2.2)]))]⟩)
  (μ:=fun u=>txs.length-u.1.1) ⟨(0,[],c),⟨Nat.zero_le _,⟨by simp,rfl⟩⟩⟩ (Le.sub (by simp) (by simp)) (fun⟨(i,ys,c1),⟨hi8,hw⟩⟩=>?_)
 dsimp only at hi8 hw⊢;refine AWp.rg [] [] ?_ (hr:=by conv=>lhs;simp[Tm.row,Tm.Q3,Cs.Q3,Qx,h10]);repeat (first|refine AWp.seq ?_|refine AWp.block ?_)
 refine AWp.cond rfl (fun hc=>?_) (fun hc=>?_)
 ·have hi1:i<txs.length:=by have:=of_decide_eq_true hc;omega
  clear hc;have h1y:txs[i]? =some txs[i]:=List.getElem?_eq_getElem hi1;have hmy:txs[i]∈txs:=List.getElem_mem hi1;have hdy:txs.drop i=txs[i]::txs.drop (i+1):=List.drop_eq_getElem_cons hi1;generalize txs[i]=y at h1y hmy hdy;obtain⟨hap,hyl⟩:=hw;rw[hdy,ruL]at hap;have hx:=ih y c1 (hLd y hmy) (hLO y hmy) (hLS y hmy);generalize y.ru N c1=o at hx hap;obtain⟨z,c2⟩:=o;dsimp only at hx hap;obtain⟨yk,yn,ya,yb,yvs,yxs,ycs⟩:=y;obtain⟨zk,zn,za,zb,zvs,zxs,zcs⟩:=z;refine AWp.skip ?_;refine AWp.rg [] [] ?_ (hr:=by conv=>lhs;simp[Tm.row,Tm.Q3,Cs.Q3,Qx,h1y,h10]);refine AWp.dw [] [.c [] [.ptr 1000 0,.agg [.d (.int yk),.d (.int yn),.d (.str ya),.d (.str yb),.d (Q7 yvs),.d (.sl (yxs.map Tm.row)),.d (.sl (ycs.map Cs.row))]] [(1000,.blk 57 [.d (.int c1)])] (.agg [.d (.int zk),.d (.int zn),.d (.str za),.d (.str zb),.d (Q7 zvs),.d (.sl (zxs.map Tm.row)),.d (.sl (zcs.map Cs.row))]) [(1000,.blk 57 [.d (.int c2)])]] mixed ?_ (hr:=by conv=>lhs;simp[Tm.row,Tm.Q3,Cs.Q3,Qx,h1y,h10]);refine AWp.rg [] [] ?_ (hr:=by conv=>lhs;simp[Tm.row,Tm.Q3,Cs.Q3,Qx,h1y,h10]);refine⟨⟨(i+1,ys++[.mk zk zn za zb zvs zxs zcs],c2),hi1,⟨by rw[hap];simp,by simp[hyl]⟩⟩,by simp;omega,?_⟩;dsimp only;exact Le.sub (by simp[Tm.row,Tm.Q3,Cs.Q3,hyl]) (by simp[Tm.row,Tm.Q3,Cs.Q3,hyl])
 have hi1:i=txs.length:=by have:=of_decide_eq_false hc;omega
 subst hi1;clear hc;obtain⟨hap,hyl⟩:=hw;rw[List.drop_length,ruL]at hap;simp only[List.append_nil]at hap;rw[hap]at hR;dsimp only at hR;clear hap;refine AWp.exit ?_;refine AWp.rg [] [] ?_ (hr:=by conv=>lhs;simp[Tm.row,Tm.Q3,Cs.Q3,Qx,h10]);repeat (first|refine AWp.seq ?_|refine AWp.block ?_)
 refine AWp.le (Le.low [401] [] (fr:=[(0,.ptr 1000 0),(4,.ptr 4 0),(6,.ptr 6 0),(73,.d (.sl (tcs.map Cs.row))),(74,.d (.int (tcs.length:Int))),(75,.d (.int (0:Int)))]) (mem:=[(4,some (.blk 32 [.d (.int 0),.d (.int 0),.d (.str ByteArray.empty),.d (.str ByteArray.empty),.lit (.slice none 0 0),.lit (.slice none 0 0),.lit (.slice none 0 0)])),(6,some (.blk 32 [.d (.int tk),.d (.int tn),.d (.str ta),.d (.str tb),.d (Q7 tvs),.arr 400 0 ys.length,.arr 401 0 ([]:List Cs).length])),(400,some (.arr 32 7 (ys.map Tm.row))),(401,some (.arr 42 9 (([]:List Cs).map Cs.row))),(1000,some (.blk 57 [.d (.int (c1:Int))]))]) rfl (by simp) (by simp)) ?_;refine AWp.loop (σ:=fun u:{u:Nat×List Cs×Int // u.1≤tcs.length∧(ruC (Tm.ru N) tcs c1=(u.2.1++(ruC (Tm.ru N) (tcs.drop u.1) u.2.2).1,(ruC (Tm.ru N) (tcs.drop u.1) u.2.2).2)∧u.2.1.length=u.1)}=>⟨95,[(0,.ptr 1000 0),(4,.ptr 4 0),(6,.ptr 6 0),(73,.d (.sl (tcs.map Cs.row))),(74,.d (.int (tcs.length:Int))),(75,.d (.int (u.1.1:Int)))],[(4,some (.blk 32 [.d (.int 0),.d (.int 0),.d (.str ByteArray.empty),.d (.str ByteArray.empty),.lit (.slice none 0 0),.lit (.slice none 0 0),.lit (.slice none 0 0)])),(6,some (.blk 32 [.d (.int tk),.d (.int tn),.d (.str ta),.d (.str tb),.d (Q7 tvs),.arr 400 0 ys.length,.arr 401 0 u.1.2.1.length])),(400,some (.arr 32 7 (ys.map Tm.row))),(401,some (.arr 42 9 (u.1.2.1.map Cs.row))),(1000,some (.blk 57 [.d (.int u.1.2.2)]))]⟩)
  (μ:=fun u=>tcs.length-u.1.1) ⟨(0,[],c1),⟨Nat.zero_le _,⟨by simp,rfl⟩⟩⟩ (Le.sub (by simp) (by simp)) (fun⟨(i,ds,c3),⟨hi13,hw2⟩⟩=>?_)
 dsimp only at hi13 hw2⊢;refine AWp.rg [] [] ?_ (hr:=by conv=>lhs;simp[Tm.row,Tm.Q3,Cs.Q3,Qx,h10]);repeat (first|refine AWp.seq ?_|refine AWp.block ?_)
 refine AWp.cond rfl (fun hc=>?_) (fun hc=>?_)
 ·have hi1:i<tcs.length:=by have:=of_decide_eq_true hc;omega
  clear hc;have h1d:tcs[i]? =some tcs[i]:=List.getElem?_eq_getElem hi1;have hmd:tcs[i]∈tcs:=List.getElem_mem hi1;have hdd:tcs.drop i=tcs[i]::tcs.drop (i+1):=List.drop_eq_getElem_cons hi1;generalize tcs[i]=d at h1d hmd hdd;obtain⟨hap,hdl⟩:=hw2;have hdd2:=hCd d hmd;have hdO:=hCO d hmd;have hdS:=hCS d hmd;obtain⟨dt,dws,y⟩:=d;rw[hdd,ruC]at hap;have hx:=ih y c3 hdd2 hdO.2.2 hdS;generalize y.ru N c3=o at hx hap;obtain⟨z,c2⟩:=o;dsimp only at hx hap;obtain⟨yk,yn,ya,yb,yvs,yxs,ycs⟩:=y;obtain⟨zk,zn,za,zb,zvs,zxs,zcs⟩:=z;refine AWp.skip ?_;refine AWp.rg [] [] ?_ (hr:=by conv=>lhs;simp[Tm.row,Tm.Q3,Cs.Q3,Qx,h1d,Cs.row,h10]);refine AWp.dw [] [.c [] [.ptr 1000 0,.agg [.d (.int yk),.d (.int yn),.d (.str ya),.d (.str yb),.d (Q7 yvs),.d (.sl (yxs.map Tm.row)),.d (.sl (ycs.map Cs.row))]] [(1000,.blk 57 [.d (.int c3)])] (.agg [.d (.int zk),.d (.int zn),.d (.str za),.d (.str zb),.d (Q7 zvs),.d (.sl (zxs.map Tm.row)),.d (.sl (zcs.map Cs.row))]) [(1000,.blk 57 [.d (.int c2)])]] mixed ?_ (hr:=by conv=>lhs;simp[Tm.row,Tm.Q3,Cs.Q3,Qx,h1d,Cs.row,h10]);refine AWp.rg [] [] ?_ (hr:=by conv=>lhs;simp[Tm.row,Tm.Q3,Cs.Q3,Qx,h1d,Cs.row,h10]);refine⟨⟨(i+1,ds++[.mk dt dws (.mk zk zn za zb zvs zxs zcs)],c2),hi1,⟨by rw[hap];simp,by simp[hdl]⟩⟩,by simp;omega,?_⟩;dsimp only;exact Le.sub (by simp[Cs.row,Tm.row,Tm.Q3,Cs.Q3,hdl]) (by simp[Cs.row,Tm.row,Tm.Q3,Cs.Q3,hdl])
 have hi1:i=tcs.length:=by have:=of_decide_eq_false hc;omega
 subst hi1;clear hc;obtain⟨hap,hdl⟩:=hw2;rw[List.drop_length,ruC]at hap;simp only[List.append_nil]at hap;rw[hap]at hR;dsimp only at hR;subst hR;refine AWp.exit ?_;refine AWp.rg [] [] ?_ (hr:=by conv=>lhs;simp[Tm.row,Tm.Q3,Cs.Q3,Qx,h10]);refine AWp.ret ?_;try dsimp only[Qq,Q8]
 apply Zw.retF [400,401]
 ·rfl
 ·conv=>lhs;simp
 ·conv=>lhs;simp[Qz,Tryd.results27]
 ·rfl
 ·simp[Zx,Q5]
theorem ru_all:∀N,RuN N
 |0=>fun t c h=>by obtain⟨tk,tn,ta,tb,tvs,txs,tcs⟩:=t;rw[Tm.dp]at h;split at h<;> omega
 |N+1=>ru_step N (ru_all N)
theorem sp_RuFn (f:Fn) (h:f.body.Ok∧f.body.Fs):Qv Tryd.prog 10 [Wz f] (fun _=>Wz f.ru) none:=by
 have hx:=ru_all f.body.dp f.body 0 (Nat.le_refl _) h.1 h.2;unfold Fn.ru;generalize f.body.ru f.body.dp 0=o at hx⊢;obtain⟨z,c2⟩:=o;obtain⟨fg,fps,⟨fk,fn,fa,fb,fvs,fxs,fcs⟩⟩:=f;obtain⟨zk,zn,za,zb,zvs,zxs,zcs⟩:=z;dsimp only at hx;refine Qv.of Tryd.func10 rfl rfl rfl (Nat.le_of_ble_eq_true rfl) ?_;show AWp _ _ (Z5 _ Tryd.f10 _ _ _) (Qw 13 _);refine AWp.rg [] [] ?_ (hr:=by conv=>lhs;simp[Wz,Fn.row,Tm.row,Tm.Q3,Cs.Q3]);refine AWp.dw [] [.c [(1000,8)] [.ptr 1000 0,.agg [.d (.int fk),.d (.int fn),.d (.str fa),.d (.str fb),.d (Q7 fvs),.d (.sl (fxs.map Tm.row)),.d (.sl (fcs.map Cs.row))]] [(1000,.blk 57 [.d (.int 0)])] (.agg [.d (.int zk),.d (.int zn),.d (.str za),.d (.str zb),.d (Q7 zvs),.d (.sl (zxs.map Tm.row)),.d (.sl (zcs.map Cs.row))]) [(1000,.blk 57 [.d (.int c2)])]] mixed ?_ (hr:=by conv=>lhs;simp[Wz,Fn.row,Tm.row,Tm.Q3,Cs.Q3]);refine AWp.ret ?_;try dsimp only[Qq,Q8]
 apply Z5.ret
 ·rfl
 ·conv=>lhs;simp[Qz,Tryd.results10]
 rfl
theorem sp_EachReused (l:List Fn) (hl:l.length≤879609302220) (hall:∀f∈l,f.body.Ok∧f.body.Fs):Qv Tryd.prog 18 [W9 l,.d (.fn 10)] (fun _=>W9 (l.map Fn.ru)) none:=by
 obtain⟨G,hG⟩:∃G,G=l.map Fn.ru:=⟨_,rfl⟩
 rw[←hG];refine Qv.of Tryd.func18 rfl rfl rfl (Nat.le_of_ble_eq_true rfl) ?_;show AWp _ _ (Z5 _ Tryd.f18 _ _ _) (Qw 22 _);refine AWp.rg [] [] ?_ (hr:=by conv=>lhs;simp[Fn.row,Tm.row,Tm.Q3,Cs.Q3]);refine AWp.rg [] [] ?_ (hr:=by conv=>lhs;simp[Fn.row,Tm.row,Tm.Q3,Cs.Q3]);refine AWp.rg [] [] ?_ (hr:=by conv=>lhs;simp[Fn.row,Tm.row,Tm.Q3,Cs.Q3]);repeat (first|refine AWp.seq ?_|refine AWp.block ?_)
 refine AWp.le (Le.low [400] [] (fr:=[(1,.d (.fn 10)),(5,.arr 400 0 ([]:List Fn).length),(8,.d (.sl (l.map Fn.row))),(9,.d (.int (l.length:Int))),(10,.d (.int (0:Int)))]) (mem:=[(400,some (.arr 34 9 (([]:List Fn).map Fn.row)))]) rfl (by simp) (by simp)) ?_;refine AWp.loop (σ:=fun u:{u:Nat×List Fn // u.1≤l.length∧u.2=(l.take u.1).map Fn.ru}=>⟨22,[(1,.d (.fn 10)),(5,.arr 400 0 u.1.2.length),(8,.d (.sl (l.map Fn.row))),(9,.d (.int (l.length:Int))),(10,.d (.int (u.1.1:Int)))],[(400,some (.arr 34 9 (u.1.2.map Fn.row)))]⟩)
  (μ:=fun u=>l.length-u.1.1) ⟨(0,[]),⟨Nat.zero_le _,by simp⟩⟩ (Le.sub (by simp) (by simp)) (fun⟨(i,gs),⟨hi3,hw⟩⟩=>?_)
 dsimp only at hi3 hw⊢;refine AWp.rg [] [] ?_ (hr:=by conv=>lhs;simp[Fn.row,Tm.row,Tm.Q3,Cs.Q3]);repeat (first|refine AWp.seq ?_|refine AWp.block ?_)
 refine AWp.cond rfl (fun hc=>?_) (fun hc=>?_)
 ·have hi1:i<l.length:=by have:=of_decide_eq_true hc;omega
  clear hc;have h1f:l[i]? =some l[i]:=List.getElem?_eq_getElem hi1;have hmf:l[i]∈l:=List.getElem_mem hi1;have hdf:l.drop i=l[i]::l.drop (i+1):=List.drop_eq_getElem_cons hi1;generalize l[i]=f at h1f hmf hdf;have hgl:gs.length=i:=by rw[hw,List.length_map,List.length_take];omega
  have hx:=sp_RuFn f (hall f hmf);generalize hz:Fn.ru f=z at hx;obtain⟨fg,fps,⟨fk,fn,fa,fb,fvs,fxs,fcs⟩⟩:=f;obtain⟨zg,zps,⟨zk,zn,za,zb,zvs,zxs,zcs⟩⟩:=z;dsimp only[Wz]at hx;refine AWp.skip ?_;refine AWp.rg [] [] ?_ (hr:=by conv=>lhs;simp[Fn.row,Tm.row,Tm.Q3,Cs.Q3,h1f]);refine AWp.rg [] [.p (fun _=>.agg [.d (.str zg),.d (Q7 zps),.d (.int zk),.d (.int zn),.d (.str za),.d (.str zb),.d (Q7 zvs),.d (.sl (zxs.map Tm.row)),.d (.sl (zcs.map Cs.row))]) none] ?_ (hr:=by conv=>lhs;simp[Fn.row,Tm.row,Tm.Q3,Cs.Q3,h1f]);refine AWp.rg [] [] ?_ (hr:=by conv=>lhs;simp[Fn.row,Tm.row,Tm.Q3,Cs.Q3,h1f]);refine⟨⟨(i+1,gs++[⟨zg,zps,.mk zk zn za zb zvs zxs zcs⟩]),hi1,by rw[hw,List.take_add_one,h1f,List.map_append,←hz];rfl⟩,by simp;omega,?_⟩;dsimp only;exact Le.sub (by simp[Fn.row,Tm.row,Tm.Q3,Cs.Q3,hgl]) (by simp[Fn.row,Tm.row,Tm.Q3,Cs.Q3,hgl])
 have hi1:i=l.length:=by have:=of_decide_eq_false hc;omega
 subst hi1;clear hc;rw[List.take_length]at hw;obtain rfl:gs=G:=by rw[hw,hG]
 refine AWp.exit ?_;refine AWp.rg [] [] ?_ (hr:=by conv=>lhs;simp[Fn.row,Tm.row,Tm.Q3,Cs.Q3]);refine AWp.ret ?_;try dsimp only[Qq,Q8]
 apply Z5.retF [400]
 ·rfl
 ·conv=>lhs;simp
 ·conv=>lhs;simp[Qz,Tryd.results18]
 rfl
end Go.Proofs.YtlbcipohiepjmaaDoor
namespace Go.Proofs.YtlbcipohiepjmaaDoor
open Classical Go.RowKit
theorem fs_var {x:Tm} (h:x.tk=1) (hS:x.Sh):x.Fs:=by
 obtain⟨k,n,a,b,vs,xs,cs⟩:=x;have hk:k=1:=h;subst hk;obtain rfl:xs=[]:=hS.1 (.inl rfl);obtain rfl:cs=[]:=hS.2.1 (by omega);exact⟨by omega,by omega,trivial,trivial⟩
theorem end_zero {s:LS} {e:Int} (h:s.Bz e=0):e=0:=by
 unfold LS.Bz at h;split at h
 ·rename_i h1;simp at h
 ·exact h
theorem fs_lin:∀(N:Nat) (t:Tm),t.sz≤N→t.Sh→∀s:LS,t.lin s=0→t.Fs:=by
 intro N;induction N with
 |zero=>intro t h;have:=t.Cj;omega
 |succ N ih=>
  intro t hN hS s h;obtain⟨k,n,a,b,vs,xs,cs⟩:=t;rw[Tm.sz]at hN;have hX:∀x∈xs,x.sz≤N:=fun x hx=>by have:=Tm.Zj hx;omega
  have hXS:∀x∈xs,x.Sh:=fun x hx=>Qb.1 hS.2.2.2.1 x hx
  rcases lin_kind h with rfl|rfl|hk|rfl|rfl|rfl|hk
  ·obtain rfl:xs=[]:=hS.1 (.inl rfl);obtain rfl:cs=[]:=hS.2.1 (by omega);exact⟨by omega,by omega,trivial,trivial⟩
  ·obtain rfl:xs=[]:=hS.1 (.inr rfl);obtain rfl:cs=[]:=hS.2.1 (by omega);exact⟨by omega,by omega,trivial,trivial⟩
  ·obtain rfl:cs=[]:=hS.2.1 (by omega);rw[lin345 hk]at h;exact⟨by omega,by omega,Cq.2 fun x hx=>fs_var (useL_tk (end_zero h) x hx) (hXS x hx),trivial⟩
  ·obtain rfl:cs=[]:=hS.2.1 (by omega);obtain⟨-,h⟩:=lin12 h;exact⟨by omega,by omega,Cq.2 fun x hx=>fs_var (useL_tk (end_zero h) x hx) (hXS x hx),trivial⟩
  ·obtain rfl:cs=[]:=hS.2.1 (by omega);obtain⟨x,y,rfl,-,h1,h2⟩:=lin6 h;exact⟨fun _=>⟨x,y,rfl⟩,by omega,⟨ih x (hX x (by simp)) (hXS x (by simp)) _ h1,ih y (hX y (by simp)) (hXS y (by simp)) _ h2,trivial⟩,trivial⟩
  ·obtain⟨x,rfl,h1,-,h2⟩:=lin7 h;refine⟨by omega,by omega,⟨fs_var h1 (hXS x (by simp)),trivial⟩,Dk.2 fun c hc=>?_⟩;have h3:=h2 c hc;have hs:=Cs.Zj hc;have hSc:=M3.1 hS.2.2.2.2 c hc;obtain⟨t,ws,y⟩:=c;rw[Cs.sz]at hs;exact ih y (by omega) hSc _ (clin_inv h3).2
  ·obtain rfl:cs=[]:=hS.2.1 (by omega);obtain⟨x,rfl,h1⟩:=linS hk h;refine⟨by omega,fun _=>⟨x,rfl⟩,⟨?_,trivial⟩,trivial⟩;have hx:=ih x (hX x (by simp)) (hXS x (by simp));obtain⟨e8,e9,e13,e10,e11⟩:=h1;rcases hk with rfl|rfl|rfl|rfl|rfl
   ·exact hx _ (e8 rfl).2
   ·exact hx _ (e9 rfl).2
   ·exact hx _ (e10 rfl).2
   ·exact hx _ (e11 rfl).2.2.2
   ·exact hx _ (e13 rfl).2
theorem mk1_fs {l:List Fn} (hl:P5 l) (hc:Yv l=0):∀f∈mk1 l,f.body.Ok∧f.body.Fs:=fun f hf=>by
 have h:=lv1 hl hc f hf;refine⟨(mk1_fits hl hc f hf).1,?_⟩;have h1:=h.lin;rw[Fn.lin_of h.nd]at h1;exact fs_lin _ _ (Nat.le_refl _) h.shp.sh _ h1
end Go.Proofs.YtlbcipohiepjmaaDoor
namespace Go.Proofs.YtlbcipohiepjmaaDoor
open Classical Go.RowKit
attribute [local simp] runD mkRc ldOf stOf stOk Mj Tv Rz Kv Kw Yq Y8 Xz Y4 Bj evA Vj F4 Value.oneCell' Z9 Q5 Qw frOf Uv Qj AS.after Z4 V4 Y3 AV.ids M7 Q6.ids frNo Mx Gj Uw Hq Jv Y5 Vx U3 U2 K4 toD1 Ez setAt U9 O0 F5 Av H6 Aw binI AV.cells J4 Jj H5 Wj AV.kill Q6.kill AV.has AV.Yj Op.operands Call.operands Nk Mv Z8 cChk Z0 X3 Ev moQ M9 R7 Yz AV.ren Ej Q6.ren Q6.like kept K5 Sq AV.frz Px Ox frSub M5 D9 AS.frz C8 G7 Q6.frz Fx bleF Nat.ble_eq Gw G6 Y1 D.Y2 Tj G5 V8 Vk phO Az F6 D7 K6 V5 Low Ew
def Tm.pre:Tm→Int→Int×ByteArray×List Tm×Int
 | .mk k n a b vs xs cs,c=>if k=10∧Tm.fitH vs.length xs=true then (11,kNm (wr (c+1)),Tm.Rk (kNm (wr (c+1))) vs.length xs,wr (c+1))else (k,b,xs,c)
def Tm.rm:Nat→Tm→Int→Tm×Int
 |0,t,c=>(t,c)
 |N+1,.mk k n a b vs xs cs,c=>
  (.mk (Tm.pre (.mk k n a b vs xs cs) c).1 n a (Tm.pre (.mk k n a b vs xs cs) c).2.1 vs (ruL (Tm.rm N) (Tm.pre (.mk k n a b vs xs cs) c).2.2.1 (Tm.pre (.mk k n a b vs xs cs) c).2.2.2).1
   (ruC (Tm.rm N) cs (ruL (Tm.rm N) (Tm.pre (.mk k n a b vs xs cs) c).2.2.1 (Tm.pre (.mk k n a b vs xs cs) c).2.2.2).2).1,
   (ruC (Tm.rm N) cs (ruL (Tm.rm N) (Tm.pre (.mk k n a b vs xs cs) c).2.2.1 (Tm.pre (.mk k n a b vs xs cs) c).2.2.2).2).2)
theorem ruL_len (f:Tm→Int→Tm×Int):∀(l:List Tm) (c:Int),(ruL f l c).1.length=l.length
 |[],c=>rfl
 |x::r,c=>by simp only[ruL,List.length_cons,ruL_len f r]
theorem ruC_len (f:Tm→Int→Tm×Int):∀(l:List Cs) (c:Int),(ruC f l c).1.length=l.length
 |[],c=>rfl
 | .mk t ws y::r,c=>by simp only[ruC,List.length_cons,ruC_len f r]
theorem rm_len {N:Nat} {t:Tm} {c:Int} {u:Tm} {d:Int} (h:t.rm N c=(u,d)):t.vars.length=u.vars.length∧t.xs.length=u.xs.length∧t.cases.length=u.cases.length:=by
 obtain⟨k,n,a,b,vs,xs,cs⟩:=t;cases N with
 |zero=>cases h;exact⟨rfl,rfl,rfl⟩
 |succ N=>
  rw[Tm.rm]at h;cases h;refine⟨rfl,?_,(ruC_len _ _ _).symm⟩;show xs.length=(ruL _ _ _).1.length;rw[ruL_len,Tm.pre];split
  ·exact(putH_len ..).symm
  ·rfl
def Tm.Mk (t:Tm):Prop:=t.Ok∧t.Fs∧t.k13
def MkN (N:Nat):Prop:=∀(t:Tm) (c:Int),t.dp≤N→t.Mk→inI c→Y9 Tryd.prog 25 [.ptr 1000 0,Ex t 1001 1002 1003] ((1000,.blk 52 [.d (.int c)])::S9 t 1001 1002 1003) (Ex (t.rm N c).1 1001 1002 1003) ((1000,.blk 52 [.d (.int (t.rm N c).2)])::S9 (t.rm N c).1 1001 1002 1003)
theorem put_k13 (b:ByteArray) (m:Nat):∀(N:Nat) (t:Tm),t.sz≤N→t.k13→(t.put b m).k13:=by
 intro N;induction N with
 |zero=>intro t h;have:=t.Cj;omega
 |succ N ih=>
  intro t hN hS;obtain⟨k,n,a,b0,vs,xs,cs⟩:=t;rw[Tm.sz]at hN;have hX:∀x∈xs,x.sz≤N:=fun x hx=>by have:=Tm.Zj hx;omega
  have hH:∀l:List Tm,(∀x∈l,x.sz≤N)→Tm.k13L l→Tm.k13L (Tm.Rk b m l):=fun l hl h1=>by
   cases l with
   |nil=>trivial
   |cons x r=>rw[Tm.Rk];exact⟨ih x (hl x (by simp)) h1.1,h1.2⟩
  rw[Tm.put];split
  ·exact⟨by omega,⟨hS,trivial⟩,trivial⟩
  split
  ·exact⟨by omega,hS.2⟩
  split
  ·refine⟨hS.1,?_,hS.2.2⟩;cases xs with
   |nil=>trivial
   |cons x r=>
    rw[Tm.Cv];split
    ·exact⟨ih x (hX x (by simp)) hS.2.1.1,hS.2.1.2⟩
    ·exact⟨hS.2.1.1,hH r (fun y hy=>hX y (by simp[hy])) hS.2.1.2⟩
  split
  ·refine⟨hS.1,hS.2.1,?_⟩;rw[P8];refine Pw.2 fun c h=>?_
   obtain⟨c0,hc0,rfl⟩:=List.mem_map.1 h;have h1:=Pw.1 hS.2.2 c0 hc0;have hs:=Cs.Zj hc0;obtain⟨t,ws,y⟩:=c0;rw[Cs.sz]at hs;rw[Cs.put];exact ih y (by omega) h1
  ·exact⟨hS.1,hH xs hX hS.2.1,hS.2.2⟩
theorem kNm_size (c:Int):(kNm (wr (c+1))).size≤140737488355328:=by
 have h1:=Uz (Mq (c+1));have h1s:(⟨#[107]⟩:ByteArray).size=1:=rfl;simp only[kNm,ByteArray.size_append];omega
theorem rm_in {N:Nat} {t:Tm} {c:Int} (h:inI c):inI (t.rm N c).2:=by
 induction N generalizing t c with
 |zero=>exact h
 |succ N ih=>
  have hL:∀(l:List Tm) (c:Int),inI c→inI (ruL (Tm.rm N) l c).2:=fun l=>by
   induction l with
   |nil=>exact fun c h=>h
   |cons x r ihl=>exact fun c h=>ihl _ (ih h)
  have hC:∀(l:List Cs) (c:Int),inI c→inI (ruC (Tm.rm N) l c).2:=fun l=>by
   induction l with
   |nil=>exact fun c h=>h
   |cons x r ihl=>obtain⟨_,_,_⟩:=x;exact fun c h=>ihl _ (ih h)
  obtain⟨k,n,a,b,vs,xs,cs⟩:=t;rw[Tm.rm];refine hC _ _ (hL _ _ ?_);rw[Tm.pre];split
  ·exact Mq _
  ·exact h
theorem mk_step (N:Nat) (ih:MkN N):MkN (N+1):=by
 intro t c hdp hMk hcI;obtain⟨R,hR⟩:∃R,R=t.rm (N+1) c:=⟨_,rfl⟩
 rw[←hR];obtain⟨⟨rk,rn,ra,rb,rvs,rxs,rcs⟩,r2⟩:=R;obtain⟨hO,hS,hK⟩:=hMk;obtain⟨tk,tn,ta,tb,tvs,txs,tcs⟩:=t;rw[Tm.rm]at hR;have hxM:∀x∈txs,x.Mk:=fun x hx=>⟨Tm.Zk.1 hO.2.2.1 x hx,Cq.1 hS.2.2.1 x hx,k13L_iff.1 hK.2.1 x hx⟩
 have hcM:∀x∈tcs,x.body.Mk:=fun x hx=>by
  have h1:=Cs.Zk.1 hO.2.2.2 x hx;have h2:=Dk.1 hS.2.2.2 x hx;have h3:=Pw.1 hK.2.2 x hx;obtain⟨_,_,_⟩:=x;exact⟨h1.2.2,h2,h3⟩
 obtain⟨o1,o2,o3,o4,o5⟩:=hO.vars;have hdp':=hdp;rw[Tm.dp]at hdp;have hcD:∀x∈tcs,x.body.dp≤N:=fun x hx=>by
  have:=cdpL_mem hx;obtain⟨_,_,_⟩:=x;simp only[Cs.dp,Cs.body]at this⊢;split at hdp<;> omega
 obtain⟨k1,b1,xs1,c1,hP⟩:∃k1 b1 xs1 c1,Tm.pre (.mk tk tn ta tb tvs txs tcs) c=(k1,b1,xs1,c1):=⟨_,_,_,_,rfl⟩
 rw[hP]at hR;dsimp only at hR;have hl1:xs1.length=txs.length:=by
  rw[Tm.pre]at hP;split at hP
  ·cases hP;exact putH_len ..
  ·cases hP;rfl
 have hc1:inI c1:=by
  rw[Tm.pre]at hP;split at hP
  ·cases hP;exact Mq _
  ·cases hP;exact hcI
 have hxD:∀x∈xs1,x.dp≤N∧x.Mk:=by
  rw[Tm.pre]at hP;split at hP
  ·rename_i h10;cases hP;obtain⟨x,hxy⟩:=hS.2.1 ⟨by omega,by omega⟩;subst hxy;rw[if_pos h10.1]at hdp;intro y hy;simp only[Tm.Rk,List.mem_singleton]at hy;subst hy;have hd:=dpL_mem (x:=x) (l:=[x]) (by simp);have hm:=hxM x (by simp);have hz:=(put_r (kNm (wr (c+1))) tvs.length _ x (Nat.le_refl _)).dp;exact⟨by omega,put_ok _ _ (kNm_size c) _ _ (Nat.le_refl _) hm.1,put_fs _ _ _ _ (Nat.le_refl _) hm.2.1,put_k13 _ _ _ _ (Nat.le_refl _) hm.2.2⟩
  ·cases hP;exact fun x hx=>⟨by have:=dpL_mem hx;split at hdp<;> omega,hxM x hx⟩
 simp only[Ex,S9];refine Y9.of Tryd.func25 rfl rfl (Nat.le_of_ble_eq_true rfl) ?_;show AWp _ _ (Zw _ Tryd.f25 _ _) (K5 87 _ _);refine AWp.rg [] [] ?_ (hr:=by conv=>lhs;simp[Tm.od,Tm.Q4,Cs.Q4,Qx]);try dsimp only[Qq,Q8]
 refine AWp.seqMid ⟨87,[(0,.ptr 1000 0),(3,.ptr 3 0),(4,.ptr 4 0)],[(1000,some (.blk 52 [.d (.int c1)])),(1001,some (.raw (.own 9 1 (tvs.map Kj) []))),(1002,some (.raw (.own 32 7 (xs1.map Tm.od) []))),(1003,some (.raw (.own 42 9 (tcs.map Cs.od) []))),(3,some (.blk 32 [.d (.int k1),.d (.int tn),.d (.str ta),.d (.str b1),.arr 1001 0 tvs.length,.arr 1002 0 xs1.length,.arr 1003 0 tcs.length])),(4,some (.blk 32 [.d (.int 0),.d (.int 0),.d (.str ByteArray.empty),.d (.str ByteArray.empty),.lit (.slice none 0 0),.lit (.slice none 0 0),.lit (.slice none 0 0)]))]⟩ ?_ ?_
 ·by_cases h10:tk=10
  ·obtain⟨x,hxy⟩:=hS.2.1 ⟨by omega,by omega⟩;subst h10 hxy;have hmx:x.Mk:=hxM x (by simp);obtain⟨q,hq⟩:∃q,x.fits tvs.length=q:=⟨_,rfl⟩
   have hob:=cs_OwnB x hmx.1;obtain⟨e,he⟩:∃e:Int,wr (c+1)=e:=⟨_,rfl⟩
   have heI:inI e:=by rw[←he];exact Mq _
   have hit:=sp_Itoa e heI;have hsz:=Uz heI;have h1s:(⟨#[107]⟩:ByteArray).size=1:=rfl;obtain⟨tok,htk⟩:∃b,((⟨#[107]⟩++(Hz e)))=b:=⟨_,rfl⟩
   have hkn:kNm e=tok:=htk;have htz:tok.size≤140737488355328:=by rw[←htk];simp[ByteArray.size_append];omega
   have hpl:=plc_all x.sz x tok tvs.length (Nat.le_refl _) hmx.1 hmx.2.1 hmx.2.2 htz;have hpt:Tm.pre (.mk 10 tn ta tb tvs [x] tcs) c=if q=true then (11,tok,[Plc tok tvs.length x],e)else (10,tb,[x],c):=by
    rw[Tm.pre,he,hkn];simp only[Tm.fitH,hq,Tm.Rk,true_and,Plc];cases q<;> rfl
   obtain⟨z,hz⟩:∃z,Plc tok tvs.length x=z:=⟨_,rfl⟩
   rw[hpt,hz]at hP;rw[hz,hq]at hpl;obtain⟨xk,xn,xa,xb,xvs,xxs,xcs⟩:=x;obtain⟨p1,p2,p3,p4,p5⟩:=hmx.1.vars;obtain⟨zk,zn,za,zb,zvs,zxs,zcs⟩:=z;obtain⟨z1,z2,z3⟩:=Plc_len hz;simp only[Ex,S9,List.cons_append,List.nil_append]at hob hpl;refine AWp.rg [] [] ?_ (hr:=by conv=>lhs;simp[Tm.od,Tm.Q4,Cs.Q4,Qx]);refine AWp.cy ?_;refine AWp.rg [4] [.p (fun _=>.d (.str (Hz e))) none] ?_ (hr:=by conv=>lhs;simp[Tm.od,Tm.Q4,Cs.Q4,Qx,he]);rw[htk];refine AWp.le (Le.Yk 1002 500 0 4 (by conv=>lhs;simp) (by conv=>lhs;simp[Tm.od,Tm.Q4,Cs.Q4,Qx]) (by conv=>lhs;simp[Tm.od,Tm.Q4,Cs.Q4,Qx]) rfl rfl (by simp)) ?_;refine AWp.le (Le.Yk 1002 501 0 5 (by conv=>lhs;simp) (by conv=>lhs;simp[Tm.od,Tm.Q4,Cs.Q4,Qx]) (by conv=>lhs;simp[Tm.od,Tm.Q4,Cs.Q4,Qx]) rfl rfl (by simp)) ?_;refine AWp.le (Le.Yk 1002 502 0 6 (by conv=>lhs;simp) (by conv=>lhs;simp[Tm.od,Tm.Q4,Cs.Q4,Qx]) (by conv=>lhs;simp[Tm.od,Tm.Q4,Cs.Q4,Qx]) rfl rfl (by simp)) ?_
   refine AWp.dw [] [.n [(1000,500),(1001,501),(1002,502),(500,503),(501,504),(502,505)] [.agg [.d (.int xk),.d (.int xn),.d (.str xa),.d (.str xb),.arr 1000 0 xvs.length,.arr 1001 0 xxs.length,.arr 1002 0 xcs.length]] ([(1000,.raw (.own 9 1 (xvs.map Kj) [])),(1001,.raw (.own 32 7 (xxs.map Tm.od) [])),(1002,.raw (.own 42 9 (xcs.map Cs.od) []))]) (.agg [.d (.int xk),.d (.int xn),.d (.str xa),.d (.str xb),.arr 500 0 xvs.length,.arr 501 0 xxs.length,.arr 502 0 xcs.length]) ([(1000,.raw (.own 9 1 (xvs.map Kj) [])),(1001,.raw (.own 32 7 (xxs.map Tm.od) [])),(1002,.raw (.own 42 9 (xcs.map Cs.od) []))]++[(500,.raw (.own 9 1 (xvs.map Kj) [])),(501,.raw (.own 32 7 (xxs.map Tm.od) [])),(502,.raw (.own 42 9 (xcs.map Cs.od) []))]) [500,501,502],.c [(1000,503),(1001,504),(1002,505)] [.agg [.d (.int xk),.d (.int xn),.d (.str xa),.d (.str xb),.arr 1000 0 xvs.length,.arr 1001 0 xxs.length,.arr 1002 0 xcs.length],.d (.str tok),.d (.int (tvs.length:Int))] ([(1000,.raw (.own 9 1 (xvs.map Kj) [])),(1001,.raw (.own 32 7 (xxs.map Tm.od) [])),(1002,.raw (.own 42 9 (xcs.map Cs.od) []))]) (.tuple [.agg [.d (.int zk),.d (.int zn),.d (.str za),.d (.str zb),.arr 1000 0 zvs.length,.arr 1001 0 zxs.length,.arr 1002 0 zcs.length],.d (.bool q)]) ([(1000,.raw (.own 9 1 (zvs.map Kj) [])),(1001,.raw (.own 32 7 (zxs.map Tm.od) [])),(1002,.raw (.own 42 9 (zcs.map Cs.od) []))])] mixed ?_ (hr:=by conv=>lhs;simp[Tm.od,Tm.Q4,Cs.Q4,Qx,he]);cases q with
   |true=>
    simp only[if_true,Prod.mk.injEq]at hP;obtain⟨rfl,rfl,rfl,rfl⟩:=hP;refine AWp.rg [] [] ?_ (hr:=by conv=>lhs;simp[Tm.od,Tm.Q4,Cs.Q4,Qx,he]);refine AWp.cy ?_;refine AWp.rg [4] [] ?_ (hr:=by conv=>lhs;simp[Tm.od,Tm.Q4,Cs.Q4,Qx,he]);refine AWp.dw [] [] mixed ?_ (hr:=by conv=>lhs;simp[Tm.od,Tm.Q4,Cs.Q4,Qx,he]);try dsimp only[Qq,Q8]
    refine Le.trans (Le.X8 1002 503 0 4 (ty:=32) (sz:=7) (by conv=>lhs;simp[Tm.od,Tm.Q4,Cs.Q4,Qx]) (by conv=>lhs;simp[Tm.od,Tm.Q4,Cs.Q4,Qx]) (by conv=>lhs;simp[Tm.od,Tm.Q4,Cs.Q4,Qx]) (by simp;rfl) (by simp) rfl rfl) ?_;refine Le.trans (Le.X8 1002 504 0 5 (ty:=32) (sz:=7) (by conv=>lhs;simp[Tm.od,Tm.Q4,Cs.Q4,Qx]) (by conv=>lhs;simp[Tm.od,Tm.Q4,Cs.Q4,Qx]) (by conv=>lhs;simp[Tm.od,Tm.Q4,Cs.Q4,Qx]) (by simp;rfl) (by simp) rfl rfl) ?_;refine Le.trans (Le.X8 1002 505 0 6 (ty:=32) (sz:=7) (by conv=>lhs;simp[Tm.od,Tm.Q4,Cs.Q4,Qx]) (by conv=>lhs;simp[Tm.od,Tm.Q4,Cs.Q4,Qx]) (by conv=>lhs;simp[Tm.od,Tm.Q4,Cs.Q4,Qx]) (by simp;rfl) (by simp) rfl rfl) ?_;exact Le.sub (by simp[he]) (by simp[Tm.od,Tm.Q4,Cs.Q4,he])
   |false=>
    simp only[Bool.false_eq_true,if_false,Prod.mk.injEq]at hP;obtain⟨rfl,rfl,rfl,rfl⟩:=hP;refine AWp.rg [] [] ?_ (hr:=by conv=>lhs;simp[Tm.od,Tm.Q4,Cs.Q4,Qx,he]);refine AWp.cn ?_;refine AWp.skip ?_;try dsimp only[Qq,Q8]
    refine Le.trans (Le.X8 1002 500 0 4 (ty:=32) (sz:=7) (by conv=>lhs;simp[Tm.od,Tm.Q4,Cs.Q4,Qx]) (by conv=>lhs;simp[Tm.od,Tm.Q4,Cs.Q4,Qx]) (by conv=>lhs;simp[Tm.od,Tm.Q4,Cs.Q4,Qx]) (by simp;rfl) (by simp) rfl rfl) ?_;refine Le.trans (Le.X8 1002 501 0 5 (ty:=32) (sz:=7) (by conv=>lhs;simp[Tm.od,Tm.Q4,Cs.Q4,Qx]) (by conv=>lhs;simp[Tm.od,Tm.Q4,Cs.Q4,Qx]) (by conv=>lhs;simp[Tm.od,Tm.Q4,Cs.Q4,Qx]) (by simp;rfl) (by simp) rfl rfl) ?_;refine Le.trans (Le.X8 1002 502 0 6 (ty:=32) (sz:=7) (by conv=>lhs;simp[Tm.od,Tm.Q4,Cs.Q4,Qx]) (by conv=>lhs;simp[Tm.od,Tm.Q4,Cs.Q4,Qx]) (by conv=>lhs;simp[Tm.od,Tm.Q4,Cs.Q4,Qx]) (by simp;rfl) (by simp) rfl rfl) ?_;exact Le.sub (by simp[he]) (by simp[Tm.od,Tm.Q4,Cs.Q4,he])
  ·rw[show Tm.pre (.mk tk tn ta tb tvs txs tcs) c=(tk,tb,txs,c)from by rw[Tm.pre,if_neg (fun h=>h10 h.1)]]at hP;simp only[Prod.mk.injEq]at hP;obtain⟨rfl,rfl,rfl,rfl⟩:=hP;refine AWp.rg [] [] ?_ (hr:=by conv=>lhs;simp[Tm.od,Tm.Q4,Cs.Q4,Qx,h10]);refine AWp.cn ?_;refine AWp.skip ?_;try dsimp only[Qq,Q8]
   exact Le.sub (by simp) (by simp[Tm.od,Tm.Q4,Cs.Q4])
 refine AWp.rg [] [] ?_ (hr:=by conv=>lhs;simp[Tm.od,Tm.Q4,Cs.Q4,Qx]);repeat (first|refine AWp.seq ?_|refine AWp.block ?_)
 refine AWp.loop (σ:=fun u:{u:Nat×List Tm×Int // u.1≤xs1.length∧ruL (Tm.rm N) xs1 c1=(u.2.1++(ruL (Tm.rm N) (xs1.drop u.1) u.2.2).1,(ruL (Tm.rm N) (xs1.drop u.1) u.2.2).2)∧u.2.1.length=u.1∧inI u.2.2}=>⟨87,[(0,.ptr 1000 0),(3,.ptr 3 0),(4,.ptr 4 0),(50,.d (.int (xs1.length:Int))),(51,.d (.int (u.1.1:Int)))],[(1000,some (.blk 52 [.d (.int u.1.2.2)])),(1001,some (.raw (.own 9 1 (tvs.map Kj) []))),(1002,some (.raw (.own 32 7 ((u.1.2.1++xs1.drop u.1.1).map Tm.od) []))),(1003,some (.raw (.own 42 9 (tcs.map Cs.od) []))),(3,some (.blk 32 [.d (.int k1),.d (.int tn),.d (.str ta),.d (.str b1),.arr 1001 0 tvs.length,.arr 1002 0 xs1.length,.arr 1003 0 tcs.length])),(4,some (.blk 32 [.d (.int 0),.d (.int 0),.d (.str ByteArray.empty),.d (.str ByteArray.empty),.lit (.slice none 0 0),.lit (.slice none 0 0),.lit (.slice none 0 0)]))]⟩)
  (μ:=fun u=>xs1.length-u.1.1) ⟨(0,[],c1),⟨Nat.zero_le _,by simp,rfl,hc1⟩⟩ (Le.sub (by simp) (by simp)) (fun⟨(i,ys,c2),⟨hi4,hw,hyl,hc2⟩⟩=>?_)
 dsimp only at hi4 hw hyl hc2⊢;obtain⟨W,hW⟩:∃W,W=ys++xs1.drop i:=⟨_,rfl⟩
 rw[←hW];refine AWp.rg [] [] ?_ (hr:=by conv=>lhs;simp[Tm.od,Tm.Q4,Cs.Q4,Qx]);repeat (first|refine AWp.seq ?_|refine AWp.block ?_)
 refine AWp.cond rfl (fun hc=>?_) (fun hc=>?_)
 ·have hi1:i<xs1.length:=by have:=of_decide_eq_true hc;omega
  clear hc;have hmx:xs1[i]∈xs1:=List.getElem_mem hi1;have hdx:xs1.drop i=xs1[i]::xs1.drop (i+1):=List.drop_eq_getElem_cons hi1;generalize xs1[i]=x at hmx hdx;have hWl:W.length=xs1.length:=by rw[hW];simp;omega
  have hWi:W[i]? =some x:=by rw[hW,hdx,List.getElem?_append_right (by omega),hyl,Nat.sub_self];rfl
  have hS1:∀r:List OD,((List.map Tm.od W).set i r)[i]? =some r:=fun r=>List.getElem?_set_self (by rw[List.length_map];omega)
  have hx:=ih x c2 (hxD x hmx).1 (hxD x hmx).2 hc2;obtain⟨⟨z,c3⟩,hz⟩:∃z,x.rm N c2=z:=⟨_,rfl⟩
  rw[hz]at hx;have hc3:inI c3:=by rw[←show(x.rm N c2).2=c3 from by rw[hz]];exact rm_in hc2
  rw[hdx,ruL,hz]at hw;have hWs:W.set i z=(ys++[z])++xs1.drop (i+1):=by
   rw[hW,hdx];subst hyl;simp
  obtain⟨z1,z2,z3⟩:=rm_len hz;obtain⟨xk,xn,xa,xb,xvs,xxs,xcs⟩:=x;obtain⟨p1,p2,p3,p4,p5⟩:=(hxD _ hmx).2.1.vars;obtain⟨zk,zn,za,zb,zvs,zxs,zcs⟩:=z;simp only[Ex,S9,Tm.vars,Tm.xs,Tm.cases]at hx z1 z2 z3;refine AWp.skip ?_;refine AWp.rg [] [] ?_ (hr:=by conv=>lhs;simp[Tm.od,Tm.Q4,Cs.Q4,Qx]);refine AWp.le (Le.Yk 1002 500 i 4 (by conv=>lhs;simp[hWi,hS1,hWl]) (by conv=>lhs;simp[Tm.od,Tm.Q4,Cs.Q4,Qx,hWi,hS1,hWl]) (by conv=>lhs;simp[Tm.od,Tm.Q4,Cs.Q4,Qx]) rfl rfl (by simp)) ?_;refine AWp.le (Le.Yk 1002 501 i 5 (by conv=>lhs;simp[hWi,hS1,hWl]) (by conv=>lhs;simp[Tm.od,Tm.Q4,Cs.Q4,Qx,hWi,hS1,hWl]) (by conv=>lhs;simp[Tm.od,Tm.Q4,Cs.Q4,Qx]) rfl rfl (by simp)) ?_;refine AWp.le (Le.Yk 1002 502 i 6 (by conv=>lhs;simp[hWi,hS1,hWl]) (by conv=>lhs;simp[Tm.od,Tm.Q4,Cs.Q4,Qx,hWi,hS1,hWl]) (by conv=>lhs;simp[Tm.od,Tm.Q4,Cs.Q4,Qx]) rfl rfl (by simp)) ?_;refine AWp.dw [] [.c [(1000,1000),(1001,500),(1002,501),(1003,502)] [.ptr 1000 0,.agg [.d (.int xk),.d (.int xn),.d (.str xa),.d (.str xb),.arr 1001 0 xvs.length,.arr 1002 0 xxs.length,.arr 1003 0 xcs.length]] ((1000,.blk 52 [.d (.int c2)])::[(1001,.raw (.own 9 1 (xvs.map Kj) [])),(1002,.raw (.own 32 7 (xxs.map Tm.od) [])),(1003,.raw (.own 42 9 (xcs.map Cs.od) []))]) (.agg [.d (.int zk),.d (.int zn),.d (.str za),.d (.str zb),.arr 1001 0 zvs.length,.arr 1002 0 zxs.length,.arr 1003 0 zcs.length]) ((1000,.blk 52 [.d (.int c3)])::[(1001,.raw (.own 9 1 (zvs.map Kj) [])),(1002,.raw (.own 32 7 (zxs.map Tm.od) [])),(1003,.raw (.own 42 9 (zcs.map Cs.od) []))])] mixed ?_ (hr:=by conv=>lhs;simp[Tm.od,Tm.Q4,Cs.Q4,Qx,hWi,hS1,hWl]);refine AWp.le (Le.X8 1002 500 i 4 (ty:=32) (sz:=7) (by conv=>lhs;simp[Tm.od,Tm.Q4,Cs.Q4,Qx,hWi,hS1,hWl]) (by conv=>lhs;simp[Tm.od,Tm.Q4,Cs.Q4,Qx,hWi,hS1,hWl]) (by conv=>lhs;simp[Tm.od,Tm.Q4,Cs.Q4,Qx,hWi,hS1,hWl]) (by simp;rfl) (by simp) rfl rfl) ?_
  refine AWp.le (Le.X8 1002 501 i 5 (ty:=32) (sz:=7) (by conv=>lhs;simp[Tm.od,Tm.Q4,Cs.Q4,Qx,hWi,hS1,hWl]) (by conv=>lhs;simp[Tm.od,Tm.Q4,Cs.Q4,Qx,hWi,hS1,hWl]) (by conv=>lhs;simp[Tm.od,Tm.Q4,Cs.Q4,Qx,hWi,hS1,hWl]) (by simp;rfl) (by simp) rfl rfl) ?_;refine AWp.le (Le.X8 1002 502 i 6 (ty:=32) (sz:=7) (by conv=>lhs;simp[Tm.od,Tm.Q4,Cs.Q4,Qx,hWi,hS1,hWl]) (by conv=>lhs;simp[Tm.od,Tm.Q4,Cs.Q4,Qx,hWi,hS1,hWl]) (by conv=>lhs;simp[Tm.od,Tm.Q4,Cs.Q4,Qx,hWi,hS1,hWl]) (by simp;rfl) (by simp) rfl rfl) ?_;refine AWp.rg [] [] ?_ (hr:=by conv=>lhs;simp[Tm.od,Tm.Q4,Cs.Q4,Qx,hWi,hS1]);refine⟨⟨(i+1,ys++[.mk zk zn za zb zvs zxs zcs],c3),⟨hi1,by rw[hw];simp,by simp[hyl],hc3⟩⟩,by simp;omega,?_⟩;dsimp only;rw[←hWs];exact Le.sub (by simp) (by simp[hWi,hS1,hWl,Tm.od,Tm.Q4,Cs.Q4,Qx])
 have hi1:i=xs1.length:=by have:=of_decide_eq_false hc;omega
 subst hi1;clear hc;rw[List.drop_length,ruL,List.append_nil]at hw;rw[hw]at hR;dsimp only at hR;rw[List.drop_length,List.append_nil]at hW;subst W;refine AWp.exit ?_;refine AWp.rg [] [] ?_ (hr:=by conv=>lhs;simp[Tm.od,Tm.Q4,Cs.Q4,Qx]);repeat (first|refine AWp.seq ?_|refine AWp.block ?_)
 refine AWp.loop (σ:=fun u:{u:Nat×List Cs×Int // u.1≤tcs.length∧ruC (Tm.rm N) tcs c2=(u.2.1++(ruC (Tm.rm N) (tcs.drop u.1) u.2.2).1,(ruC (Tm.rm N) (tcs.drop u.1) u.2.2).2)∧u.2.1.length=u.1∧inI u.2.2}=>⟨87,[(0,.ptr 1000 0),(3,.ptr 3 0),(4,.ptr 4 0),(68,.d (.int (tcs.length:Int))),(69,.d (.int (u.1.1:Int)))],[(1000,some (.blk 52 [.d (.int u.1.2.2)])),(1001,some (.raw (.own 9 1 (tvs.map Kj) []))),(1002,some (.raw (.own 32 7 (ys.map Tm.od) []))),(1003,some (.raw (.own 42 9 ((u.1.2.1++tcs.drop u.1.1).map Cs.od) []))),(3,some (.blk 32 [.d (.int k1),.d (.int tn),.d (.str ta),.d (.str b1),.arr 1001 0 tvs.length,.arr 1002 0 xs1.length,.arr 1003 0 tcs.length])),(4,some (.blk 32 [.d (.int 0),.d (.int 0),.d (.str ByteArray.empty),.d (.str ByteArray.empty),.lit (.slice none 0 0),.lit (.slice none 0 0),.lit (.slice none 0 0)]))]⟩)
  (μ:=fun u=>tcs.length-u.1.1) ⟨(0,[],c2),⟨Nat.zero_le _,by simp,rfl,hc2⟩⟩ (Le.sub (by simp) (by simp)) (fun⟨(i,ds,c4),⟨hi5,hw2,hdl,hc4⟩⟩=>?_)
 dsimp only at hi5 hw2 hdl hc4⊢;obtain⟨W,hW⟩:∃W,W=ds++tcs.drop i:=⟨_,rfl⟩
 rw[←hW];refine AWp.rg [] [] ?_ (hr:=by conv=>lhs;simp[Tm.od,Tm.Q4,Cs.Q4,Qx]);repeat (first|refine AWp.seq ?_|refine AWp.block ?_)
 refine AWp.cond rfl (fun hc=>?_) (fun hc=>?_)
 ·have hi1:i<tcs.length:=by have:=of_decide_eq_true hc;omega
  clear hc;have hmx:tcs[i]∈tcs:=List.getElem_mem hi1;have hdx:tcs.drop i=tcs[i]::tcs.drop (i+1):=List.drop_eq_getElem_cons hi1;generalize tcs[i]=d at hmx hdx;have hWl:W.length=tcs.length:=by rw[hW];simp;omega
  have hWi:W[i]? =some d:=by rw[hW,hdx,List.getElem?_append_right (by omega),hdl,Nat.sub_self];rfl
  have hS1:∀r:List OD,((List.map Cs.od W).set i r)[i]? =some r:=fun r=>List.getElem?_set_self (by rw[List.length_map];omega)
  have hx:=ih d.body c4 (hcD d hmx) (hcM d hmx) hc4;have hxM2:=hcM d hmx;obtain⟨dt,dws,x⟩:=d;simp only[Cs.body]at hx hxM2;obtain⟨⟨z,c5⟩,hz⟩:∃z,x.rm N c4=z:=⟨_,rfl⟩
  rw[hz]at hx;have hc5:inI c5:=by rw[←show(x.rm N c4).2=c5 from by rw[hz]];exact rm_in hc4
  rw[hdx,ruC,hz]at hw2;have hWs:W.set i (.mk dt dws z)=(ds++[.mk dt dws z])++tcs.drop (i+1):=by
   rw[hW,hdx];subst hdl;simp
  obtain⟨z1,z2,z3⟩:=rm_len hz;obtain⟨xk,xn,xa,xb,xvs,xxs,xcs⟩:=x;obtain⟨p1,p2,p3,p4,p5⟩:=hxM2.1.vars;obtain⟨zk,zn,za,zb,zvs,zxs,zcs⟩:=z;simp only[Ex,S9,Tm.vars,Tm.xs,Tm.cases]at hx z1 z2 z3;refine AWp.skip ?_;refine AWp.rg [] [] ?_ (hr:=by conv=>lhs;simp[Tm.od,Tm.Q4,Cs.Q4,Qx]);refine AWp.le (Le.Yk 1003 500 i 6 (by conv=>lhs;simp[Cs.od,hWi,hS1,hWl]) (by conv=>lhs;simp[Tm.od,Tm.Q4,Cs.Q4,Qx,Cs.od,hWi,hS1,hWl]) (by conv=>lhs;simp[Tm.od,Tm.Q4,Cs.Q4,Qx]) rfl rfl (by simp)) ?_;refine AWp.le (Le.Yk 1003 501 i 7 (by conv=>lhs;simp[Cs.od,hWi,hS1,hWl]) (by conv=>lhs;simp[Tm.od,Tm.Q4,Cs.Q4,Qx,Cs.od,hWi,hS1,hWl]) (by conv=>lhs;simp[Tm.od,Tm.Q4,Cs.Q4,Qx]) rfl rfl (by simp)) ?_;refine AWp.le (Le.Yk 1003 502 i 8 (by conv=>lhs;simp[Cs.od,hWi,hS1,hWl]) (by conv=>lhs;simp[Tm.od,Tm.Q4,Cs.Q4,Qx,Cs.od,hWi,hS1,hWl]) (by conv=>lhs;simp[Tm.od,Tm.Q4,Cs.Q4,Qx]) rfl rfl (by simp)) ?_;refine AWp.dw [] [.c [(1000,1000),(1001,500),(1002,501),(1003,502)] [.ptr 1000 0,.agg [.d (.int xk),.d (.int xn),.d (.str xa),.d (.str xb),.arr 1001 0 xvs.length,.arr 1002 0 xxs.length,.arr 1003 0 xcs.length]] ((1000,.blk 52 [.d (.int c4)])::[(1001,.raw (.own 9 1 (xvs.map Kj) [])),(1002,.raw (.own 32 7 (xxs.map Tm.od) [])),(1003,.raw (.own 42 9 (xcs.map Cs.od) []))]) (.agg [.d (.int zk),.d (.int zn),.d (.str za),.d (.str zb),.arr 1001 0 zvs.length,.arr 1002 0 zxs.length,.arr 1003 0 zcs.length]) ((1000,.blk 52 [.d (.int c5)])::[(1001,.raw (.own 9 1 (zvs.map Kj) [])),(1002,.raw (.own 32 7 (zxs.map Tm.od) [])),(1003,.raw (.own 42 9 (zcs.map Cs.od) []))])] mixed ?_ (hr:=by conv=>lhs;simp[Tm.od,Tm.Q4,Cs.Q4,Qx,Cs.od,hWi,hS1,hWl]);refine AWp.le (Le.X8 1003 500 i 6 (ty:=42) (sz:=9) (by conv=>lhs;simp[Tm.od,Tm.Q4,Cs.Q4,Qx,Cs.od,hWi,hS1,hWl]) (by conv=>lhs;simp[Tm.od,Tm.Q4,Cs.Q4,Qx,Cs.od,hWi,hS1,hWl]) (by conv=>lhs;simp[Tm.od,Tm.Q4,Cs.Q4,Qx,Cs.od,hWi,hS1,hWl]) (by simp;rfl) (by simp) rfl rfl) ?_
  refine AWp.le (Le.X8 1003 501 i 7 (ty:=42) (sz:=9) (by conv=>lhs;simp[Tm.od,Tm.Q4,Cs.Q4,Qx,Cs.od,hWi,hS1,hWl]) (by conv=>lhs;simp[Tm.od,Tm.Q4,Cs.Q4,Qx,Cs.od,hWi,hS1,hWl]) (by conv=>lhs;simp[Tm.od,Tm.Q4,Cs.Q4,Qx,Cs.od,hWi,hS1,hWl]) (by simp;rfl) (by simp) rfl rfl) ?_;refine AWp.le (Le.X8 1003 502 i 8 (ty:=42) (sz:=9) (by conv=>lhs;simp[Tm.od,Tm.Q4,Cs.Q4,Qx,Cs.od,hWi,hS1,hWl]) (by conv=>lhs;simp[Tm.od,Tm.Q4,Cs.Q4,Qx,Cs.od,hWi,hS1,hWl]) (by conv=>lhs;simp[Tm.od,Tm.Q4,Cs.Q4,Qx,Cs.od,hWi,hS1,hWl]) (by simp;rfl) (by simp) rfl rfl) ?_;refine AWp.rg [] [] ?_ (hr:=by conv=>lhs;simp[Tm.od,Tm.Q4,Cs.Q4,Qx,Cs.od,hWi,hS1]);refine⟨⟨(i+1,ds++[.mk dt dws (.mk zk zn za zb zvs zxs zcs)],c5),⟨hi1,by rw[hw2];simp,by simp[hdl],hc5⟩⟩,by simp;omega,?_⟩;dsimp only;rw[←hWs];exact Le.sub (by simp) (by simp[Cs.od,hWi,hS1,hWl,Tm.od,Tm.Q4,Cs.Q4,Qx])
 have hi1:i=tcs.length:=by have:=of_decide_eq_false hc;omega
 subst hi1;clear hc;rw[List.drop_length,ruC,List.append_nil]at hw2;rw[hw2]at hR;dsimp only at hR;rw[List.drop_length,List.append_nil]at hW;subst W;simp only[Prod.mk.injEq,Tm.mk.injEq]at hR;obtain⟨⟨rfl,rfl,rfl,rfl,rfl,rfl,rfl⟩,rfl⟩:=hR;rw[←hdl,←hyl];refine AWp.exit ?_;refine AWp.rg [] [] ?_ (hr:=by conv=>lhs;simp[Tm.od,Tm.Q4,Cs.Q4,Qx]);refine AWp.ret ?_;try dsimp only[Qq,Q8]
 apply Zw.ret
 ·rfl
 ·conv=>lhs;simp[Qz,Tryd.results25]
 ·first|rfl|simp[Zz,AV.X7,Jq]
 ·simp[Zx,Tm.od,Tm.Q4,Cs.Q4,Qx]
theorem mk_all:∀N,MkN N
 |0=>fun t c h=>by obtain⟨tk,tn,ta,tb,tvs,txs,tcs⟩:=t;rw[Tm.dp]at h;split at h<;> omega
 |N+1=>mk_step N (mk_all N)
end Go.Proofs.YtlbcipohiepjmaaDoor
namespace Go.Proofs.YtlbcipohiepjmaaDoor
open Go.RowKit
attribute [local simp] runD mkRc ldOf stOf stOk Mj Tv Rz Kv Kw Yq Y8 Xz Y4 Bj evA Vj F4 Value.oneCell' Z9 Q5 Qw frOf Uv Qj AS.after Z4 V4 Y3 AV.ids M7 Q6.ids frNo Mx Gj Uw Hq Jv Y5 Vx U3 U2 K4 toD1 Ez setAt U9 O0 F5 Av H6 Aw binI AV.cells J4 Jj H5 Wj AV.kill Q6.kill AV.has AV.Yj Op.operands Call.operands Nk Mv Z8 cChk Z0 X3 Ev moQ M9 R7 Yz AV.ren Ej Q6.ren Q6.like kept K5 Sq AV.frz Px Ox frSub M5 D9 AS.frz C8 G7 Q6.frz Fx bleF Nat.ble_eq Gw G6 Y1 D.Y2 Tj G5 V8 Vk phO Az F6 D7 K6 V5 Low Ew
theorem odm_T (l:List Tm):Vv (l.map Tm.od)=some (l.map Tm.row):=by rw[←Tm.Q4,←Tm.Q3];exact Tm.P9 l
theorem odm_C (l:List Cs):Vv (l.map Cs.od)=some (l.map Cs.row):=by rw[←Cs.Q4,←Cs.Q3];exact Cs.P9 l
def Fn.rm (f:Fn):Fn:=⟨f.name,f.params,(f.body.rm f.body.dp 0).1⟩
theorem sp_RmFn (f:Fn) (h:f.body.Mk) (hp:f.params.length≤6):Qv Tryd.prog 9 [Wz f] (fun _=>Wz f.rm) none:=by
 have hx:=mk_all f.body.dp f.body 0 (Nat.le_refl _) h (by unfold inI;omega);have hob:=cs_OwnT f.body h.1;have hcl:=sp_Clone f.params (by omega);unfold Fn.rm;generalize hz:f.body.rm f.body.dp 0=o at hx⊢;obtain⟨z,c2⟩:=o;obtain⟨z1,z2,z3⟩:=rm_len hz;obtain⟨fg,fps,fb⟩:=f;obtain⟨fk,fn,fa,fb,fvs,fxs,fcs⟩:=fb;obtain⟨p1,p2,p3,p4,p5⟩:=Tm.Ok.vars h.1;obtain⟨zk,zn,za,zb,zvs,zxs,zcs⟩:=z;simp only[Ex,S9,Tm.vars,Tm.xs,Tm.cases]at hx hob z1 z2 z3 p1 p2 p3 p4 p5 hcl hp;refine Qv.of Tryd.func9 rfl rfl rfl (Nat.le_of_ble_eq_true rfl) ?_;show AWp _ _ (Z5 _ Tryd.f9 _ _ _) (Qw 17 _);refine AWp.rg [] [] ?_ (hr:=by conv=>lhs;simp[Wz,Fn.row,Tm.row,Tm.Q3,Cs.Q3]);refine AWp.rg [] [] ?_ (hr:=by conv=>lhs;simp[Wz,Fn.row,Tm.row,Tm.Q3,Cs.Q3]);refine AWp.dw [4] [.p (fun d=>.arr d 0 fps.length) (some (.arr 9 1 (fps.map Y0))),.n [(500,410),(501,411),(502,412)] [.agg [.d (.int fk),.d (.int fn),.d (.str fa),.d (.str fb),.d (Q7 fvs),.d (.sl (fxs.map Tm.row)),.d (.sl (fcs.map Cs.row))]] [] (.agg [.d (.int fk),.d (.int fn),.d (.str fa),.d (.str fb),.arr 500 0 fvs.length,.arr 501 0 fxs.length,.arr 502 0 fcs.length]) [(500,.raw (.own 9 1 (fvs.map Kj) [])),(501,.raw (.own 32 7 (fxs.map Tm.od) [])),(502,.raw (.own 42 9 (fcs.map Cs.od) []))] [500,501,502],.c [(1000,5),(1001,410),(1002,411),(1003,412)] [.ptr 1000 0,.agg [.d (.int fk),.d (.int fn),.d (.str fa),.d (.str fb),.arr 1001 0 fvs.length,.arr 1002 0 fxs.length,.arr 1003 0 fcs.length]] [(1000,.blk 52 [.d (.int 0)]),(1001,.raw (.own 9 1 (fvs.map Kj) [])),(1002,.raw (.own 32 7 (fxs.map Tm.od) [])),(1003,.raw (.own 42 9 (fcs.map Cs.od) []))] (.agg [.d (.int zk),.d (.int zn),.d (.str za),.d (.str zb),.arr 1001 0 zvs.length,.arr 1002 0 zxs.length,.arr 1003 0 zcs.length]) [(1000,.blk 52 [.d (.int c2)]),(1001,.raw (.own 9 1 (zvs.map Kj) [])),(1002,.raw (.own 32 7 (zxs.map Tm.od) [])),(1003,.raw (.own 42 9 (zcs.map Cs.od) []))]] mixed ?_ (hr:=by conv=>lhs;simp[Wz,Fn.row,Tm.row,Tm.Q3,Cs.Q3]);refine AWp.ret ?_;try dsimp only[Qq,Q8]
 apply Z5.retF [410,411,412]
 ·rfl
 ·conv=>lhs;simp[strs_toD,odm_T,odm_C]
 ·conv=>lhs;simp[Qz,Tryd.results9,strs_toD,odm_T,odm_C]
 first|rfl|simp[Zz,Wz,Tm.row,Tm.Q3,Cs.Q3]
theorem sp_RmAll (l:List Fn) (hl:l.length≤879609302220) (hall:∀f∈l,f.body.Mk∧f.params.length≤6):Qv Tryd.prog 8 [W9 l] (fun _=>W9 (l.map Fn.rm)) none:=by
 obtain⟨G,hG⟩:∃G,G=l.map Fn.rm:=⟨_,rfl⟩
 rw[←hG];refine Qv.of Tryd.func8 rfl rfl rfl (Nat.le_of_ble_eq_true rfl) ?_;show AWp _ _ (Z5 _ Tryd.f8 _ _ _) (Qw 19 _);refine AWp.rg [] [] ?_ (hr:=by conv=>lhs;simp[Fn.row,Tm.row,Tm.Q3,Cs.Q3]);refine AWp.rg [] [] ?_ (hr:=by conv=>lhs;simp[Fn.row,Tm.row,Tm.Q3,Cs.Q3]);refine AWp.rg [] [] ?_ (hr:=by conv=>lhs;simp[Fn.row,Tm.row,Tm.Q3,Cs.Q3]);repeat (first|refine AWp.seq ?_|refine AWp.block ?_)
 refine AWp.le (Le.low [400] [] (fr:=[(3,.arr 400 0 ([]:List Fn).length),(6,.d (.sl (l.map Fn.row))),(7,.d (.int (l.length:Int))),(8,.d (.int (0:Int)))]) (mem:=[(400,some (.arr 34 9 (([]:List Fn).map Fn.row)))]) rfl (by simp) (by simp)) ?_;refine AWp.loop (σ:=fun u:{u:Nat×List Fn // u.1≤l.length∧u.2=(l.take u.1).map Fn.rm}=>⟨19,[(3,.arr 400 0 u.1.2.length),(6,.d (.sl (l.map Fn.row))),(7,.d (.int (l.length:Int))),(8,.d (.int (u.1.1:Int)))],[(400,some (.arr 34 9 (u.1.2.map Fn.row)))]⟩)
  (μ:=fun u=>l.length-u.1.1) ⟨(0,[]),⟨Nat.zero_le _,by simp⟩⟩ (Le.sub (by simp) (by simp)) (fun⟨(i,gs),⟨hi3,hw⟩⟩=>?_)
 dsimp only at hi3 hw⊢;refine AWp.rg [] [] ?_ (hr:=by conv=>lhs;simp[Fn.row,Tm.row,Tm.Q3,Cs.Q3]);repeat (first|refine AWp.seq ?_|refine AWp.block ?_)
 refine AWp.cond rfl (fun hc=>?_) (fun hc=>?_)
 ·have hi1:i<l.length:=by have:=of_decide_eq_true hc;omega
  clear hc;have h1f:l[i]? =some l[i]:=List.getElem?_eq_getElem hi1;have hmf:l[i]∈l:=List.getElem_mem hi1;have hdf:l.drop i=l[i]::l.drop (i+1):=List.drop_eq_getElem_cons hi1;generalize l[i]=f at h1f hmf hdf;have hgl:gs.length=i:=by rw[hw,List.length_map,List.length_take];omega
  have hx:=sp_RmFn f (hall f hmf).1 (hall f hmf).2;generalize hz:f.rm=z at hx;obtain⟨fg,fps,⟨fk,fn,fa,fb,fvs,fxs,fcs⟩⟩:=f;obtain⟨zg,zps,⟨zk,zn,za,zb,zvs,zxs,zcs⟩⟩:=z;dsimp only[Wz]at hx;refine AWp.skip ?_;refine AWp.rg [] [] ?_ (hr:=by conv=>lhs;simp[Fn.row,Tm.row,Tm.Q3,Cs.Q3,h1f]);refine AWp.rg [] [.p (fun _=>.agg [.d (.str zg),.d (Q7 zps),.d (.int zk),.d (.int zn),.d (.str za),.d (.str zb),.d (Q7 zvs),.d (.sl (zxs.map Tm.row)),.d (.sl (zcs.map Cs.row))]) none] ?_ (hr:=by conv=>lhs;simp[Fn.row,Tm.row,Tm.Q3,Cs.Q3,h1f]);refine AWp.rg [] [] ?_ (hr:=by conv=>lhs;simp[Fn.row,Tm.row,Tm.Q3,Cs.Q3,h1f]);refine⟨⟨(i+1,gs++[⟨zg,zps,.mk zk zn za zb zvs zxs zcs⟩]),hi1,by rw[hw,List.take_add_one,h1f,List.map_append,←hz];rfl⟩,by simp;omega,?_⟩;dsimp only;exact Le.sub (by simp[Fn.row,Tm.row,Tm.Q3,Cs.Q3,hgl]) (by simp[Fn.row,Tm.row,Tm.Q3,Cs.Q3,hgl])
 have hi1:i=l.length:=by have:=of_decide_eq_false hc;omega
 subst hi1;clear hc;rw[List.take_length]at hw;obtain rfl:gs=G:=by rw[hw,hG]
 refine AWp.exit ?_;refine AWp.rg [] [] ?_ (hr:=by conv=>lhs;simp[Fn.row,Tm.row,Tm.Q3,Cs.Q3]);refine AWp.ret ?_;try dsimp only[Qq,Q8]
 apply Z5.retF [400]
 ·rfl
 ·conv=>lhs;simp
 ·conv=>lhs;simp[Qz,Tryd.results8]
 rfl
theorem sp_Made2 (l:List Fn) (hl:P5 l) (hc:Yv l=0):Qv Tryd.prog 6 [W9 l,.d (.int 2)] (fun _=>W9 (mk2 l)) none:=by
 have hll:=hl.len;have h1:=sp_EachPlain l hl.len (Bw hl hc);have hp:=pl_all_pt hl hc;have h2:=sp_EachOwned (l.map Fn.pl) (by rw[List.length_map];exact hl.len) hp;have h3:=sp_EachFused ((l.map Fn.pl).map Fn.ow) (by rw[List.length_map,List.length_map];exact hl.len) (fun f hf=>⟨(mk0_fits hl hc f hf).1,(mk0_fits hl hc f hf).2.1⟩);have h4:=sp_EachReused (((l.map Fn.pl).map Fn.ow).map Fn.fu) (by rw[List.length_map,List.length_map,List.length_map];exact hl.len) (mk1_fs hl hc);unfold mk2 mk1 mk0;generalize l.map Fn.pl=P at h1 h2 h3 h4⊢;generalize P.map Fn.ow=O at h2 h3 h4⊢;generalize O.map Fn.fu=U at h3 h4⊢;generalize U.map Fn.ru=V at h4⊢;refine Qv.of Tryd.func6 rfl rfl rfl (Nat.le_of_ble_eq_true rfl) ?_;show AWp _ _ (Z5 _ Tryd.f6 _ _ _) (Qw 17 _);refine AWp.rg [] [] ?_;refine AWp.rg [] [.p (fun _=>.d (.sl (P.map Fn.row))) none,.p (fun _=>.d (.sl (O.map Fn.row))) none] ?_;refine AWp.rg [] [] ?_;refine AWp.cy ?_;refine AWp.rg [] [.p (fun _=>.d (.sl (U.map Fn.row))) none] ?_;refine AWp.rg [] [] ?_;refine AWp.cy ?_;refine AWp.rg [] [.p (fun _=>.d (.sl (V.map Fn.row))) none] ?_;refine AWp.rg [] [] ?_;refine AWp.ret ?_;try dsimp only[Qq,Q8]
 apply Z5.ret
 ·rfl
 ·conv=>lhs;simp[Qz,Tryd.results6]
 rfl
end Go.Proofs.YtlbcipohiepjmaaDoor
namespace Go.Proofs.YtlbcipohiepjmaaDoor
open Classical Go.RowKit
mutual
def Tm.K0:Tm→Prop
 | .mk k n a b vs xs cs=>(k=10→n=0∧cs=[])∧Tm.K0L xs∧Cs.K0L cs
def Tm.K0L:List Tm→Prop
 |[]=>True
 |x::r=>x.K0∧Tm.K0L r
def Cs.K0L:List Cs→Prop
 |[]=>True
 |c::r=>c.K0∧Cs.K0L r
def Cs.K0:Cs→Prop
 | .mk t ws y=>y.K0
end
theorem K0L_iff:∀{l:List Tm},Tm.K0L l↔∀x∈l,x.K0
 |[]=>by simp[Tm.K0L]
 |x::r=>by simp[Tm.K0L,K0L_iff (l:=r)]
theorem Aj:∀{l:List Cs},Cs.K0L l↔∀x∈l,x.K0
 |[]=>by simp[Cs.K0L]
 |x::r=>by simp[Cs.K0L,Aj (l:=r)]
mutual
theorem nt0_k0:∀t:Tm,t.nt=0→t.K0
 | .mk k n a b vs xs cs,h=>by
  rw[Tm.nt]at h;exact⟨fun hk=>by rw[if_pos hk]at h;omega,nt0_k0L xs (by omega),nt0_k0C cs (by omega)⟩
theorem nt0_k0L:∀l:List Tm,Tm.ntL l=0→Tm.K0L l
 |[],_=>trivial
 |x::r,h=>by rw[Tm.ntL]at h;exact⟨nt0_k0 x (by omega),nt0_k0L r (by omega)⟩
theorem nt0_k0C:∀l:List Cs,Cs.ntL l=0→Cs.K0L l
 |[],_=>trivial
 | .mk t ws y::r,h=>by rw[Cs.ntL,Cs.nt]at h;exact⟨nt0_k0 y (by omega),nt0_k0C r (by omega)⟩
end
theorem cnt_k0:∀(l:List ByteArray) {t:Tm},t.K0→(cnt 9 l t).K0
 |[],_,h=>h
 |a::r,t,h=>⟨by omega,⟨cnt_k0 r h,trivial⟩,trivial⟩
theorem sr_k0:∀(N:Nat) (t:Tm) (rest:List ByteArray),t.sz≤N→t.K0→(t.sr rest).2.K0:=by
 intro N;induction N with
 |zero=>intro t _ h;have:=t.Cj;omega
 |succ N ih=>
  intro t rest hN hK;obtain⟨k,n,a,b,vs,xs,cs⟩:=t;rw[Tm.sr];split
  ·cases xs with
   |nil=>exact hK
   |cons x r=>
    rw[Tm.srL];rw[Tm.sz]at hN;simp only[Tm.szs]at hN;exact ih x _ (by omega) hK.2.1.1
  ·exact hK
theorem fuOne_k0 {k:Int} {na:Nat} {nm:ByteArray} {ws:List ByteArray} {y:Tm} (hK:y.K0):(Wv k na nm ws y).K0:=by
 unfold Wv;split
 ·have h1:=sr_k0 y.sz y ws (Nat.le_refl _) hK;generalize y.sr ws=Z at *;obtain⟨rest,⟨k,n,a,b,vs,xs,cs⟩⟩:=Z;dsimp only at *;refine⟨fun _=>⟨rfl,rfl⟩,⟨cnt_k0 _ ?_,trivial⟩,trivial⟩;cases xs with
  |nil=>first|exact⟨by omega,trivial,trivial⟩|exact h1
  |cons x r=>exact h1.2.1.1
 ·exact hK
theorem fu_k0:∀(N:Nat) (t:Tm),t.sz≤N→t.K0→t.fu.K0:=by
 intro N;induction N with
 |zero=>intro t h;have:=t.Cj;omega
 |succ N ih=>
  intro t hN hK;obtain⟨k,n,a,b,vs,xs,cs⟩:=t;rw[Tm.sz]at hN;rw[Tm.fu,Tm.Bq,Cs.Bq];refine⟨fun h=>⟨(hK.1 h).1,by rw[(hK.1 h).2];rfl⟩,K0L_iff.2 fun u hu=>?_,Aj.2 fun c hc=>?_⟩
  ·obtain⟨x,hx,rfl⟩:=List.mem_map.1 hu;exact ih x (by have:=Tm.Zj hx;omega) (K0L_iff.1 hK.2.1 x hx)
  ·obtain⟨c0,hc0,rfl⟩:=List.mem_map.1 hc;have h1:=Aj.1 hK.2.2 c0 hc0;have hs:=Cs.Zj hc0;obtain⟨t,ws,y⟩:=c0;rw[Cs.sz]at hs;rw[Cs.fu];exact fuOne_k0 (ih y (by omega) h1)
theorem put_k0 (b:ByteArray) (m:Nat):∀(N:Nat) (t:Tm),t.sz≤N→t.K0→(t.put b m).K0:=by
 intro N;induction N with
 |zero=>intro t h;have:=t.Cj;omega
 |succ N ih=>
  intro t hN hS;obtain⟨k,n,a,b0,vs,xs,cs⟩:=t;rw[Tm.sz]at hN;have hX:∀x∈xs,x.sz≤N:=fun x hx=>by have:=Tm.Zj hx;omega
  have hH:∀l:List Tm,(∀x∈l,x.sz≤N)→Tm.K0L l→Tm.K0L (Tm.Rk b m l):=fun l hl h1=>by
   cases l with
   |nil=>trivial
   |cons x r=>rw[Tm.Rk];exact⟨ih x (hl x (by simp)) h1.1,h1.2⟩
  rw[Tm.put];split
  ·exact⟨by omega,⟨hS,trivial⟩,trivial⟩
  split
  ·exact⟨by omega,hS.2⟩
  split
  ·refine⟨hS.1,?_,hS.2.2⟩;cases xs with
   |nil=>trivial
   |cons x r=>
    rw[Tm.Cv];split
    ·exact⟨ih x (hX x (by simp)) hS.2.1.1,hS.2.1.2⟩
    ·exact⟨hS.2.1.1,hH r (fun y hy=>hX y (by simp[hy])) hS.2.1.2⟩
  split
  ·rename_i h7;refine⟨by omega,hS.2.1,?_⟩;rw[P8];refine Aj.2 fun c h=>?_
   obtain⟨c0,hc0,rfl⟩:=List.mem_map.1 h;have h1:=Aj.1 hS.2.2 c0 hc0;have hs:=Cs.Zj hc0;obtain⟨t,ws,y⟩:=c0;rw[Cs.sz]at hs;rw[Cs.put];exact ih y (by omega) h1
  ·exact⟨hS.1,hH xs hX hS.2.1,hS.2.2⟩
theorem ruL_congr {f g:Tm→Int→Tm×Int}:∀(l:List Tm) (c:Int),(∀x∈l,∀c,f x c=g x c)→ruL f l c=ruL g l c
 |[],c,h=>rfl
 |x::r,c,h=>by simp only[ruL];rw[h x (by simp) c,ruL_congr r _ fun y hy=>h y (by simp[hy])]
theorem ruC_congr {f g:Tm→Int→Tm×Int}:∀(l:List Cs) (c:Int),(∀x∈l,∀c,f x.body c=g x.body c)→ruC f l c=ruC g l c
 |[],c,h=>rfl
 | .mk t ws y::r,c,h=>by
  have h1:=h (.mk t ws y) (by simp) c;simp only[Cs.body]at h1;simp only[ruC];rw[h1,ruC_congr r _ fun y hy=>h y (by simp[hy])]
theorem rm_ru:∀(N:Nat) (t:Tm) (c:Int),t.K0→t.rm N c=t.ru N c:=by
 intro N;induction N with
 |zero=>intro t c _;rfl
 |succ N ih=>
  intro t c hK;obtain⟨k,n,a,b,vs,xs,cs⟩:=t;rw[Tm.rm,Tm.ru,Tm.pre];by_cases h:k=10∧Tm.fitH vs.length xs=true
  ·obtain⟨rfl,rfl⟩:=hK.1 h.1;rw[if_pos h,if_pos h];dsimp only;rw[ruL_congr (f:=Tm.rm N) (g:=Tm.ru N) _ _ fun x hx c=>ih x c ?_]
   ·rfl
   ·cases xs with
    |nil=>simp[Tm.Rk]at hx
    |cons y r=>
     simp only[Tm.Rk,List.mem_cons]at hx;rcases hx with rfl|hx
     ·exact put_k0 _ _ _ _ (Nat.le_refl _) hK.2.1.1
     ·exact K0L_iff.1 hK.2.1.2 x hx
  ·rw[if_neg h,if_neg h];dsimp only;rw[ruL_congr (f:=Tm.rm N) (g:=Tm.ru N) _ _ fun x hx c=>ih x c (K0L_iff.1 hK.2.1 x hx),ruC_congr (f:=Tm.rm N) (g:=Tm.ru N) _ _ fun x hx c=>ih x.body c ?_];have:=Aj.1 hK.2.2 x hx;obtain⟨_,_,_⟩:=x;exact this
theorem ru_okM:∀(N:Nat) (t:Tm) (c:Int),t.Ok→(t.ru N c).1.Ok:=by
 intro N;induction N with
 |zero=>intro t c h;rw[Tm.ru];exact h
 |succ N ih=>
  intro t c hO;obtain⟨k,n,a,b,vs,xs,cs⟩:=t;obtain⟨⟨o1,o2,o3⟩,⟨o4,o5,o6⟩,o7,o8⟩:=hO;have hXl:∀(l:List Tm) (c:Int),(ruL (Tm.ru N) l c).1.length=l.length:=by
   intro l;induction l with
   |nil=>intro c;rfl
   |cons x r ih2=>intro c;rw[ruL];simp[ih2]
  have hCl:∀(l:List Cs) (c:Int),(ruC (Tm.ru N) l c).1.length=l.length:=by
   intro l;induction l with
   |nil=>intro c;rfl
   |cons x r ih2=>intro c;obtain⟨t,ws,y⟩:=x;rw[ruC];simp[ih2]
  have hX:∀(l:List Tm) (c:Int),(∀x∈l,x.Ok)→∀x∈(ruL (Tm.ru N) l c).1,x.Ok:=by
   intro l;induction l with
   |nil=>intro c _ x hx;cases hx
   |cons y r ih2=>
    intro c hm x hx;rw[ruL]at hx;rcases List.mem_cons.1 hx with rfl|hx
    ·exact ih y c (hm y (by simp))
    ·exact ih2 _ (fun z hz=>hm z (by simp[hz])) x hx
  have hC:∀(l:List Cs) (c:Int),(∀x∈l,x.Ok)→∀x∈(ruC (Tm.ru N) l c).1,x.Ok:=by
   intro l;induction l with
   |nil=>intro c _ x hx;cases hx
   |cons y r ih2=>
    intro c hm x hx;obtain⟨t,ws,y⟩:=y;rw[ruC]at hx;rcases List.mem_cons.1 hx with rfl|hx
    ·obtain⟨k1,k2,k3⟩:=hm (.mk t ws y) (by simp);exact⟨k1,k2,ih y c k3⟩
    ·exact ih2 _ (fun z hz=>hm z (by simp[hz])) x hx
  have o7':=Tm.Zk.1 o7;have o8':=Cs.Zk.1 o8;rw[Tm.ru];split
  ·have hks:(kNm (wr (c+1))).size≤140737488355328:=by
    have:=Uz (Mq (c+1));unfold kNm;simp only[ByteArray.size_append];have e:(⟨#[107]⟩:ByteArray).size=1:=rfl;omega
   have hp:∀x∈Tm.Rk (kNm (wr (c+1))) vs.length xs,x.Ok:=by
    cases xs with
    |nil=>intro x hx;cases hx
    |cons y r=>
     intro x hx;rw[Tm.Rk]at hx;rcases List.mem_cons.1 hx with rfl|hx
     ·exact put_ok _ _ hks y.sz y (Nat.le_refl _) (o7' y (by simp))
     ·exact o7' x (by simp[hx])
   have hpl:(Tm.Rk (kNm (wr (c+1))) vs.length xs).length=xs.length:=by cases xs<;> rfl
   exact⟨⟨o1,hks,o3⟩,⟨o4,by rw[hXl,hpl];exact o5,by simp⟩,Tm.Zk.2 (hX _ _ hp),Cs.Zk.2 (by simp)⟩
  ·exact⟨⟨o1,o2,o3⟩,⟨o4,by rw[hXl];exact o5,by rw[hCl];exact o6⟩,Tm.Zk.2 (hX _ _ o7'),Cs.Zk.2 (hC _ _ o8')⟩
theorem var_k13 {x:Tm} (h:x.tk=1) (hS:x.Sh):x.k13:=by
 obtain⟨k,n,a,b,vs,xs,cs⟩:=x;have hk:k=1:=h;subst hk;obtain rfl:xs=[]:=hS.1 (.inl rfl);obtain rfl:cs=[]:=hS.2.1 (by omega);exact⟨by omega,trivial,trivial⟩
theorem k13_lin:∀(N:Nat) (t:Tm),t.sz≤N→t.Sh→∀s:LS,t.lin s=0→t.k13:=by
 intro N;induction N with
 |zero=>intro t h;have:=t.Cj;omega
 |succ N ih=>
  intro t hN hS s h;obtain⟨k,n,a,b,vs,xs,cs⟩:=t;rw[Tm.sz]at hN;have hX:∀x∈xs,x.sz≤N:=fun x hx=>by have:=Tm.Zj hx;omega
  have hXS:∀x∈xs,x.Sh:=fun x hx=>Qb.1 hS.2.2.2.1 x hx
  rcases lin_kind h with rfl|rfl|hk|rfl|rfl|rfl|hk
  ·obtain rfl:xs=[]:=hS.1 (.inl rfl);obtain rfl:cs=[]:=hS.2.1 (by omega);exact⟨by omega,trivial,trivial⟩
  ·obtain rfl:xs=[]:=hS.1 (.inr rfl);obtain rfl:cs=[]:=hS.2.1 (by omega);exact⟨by omega,trivial,trivial⟩
  ·obtain rfl:cs=[]:=hS.2.1 (by omega);rw[lin345 hk]at h;exact⟨by omega,k13L_iff.2 fun x hx=>var_k13 (useL_tk (end_zero h) x hx) (hXS x hx),trivial⟩
  ·obtain rfl:cs=[]:=hS.2.1 (by omega);obtain⟨-,h⟩:=lin12 h;exact⟨by omega,k13L_iff.2 fun x hx=>var_k13 (useL_tk (end_zero h) x hx) (hXS x hx),trivial⟩
  ·obtain rfl:cs=[]:=hS.2.1 (by omega);obtain⟨x,y,rfl,-,h1,h2⟩:=lin6 h;exact⟨by omega,⟨ih x (hX x (by simp)) (hXS x (by simp)) _ h1,ih y (hX y (by simp)) (hXS y (by simp)) _ h2,trivial⟩,trivial⟩
  ·obtain⟨x,rfl,h1,-,h2⟩:=lin7 h;refine⟨by omega,⟨var_k13 h1 (hXS x (by simp)),trivial⟩,Pw.2 fun c hc=>?_⟩;have h3:=h2 c hc;have hs:=Cs.Zj hc;have hSc:=M3.1 hS.2.2.2.2 c hc;obtain⟨t,ws,y⟩:=c;rw[Cs.sz]at hs;exact ih y (by omega) hSc _ (clin_inv h3).2
  ·obtain rfl:cs=[]:=hS.2.1 (by omega);obtain⟨x,rfl,h1⟩:=linS hk h;refine⟨by omega,⟨?_,trivial⟩,trivial⟩;have hx:=ih x (hX x (by simp)) (hXS x (by simp));obtain⟨e8,e9,e13,e10,e11⟩:=h1;rcases hk with rfl|rfl|rfl|rfl|rfl
   ·exact hx _ (e8 rfl).2
   ·exact hx _ (e9 rfl).2
   ·exact hx _ (e10 rfl).2
   ·exact hx _ (e11 rfl).2.2.2
   ·exact hx _ (e13 rfl).2
theorem mk1_k0 {l:List Fn} (hl:P5 l) (hc:Yv l=0):∀f∈mk1 l,f.body.K0:=fun f hf=>by
 unfold mk1 at hf;obtain⟨g,hg,rfl⟩:=List.mem_map.1 hf;refine fu_k0 _ _ (Nat.le_refl _) (nt0_k0 _ ?_);unfold mk0 at hg;obtain⟨z,hz,rfl⟩:=List.mem_map.1 hg;obtain⟨-,hrt,-⟩:=pl_body hl hc z hz;exact(rt_nt 175 z.body z.params hrt).2.1
theorem mk1_mk {l:List Fn} (hl:P5 l) (hc:Yv l=0):∀f∈mk1 l,f.body.Mk:=fun f hf=>by
 obtain⟨h1,h2⟩:=mk1_fs hl hc f hf;have h:=lv1 hl hc f hf;have h3:=h.lin;rw[Fn.lin_of h.nd]at h3;exact⟨h1,h2,k13_lin _ _ (Nat.le_refl _) h.shp.sh _ h3⟩
theorem mk1_rm {l:List Fn} (hl:P5 l) (hc:Yv l=0):(mk1 l).map Fn.rm=mk2 l:=
 List.map_congr_left fun f hf=>by unfold Fn.rm Fn.ru;rw[rm_ru _ _ _ (mk1_k0 hl hc f hf)]
end Go.Proofs.YtlbcipohiepjmaaDoor
namespace Go.Proofs.YtlbcipohiepjmaaDoor
open Go.RowKit
attribute [local simp] runD mkRc ldOf stOf stOk Mj Tv Rz Kv Kw Yq Y8 Xz Y4 Bj evA Vj F4 Value.oneCell' Z9 Q5 Qw frOf Uv Qj AS.after Z4 V4 Y3 AV.ids M7 Q6.ids frNo Mx Gj Uw Hq Jv Y5 Vx U3 U2 K4 toD1 Ez setAt U9 O0 F5 Av H6 Aw binI AV.cells J4 Jj H5 Wj AV.kill Q6.kill AV.has AV.Yj Op.operands Call.operands Nk Mv Z8 cChk Z0 X3 Ev moQ M9 R7 Yz AV.ren Ej Q6.ren Q6.like kept K5 Sq AV.frz Px Ox frSub M5 D9 AS.frz C8 G7 Q6.frz Fx bleF Nat.ble_eq Gw G6 Y1 D.Y2 Tj G5 V8 Vk phO Az F6 D7 K6 V5 Low Ew
theorem sp_ReuseTells (l:List Fn) (hl:P5 l):Qv Tryd.prog 3 [W9 l] (fun _=>.d (.bool true)) none:=by
 have hll:=hl.len;have hkl:=sp_refCheck l hl;obtain⟨cl,hcl⟩:∃c,c=Yv l:=⟨_,rfl⟩
 rw[←hcl]at hkl;refine Qv.of Tryd.func3 rfl rfl rfl (Nat.le_of_ble_eq_true rfl) ?_;show AWp _ _ (Z5 _ Tryd.f3 _ _ _) (Qw 32 _);refine AWp.rg [] [] ?_ (hr:=by conv=>lhs;simp[Fn.row,Tm.row,Tm.Q3,Cs.Q3]);by_cases hc1:cl=0
 ·subst hc1;refine AWp.rg [] [.p (fun _=>.d (.int 0)) none] ?_ (hr:=by conv=>lhs;simp[Fn.row,Tm.row,Tm.Q3,Cs.Q3]);refine AWp.cn ?_;refine AWp.skip ?_;have hM1:=sp_Made1 l hl hcl.symm;have hM2:=sp_Made2 l hl hcl.symm;have hmk:=mk1_mk hl hcl.symm;have hfu:=mk1_fits hl hcl.symm;have hfs:=mk1_fs hl hcl.symm;have hk0:=mk1_k0 hl hcl.symm;have hm1:(mk1 l).length≤879609302220:=by unfold mk1 mk0;rw[List.length_map,List.length_map,List.length_map];exact hl.len
  have hm2:(mk2 l).length≤879609302220:=by unfold mk2;rw[List.length_map];exact hm1
  have hA:=sp_RmAll (mk1 l) hm1 (fun f hf=>⟨hmk f hf,(hfu f hf).2.2⟩);rw[mk1_rm hl hcl.symm]at hA;have hS:=sp_SameFns (mk2 l) (mk2 l) hm2 (fun f hf=>by
   obtain⟨g,hg,rfl⟩:=List.mem_map.1 (show f∈(mk1 l).map Fn.ru from hf);exact⟨ru_okM _ _ _ (hmk g hg).1,by have:=(hfu g hg).2.2;show g.params.length≤_;omega⟩)
  rw[Rq]at hS;generalize mk2 l=G at hM2 hA hS hm2;generalize mk1 l=m at hM1 hmk hfu hfs hk0 hm1 hA;refine AWp.rg [] [.p (fun _=>.d (.sl (m.map Fn.row))) none] ?_ (hr:=by conv=>lhs;simp[Fn.row,Tm.row,Tm.Q3,Cs.Q3]);refine AWp.rg [] [.p (fun _=>.d (.sl (G.map Fn.row))) none,.p (fun _=>.d (.sl (G.map Fn.row))) none,.p (fun _=>.d (.bool true)) none] ?_ (hr:=by conv=>lhs;simp[Fn.row,Tm.row,Tm.Q3,Cs.Q3]);refine AWp.cn ?_;refine AWp.skip ?_;refine AWp.rg [] [] ?_ (hr:=by conv=>lhs;simp[Fn.row,Tm.row,Tm.Q3,Cs.Q3]);repeat (first|refine AWp.seq ?_|refine AWp.block ?_)
  refine AWp.loop (σ:=fun u:{u:Nat // u≤m.length}=>⟨32,[(17,.d (.sl (m.map Fn.row))),(18,.d (.int (m.length:Int))),(19,.d (.int (u.1:Int)))],[]⟩)
   (μ:=fun u=>m.length-u.1) ⟨0,Nat.zero_le _⟩ (Le.sub (by simp) (by simp)) (fun⟨i,hi7⟩=>?_)
  dsimp only;refine AWp.rg [] [] ?_ (hr:=by conv=>lhs;simp[Fn.row,Tm.row,Tm.Q3,Cs.Q3]);repeat (first|refine AWp.seq ?_|refine AWp.block ?_)
  refine AWp.cond rfl (fun hc=>?_) (fun hc=>?_)
  ·have hi1:i<m.length:=by have:=of_decide_eq_true hc;omega
   clear hc;have h1f:m[i]? =some m[i]:=List.getElem?_eq_getElem hi1;have hmf:m[i]∈m:=List.getElem_mem hi1;generalize m[i]=f at h1f hmf;have hz1:=sp_RmFn f (hmk f hmf) (hfu f hmf).2.2;have hz2:=sp_RuFn f (hfs f hmf);have hrr:f.rm=f.ru:=by unfold Fn.rm Fn.ru;rw[rm_ru _ _ _ (hk0 f hmf)]
   have hzO:f.ru.body.Ok:=ru_okM _ _ _ (hmk f hmf).1;have hzp:f.ru.params.length≤6:=(hfu f hmf).2.2;rw[hrr]at hz1;generalize f.ru=z at hz1 hz2 hzO hzp hrr;have hS1:=sp_SameFns [z] [z] (by simp) (by intro g hg;rw[List.mem_singleton.1 hg];exact⟨hzO,by omega⟩);rw[Rq]at hS1;clear hrr;obtain⟨fg,fps,⟨fk,fn,fa,fb,fvs,fxs,fcs⟩⟩:=f;obtain⟨zg,zps,⟨zk,zn,za,zb,zvs,zxs,zcs⟩⟩:=z;dsimp only[Wz]at hz1 hz2;simp only[W9,List.map_cons,List.map_nil,Fn.row,Tm.row,Tm.Q3,Cs.Q3]at hS1;refine AWp.skip ?_;refine AWp.rg [] [] ?_ (hr:=by conv=>lhs;simp[Fn.row,Tm.row,Tm.Q3,Cs.Q3,h1f]);refine AWp.dw [2,5] [.p (fun _=>(.agg [.d (.str zg),.d (Q7 zps),.d (.int zk),.d (.int zn),.d (.str za),.d (.str zb),.d (Q7 zvs),.d (.sl (zxs.map Tm.row)),.d (.sl (zcs.map Cs.row))])) none,.p (fun _=>(.agg [.d (.str zg),.d (Q7 zps),.d (.int zk),.d (.int zn),.d (.str za),.d (.str zb),.d (Q7 zvs),.d (.sl (zxs.map Tm.row)),.d (.sl (zcs.map Cs.row))])) none,.p (fun _=>.d (.bool true)) none] mixed ?_ (hr:=by conv=>lhs;simp[Fn.row,Tm.row,Tm.Q3,Cs.Q3,h1f]);refine AWp.cn ?_;refine AWp.skip ?_;refine AWp.rg [] [] ?_ (hr:=by conv=>lhs;simp[Fn.row,Tm.row,Tm.Q3,Cs.Q3,h1f]);refine⟨⟨i+1,hi1⟩,by simp;omega,?_⟩;dsimp only;exact Le.sub (by simp) (by simp)
  have hi1:i=m.length:=by have:=of_decide_eq_false hc;omega
  subst hi1;clear hc;refine AWp.exit ?_;refine AWp.rg [] [] ?_ (hr:=by conv=>lhs;simp[Fn.row,Tm.row,Tm.Q3,Cs.Q3]);refine AWp.ret ?_;try dsimp only[Qq,Q8]
  apply Z5.ret
  ·rfl
  ·conv=>lhs;simp[Qz,Tryd.results3]
  rfl
 refine AWp.rg [] [.p (fun _=>.d (.int cl)) none] ?_ (hr:=by conv=>lhs;simp[Fn.row,Tm.row,Tm.Q3,Cs.Q3,hc1]);refine AWp.cy ?_;refine AWp.rg [] [] ?_ (hr:=by conv=>lhs;simp[Fn.row,Tm.row,Tm.Q3,Cs.Q3,hc1]);refine AWp.ret ?_;try dsimp only[Qq,Q8]
 apply Z5.ret
 ·rfl
 ·conv=>lhs;simp[Qz,Tryd.results3]
 rfl
end Go.Proofs.YtlbcipohiepjmaaDoor
