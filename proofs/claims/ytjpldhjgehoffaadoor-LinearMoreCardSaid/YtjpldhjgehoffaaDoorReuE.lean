import Derived.Test.YtjpldhjgehoffaaDoorLineI
import Derived.Test.YtjpldhjgehoffaaDoorReuV
import Derived.Test.YtjpldhjgehoffaaDoorParseE
namespace Go.Proofs.YtjpldhjgehoffaaDoor
open Go.RowKit
attribute [local simp] Cq mkRc ldOf stOf Qz4 Fq M4 Rq K7 V3 Yv K4 J7 Y9 L9 evA Kv G8 Value.oneCell' Zj Q4 Z7 Iz Vz Z0 AS.after Z8 K8 Jv AV.ids Mq Qz.ids Qj3 F9 Wv U9 G6 Y0 Y5 Kk V9 V7 Yz Ov T9 setAt Vj Cj Gq Pj R9 Pk binI AV.cells J9 Jz R8 U1 AV.kill Qz.kill AV.has AV.K9 Op.operands Call.operands Gj Hw Zv Oz Zz Xz Tk moQ M6 Uz Yw AV.ren Tj Qz.ren Qz.like kept X8 M5 AV.frz Pz Cw Ex H9 F3 AS.frz Mv Uw Qz.frz Rx Rj bleF Nat.ble_eq R4 Ww K3 D.Yx F5 Uv Vx Vq phO Px Gz Wx U0 K6 Low Sq
set_option linter.unusedVariables false
set_option linter.unusedSimpArgs false
theorem I6 : Qk [] = []:=rfl
theorem linL_xy (x y : Tm) (s u : LS) : Tm.Dv [x,y] [s,u] = if x.lin s≠0 then x.lin s else y.lin u:=by
 rw [Tm.Dv]
 show (if x.lin s≠0 then x.lin s else Tm.Dv [y] [u]) = _
 rw [linL_x]
theorem ndN_len (x : Tm) : x.ndN.length≤x.sz∧x.ndT.length≤x.sz:=by
 have h:=x.st_len
 have h1:=List.length_filter_le (fun s=>!hasB x.Xx s) (Qz0 (srtB x.stN))
 have h2:=List.length_filter_le (fun s=>!hasB x.Xx (excl s)) (Qz0 (srtB x.stT))
 have h3:=cmpB_len (srtB x.stN)
 have h4:=cmpB_len (srtB x.stT)
 rw [srtB_len] at h3 h4
 unfold Tm.ndN Tm.ndT
 omega
set_option maxRecDepth 20000 in
set_option maxHeartbeats 16000000 in
theorem cs_llet (N : Nat) (hN : N≤8000000000) (ih : LinN N) (tn : Int) (ta tb : ByteArray) (tvs : List ByteArray) (txs : List Tm) (tcs : List Cs) (hsz : (Tm.mk 6 tn ta tb tvs txs tcs).sz≤N + 1) (hO : (Tm.mk 6 tn ta tb tvs txs tcs).Ok) (s : LS) (hW : s.Wd (Tm.mk 6 tn ta tb tvs txs tcs).wg) :
  X3 Tryd.prog 91 [.ptr 500 0,.d (.ptr [.int 6,.int tn,.str ta,.str tb,Q7 tvs,.sl (txs.map Tm.row),.sl (tcs.map Cs.row)])] [(500,.blk 109 [.mp 501,.mp 502,.mp 503]),(501,lcO s.ct),(502,liO s.inn),(503,lcO s.tk)] (.d (.int ((Tm.mk 6 tn ta tb tvs txs tcs).lin s))) []:=by
 obtain ⟨ct,inn,tok⟩:=s
 obtain ⟨R,hR⟩ : ∃ R,R = (Tm.mk 6 tn ta tb tvs txs tcs).lin ⟨ct,inn,tok⟩:=⟨_,rfl⟩
 rw [← hR]
 rw [Tm.lin,if_neg (by omega),if_neg (by omega),if_neg (by omega),if_neg (by omega),if_pos rfl] at hR
 have hxO : ∀ x∈txs,x.Ok:=fun x hx=>Tm.Zq.1 hO.2.2.1 x hx
 obtain ⟨o1,o2,o3,o4,o5⟩:=hO.vars
 simp only [Tm.sz] at hsz
 simp only [Tm.wg] at hW
 have hWn:=ndN_len
 have hcl:=cs_CloneS (J4 inn)
 obtain ⟨A,hA⟩ : ∃ A : Int,(txs.length : Int) = A:=⟨_,rfl⟩
 refine X3.of Tryd.func91 rfl rfl (Nat.le_of_ble_eq_true rfl) ?_
 show AWp _ _ (Qv _ Tryd.f91 _ _) (X8 156 _ _)
 refine AWp.rg [] [] ?_ (hr:=by conv=>lhs;simp [Q5,Q6,Tm.row,Tm.Q3,Cs.Q3,hA])
 by_cases q1 : A = 2
 ·have q1t:=eq_true q1
  refine AWp.rg [] [] ?_ (hr:=by conv=>lhs;simp [Q5,Q6,Tm.row,Tm.Q3,Cs.Q3,hA,q1t])
  refine AWp.cn ?_
  refine AWp.skip ?_
  obtain ⟨x,y,hxy⟩ : ∃ x y,txs = [x,y]:=by
   have hl1 : txs.length = 2:=by have:=q1;omega
   rcases txs with _ | ⟨y0,_ | ⟨y1,_ | ⟨y2,r⟩⟩⟩
   ·simp at hl1
   ·simp at hl1
   ·exact ⟨y0,y1,rfl⟩
   ·simp at hl1
  have h0x : txs[0]? = some x:=by rw [hxy];rfl
  have h1y : txs[1]? = some y:=by rw [hxy];rfl
  have hszs : Tm.szs txs = x.sz + (y.sz + 0):=by rw [hxy];rfl
  have hwls : Tm.wgs txs = x.wg + (y.wg + 0):=by rw [hxy];rfl
  have hxk:=hxO x (by rw [hxy];simp)
  have hyk:=hxO y (by rw [hxy];simp)
  rw [if_neg (fun h=>h (by rw [hxy];rfl)),show hdT0 txs = x by rw [hxy];rfl,hxy,linL_xy] at hR
  have hnd:=sp_needs x hxk (by omega)
  have hx:=ih x (by omega) hxk (LS.fst ⟨ct,inn,tok⟩ x) ((hW.fst x).mono (by omega))
  have hWr:=(LS.Wd.rst hW x).mono (V:=y.wg + 1) (by omega)
  have hy:=ih y (by omega) hyk ⟨X5 (LS.rst ⟨ct,inn,tok⟩ x).ct ta 1,inn,(LS.rst ⟨ct,inn,tok⟩ x).tk⟩ ((hWr.mono (V:=y.wg) (by omega)).put ta (v:=1) (by omega) (by have:=hWr.tl;have : (0 : Int)≤((LS.rst ⟨ct,inn,tok⟩ x).tk.length : Int):=Int.natCast_nonneg _;omega))
  change R = if (lkA ct ta).isSome = true then 7 else if x.lin (LS.fst ⟨ct,inn,tok⟩ x)≠0 then x.lin (LS.fst ⟨ct,inn,tok⟩ x) else y.lin ⟨X5 (LS.rst ⟨ct,inn,tok⟩ x).ct ta 1,inn,(LS.rst ⟨ct,inn,tok⟩ x).tk⟩ at hR
  obtain ⟨p1,p2,p3,p4⟩:=sp_fst hW x
  have hnl:=hWn x
  rw [show (LS.fst ⟨ct,inn,tok⟩ x).inn = inn from rfl] at hx
  dsimp only at hy p1 p2 p3 p4
  obtain ⟨e1,he1⟩ : ∃ e,e = x.lin (LS.fst ⟨ct,inn,tok⟩ x):=⟨_,rfl⟩
  obtain ⟨e2,he2⟩ : ∃ e,e = y.lin ⟨X5 (LS.rst ⟨ct,inn,tok⟩ x).ct ta 1,inn,(LS.rst ⟨ct,inn,tok⟩ x).tk⟩:=⟨_,rfl⟩
  rw [← he1] at hx hR
  rw [← he2] at hy hR
  clear he1 he2
  generalize (LS.fst ⟨ct,inn,tok⟩ x).ct = f1 at *
  generalize (LS.fst ⟨ct,inn,tok⟩ x).tk = f3 at *
  generalize (LS.rst ⟨ct,inn,tok⟩ x).ct = r1 at *
  generalize (LS.rst ⟨ct,inn,tok⟩ x).tk = r3 at *
  generalize x.ndN = nn at *
  generalize x.ndT = tt at *
  obtain ⟨hnl1,hnl2⟩:=hnl
  clear hWr hxk hyk
  obtain ⟨xk,xn,xa,xb,xvs,xxs,xcs⟩:=x
  obtain ⟨yk,yn,ya,yb,yvs,yxs,ycs⟩:=y
  dsimp only [Xw] at hx hy hnd
  cases ha : lkA ct ta with
  | none =>
   have hag : D.Xk (.str ta) (Qk ct) = none:=by rw [X4,ha];rfl
   refine AWp.dw [] [] mixed ?_ (hr:=by conv=>lhs;simp [Q5,Q6,Tm.row,Tm.Q3,Cs.Q3,hA,h0x,h1y,hag,q1t])
   refine AWp.rg [] [] ?_ (hr:=by conv=>lhs;simp [Q5,Q6,Tm.row,Tm.Q3,Cs.Q3,hA,h0x,h1y,hag,q1t])
   refine AWp.cn ?_
   refine AWp.skip ?_
   rw [if_neg (by rw [ha];simp)] at hR
   refine AWp.rg [] [.n [(1000,502),(500,402)] [.mp 1000] [(1000,.map true false 1 (J4 inn))] (.mp 500) [(1000,.map true false 1 (J4 inn)),(500,.map true false 1 (J4 inn))] [500]] ?_ (hr:=by conv=>lhs;simp [Q5,Q6,Tm.row,Tm.Q3,Cs.Q3,hA,h0x,h1y,hag,q1t])
   refine AWp.rg [] [.p (fun _=>.tuple [.d (Q7 nn),.d (Q7 tt)]) none] ?_ (hr:=by conv=>lhs;simp [Q5,Q6,Tm.row,Tm.Q3,Cs.Q3,hA,h0x,h1y,hag,q1t])
   refine AWp.rg [] [] ?_ (hr:=by conv=>lhs;simp [Q5,Q6,Tm.row,Tm.Q3,Cs.Q3,hA,h0x,h1y,hag,q1t])
   repeat (first | refine AWp.seq ?_ | refine AWp.block ?_)
   refine AWp.loop (σ:=fun u : {u : Nat×List (ByteArray×Int)×List (ByteArray×Int) // u.1≤nn.length∧(spN nn ct [] = spN (nn.drop u.1) u.2.1 u.2.2∧LS.Bd ⟨u.2.1,inn,tok⟩ 4611686018427387904)}=>⟨156,[(0,.ptr 500 0),(1,.d (.ptr [.int 6,.int tn,.str ta,.str tb,Q7 tvs,.sl (txs.map Tm.row),.sl (tcs.map Cs.row)])),(7,.ptr 47 0),(9,.d (Q7 tt)),(58,.d (Q7 nn)),(59,.d (.int (nn.length : Int))),(60,.d (.int (u.1.1 : Int)))],[(39,some (.map true false 1 (Qk u.1.2.2))),(45,some (.map true false 1 ([]))),(47,some (.blk 109 [.mp 39,.mp 402,.mp 45])),(402,some (.map true false 1 (J4 inn))),(500,some (.blk 109 [.mp 501,.mp 502,.mp 503])),(501,some (.map true false 1 (Qk u.1.2.1))),(502,some (.map true false 1 (J4 inn))),(503,some (.map true false 1 (Qk tok)))]⟩)
    (μ:=fun u=>nn.length - u.1.1) ⟨(0,ct,[]),⟨Nat.zero_le _,⟨rfl,hW.big⟩⟩⟩ (Le.sub (by simp [I6]) (by simp [I6])) (fun ⟨(i,c,f),⟨hi9,hc⟩⟩=>?_)
   dsimp only at hi9 hc ⊢
   refine AWp.rg [] [] ?_ (hr:=by conv=>lhs;simp [Q5,Q6,Tm.row,Tm.Q3,Cs.Q3,hA,h0x,h1y,hag,q1t])
   repeat (first | refine AWp.seq ?_ | refine AWp.block ?_)
   refine AWp.cond rfl (fun hc=>?_) (fun hc=>?_)
   ·have hi1 : i < nn.length:=by have:=of_decide_eq_true hc;omega
    clear hc
    have h1n : nn[i]? = some nn[i]:=List.getElem?_eq_getElem hi1
    have hmn : nn[i]∈nn:=List.getElem_mem hi1
    have hdn : nn.drop i = nn[i] :: nn.drop (i + 1):=List.drop_eq_getElem_cons hi1
    generalize nn[i] = n at h1n hmn hdn
    obtain ⟨hc1,hcb⟩:=hc
    rw [hdn,spN] at hc1
    refine AWp.skip ?_
    refine AWp.rg [] [] ?_ (hr:=by conv=>lhs;simp [Q5,Q6,Tm.row,Tm.Q3,Cs.Q3,hA,h0x,h1y,hag,h1n,q1t])
    cases hk : lkA c n with
    | none =>
     have hkg : D.Xk (.str n) (Qk c) = none:=by rw [X4,hk];rfl
     rw [hk] at hc1
     dsimp only at hc1
     refine AWp.rg [] [] ?_ (hr:=by conv=>lhs;simp [Q5,Q6,Tm.row,Tm.Q3,Cs.Q3,hA,h0x,h1y,hag,h1n,hkg,q1t])
     refine AWp.rg [] [] ?_ (hr:=by conv=>lhs;simp [Q5,Q6,Tm.row,Tm.Q3,Cs.Q3,hA,h0x,h1y,hag,h1n,hkg,q1t])
     refine AWp.rg [] [] ?_ (hr:=by conv=>lhs;simp [Q5,Q6,Tm.row,Tm.Q3,Cs.Q3,hA,h0x,h1y,hag,h1n,hkg,q1t])
     refine AWp.cn ?_
     refine AWp.skip ?_
     refine AWp.rg [] [] ?_ (hr:=by conv=>lhs;simp [Q5,Q6,Tm.row,Tm.Q3,Cs.Q3,hA,h0x,h1y,hag,h1n,hkg,q1t])
     refine ⟨⟨(i + 1,c,f),hi1,⟨hc1,hcb⟩⟩,by simp;omega,?_⟩
     dsimp only
     exact Le.sub (by simp) (by simp)
    | some k =>
     have hkg : D.Xk (.str n) (Qk c) = some [.int k]:=by rw [X4,hk];rfl
     rw [hk] at hc1
     dsimp only at hc1
     have hkb:=hcb.at hk
     have hm1:=min1_le hkb.1
     obtain ⟨mk,hmk⟩ : ∃ m,(if 1 < k then 1 else k) = m:=⟨_,rfl⟩
     rw [show Dk k = mk from hmk] at hc1 hm1
     refine AWp.rg [] [] ?_ (hr:=by conv=>lhs;simp [Q5,Q6,Tm.row,Tm.Q3,Cs.Q3,hA,h0x,h1y,hag,h1n,hkg,q1t])
     refine AWp.rg [] [] ?_ (hr:=by conv=>lhs;simp [Q5,Q6,Tm.row,Tm.Q3,Cs.Q3,hA,h0x,h1y,hag,h1n,hkg,q1t])
     refine AWp.rg [] [] ?_ (hr:=by conv=>lhs;simp [Q5,Q6,Tm.row,Tm.Q3,Cs.Q3,hA,h0x,h1y,hag,h1n,hkg,q1t])
     refine AWp.cy ?_
     refine AWp.rg [] [] ?_ (hr:=by conv=>lhs;simp [Q5,Q6,Tm.row,Tm.Q3,Cs.Q3,hA,h0x,h1y,hag,h1n,hkg,hmk,q1t])
     have hfg : D.Xk (.str n) (Qk (X5 f n mk)) = some [.int mk]:=by rw [X4,X7,if_pos rfl];rfl
     refine AWp.dw [] [] mixed ?_ (hr:=by conv=>lhs;simp [Q5,Q6,Tm.row,Tm.Q3,Cs.Q3,hA,h0x,h1y,hag,h1n,hkg,hmk,hfg,q1t])
     refine AWp.rg [] [] ?_ (hr:=by conv=>lhs;simp [Q5,Q6,Tm.row,Tm.Q3,Cs.Q3,hA,h0x,h1y,hag,h1n,hkg,hmk,hfg,q1t])
     have hcb2 : LS.Bd ⟨X5 c n (k - mk),inn,tok⟩ 4611686018427387904:=fun m=>by
      have:=hcb m
      rw [LS.O4 ⟨c,inn,tok⟩]
      split <;> omega
     refine ⟨⟨(i + 1,X5 c n (k - mk),X5 f n mk),hi1,⟨hc1,hcb2⟩⟩,by simp;omega,?_⟩
     dsimp only
     exact Le.sub (by simp) (by simp)
   have hi1 : i = nn.length:=by have:=of_decide_eq_false hc;omega
   subst hi1
   clear hc
   rw [List.drop_length,spN] at hc
   obtain ⟨hc,-⟩:=hc
   rw [hc] at p1 p2
   dsimp only at p1 p2
   refine AWp.exit ?_
   refine AWp.rg [] [] ?_ (hr:=by conv=>lhs;simp [Q5,Q6,Tm.row,Tm.Q3,Cs.Q3,hA,h0x,h1y,hag,q1t])
   repeat (first | refine AWp.seq ?_ | refine AWp.block ?_)
   refine AWp.loop (σ:=fun u : {u : Nat×List (ByteArray×Int)×List (ByteArray×Int) // u.1≤tt.length∧spK tt tok [] = spK (tt.drop u.1) u.2.1 u.2.2}=>⟨156,[(0,.ptr 500 0),(1,.d (.ptr [.int 6,.int tn,.str ta,.str tb,Q7 tvs,.sl (txs.map Tm.row),.sl (tcs.map Cs.row)])),(7,.ptr 47 0),(101,.d (Q7 tt)),(102,.d (.int (tt.length : Int))),(103,.d (.int (u.1.1 : Int)))],[(39,some (.map true false 1 (Qk f))),(45,some (.map true false 1 (Qk u.1.2.2))),(47,some (.blk 109 [.mp 39,.mp 402,.mp 45])),(402,some (.map true false 1 (J4 inn))),(500,some (.blk 109 [.mp 501,.mp 502,.mp 503])),(501,some (.map true false 1 (Qk c))),(502,some (.map true false 1 (J4 inn))),(503,some (.map true false 1 (Qk u.1.2.1)))]⟩)
    (μ:=fun u=>tt.length - u.1.1) ⟨(0,tok,[]),⟨Nat.zero_le _,rfl⟩⟩ (Le.sub (by simp [I6]) (by simp [I6])) (fun ⟨(j,d,e),⟨hi18,hd⟩⟩=>?_)
   dsimp only at hi18 hd ⊢
   refine AWp.rg [] [] ?_ (hr:=by conv=>lhs;simp [Q5,Q6,Tm.row,Tm.Q3,Cs.Q3,hA,h0x,h1y,hag,q1t])
   repeat (first | refine AWp.seq ?_ | refine AWp.block ?_)
   refine AWp.cond rfl (fun hc=>?_) (fun hc=>?_)
   ·have hi1 : j < tt.length:=by have:=of_decide_eq_true hc;omega
    clear hc
    have h1b : tt[j]? = some tt[j]:=List.getElem?_eq_getElem hi1
    have hmb : tt[j]∈tt:=List.getElem_mem hi1
    have hdb : tt.drop j = tt[j] :: tt.drop (j + 1):=List.drop_eq_getElem_cons hi1
    generalize tt[j] = b at h1b hmb hdb
    rw [hdb,spK] at hd
    refine AWp.skip ?_
    refine AWp.rg [] [] ?_ (hr:=by conv=>lhs;simp [Q5,Q6,Tm.row,Tm.Q3,Cs.Q3,hA,h0x,h1y,hag,h1b,q1t])
    cases ht : lkA d b with
    | none =>
     have htg : D.Xk (.str b) (Qk d) = none:=by rw [X4,ht];rfl
     rw [ht] at hd
     dsimp only at hd
     refine AWp.rg [] [] ?_ (hr:=by conv=>lhs;simp [Q5,Q6,Tm.row,Tm.Q3,Cs.Q3,hA,h0x,h1y,hag,h1b,htg,q1t])
     refine AWp.rg [] [] ?_ (hr:=by conv=>lhs;simp [Q5,Q6,Tm.row,Tm.Q3,Cs.Q3,hA,h0x,h1y,hag,h1b,htg,q1t])
     refine AWp.cn ?_
     refine AWp.skip ?_
     refine AWp.rg [] [] ?_ (hr:=by conv=>lhs;simp [Q5,Q6,Tm.row,Tm.Q3,Cs.Q3,hA,h0x,h1y,hag,h1b,htg,q1t])
     refine ⟨⟨(j + 1,d,e),hi1,hd⟩,by simp;omega,?_⟩
     dsimp only
     exact Le.sub (by simp) (by simp)
    | some k =>
     have htg : D.Xk (.str b) (Qk d) = some [.int k]:=by rw [X4,ht];rfl
     rw [ht] at hd
     dsimp only at hd
     refine AWp.rg [] [] ?_ (hr:=by conv=>lhs;simp [Q5,Q6,Tm.row,Tm.Q3,Cs.Q3,hA,h0x,h1y,hag,h1b,htg,q1t])
     refine AWp.rg [] [] ?_ (hr:=by conv=>lhs;simp [Q5,Q6,Tm.row,Tm.Q3,Cs.Q3,hA,h0x,h1y,hag,h1b,htg,q1t])
     refine AWp.cy ?_
     refine AWp.rg [] [] ?_ (hr:=by conv=>lhs;simp [Q5,Q6,Tm.row,Tm.Q3,Cs.Q3,hA,h0x,h1y,hag,h1b,htg,q1t])
     refine AWp.rg [] [] ?_ (hr:=by conv=>lhs;simp [Q5,Q6,Tm.row,Tm.Q3,Cs.Q3,hA,h0x,h1y,hag,h1b,htg,q1t])
     refine AWp.rg [] [] ?_ (hr:=by conv=>lhs;simp [Q5,Q6,Tm.row,Tm.Q3,Cs.Q3,hA,h0x,h1y,hag,h1b,htg,q1t])
     refine ⟨⟨(j + 1,Wz d b,X5 e b k),hi1,hd⟩,by simp;omega,?_⟩
     dsimp only
     exact Le.sub (by simp) (by simp)
   have hi1 : j = tt.length:=by have:=of_decide_eq_false hc;omega
   subst hi1
   clear hc
   rw [List.drop_length,spK] at hd
   rw [hd] at p3 p4
   dsimp only at p3 p4
   refine AWp.exit ?_
   repeat (first | refine AWp.seq ?_ | refine AWp.block ?_)
   refine AWp.le (Le.low [] [] (fr:=[(0,.ptr 500 0),(1,.d (.ptr [.int 6,.int tn,.str ta,.str tb,Q7 tvs,.sl (txs.map Tm.row),.sl (tcs.map Cs.row)])),(7,.ptr 47 0)]) (mem:=[(39,some (.map true false 1 (Qk f1))),(45,some (.map true false 1 (Qk f3))),(47,some (.blk 109 [.mp 39,.mp 402,.mp 45])),(402,some (.map true false 1 (J4 inn))),(500,some (.blk 109 [.mp 501,.mp 502,.mp 503])),(501,some (.map true false 1 (Qk r1))),(502,some (.map true false 1 (J4 inn))),(503,some (.map true false 1 (Qk r3)))]) rfl (by simp) (by simp;exact ⟨p2,p4,p1,p3⟩)) ?_
   refine AWp.rg [] [.c [(500,47),(501,39),(502,402),(503,45)] [.ptr 500 0,.agg [.d (.int xk),.d (.int xn),.d (.str xa),.d (.str xb),.d (Q7 xvs),.d (.sl (xxs.map Tm.row)),.d (.sl (xcs.map Cs.row))]] [(500,.blk 109 [.mp 501,.mp 502,.mp 503]),(501,.map true false 1 (Qk f1)),(502,.map true false 1 (J4 inn)),(503,.map true false 1 (Qk f3))] (.d (.int e1)) []] ?_ (hr:=by conv=>lhs;simp [Q5,Q6,Tm.row,Tm.Q3,Cs.Q3,hA,h0x,h1y,hag,q1t])
   by_cases q2 : e1 = 0
   ·refine AWp.rg [] [] ?_ (hr:=by conv=>lhs;simp [Q5,Q6,Tm.row,Tm.Q3,Cs.Q3,hA,h0x,h1y,hag,q1t,q2])
    refine AWp.cn ?_
    refine AWp.skip ?_
    rw [if_neg (fun h=>h q2)] at hR
    rw [← hR] at hy
    refine AWp.dw [] [] mixed ?_ (hr:=by conv=>lhs;simp [Q5,Q6,Tm.row,Tm.Q3,Cs.Q3,hA,h0x,h1y,hag,q1t,q2])
    refine AWp.rg [] [.c [] [.ptr 500 0,.agg [.d (.int yk),.d (.int yn),.d (.str ya),.d (.str yb),.d (Q7 yvs),.d (.sl (yxs.map Tm.row)),.d (.sl (ycs.map Cs.row))]] [(500,.blk 109 [.mp 501,.mp 502,.mp 503]),(501,.map true false 1 (Qk (X5 r1 ta 1))),(502,.map true false 1 (J4 inn)),(503,.map true false 1 (Qk r3))] (.d (.int R)) []] ?_ (hr:=by conv=>lhs;simp [Q5,Q6,Tm.row,Tm.Q3,Cs.Q3,hA,h0x,h1y,hag,q1t,q2])
    refine AWp.ret ?_
    try dsimp only [Qq,Q8]
    apply Qv.ret
    ·rfl
    ·conv=>lhs;simp [Q9,Tryd.results91]
    ·rfl
    ·simp [Qj,Q4]
   refine AWp.rg [] [] ?_ (hr:=by conv=>lhs;simp [Q5,Q6,Tm.row,Tm.Q3,Cs.Q3,hA,h0x,h1y,hag,q1t,q2])
   refine AWp.cy ?_
   refine AWp.rg [] [] ?_ (hr:=by conv=>lhs;simp [Q5,Q6,Tm.row,Tm.Q3,Cs.Q3,hA,h0x,h1y,hag,q1t,q2])
   refine AWp.ret ?_
   rw [if_pos q2] at hR
   rw [hR]
   try dsimp only [Qq,Q8]
   apply Qv.ret
   ·rfl
   ·conv=>lhs;simp [Q9,Tryd.results91]
   ·first | rfl | simp
   ·simp [Qj,Q4]
  | some k0 =>
   have hag : D.Xk (.str ta) (Qk ct) = some [.int k0]:=by rw [X4,ha];rfl
   refine AWp.dw [] [] mixed ?_ (hr:=by conv=>lhs;simp [Q5,Q6,Tm.row,Tm.Q3,Cs.Q3,hA,h0x,h1y,hag,q1t])
   refine AWp.rg [] [] ?_ (hr:=by conv=>lhs;simp [Q5,Q6,Tm.row,Tm.Q3,Cs.Q3,hA,h0x,h1y,hag,q1t])
   refine AWp.cy ?_
   refine AWp.rg [] [] ?_ (hr:=by conv=>lhs;simp [Q5,Q6,Tm.row,Tm.Q3,Cs.Q3,hA,h0x,h1y,hag,q1t])
   refine AWp.ret ?_
   rw [if_pos (by rw [ha];rfl)] at hR
   rw [hR]
   try dsimp only [Qq,Q8]
   apply Qv.ret
   ·rfl
   ·conv=>lhs;simp [Q9,Tryd.results91]
   ·first | rfl | simp
   ·simp [Qj,Q4]
 refine AWp.rg [] [] ?_ (hr:=by conv=>lhs;simp [Q5,Q6,Tm.row,Tm.Q3,Cs.Q3,hA,q1])
 refine AWp.cy ?_
 refine AWp.rg [] [] ?_ (hr:=by conv=>lhs;simp [Q5,Q6,Tm.row,Tm.Q3,Cs.Q3,hA,q1])
 refine AWp.ret ?_
 rw [if_pos (fun h=>q1 (by rw [← hA,h];rfl))] at hR
 rw [hR]
 try dsimp only [Qq,Q8]
 apply Qv.ret
 ·rfl
 ·conv=>lhs;simp [Q9,Tryd.results91]
 ·first | rfl | simp
 ·simp [Qj,Q4]
theorem Xj : ((⟨#[107]⟩ : ByteArray).size≤maxLen) = True:=eq_true (by show 1≤9223372036854775807;omega)
abbrev kObj (c : Int) : Qz:=.blk 87 [.d (.int c)]
def RuN (N : Nat) : Prop:=∀ (t : Tm) (c : Int),t.dp≤N→t.Ok→t.Fs→X3 Tryd.prog 41 [.ptr 1000 0,Xw t] [(1000,kObj c)] (Xw (t.ru N c).1) [(1000,kObj (t.ru N c).2)]
set_option maxRecDepth 20000 in
set_option maxHeartbeats 16000000 in
theorem ru_step (N : Nat) (ih : RuN N) : RuN (N + 1):=by
 intro t c hdp hO hS
 obtain ⟨R,hR⟩ : ∃ R,R = t.ru (N + 1) c:=⟨_,rfl⟩
 rw [← hR]
 obtain ⟨tk,tn,ta,tb,tvs,txs,tcs⟩:=t
 rw [Tm.ru] at hR
 have hxO : ∀ x∈txs,x.Ok:=fun x hx=>Tm.Zq.1 hO.2.2.1 x hx
 have hcO : ∀ x∈tcs,x.Ok:=fun x hx=>Cs.Zq.1 hO.2.2.2 x hx
 have hxS : ∀ x∈txs,x.Fs:=fun x hx=>FsL_iff.1 hS.2.2.1 x hx
 have hcS : ∀ x∈tcs,x.Fs:=fun x hx=>Iq.1 hS.2.2.2 x hx
 obtain ⟨o1,o2,o3,o4,o5⟩:=hO.vars
 rw [Tm.dp] at hdp
 refine X3.of Tryd.func41 rfl rfl (Nat.le_of_ble_eq_true rfl) ?_
 show AWp _ _ (Qv _ Tryd.f41 _ _) (X8 95 _ _)
 refine AWp.rg [] [] ?_ (hr:=by conv=>lhs;simp [Tm.row,Tm.Q3,Cs.Q3,Xj])
 by_cases h10 : tk = 10
 ·obtain ⟨x,hxy⟩:=hS.2.1 ⟨by omega,by omega⟩
  have h0x : txs[0]? = some x:=by rw [hxy];rfl
  have hln : txs.length = 1:=by rw [hxy];rfl
  have hmx : x∈txs:=by rw [hxy];simp
  have hft:=fit_all x.sz x tvs.length (Nat.le_refl _) (hxO x hmx) (hxS x hmx)
  obtain ⟨q,hq⟩ : ∃ q,Tm.fits tvs.length x = q:=⟨_,rfl⟩
  have hqH : Tm.fitH tvs.length txs = q:=by rw [hxy,Tm.fitH,hq]
  rw [hq] at hft
  rw [hqH] at hR
  obtain ⟨us,hw⟩ : ∃ w,Tm.G5 (kNm (wr (c + 1))) tvs.length txs = w:=⟨_,rfl⟩
  have hpx:=fun htk=>put_all x.sz x (kNm (wr (c + 1))) tvs.length (Nat.le_refl _) (hxO x hmx) (hxS x hmx) htk
  rw [hw] at hR
  rw [hxy,Tm.G5] at hw
  obtain ⟨x0,hx0⟩ : ∃ y,y = x:=⟨_,rfl⟩
  rw [← hx0] at hw hpx hft h0x
  obtain ⟨xk,xn,xa,xb,xvs,xxs,xcs⟩:=x0
  cases q with
  | true =>
   refine AWp.dw [] [.p (fun _=>.d (.bool true)) none] mixed ?_ (hr:=by conv=>lhs;simp [Tm.row,Tm.Q3,Cs.Q3,Xj,h0x,h10])
   refine AWp.cy ?_
   obtain ⟨e,he⟩ : ∃ e : Int,wr (c + 1) = e:=⟨_,rfl⟩
   rw [he] at hpx hw hR
   have heI : inI e:=by rw [← he];exact wr_in _
   have hit:=sp_Itoa e heI
   have hsz:=Nz heI
   have h1s : (⟨#[107]⟩ : ByteArray).size = 1:=rfl
   refine AWp.rg [4] [] ?_ (hr:=by conv=>lhs;simp [Tm.row,Tm.Q3,Cs.Q3,Xj,h0x,he,h10])
   refine AWp.rg [] [.p (fun _=>.d (.str (D5 e))) none] ?_ (hr:=by conv=>lhs;simp [Tm.row,Tm.Q3,Cs.Q3,Xj,h0x,he,h10])
   obtain ⟨tok,htk⟩ : ∃ b,((⟨#[107]⟩ ++ (D5 e))) = b:=⟨_,rfl⟩
   rw [htk]
   have hkn : kNm e = tok:=htk
   rw [hkn] at hpx hw hR
   have htz : tok.size≤140737488355328:=by rw [← htk];simp [ByteArray.size_append];omega
   have hpx:=hpx htz
   rw [if_pos ⟨h10,rfl⟩] at hR
   have hzO:=G9 tok tvs.length htz _ _ (Nat.le_refl _) (hxO x hmx)
   have hzS:=put_fs tok tvs.length _ _ (Nat.le_refl _) (hxS x hmx)
   have hzd:=(put_r tok tvs.length _ x (Nat.le_refl _)).dp
   rw [← hx0] at hzO hzS hzd
   generalize Tm.put tok tvs.length (.mk xk xn xa xb xvs xxs xcs) = z at hpx hw hzO hzS hzd
   have hLd : ∀ u∈us,u.dp≤N:=fun u hu=>by
    rw [← hw] at hu
    rw [List.mem_singleton.1 hu]
    have h1:=dpL_mem hmx
    rw [← hx0] at h1
    rw [if_pos h10] at hdp
    omega
   have hLO : ∀ u∈us,u.Ok:=fun u hu=>by rw [← hw] at hu;rw [List.mem_singleton.1 hu];exact hzO
   have hLS : ∀ u∈us,u.Fs:=fun u hu=>by rw [← hw] at hu;rw [List.mem_singleton.1 hu];exact hzS
   obtain ⟨zk,zn,za,zb,zvs,zxs,zcs⟩:=z
   have hrow : [[.int zk,.int zn,.str za,.str zb,Q7 zvs,.sl (zxs.map Tm.row),.sl (zcs.map Cs.row)]] = List.map Tm.row us:=by rw [← hw];simp [Tm.row,Tm.Q3,Cs.Q3]
   have hul : us.length = 1:=by rw [← hw];rfl
   have hut : List.take 1 (List.map Tm.row us) = List.map Tm.row us:=List.take_of_length_le (by simp;omega)
   refine AWp.dw [14] [.p (fun _=>.agg [.d (.int zk),.d (.int zn),.d (.str za),.d (.str zb),.d (Q7 zvs),.d (.sl (zxs.map Tm.row)),.d (.sl (zcs.map Cs.row))]) none] mixed ?_ (hr:=by conv=>lhs;simp [Tm.row,Tm.Q3,Cs.Q3,Xj,h0x,he,hrow,hul,h10])
   obtain ⟨vs0,hv0⟩ : ∃ l : List Cs,l = []:=⟨_,rfl⟩
   have hCd : ∀ u∈vs0,u.dp≤N:=by rw [hv0];simp
   have hCO : ∀ u∈vs0,u.Ok:=by rw [hv0];simp
   have hCS : ∀ u∈vs0,u.Fs:=by rw [hv0];simp
   have hLl : us.length≤1172812402960:=by omega
   have hCl : vs0.length≤925904528652:=by rw [hv0];simp
   replace hR : R = (.mk 11 0 ta tok tvs (ruL (Tm.ru N) us e).1 (ruC (Tm.ru N) vs0 (ruL (Tm.ru N) us e).2).1,(ruC (Tm.ru N) vs0 (ruL (Tm.ru N) us e).2).2):=by rw [hR,hv0];rfl
   repeat (first | refine AWp.seq ?_ | refine AWp.block ?_)
   refine AWp.le (Le.low [] [] (fr:=[(0,.ptr 1000 0),(3,.ptr 3 0),(4,.ptr 4 0)]) (mem:=[(3,some (.blk 32 [.d (.int 11),.d (.int 0),.d (.str ta),.d (.str tok),.d (Q7 tvs),.d (.sl (us.map Tm.row)),.d (.sl (vs0.map Cs.row))])),(4,some (.blk 32 [.d (.int 0),.d (.int 0),.d (.str ByteArray.empty),.d (.str ByteArray.empty),.lit (.slice none 0 0),.lit (.slice none 0 0),.lit (.slice none 0 0)])),(1000,some (.blk 87 [.d (.int e)]))]) rfl (by simp [hv0,hut]) (by simp [hv0,hut])) ?_
   refine AWp.rg [] [] ?_ (hr:=by conv=>lhs;simp [Tm.row,Tm.Q3,Cs.Q3,Xj,h10])
   refine AWp.rg [] [] ?_ (hr:=by conv=>lhs;simp [Tm.row,Tm.Q3,Cs.Q3,Xj,h10])
   refine AWp.rg [] [] ?_ (hr:=by conv=>lhs;simp [Tm.row,Tm.Q3,Cs.Q3,Xj,h10])
   repeat (first | refine AWp.seq ?_ | refine AWp.block ?_)
   refine AWp.le (Le.low [400] [] (fr:=[(0,.ptr 1000 0),(3,.ptr 3 0),(4,.ptr 4 0),(6,.ptr 6 0),(57,.d (.sl (us.map Tm.row))),(58,.d (.int (us.length : Int))),(59,.d (.int (0 : Int)))]) (mem:=[(3,some (.blk 32 [.d (.int 11),.d (.int 0),.d (.str ta),.d (.str tok),.d (Q7 tvs),.d (.sl (us.map Tm.row)),.d (.sl (vs0.map Cs.row))])),(4,some (.blk 32 [.d (.int 0),.d (.int 0),.d (.str ByteArray.empty),.d (.str ByteArray.empty),.lit (.slice none 0 0),.lit (.slice none 0 0),.lit (.slice none 0 0)])),(6,some (.blk 32 [.d (.int 11),.d (.int 0),.d (.str ta),.d (.str tok),.d (Q7 tvs),.arr 400 0 ([] : List Tm).length,.lit (.slice none 0 0)])),(400,some (.arr 32 7 (([] : List Tm).map Tm.row))),(1000,some (.blk 87 [.d (.int (e : Int))]))]) rfl (by simp) (by simp)) ?_
   refine AWp.loop (σ:=fun u : {u : Nat×List Tm×Int // u.1≤us.length∧(ruL (Tm.ru N) us e = (u.2.1 ++ (ruL (Tm.ru N) (us.drop u.1) u.2.2).1,(ruL (Tm.ru N) (us.drop u.1) u.2.2).2)∧u.2.1.length = u.1)}=>⟨95,[(0,.ptr 1000 0),(3,.ptr 3 0),(4,.ptr 4 0),(6,.ptr 6 0),(57,.d (.sl (us.map Tm.row))),(58,.d (.int (us.length : Int))),(59,.d (.int (u.1.1 : Int)))],[(3,some (.blk 32 [.d (.int 11),.d (.int 0),.d (.str ta),.d (.str tok),.d (Q7 tvs),.d (.sl (us.map Tm.row)),.d (.sl (vs0.map Cs.row))])),(4,some (.blk 32 [.d (.int 0),.d (.int 0),.d (.str ByteArray.empty),.d (.str ByteArray.empty),.lit (.slice none 0 0),.lit (.slice none 0 0),.lit (.slice none 0 0)])),(6,some (.blk 32 [.d (.int 11),.d (.int 0),.d (.str ta),.d (.str tok),.d (Q7 tvs),.arr 400 0 u.1.2.1.length,.lit (.slice none 0 0)])),(400,some (.arr 32 7 (u.1.2.1.map Tm.row))),(1000,some (.blk 87 [.d (.int u.1.2.2)]))]⟩)
    (μ:=fun u=>us.length - u.1.1) ⟨(0,[],e),⟨Nat.zero_le _,⟨by simp,rfl⟩⟩⟩ (Le.sub (by simp) (by simp)) (fun ⟨(i,ys,c1),⟨hi8,hw⟩⟩=>?_)
   dsimp only at hi8 hw ⊢
   refine AWp.rg [] [] ?_ (hr:=by conv=>lhs;simp [Tm.row,Tm.Q3,Cs.Q3,Xj,h10])
   repeat (first | refine AWp.seq ?_ | refine AWp.block ?_)
   refine AWp.cond rfl (fun hc=>?_) (fun hc=>?_)
   ·have hi1 : i < us.length:=by have:=of_decide_eq_true hc;omega
    clear hc
    have h1y : us[i]? = some us[i]:=List.getElem?_eq_getElem hi1
    have hmy : us[i]∈us:=List.getElem_mem hi1
    have hdy : us.drop i = us[i] :: us.drop (i + 1):=List.drop_eq_getElem_cons hi1
    generalize us[i] = y at h1y hmy hdy
    obtain ⟨hap,hyl⟩:=hw
    rw [hdy,ruL] at hap
    have hx:=ih y c1 (hLd y hmy) (hLO y hmy) (hLS y hmy)
    generalize y.ru N c1 = o at hx hap
    obtain ⟨z,c2⟩:=o
    dsimp only at hx hap
    obtain ⟨yk,yn,ya,yb,yvs,yxs,ycs⟩:=y
    obtain ⟨zk,zn,za,zb,zvs,zxs,zcs⟩:=z
    refine AWp.skip ?_
    refine AWp.rg [] [] ?_ (hr:=by conv=>lhs;simp [Tm.row,Tm.Q3,Cs.Q3,Xj,h1y,h10])
    refine AWp.dw [] [.c [] [.ptr 1000 0,.agg [.d (.int yk),.d (.int yn),.d (.str ya),.d (.str yb),.d (Q7 yvs),.d (.sl (yxs.map Tm.row)),.d (.sl (ycs.map Cs.row))]] [(1000,.blk 87 [.d (.int c1)])] (.agg [.d (.int zk),.d (.int zn),.d (.str za),.d (.str zb),.d (Q7 zvs),.d (.sl (zxs.map Tm.row)),.d (.sl (zcs.map Cs.row))]) [(1000,.blk 87 [.d (.int c2)])]] mixed ?_ (hr:=by conv=>lhs;simp [Tm.row,Tm.Q3,Cs.Q3,Xj,h1y,h10])
    refine AWp.rg [] [] ?_ (hr:=by conv=>lhs;simp [Tm.row,Tm.Q3,Cs.Q3,Xj,h1y,h10])
    refine ⟨⟨(i + 1,ys ++ [.mk zk zn za zb zvs zxs zcs],c2),hi1,⟨by rw [hap];simp,by simp [hyl]⟩⟩,by simp;omega,?_⟩
    dsimp only
    exact Le.sub (by simp [Tm.row,Tm.Q3,Cs.Q3,hyl]) (by simp [Tm.row,Tm.Q3,Cs.Q3,hyl])
   have hi1 : i = us.length:=by have:=of_decide_eq_false hc;omega
   subst hi1
   clear hc
   obtain ⟨hap,hyl⟩:=hw
   rw [List.drop_length,ruL] at hap
   simp only [List.append_nil] at hap
   rw [hap] at hR
   dsimp only at hR
   clear hap
   refine AWp.exit ?_
   refine AWp.rg [] [] ?_ (hr:=by conv=>lhs;simp [Tm.row,Tm.Q3,Cs.Q3,Xj,h10])
   repeat (first | refine AWp.seq ?_ | refine AWp.block ?_)
   refine AWp.le (Le.low [401] [] (fr:=[(0,.ptr 1000 0),(4,.ptr 4 0),(6,.ptr 6 0),(73,.d (.sl (vs0.map Cs.row))),(74,.d (.int (vs0.length : Int))),(75,.d (.int (0 : Int)))]) (mem:=[(4,some (.blk 32 [.d (.int 0),.d (.int 0),.d (.str ByteArray.empty),.d (.str ByteArray.empty),.lit (.slice none 0 0),.lit (.slice none 0 0),.lit (.slice none 0 0)])),(6,some (.blk 32 [.d (.int 11),.d (.int 0),.d (.str ta),.d (.str tok),.d (Q7 tvs),.arr 400 0 ys.length,.arr 401 0 ([] : List Cs).length])),(400,some (.arr 32 7 (ys.map Tm.row))),(401,some (.arr 42 9 (([] : List Cs).map Cs.row))),(1000,some (.blk 87 [.d (.int (c1 : Int))]))]) rfl (by simp) (by simp)) ?_
   refine AWp.loop (σ:=fun u : {u : Nat×List Cs×Int // u.1≤vs0.length∧(ruC (Tm.ru N) vs0 c1 = (u.2.1 ++ (ruC (Tm.ru N) (vs0.drop u.1) u.2.2).1,(ruC (Tm.ru N) (vs0.drop u.1) u.2.2).2)∧u.2.1.length = u.1)}=>⟨95,[(0,.ptr 1000 0),(4,.ptr 4 0),(6,.ptr 6 0),(73,.d (.sl (vs0.map Cs.row))),(74,.d (.int (vs0.length : Int))),(75,.d (.int (u.1.1 : Int)))],[(4,some (.blk 32 [.d (.int 0),.d (.int 0),.d (.str ByteArray.empty),.d (.str ByteArray.empty),.lit (.slice none 0 0),.lit (.slice none 0 0),.lit (.slice none 0 0)])),(6,some (.blk 32 [.d (.int 11),.d (.int 0),.d (.str ta),.d (.str tok),.d (Q7 tvs),.arr 400 0 ys.length,.arr 401 0 u.1.2.1.length])),(400,some (.arr 32 7 (ys.map Tm.row))),(401,some (.arr 42 9 (u.1.2.1.map Cs.row))),(1000,some (.blk 87 [.d (.int u.1.2.2)]))]⟩)
    (μ:=fun u=>vs0.length - u.1.1) ⟨(0,[],c1),⟨Nat.zero_le _,⟨by simp,rfl⟩⟩⟩ (Le.sub (by simp) (by simp)) (fun ⟨(i,ds,c3),⟨hi13,hw2⟩⟩=>?_)
   dsimp only at hi13 hw2 ⊢
   refine AWp.rg [] [] ?_ (hr:=by conv=>lhs;simp [Tm.row,Tm.Q3,Cs.Q3,Xj,h10])
   repeat (first | refine AWp.seq ?_ | refine AWp.block ?_)
   refine AWp.cond rfl (fun hc=>?_) (fun hc=>?_)
   ·have hi1 : i < vs0.length:=by have:=of_decide_eq_true hc;omega
    clear hc
    have h1d : vs0[i]? = some vs0[i]:=List.getElem?_eq_getElem hi1
    have hmd : vs0[i]∈vs0:=List.getElem_mem hi1
    have hdd : vs0.drop i = vs0[i] :: vs0.drop (i + 1):=List.drop_eq_getElem_cons hi1
    generalize vs0[i] = d at h1d hmd hdd
    obtain ⟨hap,hdl⟩:=hw2
    have hdd2:=hCd d hmd
    have hdO:=hCO d hmd
    have hdS:=hCS d hmd
    obtain ⟨dt,dws,y⟩:=d
    rw [hdd,ruC] at hap
    have hx:=ih y c3 hdd2 hdO.2.2 hdS
    generalize y.ru N c3 = o at hx hap
    obtain ⟨z,c2⟩:=o
    dsimp only at hx hap
    obtain ⟨yk,yn,ya,yb,yvs,yxs,ycs⟩:=y
    obtain ⟨zk,zn,za,zb,zvs,zxs,zcs⟩:=z
    refine AWp.skip ?_
    refine AWp.rg [] [] ?_ (hr:=by conv=>lhs;simp [Tm.row,Tm.Q3,Cs.Q3,Xj,h1d,Cs.row,h10])
    refine AWp.dw [] [.c [] [.ptr 1000 0,.agg [.d (.int yk),.d (.int yn),.d (.str ya),.d (.str yb),.d (Q7 yvs),.d (.sl (yxs.map Tm.row)),.d (.sl (ycs.map Cs.row))]] [(1000,.blk 87 [.d (.int c3)])] (.agg [.d (.int zk),.d (.int zn),.d (.str za),.d (.str zb),.d (Q7 zvs),.d (.sl (zxs.map Tm.row)),.d (.sl (zcs.map Cs.row))]) [(1000,.blk 87 [.d (.int c2)])]] mixed ?_ (hr:=by conv=>lhs;simp [Tm.row,Tm.Q3,Cs.Q3,Xj,h1d,Cs.row,h10])
    refine AWp.rg [] [] ?_ (hr:=by conv=>lhs;simp [Tm.row,Tm.Q3,Cs.Q3,Xj,h1d,Cs.row,h10])
    refine ⟨⟨(i + 1,ds ++ [.mk dt dws (.mk zk zn za zb zvs zxs zcs)],c2),hi1,⟨by rw [hap];simp,by simp [hdl]⟩⟩,by simp;omega,?_⟩
    dsimp only
    exact Le.sub (by simp [Cs.row,Tm.row,Tm.Q3,Cs.Q3,hdl]) (by simp [Cs.row,Tm.row,Tm.Q3,Cs.Q3,hdl])
   have hi1 : i = vs0.length:=by have:=of_decide_eq_false hc;omega
   subst hi1
   clear hc
   obtain ⟨hap,hdl⟩:=hw2
   rw [List.drop_length,ruC] at hap
   simp only [List.append_nil] at hap
   rw [hap] at hR
   dsimp only at hR
   subst hR
   refine AWp.exit ?_
   refine AWp.rg [] [] ?_ (hr:=by conv=>lhs;simp [Tm.row,Tm.Q3,Cs.Q3,Xj,h10])
   refine AWp.ret ?_
   try dsimp only [Qq,Q8]
   apply Qv.Qq1 [400,401]
   ·rfl
   ·conv=>lhs;simp
   ·conv=>lhs;simp [Q9,Tryd.results41]
   ·rfl
   ·simp [Qj,Q4]
  | false =>
   refine AWp.dw [] [.p (fun _=>.d (.bool false)) none] mixed ?_ (hr:=by conv=>lhs;simp [Tm.row,Tm.Q3,Cs.Q3,Xj,h0x,h10])
   refine AWp.cn ?_
   refine AWp.skip ?_
   subst h10
   rw [if_neg (fun h=>by have h1:=h.1;have h2:=h.2;first | omega | simp at h2)] at hR
   have hLd : ∀ u∈txs,u.dp≤N:=fun u hu=>by have:=dpL_mem hu;split at hdp <;> omega
   have hCd : ∀ u∈tcs,u.dp≤N:=fun u hu=>by have:=cdpL_mem hu;split at hdp <;> omega
   have hLO:=hxO
   have hLS:=hxS
   have hCO:=hcO
   have hCS:=hcS
   have hLl:=o2
   have hCl:=o3
   refine AWp.rg [] [] ?_ (hr:=by conv=>lhs;simp [Tm.row,Tm.Q3,Cs.Q3,Xj])
   refine AWp.rg [] [] ?_ (hr:=by conv=>lhs;simp [Tm.row,Tm.Q3,Cs.Q3,Xj])
   refine AWp.rg [] [] ?_ (hr:=by conv=>lhs;simp [Tm.row,Tm.Q3,Cs.Q3,Xj])
   repeat (first | refine AWp.seq ?_ | refine AWp.block ?_)
   refine AWp.le (Le.low [400] [] (fr:=[(0,.ptr 1000 0),(3,.ptr 3 0),(4,.ptr 4 0),(6,.ptr 6 0),(57,.d (.sl (txs.map Tm.row))),(58,.d (.int (txs.length : Int))),(59,.d (.int (0 : Int)))]) (mem:=[(3,some (.blk 32 [.d (.int 10),.d (.int tn),.d (.str ta),.d (.str tb),.d (Q7 tvs),.d (.sl (txs.map Tm.row)),.d (.sl (tcs.map Cs.row))])),(4,some (.blk 32 [.d (.int 0),.d (.int 0),.d (.str ByteArray.empty),.d (.str ByteArray.empty),.lit (.slice none 0 0),.lit (.slice none 0 0),.lit (.slice none 0 0)])),(6,some (.blk 32 [.d (.int 10),.d (.int tn),.d (.str ta),.d (.str tb),.d (Q7 tvs),.arr 400 0 ([] : List Tm).length,.lit (.slice none 0 0)])),(400,some (.arr 32 7 (([] : List Tm).map Tm.row))),(1000,some (.blk 87 [.d (.int (c : Int))]))]) rfl (by simp) (by simp)) ?_
   refine AWp.loop (σ:=fun u : {u : Nat×List Tm×Int // u.1≤txs.length∧(ruL (Tm.ru N) txs c = (u.2.1 ++ (ruL (Tm.ru N) (txs.drop u.1) u.2.2).1,(ruL (Tm.ru N) (txs.drop u.1) u.2.2).2)∧u.2.1.length = u.1)}=>⟨95,[(0,.ptr 1000 0),(3,.ptr 3 0),(4,.ptr 4 0),(6,.ptr 6 0),(57,.d (.sl (txs.map Tm.row))),(58,.d (.int (txs.length : Int))),(59,.d (.int (u.1.1 : Int)))],[(3,some (.blk 32 [.d (.int 10),.d (.int tn),.d (.str ta),.d (.str tb),.d (Q7 tvs),.d (.sl (txs.map Tm.row)),.d (.sl (tcs.map Cs.row))])),(4,some (.blk 32 [.d (.int 0),.d (.int 0),.d (.str ByteArray.empty),.d (.str ByteArray.empty),.lit (.slice none 0 0),.lit (.slice none 0 0),.lit (.slice none 0 0)])),(6,some (.blk 32 [.d (.int 10),.d (.int tn),.d (.str ta),.d (.str tb),.d (Q7 tvs),.arr 400 0 u.1.2.1.length,.lit (.slice none 0 0)])),(400,some (.arr 32 7 (u.1.2.1.map Tm.row))),(1000,some (.blk 87 [.d (.int u.1.2.2)]))]⟩)
    (μ:=fun u=>txs.length - u.1.1) ⟨(0,[],c),⟨Nat.zero_le _,⟨by simp,rfl⟩⟩⟩ (Le.sub (by simp) (by simp)) (fun ⟨(i,ys,c1),⟨hi8,hw⟩⟩=>?_)
   dsimp only at hi8 hw ⊢
   refine AWp.rg [] [] ?_ (hr:=by conv=>lhs;simp [Tm.row,Tm.Q3,Cs.Q3,Xj])
   repeat (first | refine AWp.seq ?_ | refine AWp.block ?_)
   refine AWp.cond rfl (fun hc=>?_) (fun hc=>?_)
   ·have hi1 : i < txs.length:=by have:=of_decide_eq_true hc;omega
    clear hc
    have h1y : txs[i]? = some txs[i]:=List.getElem?_eq_getElem hi1
    have hmy : txs[i]∈txs:=List.getElem_mem hi1
    have hdy : txs.drop i = txs[i] :: txs.drop (i + 1):=List.drop_eq_getElem_cons hi1
    generalize txs[i] = y at h1y hmy hdy
    obtain ⟨hap,hyl⟩:=hw
    rw [hdy,ruL] at hap
    have hx:=ih y c1 (hLd y hmy) (hLO y hmy) (hLS y hmy)
    generalize y.ru N c1 = o at hx hap
    obtain ⟨z,c2⟩:=o
    dsimp only at hx hap
    obtain ⟨yk,yn,ya,yb,yvs,yxs,ycs⟩:=y
    obtain ⟨zk,zn,za,zb,zvs,zxs,zcs⟩:=z
    refine AWp.skip ?_
    refine AWp.rg [] [] ?_ (hr:=by conv=>lhs;simp [Tm.row,Tm.Q3,Cs.Q3,Xj,h1y])
    refine AWp.dw [] [.c [] [.ptr 1000 0,.agg [.d (.int yk),.d (.int yn),.d (.str ya),.d (.str yb),.d (Q7 yvs),.d (.sl (yxs.map Tm.row)),.d (.sl (ycs.map Cs.row))]] [(1000,.blk 87 [.d (.int c1)])] (.agg [.d (.int zk),.d (.int zn),.d (.str za),.d (.str zb),.d (Q7 zvs),.d (.sl (zxs.map Tm.row)),.d (.sl (zcs.map Cs.row))]) [(1000,.blk 87 [.d (.int c2)])]] mixed ?_ (hr:=by conv=>lhs;simp [Tm.row,Tm.Q3,Cs.Q3,Xj,h1y])
    refine AWp.rg [] [] ?_ (hr:=by conv=>lhs;simp [Tm.row,Tm.Q3,Cs.Q3,Xj,h1y])
    refine ⟨⟨(i + 1,ys ++ [.mk zk zn za zb zvs zxs zcs],c2),hi1,⟨by rw [hap];simp,by simp [hyl]⟩⟩,by simp;omega,?_⟩
    dsimp only
    exact Le.sub (by simp [Tm.row,Tm.Q3,Cs.Q3,hyl]) (by simp [Tm.row,Tm.Q3,Cs.Q3,hyl])
   have hi1 : i = txs.length:=by have:=of_decide_eq_false hc;omega
   subst hi1
   clear hc
   obtain ⟨hap,hyl⟩:=hw
   rw [List.drop_length,ruL] at hap
   simp only [List.append_nil] at hap
   rw [hap] at hR
   dsimp only at hR
   clear hap
   refine AWp.exit ?_
   refine AWp.rg [] [] ?_ (hr:=by conv=>lhs;simp [Tm.row,Tm.Q3,Cs.Q3,Xj])
   repeat (first | refine AWp.seq ?_ | refine AWp.block ?_)
   refine AWp.le (Le.low [401] [] (fr:=[(0,.ptr 1000 0),(4,.ptr 4 0),(6,.ptr 6 0),(73,.d (.sl (tcs.map Cs.row))),(74,.d (.int (tcs.length : Int))),(75,.d (.int (0 : Int)))]) (mem:=[(4,some (.blk 32 [.d (.int 0),.d (.int 0),.d (.str ByteArray.empty),.d (.str ByteArray.empty),.lit (.slice none 0 0),.lit (.slice none 0 0),.lit (.slice none 0 0)])),(6,some (.blk 32 [.d (.int 10),.d (.int tn),.d (.str ta),.d (.str tb),.d (Q7 tvs),.arr 400 0 ys.length,.arr 401 0 ([] : List Cs).length])),(400,some (.arr 32 7 (ys.map Tm.row))),(401,some (.arr 42 9 (([] : List Cs).map Cs.row))),(1000,some (.blk 87 [.d (.int (c1 : Int))]))]) rfl (by simp) (by simp)) ?_
   refine AWp.loop (σ:=fun u : {u : Nat×List Cs×Int // u.1≤tcs.length∧(ruC (Tm.ru N) tcs c1 = (u.2.1 ++ (ruC (Tm.ru N) (tcs.drop u.1) u.2.2).1,(ruC (Tm.ru N) (tcs.drop u.1) u.2.2).2)∧u.2.1.length = u.1)}=>⟨95,[(0,.ptr 1000 0),(4,.ptr 4 0),(6,.ptr 6 0),(73,.d (.sl (tcs.map Cs.row))),(74,.d (.int (tcs.length : Int))),(75,.d (.int (u.1.1 : Int)))],[(4,some (.blk 32 [.d (.int 0),.d (.int 0),.d (.str ByteArray.empty),.d (.str ByteArray.empty),.lit (.slice none 0 0),.lit (.slice none 0 0),.lit (.slice none 0 0)])),(6,some (.blk 32 [.d (.int 10),.d (.int tn),.d (.str ta),.d (.str tb),.d (Q7 tvs),.arr 400 0 ys.length,.arr 401 0 u.1.2.1.length])),(400,some (.arr 32 7 (ys.map Tm.row))),(401,some (.arr 42 9 (u.1.2.1.map Cs.row))),(1000,some (.blk 87 [.d (.int u.1.2.2)]))]⟩)
    (μ:=fun u=>tcs.length - u.1.1) ⟨(0,[],c1),⟨Nat.zero_le _,⟨by simp,rfl⟩⟩⟩ (Le.sub (by simp) (by simp)) (fun ⟨(i,ds,c3),⟨hi13,hw2⟩⟩=>?_)
   dsimp only at hi13 hw2 ⊢
   refine AWp.rg [] [] ?_ (hr:=by conv=>lhs;simp [Tm.row,Tm.Q3,Cs.Q3,Xj])
   repeat (first | refine AWp.seq ?_ | refine AWp.block ?_)
   refine AWp.cond rfl (fun hc=>?_) (fun hc=>?_)
   ·have hi1 : i < tcs.length:=by have:=of_decide_eq_true hc;omega
    clear hc
    have h1d : tcs[i]? = some tcs[i]:=List.getElem?_eq_getElem hi1
    have hmd : tcs[i]∈tcs:=List.getElem_mem hi1
    have hdd : tcs.drop i = tcs[i] :: tcs.drop (i + 1):=List.drop_eq_getElem_cons hi1
    generalize tcs[i] = d at h1d hmd hdd
    obtain ⟨hap,hdl⟩:=hw2
    have hdd2:=hCd d hmd
    have hdO:=hCO d hmd
    have hdS:=hCS d hmd
    obtain ⟨dt,dws,y⟩:=d
    rw [hdd,ruC] at hap
    have hx:=ih y c3 hdd2 hdO.2.2 hdS
    generalize y.ru N c3 = o at hx hap
    obtain ⟨z,c2⟩:=o
    dsimp only at hx hap
    obtain ⟨yk,yn,ya,yb,yvs,yxs,ycs⟩:=y
    obtain ⟨zk,zn,za,zb,zvs,zxs,zcs⟩:=z
    refine AWp.skip ?_
    refine AWp.rg [] [] ?_ (hr:=by conv=>lhs;simp [Tm.row,Tm.Q3,Cs.Q3,Xj,h1d,Cs.row])
    refine AWp.dw [] [.c [] [.ptr 1000 0,.agg [.d (.int yk),.d (.int yn),.d (.str ya),.d (.str yb),.d (Q7 yvs),.d (.sl (yxs.map Tm.row)),.d (.sl (ycs.map Cs.row))]] [(1000,.blk 87 [.d (.int c3)])] (.agg [.d (.int zk),.d (.int zn),.d (.str za),.d (.str zb),.d (Q7 zvs),.d (.sl (zxs.map Tm.row)),.d (.sl (zcs.map Cs.row))]) [(1000,.blk 87 [.d (.int c2)])]] mixed ?_ (hr:=by conv=>lhs;simp [Tm.row,Tm.Q3,Cs.Q3,Xj,h1d,Cs.row])
    refine AWp.rg [] [] ?_ (hr:=by conv=>lhs;simp [Tm.row,Tm.Q3,Cs.Q3,Xj,h1d,Cs.row])
    refine ⟨⟨(i + 1,ds ++ [.mk dt dws (.mk zk zn za zb zvs zxs zcs)],c2),hi1,⟨by rw [hap];simp,by simp [hdl]⟩⟩,by simp;omega,?_⟩
    dsimp only
    exact Le.sub (by simp [Cs.row,Tm.row,Tm.Q3,Cs.Q3,hdl]) (by simp [Cs.row,Tm.row,Tm.Q3,Cs.Q3,hdl])
   have hi1 : i = tcs.length:=by have:=of_decide_eq_false hc;omega
   subst hi1
   clear hc
   obtain ⟨hap,hdl⟩:=hw2
   rw [List.drop_length,ruC] at hap
   simp only [List.append_nil] at hap
   rw [hap] at hR
   dsimp only at hR
   subst hR
   refine AWp.exit ?_
   refine AWp.rg [] [] ?_ (hr:=by conv=>lhs;simp [Tm.row,Tm.Q3,Cs.Q3,Xj])
   refine AWp.ret ?_
   try dsimp only [Qq,Q8]
   apply Qv.Qq1 [400,401]
   ·rfl
   ·conv=>lhs;simp
   ·conv=>lhs;simp [Q9,Tryd.results41]
   ·rfl
   ·simp [Qj,Q4]
 refine AWp.dw [] [] mixed ?_ (hr:=by conv=>lhs;simp [Tm.row,Tm.Q3,Cs.Q3,Xj,h10])
 refine AWp.cn ?_
 refine AWp.skip ?_
 rw [if_neg (fun h=>by have h1:=h.1;have h2:=h.2;first | omega | simp at h2)] at hR
 have hLd : ∀ u∈txs,u.dp≤N:=fun u hu=>by have:=dpL_mem hu;split at hdp <;> omega
 have hCd : ∀ u∈tcs,u.dp≤N:=fun u hu=>by have:=cdpL_mem hu;split at hdp <;> omega
 have hLO:=hxO
 have hLS:=hxS
 have hCO:=hcO
 have hCS:=hcS
 have hLl:=o2
 have hCl:=o3
 refine AWp.rg [] [] ?_ (hr:=by conv=>lhs;simp [Tm.row,Tm.Q3,Cs.Q3,Xj,h10])
 refine AWp.rg [] [] ?_ (hr:=by conv=>lhs;simp [Tm.row,Tm.Q3,Cs.Q3,Xj,h10])
 refine AWp.rg [] [] ?_ (hr:=by conv=>lhs;simp [Tm.row,Tm.Q3,Cs.Q3,Xj,h10])
 repeat (first | refine AWp.seq ?_ | refine AWp.block ?_)
 refine AWp.le (Le.low [400] [] (fr:=[(0,.ptr 1000 0),(3,.ptr 3 0),(4,.ptr 4 0),(6,.ptr 6 0),(57,.d (.sl (txs.map Tm.row))),(58,.d (.int (txs.length : Int))),(59,.d (.int (0 : Int)))]) (mem:=[(3,some (.blk 32 [.d (.int tk),.d (.int tn),.d (.str ta),.d (.str tb),.d (Q7 tvs),.d (.sl (txs.map Tm.row)),.d (.sl (tcs.map Cs.row))])),(4,some (.blk 32 [.d (.int 0),.d (.int 0),.d (.str ByteArray.empty),.d (.str ByteArray.empty),.lit (.slice none 0 0),.lit (.slice none 0 0),.lit (.slice none 0 0)])),(6,some (.blk 32 [.d (.int tk),.d (.int tn),.d (.str ta),.d (.str tb),.d (Q7 tvs),.arr 400 0 ([] : List Tm).length,.lit (.slice none 0 0)])),(400,some (.arr 32 7 (([] : List Tm).map Tm.row))),(1000,some (.blk 87 [.d (.int (c : Int))]))]) rfl (by simp) (by simp)) ?_
 refine AWp.loop (σ:=fun u : {u : Nat×List Tm×Int // u.1≤txs.length∧(ruL (Tm.ru N) txs c = (u.2.1 ++ (ruL (Tm.ru N) (txs.drop u.1) u.2.2).1,(ruL (Tm.ru N) (txs.drop u.1) u.2.2).2)∧u.2.1.length = u.1)}=>⟨95,[(0,.ptr 1000 0),(3,.ptr 3 0),(4,.ptr 4 0),(6,.ptr 6 0),(57,.d (.sl (txs.map Tm.row))),(58,.d (.int (txs.length : Int))),(59,.d (.int (u.1.1 : Int)))],[(3,some (.blk 32 [.d (.int tk),.d (.int tn),.d (.str ta),.d (.str tb),.d (Q7 tvs),.d (.sl (txs.map Tm.row)),.d (.sl (tcs.map Cs.row))])),(4,some (.blk 32 [.d (.int 0),.d (.int 0),.d (.str ByteArray.empty),.d (.str ByteArray.empty),.lit (.slice none 0 0),.lit (.slice none 0 0),.lit (.slice none 0 0)])),(6,some (.blk 32 [.d (.int tk),.d (.int tn),.d (.str ta),.d (.str tb),.d (Q7 tvs),.arr 400 0 u.1.2.1.length,.lit (.slice none 0 0)])),(400,some (.arr 32 7 (u.1.2.1.map Tm.row))),(1000,some (.blk 87 [.d (.int u.1.2.2)]))]⟩)
  (μ:=fun u=>txs.length - u.1.1) ⟨(0,[],c),⟨Nat.zero_le _,⟨by simp,rfl⟩⟩⟩ (Le.sub (by simp) (by simp)) (fun ⟨(i,ys,c1),⟨hi8,hw⟩⟩=>?_)
 dsimp only at hi8 hw ⊢
 refine AWp.rg [] [] ?_ (hr:=by conv=>lhs;simp [Tm.row,Tm.Q3,Cs.Q3,Xj,h10])
 repeat (first | refine AWp.seq ?_ | refine AWp.block ?_)
 refine AWp.cond rfl (fun hc=>?_) (fun hc=>?_)
 ·have hi1 : i < txs.length:=by have:=of_decide_eq_true hc;omega
  clear hc
  have h1y : txs[i]? = some txs[i]:=List.getElem?_eq_getElem hi1
  have hmy : txs[i]∈txs:=List.getElem_mem hi1
  have hdy : txs.drop i = txs[i] :: txs.drop (i + 1):=List.drop_eq_getElem_cons hi1
  generalize txs[i] = y at h1y hmy hdy
  obtain ⟨hap,hyl⟩:=hw
  rw [hdy,ruL] at hap
  have hx:=ih y c1 (hLd y hmy) (hLO y hmy) (hLS y hmy)
  generalize y.ru N c1 = o at hx hap
  obtain ⟨z,c2⟩:=o
  dsimp only at hx hap
  obtain ⟨yk,yn,ya,yb,yvs,yxs,ycs⟩:=y
  obtain ⟨zk,zn,za,zb,zvs,zxs,zcs⟩:=z
  refine AWp.skip ?_
  refine AWp.rg [] [] ?_ (hr:=by conv=>lhs;simp [Tm.row,Tm.Q3,Cs.Q3,Xj,h1y,h10])
  refine AWp.dw [] [.c [] [.ptr 1000 0,.agg [.d (.int yk),.d (.int yn),.d (.str ya),.d (.str yb),.d (Q7 yvs),.d (.sl (yxs.map Tm.row)),.d (.sl (ycs.map Cs.row))]] [(1000,.blk 87 [.d (.int c1)])] (.agg [.d (.int zk),.d (.int zn),.d (.str za),.d (.str zb),.d (Q7 zvs),.d (.sl (zxs.map Tm.row)),.d (.sl (zcs.map Cs.row))]) [(1000,.blk 87 [.d (.int c2)])]] mixed ?_ (hr:=by conv=>lhs;simp [Tm.row,Tm.Q3,Cs.Q3,Xj,h1y,h10])
  refine AWp.rg [] [] ?_ (hr:=by conv=>lhs;simp [Tm.row,Tm.Q3,Cs.Q3,Xj,h1y,h10])
  refine ⟨⟨(i + 1,ys ++ [.mk zk zn za zb zvs zxs zcs],c2),hi1,⟨by rw [hap];simp,by simp [hyl]⟩⟩,by simp;omega,?_⟩
  dsimp only
  exact Le.sub (by simp [Tm.row,Tm.Q3,Cs.Q3,hyl]) (by simp [Tm.row,Tm.Q3,Cs.Q3,hyl])
 have hi1 : i = txs.length:=by have:=of_decide_eq_false hc;omega
 subst hi1
 clear hc
 obtain ⟨hap,hyl⟩:=hw
 rw [List.drop_length,ruL] at hap
 simp only [List.append_nil] at hap
 rw [hap] at hR
 dsimp only at hR
 clear hap
 refine AWp.exit ?_
 refine AWp.rg [] [] ?_ (hr:=by conv=>lhs;simp [Tm.row,Tm.Q3,Cs.Q3,Xj,h10])
 repeat (first | refine AWp.seq ?_ | refine AWp.block ?_)
 refine AWp.le (Le.low [401] [] (fr:=[(0,.ptr 1000 0),(4,.ptr 4 0),(6,.ptr 6 0),(73,.d (.sl (tcs.map Cs.row))),(74,.d (.int (tcs.length : Int))),(75,.d (.int (0 : Int)))]) (mem:=[(4,some (.blk 32 [.d (.int 0),.d (.int 0),.d (.str ByteArray.empty),.d (.str ByteArray.empty),.lit (.slice none 0 0),.lit (.slice none 0 0),.lit (.slice none 0 0)])),(6,some (.blk 32 [.d (.int tk),.d (.int tn),.d (.str ta),.d (.str tb),.d (Q7 tvs),.arr 400 0 ys.length,.arr 401 0 ([] : List Cs).length])),(400,some (.arr 32 7 (ys.map Tm.row))),(401,some (.arr 42 9 (([] : List Cs).map Cs.row))),(1000,some (.blk 87 [.d (.int (c1 : Int))]))]) rfl (by simp) (by simp)) ?_
 refine AWp.loop (σ:=fun u : {u : Nat×List Cs×Int // u.1≤tcs.length∧(ruC (Tm.ru N) tcs c1 = (u.2.1 ++ (ruC (Tm.ru N) (tcs.drop u.1) u.2.2).1,(ruC (Tm.ru N) (tcs.drop u.1) u.2.2).2)∧u.2.1.length = u.1)}=>⟨95,[(0,.ptr 1000 0),(4,.ptr 4 0),(6,.ptr 6 0),(73,.d (.sl (tcs.map Cs.row))),(74,.d (.int (tcs.length : Int))),(75,.d (.int (u.1.1 : Int)))],[(4,some (.blk 32 [.d (.int 0),.d (.int 0),.d (.str ByteArray.empty),.d (.str ByteArray.empty),.lit (.slice none 0 0),.lit (.slice none 0 0),.lit (.slice none 0 0)])),(6,some (.blk 32 [.d (.int tk),.d (.int tn),.d (.str ta),.d (.str tb),.d (Q7 tvs),.arr 400 0 ys.length,.arr 401 0 u.1.2.1.length])),(400,some (.arr 32 7 (ys.map Tm.row))),(401,some (.arr 42 9 (u.1.2.1.map Cs.row))),(1000,some (.blk 87 [.d (.int u.1.2.2)]))]⟩)
  (μ:=fun u=>tcs.length - u.1.1) ⟨(0,[],c1),⟨Nat.zero_le _,⟨by simp,rfl⟩⟩⟩ (Le.sub (by simp) (by simp)) (fun ⟨(i,ds,c3),⟨hi13,hw2⟩⟩=>?_)
 dsimp only at hi13 hw2 ⊢
 refine AWp.rg [] [] ?_ (hr:=by conv=>lhs;simp [Tm.row,Tm.Q3,Cs.Q3,Xj,h10])
 repeat (first | refine AWp.seq ?_ | refine AWp.block ?_)
 refine AWp.cond rfl (fun hc=>?_) (fun hc=>?_)
 ·have hi1 : i < tcs.length:=by have:=of_decide_eq_true hc;omega
  clear hc
  have h1d : tcs[i]? = some tcs[i]:=List.getElem?_eq_getElem hi1
  have hmd : tcs[i]∈tcs:=List.getElem_mem hi1
  have hdd : tcs.drop i = tcs[i] :: tcs.drop (i + 1):=List.drop_eq_getElem_cons hi1
  generalize tcs[i] = d at h1d hmd hdd
  obtain ⟨hap,hdl⟩:=hw2
  have hdd2:=hCd d hmd
  have hdO:=hCO d hmd
  have hdS:=hCS d hmd
  obtain ⟨dt,dws,y⟩:=d
  rw [hdd,ruC] at hap
  have hx:=ih y c3 hdd2 hdO.2.2 hdS
  generalize y.ru N c3 = o at hx hap
  obtain ⟨z,c2⟩:=o
  dsimp only at hx hap
  obtain ⟨yk,yn,ya,yb,yvs,yxs,ycs⟩:=y
  obtain ⟨zk,zn,za,zb,zvs,zxs,zcs⟩:=z
  refine AWp.skip ?_
  refine AWp.rg [] [] ?_ (hr:=by conv=>lhs;simp [Tm.row,Tm.Q3,Cs.Q3,Xj,h1d,Cs.row,h10])
  refine AWp.dw [] [.c [] [.ptr 1000 0,.agg [.d (.int yk),.d (.int yn),.d (.str ya),.d (.str yb),.d (Q7 yvs),.d (.sl (yxs.map Tm.row)),.d (.sl (ycs.map Cs.row))]] [(1000,.blk 87 [.d (.int c3)])] (.agg [.d (.int zk),.d (.int zn),.d (.str za),.d (.str zb),.d (Q7 zvs),.d (.sl (zxs.map Tm.row)),.d (.sl (zcs.map Cs.row))]) [(1000,.blk 87 [.d (.int c2)])]] mixed ?_ (hr:=by conv=>lhs;simp [Tm.row,Tm.Q3,Cs.Q3,Xj,h1d,Cs.row,h10])
  refine AWp.rg [] [] ?_ (hr:=by conv=>lhs;simp [Tm.row,Tm.Q3,Cs.Q3,Xj,h1d,Cs.row,h10])
  refine ⟨⟨(i + 1,ds ++ [.mk dt dws (.mk zk zn za zb zvs zxs zcs)],c2),hi1,⟨by rw [hap];simp,by simp [hdl]⟩⟩,by simp;omega,?_⟩
  dsimp only
  exact Le.sub (by simp [Cs.row,Tm.row,Tm.Q3,Cs.Q3,hdl]) (by simp [Cs.row,Tm.row,Tm.Q3,Cs.Q3,hdl])
 have hi1 : i = tcs.length:=by have:=of_decide_eq_false hc;omega
 subst hi1
 clear hc
 obtain ⟨hap,hdl⟩:=hw2
 rw [List.drop_length,ruC] at hap
 simp only [List.append_nil] at hap
 rw [hap] at hR
 dsimp only at hR
 subst hR
 refine AWp.exit ?_
 refine AWp.rg [] [] ?_ (hr:=by conv=>lhs;simp [Tm.row,Tm.Q3,Cs.Q3,Xj,h10])
 refine AWp.ret ?_
 try dsimp only [Qq,Q8]
 apply Qv.Qq1 [400,401]
 ·rfl
 ·conv=>lhs;simp
 ·conv=>lhs;simp [Q9,Tryd.results41]
 ·rfl
 ·simp [Qj,Q4]
theorem ru_all : ∀ N,RuN N
 | 0=>fun t c h=>by obtain ⟨tk,tn,ta,tb,tvs,txs,tcs⟩:=t;rw [Tm.dp] at h;split at h <;> omega
 | N + 1=>ru_step N (ru_all N)
set_option maxRecDepth 20000 in
set_option maxHeartbeats 16000000 in
theorem sp_RuFn (f : Fn) (h : f.body.Ok∧f.body.Fs) : Qw Tryd.prog 14 [W9 f] (fun _=>W9 f.ru) none:=by
 have hx:=ru_all f.body.dp f.body 0 (Nat.le_refl _) h.1 h.2
 unfold Fn.ru
 generalize f.body.ru f.body.dp 0 = o at hx ⊢
 obtain ⟨z,c2⟩:=o
 obtain ⟨fg,fps,⟨fk,fn,fa,fb,fvs,fxs,fcs⟩⟩:=f
 obtain ⟨zk,zn,za,zb,zvs,zxs,zcs⟩:=z
 dsimp only at hx
 refine Qw.of Tryd.func14 rfl rfl rfl (Nat.le_of_ble_eq_true rfl) ?_
 show AWp _ _ (Zk _ Tryd.f14 _ _ _) (Z7 13 _)
 refine AWp.rg [] [] ?_ (hr:=by conv=>lhs;simp [W9,Fn.row,Tm.row,Tm.Q3,Cs.Q3])
 refine AWp.dw [] [.c [(1000,8)] [.ptr 1000 0,.agg [.d (.int fk),.d (.int fn),.d (.str fa),.d (.str fb),.d (Q7 fvs),.d (.sl (fxs.map Tm.row)),.d (.sl (fcs.map Cs.row))]] [(1000,.blk 87 [.d (.int 0)])] (.agg [.d (.int zk),.d (.int zn),.d (.str za),.d (.str zb),.d (Q7 zvs),.d (.sl (zxs.map Tm.row)),.d (.sl (zcs.map Cs.row))]) [(1000,.blk 87 [.d (.int c2)])]] mixed ?_ (hr:=by conv=>lhs;simp [W9,Fn.row,Tm.row,Tm.Q3,Cs.Q3])
 refine AWp.ret ?_
 try dsimp only [Qq,Q8]
 apply Zk.ret
 ·rfl
 ·conv=>lhs;simp [Q9,Tryd.results14]
 rfl
set_option maxRecDepth 20000 in
set_option maxHeartbeats 16000000 in
theorem sp_EachReused (l : List Fn) (hl : l.length≤879609302220) (hall : ∀ f∈l,f.body.Ok∧f.body.Fs) : Qw Tryd.prog 32 [D7 l,.d (.fn 14)] (fun _=>D7 (l.map Fn.ru)) none:=by
 obtain ⟨G,hG⟩ : ∃ G,G = l.map Fn.ru:=⟨_,rfl⟩
 rw [← hG]
 refine Qw.of Tryd.func32 rfl rfl rfl (Nat.le_of_ble_eq_true rfl) ?_
 show AWp _ _ (Zk _ Tryd.f32 _ _ _) (Z7 22 _)
 refine AWp.rg [] [] ?_ (hr:=by conv=>lhs;simp [Fn.row,Tm.row,Tm.Q3,Cs.Q3])
 refine AWp.rg [] [] ?_ (hr:=by conv=>lhs;simp [Fn.row,Tm.row,Tm.Q3,Cs.Q3])
 refine AWp.rg [] [] ?_ (hr:=by conv=>lhs;simp [Fn.row,Tm.row,Tm.Q3,Cs.Q3])
 repeat (first | refine AWp.seq ?_ | refine AWp.block ?_)
 refine AWp.le (Le.low [400] [] (fr:=[(1,.d (.fn 14)),(5,.arr 400 0 ([] : List Fn).length),(8,.d (.sl (l.map Fn.row))),(9,.d (.int (l.length : Int))),(10,.d (.int (0 : Int)))]) (mem:=[(400,some (.arr 34 9 (([] : List Fn).map Fn.row)))]) rfl (by simp) (by simp)) ?_
 refine AWp.loop (σ:=fun u : {u : Nat×List Fn // u.1≤l.length∧u.2 = (l.take u.1).map Fn.ru}=>⟨22,[(1,.d (.fn 14)),(5,.arr 400 0 u.1.2.length),(8,.d (.sl (l.map Fn.row))),(9,.d (.int (l.length : Int))),(10,.d (.int (u.1.1 : Int)))],[(400,some (.arr 34 9 (u.1.2.map Fn.row)))]⟩)
  (μ:=fun u=>l.length - u.1.1) ⟨(0,[]),⟨Nat.zero_le _,by simp⟩⟩ (Le.sub (by simp) (by simp)) (fun ⟨(i,gs),⟨hi3,hw⟩⟩=>?_)
 dsimp only at hi3 hw ⊢
 refine AWp.rg [] [] ?_ (hr:=by conv=>lhs;simp [Fn.row,Tm.row,Tm.Q3,Cs.Q3])
 repeat (first | refine AWp.seq ?_ | refine AWp.block ?_)
 refine AWp.cond rfl (fun hc=>?_) (fun hc=>?_)
 ·have hi1 : i < l.length:=by have:=of_decide_eq_true hc;omega
  clear hc
  have h1f : l[i]? = some l[i]:=List.getElem?_eq_getElem hi1
  have hmf : l[i]∈l:=List.getElem_mem hi1
  have hdf : l.drop i = l[i] :: l.drop (i + 1):=List.drop_eq_getElem_cons hi1
  generalize l[i] = f at h1f hmf hdf
  have hgl : gs.length = i:=by rw [hw,List.length_map,List.length_take];omega
  have hx:=sp_RuFn f (hall f hmf)
  generalize hz : Fn.ru f = z at hx
  obtain ⟨fg,fps,⟨fk,fn,fa,fb,fvs,fxs,fcs⟩⟩:=f
  obtain ⟨zg,zps,⟨zk,zn,za,zb,zvs,zxs,zcs⟩⟩:=z
  dsimp only [W9] at hx
  refine AWp.skip ?_
  refine AWp.rg [] [] ?_ (hr:=by conv=>lhs;simp [Fn.row,Tm.row,Tm.Q3,Cs.Q3,h1f])
  refine AWp.rg [] [.p (fun _=>.agg [.d (.str zg),.d (Q7 zps),.d (.int zk),.d (.int zn),.d (.str za),.d (.str zb),.d (Q7 zvs),.d (.sl (zxs.map Tm.row)),.d (.sl (zcs.map Cs.row))]) none] ?_ (hr:=by conv=>lhs;simp [Fn.row,Tm.row,Tm.Q3,Cs.Q3,h1f])
  refine AWp.rg [] [] ?_ (hr:=by conv=>lhs;simp [Fn.row,Tm.row,Tm.Q3,Cs.Q3,h1f])
  refine ⟨⟨(i + 1,gs ++ [⟨zg,zps,.mk zk zn za zb zvs zxs zcs⟩]),hi1,by rw [hw,List.take_add_one,h1f,List.map_append,← hz];rfl⟩,by simp;omega,?_⟩
  dsimp only
  exact Le.sub (by simp [Fn.row,Tm.row,Tm.Q3,Cs.Q3,hgl]) (by simp [Fn.row,Tm.row,Tm.Q3,Cs.Q3,hgl])
 have hi1 : i = l.length:=by have:=of_decide_eq_false hc;omega
 subst hi1
 clear hc
 rw [List.take_length] at hw
 obtain rfl : gs = G:=by rw [hw,hG]
 refine AWp.exit ?_
 refine AWp.rg [] [] ?_ (hr:=by conv=>lhs;simp [Fn.row,Tm.row,Tm.Q3,Cs.Q3])
 refine AWp.ret ?_
 try dsimp only [Qq,Q8]
 apply Zk.Qq1 [400]
 ·rfl
 ·conv=>lhs;simp
 ·conv=>lhs;simp [Q9,Tryd.results32]
 rfl
end Go.Proofs.YtjpldhjgehoffaaDoor
namespace Go.Proofs.YtjpldhjgehoffaaDoor
open Classical Go.RowKit
set_option linter.unusedVariables false
set_option linter.unusedSimpArgs false
theorem fs_var {x : Tm} (h : x.tk = 1) (hS : x.Sh) : x.Fs:=by
 obtain ⟨k,n,a,b,vs,xs,cs⟩:=x
 have hk : k = 1:=h
 subst hk
 obtain rfl : xs = []:=hS.1 (.inl rfl)
 obtain rfl : cs = []:=hS.2.1 (by omega)
 exact ⟨by omega,by omega,trivial,trivial⟩
theorem end_zero {s : LS} {e : Int} (h : s.Nj e = 0) : e = 0:=by
 unfold LS.Nj at h
 split at h
 ·rename_i h1;simp at h
 ·exact h
theorem fs_lin : ∀ (N : Nat) (t : Tm),t.sz≤N→t.Sh→∀ s : LS,t.lin s = 0→t.Fs:=by
 intro N
 induction N with
 | zero=>intro t h;have:=t.F8;omega
 | succ N ih =>
  intro t hN hS s h
  obtain ⟨k,n,a,b,vs,xs,cs⟩:=t
  rw [Tm.sz] at hN
  have hX : ∀ x∈xs,x.sz≤N:=fun x hx=>by have:=Tm.Z4 hx;omega
  have hXS : ∀ x∈xs,x.Sh:=fun x hx=>Sv.1 hS.2.2.2.1 x hx
  rcases I5 h with rfl | rfl | hk | rfl | rfl | rfl | hk
  ·obtain rfl : xs = []:=hS.1 (.inl rfl)
   obtain rfl : cs = []:=hS.2.1 (by omega)
   exact ⟨by omega,by omega,trivial,trivial⟩
  ·obtain rfl : xs = []:=hS.1 (.inr rfl)
   obtain rfl : cs = []:=hS.2.1 (by omega)
   exact ⟨by omega,by omega,trivial,trivial⟩
  ·obtain rfl : cs = []:=hS.2.1 (by omega)
   rw [O9 hk] at h
   exact ⟨by omega,by omega,FsL_iff.2 fun x hx=>fs_var (Ik (end_zero h) x hx) (hXS x hx),trivial⟩
  ·obtain rfl : cs = []:=hS.2.1 (by omega)
   obtain ⟨-,h⟩:=lin12 h
   exact ⟨by omega,by omega,FsL_iff.2 fun x hx=>fs_var (Ik (end_zero h) x hx) (hXS x hx),trivial⟩
  ·obtain rfl : cs = []:=hS.2.1 (by omega)
   obtain ⟨x,y,rfl,-,h1,h2⟩:=lin6 h
   exact ⟨fun _=>⟨x,y,rfl⟩,by omega,⟨ih x (hX x (by simp)) (hXS x (by simp)) _ h1,ih y (hX y (by simp)) (hXS y (by simp)) _ h2,trivial⟩,trivial⟩
  ·obtain ⟨x,rfl,h1,-,h2⟩:=lin7 h
   refine ⟨by omega,by omega,⟨fs_var h1 (hXS x (by simp)),trivial⟩,Iq.2 fun c hc=>?_⟩
   have h3:=h2 c hc
   have hs:=Cs.Z4 hc
   have hSc:=Fj.1 hS.2.2.2.2 c hc
   obtain ⟨t,ws,y⟩:=c
   rw [Cs.sz] at hs
   exact ih y (by omega) hSc _ (P5 h3).2
  ·obtain rfl : cs = []:=hS.2.1 (by omega)
   obtain ⟨x,rfl,h1⟩:=linS hk h
   refine ⟨by omega,fun _=>⟨x,rfl⟩,⟨?_,trivial⟩,trivial⟩
   have hx:=ih x (hX x (by simp)) (hXS x (by simp))
   obtain ⟨e8,e9,e13,e10,e11⟩:=h1
   rcases hk with rfl | rfl | rfl | rfl | rfl
   ·exact hx _ (e8 rfl).2
   ·exact hx _ (e9 rfl).2
   ·exact hx _ (e10 rfl).2
   ·exact hx _ (e11 rfl).2.2.2
   ·exact hx _ (e13 rfl).2
theorem mk1_fs {l : List Fn} (hl : Gv l) (hc : Y8 l = 0) : ∀ f∈mk1 l,f.body.Ok∧f.body.Fs:=fun f hf=>by
 have h:=lv1 hl hc f hf
 refine ⟨(mk1_fits hl hc f hf).1,?_⟩
 have h1:=h.lin
 rw [Fn.Qx5 h.nd] at h1
 exact fs_lin _ _ (Nat.le_refl _) h.shp.sh _ h1
end Go.Proofs.YtjpldhjgehoffaaDoor
