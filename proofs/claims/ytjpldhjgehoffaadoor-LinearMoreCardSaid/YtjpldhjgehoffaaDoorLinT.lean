import Derived.Test.YtjpldhjgehoffaaDoorLinF
namespace Go.Proofs.YtjpldhjgehoffaaDoor
open Classical Go.RowKit
set_option linter.unusedVariables false
set_option linter.unusedSimpArgs false
mutual
def Tm.S1 : Tm→Prop
 | .mk k n a b vs xs cs=>(k = 8∨k = 9∨k = 10→(∃ x,xs = [x])∧cs = [])∧Tm.S1L xs∧Cs.S1L cs
def Tm.S1L : List Tm→Prop
 | []=>True
 | x :: r=>x.S1∧Tm.S1L r
def Cs.S1L : List Cs→Prop
 | []=>True
 | c :: r=>c.S1∧Cs.S1L r
def Cs.S1 : Cs→Prop
 | .mk t ws y=>y.S1
end
theorem Qk0 : ∀ {l : List Tm},Tm.S1L l↔∀ x∈l,x.S1
 | []=>by simp [Tm.S1L]
 | x :: r=>by simp [Tm.S1L,Qk0 (l:=r)]
theorem P8 : ∀ {l : List Cs},Cs.S1L l↔∀ x∈l,x.S1
 | []=>by simp [Cs.S1L]
 | x :: r=>by simp [Cs.S1L,P8 (l:=r)]
theorem sr_all : ∀ (N : Nat) (t : Tm) (rest : List ByteArray),t.sz≤N→t.S1→∃ used,(t.sr rest).2.S1∧(∀ n∈used,n∈rest)∧(t.sr rest).1 = woN rest used∧(rest.Nodup→used.Nodup)∧t.stN = used ++ (t.sr rest).2.stN∧t.Xx = (t.sr rest).2.Xx∧t.stT = (t.sr rest).2.stT ∧
  ∀ s : LS,s.Ok→t.lin s = 0→∃ s',s'.Ok∧(∀ m,s'.c m = s.c m + occB used m)∧s'.tk = s.tk∧s'.inn = s.inn∧(∀ m,(lkA s'.ct m).isSome = ((lkA s.ct m).isSome || decide (m∈used)))∧(t.sr rest).2.lin s' = 0:=by
 intro N
 induction N with
 | zero=>intro t _ h;have:=t.F8;omega
 | succ N ih =>
  intro t rest hN hS
  obtain ⟨k,n,a,b,vs,xs,cs⟩:=t
  rw [Tm.sr]
  by_cases hc : k = 8∧hasB rest a = true
  ·rw [if_pos hc]
   obtain ⟨⟨x,rfl⟩,rfl⟩:=hS.1 (.inl hc.1)
   obtain ⟨rfl,ha⟩:=hc
   have ha:=Zx.1 ha
   rw [Tm.srL]
   have hxN : x.sz≤N:=by
    rw [Tm.sz] at hN
    simp only [Tm.szs] at hN
    omega
   obtain ⟨used,u1,u2,u3,u4,u5,u6,u7,u8⟩:=ih x (woN rest [a]) hxN hS.2.1.1
   have hau : a ∉ used:=fun h=>(J8.1 (u2 a h)).2 (by simp)
   refine ⟨a :: used,u1,fun m hm=>?_,?_,fun hn=>?_,?_,?_,?_,fun s hs h=>?_⟩
   ·rcases List.mem_cons.1 hm with rfl | hm
    ·exact ha
    ·exact (J8.1 (u2 m hm)).1
   ·rw [u3]
    unfold woN
    rw [List.filter_filter]
    refine List.filter_congr fun m _=>?_
    rw [Bool.eq_iff_iff]
    simp [Zx,Mj,and_comm,not_or]
   ·rw [List.nodup_cons]
    exact ⟨hau,u4 (hn.sublist List.filter_sublist)⟩
   ·rw [Tm.stN,if_pos (by omega),Tm.J6,Tm.J6,Cs.J6,u5];simp
   ·rw [Tm.Xx,if_neg (by omega),if_neg (by omega),Tm.Jq,Tm.Jq,Cs.Jq,u6];simp
   ·rw [Tm.stT,if_neg (by omega),Tm.J2,Tm.J2,Cs.J2,u7];simp
   ·obtain ⟨x',e,p8,-⟩:=linS (by omega) h
    injection e with e _
    subst e
    obtain ⟨-,g⟩:=p8 rfl
    obtain ⟨q1,q2⟩:=LS.F7 hs a
    obtain ⟨s',r1,r2,r3,r4,r5,r6⟩:=u8 _ q1 g
    refine ⟨s',r1,fun m=>?_,r3,r4,fun m=>?_,r6⟩
    ·rw [r2,q2,Qq4]
     split <;> omega
    ·rw [r5]
     unfold LS.inc
     dsimp only
     rw [X7]
     by_cases e : a = m
     ·subst e;simp
     ·rw [if_neg e]
      have e' : m≠a:=fun h=>e h.symm
      simp [e']
  ·rw [if_neg hc]
   refine ⟨[],hS,by simp,?_,fun _=>List.nodup_nil,rfl,rfl,rfl,fun s hs h=>⟨s,hs,fun m=>by simp [occB],rfl,rfl,fun m=>by simp,h⟩⟩
   unfold woN
   exact (List.filter_eq_self.2 fun m _=>by simp [hasB]).symm
theorem newL_inv (nm : ByteArray) : ∀ (ws : List ByteArray) {s : LS},(s.Wq nm ws).1 = 0→ws.Nodup∧∀ v∈ws,lkA s.ct v = none
 | [],s,_=>⟨List.nodup_nil,by simp⟩
 | v :: r,s,h=>by
  rw [LS.Wq] at h
  by_cases h1 : (lkA s.ct v).isSome = true
  ·rw [if_pos h1] at h;simp at h
  ·rw [if_neg h1] at h
   obtain ⟨h2,h3⟩:=newL_inv nm r h
   have h4 : lkA s.ct v = none:=by simpa using h1
   refine ⟨List.nodup_cons.2 ⟨fun hm=>?_,h2⟩,fun u hu=>?_⟩
   ·have:=h3 v hm
    dsimp only at this
    rw [X7,if_pos rfl] at this
    simp at this
   ·rcases List.mem_cons.1 hu with rfl | hu
    ·exact h4
    ·have:=h3 u hu
     dsimp only at this
     rw [X7] at this
     split at this
     ·simp at this
     ·exact this
theorem openL_of (nm : ByteArray) : ∀ (vs : List ByteArray) {s : LS},(∀ v∈vs,lkA s.inn v = some nm)→(s.Kj nm vs).1 = 0∧∀ m,(lkA (s.Kj nm vs).2.ct m).isSome = ((lkA s.ct m).isSome || decide (m∈vs))
 | [],s,_=>⟨rfl,fun m=>by simp [LS.Kj]⟩
 | v :: r,s,h=>by
  obtain ⟨h1,h2⟩:=openL_of nm r (s:=s.inc v) fun u hu=>h u (by simp [hu])
  rw [LS.Kj,if_neg (by rw [h v (by simp)];simp)]
  refine ⟨h1,fun m=>?_⟩
  rw [h2]
  unfold LS.inc
  dsimp only
  rw [X7]
  by_cases e : v = m
  ·subst e;simp
  ·rw [if_neg e]
   have e' : m≠v:=fun h=>e h.symm
   simp [e']
theorem lin10_of {n : Int} {a b : ByteArray} {vs : List ByteArray} {x : Tm} {cs : List Cs} {s : LS} (h : (s.Xv a vs).1 = 0) (h2 : x.lin (s.Xv a vs).2 = 0) : (Tm.mk 10 n a b vs [x] cs).lin s = 0:=by
 rw [Tm.lin,if_neg (by omega),if_neg (by omega),if_neg (by omega),if_neg (by omega),if_neg (by omega),if_neg (by omega),if_pos (by omega),if_neg (by simp),if_neg (by omega),if_neg (by omega),if_neg (by omega),if_neg (by simpa using h),if_neg (by omega)]
 exact Kq h2
theorem sim_of {s s' : LS} (hc : ∀ n,s.c n = s'.c n) (hk : ∀ n,(lkA s.ct n).isSome = (lkA s'.ct n).isSome) (hi : s.inn = s'.inn) (ht : s.tk = s'.tk) : s.Sim s':=by
 refine ⟨fun n=>?_,fun n=>by rw [hi],fun b=>by rw [ht]⟩
 have h1:=hc n
 have h2:=hk n
 unfold LS.c at h1
 cases h3 : lkA s.ct n with
 | none =>
  cases h4 : lkA s'.ct n with
  | none=>rfl
  | some k=>rw [h3,h4] at h2;simp at h2
 | some j =>
  cases h4 : lkA s'.ct n with
  | none=>rw [h3,h4] at h2;simp at h2
  | some k=>rw [h3,h4] at h1;simp at h1;rw [h1]
theorem fuOne_lin {nm : ByteArray} {ws : List ByteArray} {y : Tm} (hS : y.S1) {s : LS} (hs : s.Ok) (hw : ws.Nodup) (hi : ∀ v∈ws,lkA s.inn v = some nm) (hc : ∀ v∈ws,s.c v = 0) (hkn : ∀ v∈ws,(lkA s.ct v).isSome = true) (hn : nm ∉ ws) (h : y.lin s = 0) : (G7 7 1 nm ws y).lin s = 0:=by
 unfold G7
 split
 ·rename_i hcond
  obtain ⟨-,-,-,h9,hnm⟩:=hcond
  obtain ⟨used,u1,u2,u3,u4,-,-,-,u8⟩:=sr_all y.sz y ws (Nat.le_refl _) hS
  obtain ⟨s1,o1,c1,t1,i1,k1,l1⟩:=u8 s hs h
  generalize (y.sr ws).2 = z at *
  rw [u3]
  obtain ⟨k,n,a,b,vs,xs,cs⟩:=z
  rw [Tm.tk] at h9
  rw [Tm.nm] at hnm
  subst h9 hnm
  obtain ⟨⟨x,rfl⟩,rfl⟩:=u1.1 (.inr (.inl rfl))
  have ha0 : (Tm.mk 9 n a b vs [x] []).a0 = x:=rfl
  rw [ha0]
  obtain ⟨x',e,-,p9,-⟩:=linS (by omega) l1
  injection e with e _
  subst e
  obtain ⟨g0,g⟩:=p9 rfl
  obtain ⟨q1,q2,q3,q4,q5,q6⟩:=LS.Vw o1 g0
  have hau : a ∉ used:=fun hm=>hn (u2 a hm)
  have hun:=u4 hw
  have hca : 1≤s.c a:=by
   have:=c1 a
   rw [N8 hun,if_neg hau] at this
   omega
  obtain ⟨r1,r2⟩:=openL_of a ws (s:=s) hi
  obtain ⟨v1,v2,v3,v4⟩:=LS.openL_ok a ws hs r1
  have hu : ((s.Kj a ws).2.Yj a).1 = 0:=use_of (by rw [v2,N8 hw,if_neg hn];omega)
  obtain ⟨w1,w2,w3,w4,w5,-⟩:=LS.Vw v1 hu
  have he : s.Xv a ws = (s.Kj a ws).2.Yj a:=by unfold LS.Xv;rw [if_neg (by simpa using r1)]
  refine lin10_of (by rw [he];exact hu) ?_
  rw [he]
  obtain ⟨s2,o2,c2,t2,i2,k2,step⟩:=cnt9_lin (woN ws used) x w1 (hw.sublist List.filter_sublist) fun m hm=>by
   have hmw:=(J8.1 hm).1
   rw [w2,v2,N8 hw,if_pos hmw,hc m hmw,if_neg (fun e=>hn (by rw [e];exact hmw))];omega
  refine step (Cv x.sz x (Nat.le_refl _) _ _ q1 o2 (sim_of (fun m=>?_) (fun m=>?_) ?_ ?_) g)
  ·rw [q2,c1,c2,w2,v2,N8 hun,N8 hw]
   by_cases e : a = m
   ·subst e
    rw [if_pos rfl,if_neg hau,if_neg (fun hh=>hn (J8.1 hh).1),if_pos rfl,if_neg hn]
   ·rw [if_neg e,if_neg e]
    by_cases h1 : m∈ws
    ·by_cases h2 : m∈used
     ·rw [if_pos h2,if_neg (fun hh=>(J8.1 hh).2 h2),if_pos h1]
     ·rw [if_neg h2,if_pos (J8.2 ⟨h1,h2⟩),if_pos h1];omega
    ·rw [if_neg (fun hh=>h1 (u2 m hh)),if_neg (fun hh=>h1 (J8.1 hh).1),if_neg h1]
  ·rw [q5,k1,k2,w5,r2]
   by_cases h1 : m∈ws
   ·rw [hkn m h1];rfl
   ·have h2 : m ∉ used:=fun hh=>h1 (u2 m hh)
    simp [h1,h2]
  ·rw [q4,i1,i2,w4,v4]
  ·rw [q3,t1,t2,w3,v3]
 ·exact h
theorem Tm.fu_tk (t : Tm) : t.fu.tk = t.tk:=by
 obtain ⟨k,n,a,b,vs,xs,cs⟩:=t
 rw [Tm.fu];rfl
theorem useL_fu : ∀ (xs : List Tm) (s : LS),s.Vv (Tm.fuL xs) = s.Vv xs
 | [],s=>rfl
 | x :: r,s=>by
  rw [Tm.fuL,LS.Vv,LS.Vv,Tm.fu_tk,Tm.fu_nm,useL_fu r]
theorem fuL_length : ∀ xs : List Tm,(Tm.fuL xs).length = xs.length
 | []=>rfl
 | x :: r=>by rw [Tm.fuL,List.length_cons,List.length_cons,fuL_length r]
theorem cnt_S1 {k : Int} : ∀ (l : List ByteArray) {t : Tm},t.S1→(cnt k l t).S1
 | [],_,h=>h
 | s :: r,t,h=>⟨fun _=>⟨⟨_,rfl⟩,rfl⟩,⟨cnt_S1 r h,trivial⟩,trivial⟩
theorem fuOne_st {k : Int} {na : Nat} {nm : ByteArray} {ws : List ByteArray} {y : Tm} (hS : y.S1) : (G7 k na nm ws y).S1∧(∀ n,n∈(G7 k na nm ws y).stN→n∈y.stN∨n∈ws)∧(∀ n,n∈y.stN→n∈(G7 k na nm ws y).stN∨n∈ws)∧(G7 k na nm ws y).Xx = y.Xx∧(G7 k na nm ws y).stT = y.stT:=by
 unfold G7
 split
 ·rename_i hcond
  obtain ⟨-,-,-,h9,hnm⟩:=hcond
  obtain ⟨used,u1,u2,u3,u4,u5,u6,u7,-⟩:=sr_all y.sz y ws (Nat.le_refl _) hS
  generalize (y.sr ws).2 = z at *
  rw [u3,u5,u6,u7]
  obtain ⟨k,n,a,b,vs,xs,cs⟩:=z
  rw [Tm.tk] at h9
  rw [Tm.nm] at hnm
  subst h9 hnm
  obtain ⟨⟨x,rfl⟩,rfl⟩:=u1.1 (.inr (.inl rfl))
  have ha0 : (Tm.mk 9 n a b vs [x] []).a0 = x:=rfl
  rw [ha0]
  have e1 : (Tm.mk 10 0 a .empty ws [cnt 9 (woN ws used) x] []).stN = a :: (woN ws used ++ x.stN):=by
   rw [Tm.stN,if_pos (by omega),Tm.J6,Tm.J6,Cs.J6,Sk (.inr rfl)];simp
  have e2 : (Tm.mk 9 n a b vs [x] []).stN = a :: x.stN:=by
   rw [Tm.stN,if_pos (by omega),Tm.J6,Tm.J6,Cs.J6];simp
  refine ⟨⟨fun _=>⟨⟨_,rfl⟩,rfl⟩,⟨cnt_S1 _ u1.2.1.1,trivial⟩,trivial⟩,fun m hm=>?_,fun m hm=>?_,?_,?_⟩
  ·rw [e1] at hm
   rw [e2]
   simp only [List.mem_cons,List.mem_append] at hm ⊢
   rcases hm with h | h | h
   ·exact .inl (.inr (.inl h))
   ·exact .inr (J8.1 h).1
   ·exact .inl (.inr (.inr h))
  ·rw [e2] at hm
   rw [e1]
   simp only [List.mem_cons,List.mem_append] at hm ⊢
   rcases hm with h | h | h
   ·exact .inr (u2 m h)
   ·exact .inl (.inl h)
   ·exact .inl (.inr (.inr h))
  ·rw [Tm.Xx,Tm.Xx,if_neg (by omega),if_neg (by omega),if_neg (by omega),if_neg (by omega),Tm.Jq,Tm.Jq,Tm.Jq,Tm.Jq,Fz (.inr rfl)]
  ·rw [Tm.stT,Tm.stT,if_neg (by omega),if_neg (by omega),Tm.J2,Tm.J2,Tm.J2,Tm.J2,Sj (.inr rfl)]
 ·exact ⟨hS,fun n h=>.inl h,fun n h=>.inl h,rfl,rfl⟩
theorem fu_st : ∀ (N : Nat) (t : Tm),t.sz≤N→t.S1→t.fu.S1∧(∀ n,n∈t.fu.stN→n∈t.stN∨n∈t.Xx)∧(∀ n,n∈t.stN→n∈t.fu.stN∨n∈t.Xx)∧t.fu.Xx = t.Xx∧t.fu.stT = t.stT:=by
 intro N
 induction N with
 | zero=>intro t h;have:=t.F8;omega
 | succ N ih =>
  intro t hN hS
  obtain ⟨k,n,a,b,vs,xs,cs⟩:=t
  obtain ⟨h1,h2,h3⟩:=hS
  rw [Tm.sz] at hN
  have hX : ∀ l : List Tm,(∀ x∈l,x∈xs)→Tm.S1L (Tm.fuL l)∧(∀ n,n∈Tm.J6 (Tm.fuL l)→n∈Tm.J6 l∨n∈Tm.Jq l)∧(∀ n,n∈Tm.J6 l→n∈Tm.J6 (Tm.fuL l)∨n∈Tm.Jq l)∧Tm.Jq (Tm.fuL l) = Tm.Jq l∧Tm.J2 (Tm.fuL l) = Tm.J2 l:=by
   intro l
   induction l with
   | nil=>intro _;exact ⟨trivial,by simp [Tm.fuL,Tm.J6],by simp [Tm.J6],rfl,rfl⟩
   | cons x r ih2 =>
    intro hm
    have hx:=hm x (by simp)
    obtain ⟨a1,a2,a3,a4,a5⟩:=ih x (by have:=Tm.Z4 hx;omega) (Qk0.1 h2 x hx)
    obtain ⟨b1,b2,b3,b4,b5⟩:=ih2 fun z hz=>hm z (by simp [hz])
    refine ⟨⟨a1,b1⟩,fun m h=>?_,fun m h=>?_,by rw [Tm.fuL,Tm.Jq,Tm.Jq,a4,b4],by rw [Tm.fuL,Tm.J2,Tm.J2,a5,b5]⟩
    ·rw [Tm.fuL,Tm.J6,List.mem_append] at h
     rw [Tm.J6,Tm.Jq,List.mem_append,List.mem_append]
     rcases h with h | h
     ·exact (a2 m h).elim (fun h=>.inl (.inl h)) fun h=>.inr (.inl h)
     ·exact (b2 m h).elim (fun h=>.inl (.inr h)) fun h=>.inr (.inr h)
    ·rw [Tm.J6,List.mem_append] at h
     rw [Tm.fuL,Tm.J6,Tm.Jq,List.mem_append,List.mem_append]
     rcases h with h | h
     ·exact (a3 m h).elim (fun h=>.inl (.inl h)) fun h=>.inr (.inl h)
     ·exact (b3 m h).elim (fun h=>.inl (.inr h)) fun h=>.inr (.inr h)
  have hC : ∀ l : List Cs,(∀ x∈l,x∈cs)→Cs.S1L (Cs.fuL k xs.length (nmH xs) l)∧(∀ n,n∈Cs.J6 (Cs.fuL k xs.length (nmH xs) l)→n∈Cs.J6 l∨n∈Cs.Jq l)∧(∀ n,n∈Cs.J6 l→n∈Cs.J6 (Cs.fuL k xs.length (nmH xs) l)∨n∈Cs.Jq l)∧Cs.Jq (Cs.fuL k xs.length (nmH xs) l) = Cs.Jq l∧Cs.J2 (Cs.fuL k xs.length (nmH xs) l) = Cs.J2 l:=by
   intro l
   induction l with
   | nil=>intro _;exact ⟨trivial,by simp [Cs.fuL,Cs.J6],by simp [Cs.J6],rfl,rfl⟩
   | cons c r ih2 =>
    intro hm
    have hc:=hm c (by simp)
    obtain ⟨b1,b2,b3,b4,b5⟩:=ih2 fun z hz=>hm z (by simp [hz])
    obtain ⟨t,ws,y⟩:=c
    have hsz : (Cs.mk t ws y).sz≤Cs.szs cs:=Cs.Z4 hc
    rw [Cs.sz] at hsz
    obtain ⟨a1,a2,a3,a4,a5⟩:=ih y (by omega) (P8.1 h3 _ hc)
    obtain ⟨c1,c2,c3,c4,c5⟩:=fuOne_st (k:=k) (na:=xs.length) (nm:=nmH xs) (ws:=ws) a1
    have e : (Cs.mk t ws y).fu k xs.length (nmH xs) = .mk t ws (G7 k xs.length (nmH xs) ws y.fu):=by rw [Cs.fu]
    refine ⟨⟨by rw [e];exact c1,b1⟩,fun m h=>?_,fun m h=>?_,by rw [Cs.fuL,Cs.Jq,Cs.Jq,e,b4,Cs.Xx,Cs.Xx,c4,a4],by rw [Cs.fuL,Cs.J2,Cs.J2,e,b5,Cs.stT,Cs.stT,c5,a5]⟩
    ·rw [Cs.fuL,Cs.J6,List.mem_append,e,Cs.stN] at h
     rw [Cs.J6,Cs.Jq,List.mem_append,List.mem_append,Cs.stN,Cs.Xx,List.mem_append]
     rcases h with h | h
     ·rcases c2 m h with h | h
      ·exact (a2 m h).elim (fun h=>.inl (.inl h)) fun h=>.inr (.inl (.inr h))
      ·exact .inr (.inl (.inl h))
     ·exact (b2 m h).elim (fun h=>.inl (.inr h)) fun h=>.inr (.inr h)
    ·rw [Cs.J6,List.mem_append,Cs.stN] at h
     rw [Cs.fuL,Cs.J6,Cs.Jq,List.mem_append,List.mem_append,e,Cs.stN,Cs.Xx,List.mem_append]
     rcases h with h | h
     ·rcases a3 m h with h | h
      ·rcases c3 m h with h | h
       ·exact .inl (.inl h)
       ·exact .inr (.inl (.inl h))
      ·exact .inr (.inl (.inr h))
     ·exact (b3 m h).elim (fun h=>.inl (.inr h)) fun h=>.inr (.inr h)
  obtain ⟨x1,x2,x3,x4,x5⟩:=hX xs fun _ h=>h
  obtain ⟨c1,c2,c3,c4,c5⟩:=hC cs fun _ h=>h
  rw [Tm.fu]
  refine ⟨⟨fun hk=>?_,x1,c1⟩,fun m h=>?_,fun m h=>?_,by rw [Tm.Xx,Tm.Xx,x4,c4],by rw [Tm.stT,Tm.stT,x5,c5]⟩
  ·obtain ⟨⟨x,rfl⟩,rfl⟩:=h1 hk
   exact ⟨⟨_,rfl⟩,rfl⟩
  ·rw [Tm.stN,List.mem_append,List.mem_append] at h
   rw [Tm.stN,Tm.Xx,List.mem_append,List.mem_append,List.mem_append,List.mem_append,List.mem_append]
   rcases h with h | h | h
   ·exact .inl (.inl h)
   ·exact (x2 m h).elim (fun h=>.inl (.inr (.inl h))) fun h=>.inr (.inr (.inr (.inl h)))
   ·exact (c2 m h).elim (fun h=>.inl (.inr (.inr h))) fun h=>.inr (.inr (.inr (.inr h)))
  ·rw [Tm.stN,List.mem_append,List.mem_append] at h
   rw [Tm.stN,Tm.Xx,List.mem_append,List.mem_append,List.mem_append,List.mem_append,List.mem_append]
   rcases h with h | h | h
   ·exact .inl (.inl h)
   ·exact (x3 m h).elim (fun h=>.inl (.inr (.inl h))) fun h=>.inr (.inr (.inr (.inl h)))
   ·exact (c3 m h).elim (fun h=>.inl (.inr (.inr h))) fun h=>.inr (.inr (.inr (.inr h)))
theorem fu_ask {t : Tm} (hS : t.S1) : t.fu.Fx = t.Fx∧t.fu.U7 = t.U7:=by
 obtain ⟨-,h2,h3,h4,h5⟩:=fu_st t.sz t (Nat.le_refl _) hS
 refine ⟨funext fun n=>?_,funext fun b=>?_⟩
 ·unfold Tm.Fx
  rw [h4,Bool.eq_iff_iff,Bool.and_eq_true,Bool.and_eq_true,Zx,Zx]
  constructor
  ·rintro ⟨h,hn⟩
   refine ⟨(h2 n h).resolve_right fun hh=>?_,hn⟩
   rw [Zx.2 hh] at hn;simp at hn
  ·rintro ⟨h,hn⟩
   refine ⟨(h3 n h).resolve_right fun hh=>?_,hn⟩
   rw [Zx.2 hh] at hn;simp at hn
 ·unfold Tm.U7
  rw [h4,h5]
theorem fu_lin : ∀ (N : Nat) (t : Tm),t.sz≤N→t.S1→∀ s : LS,s.Ok→t.lin s = 0→t.fu.lin s = 0:=by
 intro N
 induction N with
 | zero=>intro t h;have:=t.F8;omega
 | succ N ih =>
  intro t hN hS s hs h
  obtain ⟨k,n,a,b,vs,xs,cs⟩:=t
  obtain ⟨s1,s2,s3⟩:=hS
  rw [Tm.sz] at hN
  rw [Tm.fu]
  rcases I5 h with rfl | rfl | hk | rfl | rfl | rfl | hk
  ·rw [lin1] at h ⊢;exact h
  ·rw [lin2] at h ⊢;exact h
  ·rw [O9 hk] at h ⊢;rw [useL_fu];exact h
  ·obtain ⟨h1,h2⟩:=lin12 h
   rw [Tm.lin,if_neg (by omega),if_neg (by omega),if_neg (by omega),if_pos rfl,fuL_length,if_neg (by rw [h1];simp),useL_fu]
   exact h2
  ·obtain ⟨x,y,rfl,h1,h2,h3⟩:=lin6 h
   simp only [Tm.szs] at hN
   have hxs:=x.F8
   have hys:=y.F8
   obtain ⟨e1,e2⟩:=fu_ask s2.1
   have e3 : ∀ s : LS,s.fst x.fu = s.fst x:=fun s=>by unfold LS.fst;rw [e1,e2]
   have e4 : ∀ s : LS,s.rst x.fu = s.rst x:=fun s=>by unfold LS.rst;rw [e1,e2]
   refine lin6_of h1 ?_ ?_
   ·rw [e3];exact ih x (by omega) s2.1 _ (LS.Mk hs x) h2
   ·rw [e4];exact ih y (by omega) s2.2.1 _ (LS.G9 (LS.N7 hs x) a (by omega)) h3
  ·obtain ⟨x,rfl,hx,h1,h2⟩:=lin7 h
   have e : nmH [x] = x.nm:=rfl
   rw [Cs.Qj1,e]
   refine lin7_of (by rw [Tm.fu_tk];exact hx) (by rw [Tm.fu_nm];exact h1) fun c hc=>?_
   obtain ⟨c0,hc0,rfl⟩:=List.mem_map.1 hc
   obtain ⟨tg,ws,y⟩:=c0
   obtain ⟨g1,g2⟩:=P5 (h2 _ hc0)
   obtain ⟨n1,n2⟩:=newL_inv x.nm ws g1
   obtain ⟨-,m2,m3⟩:=newL_of x.nm ws (s:=s) n1 n2
   obtain ⟨q1,q2,q3⟩:=LS.M9 _ ws hs g1
   have hyN : y.sz≤N:=by
    have : (Cs.mk tg ws y).sz≤Cs.szs cs:=Cs.Z4 hc0
    rw [Cs.sz] at this
    omega
   have hyS : y.S1:=P8.1 s3 _ hc0
   have hfl:=ih y hyN hyS _ q1 g2
   rw [Cs.fu,Cs.lin,Tm.fu_nm,if_neg (by simpa using g1)]
   have hnw : x.nm ∉ ws:=fun hm=>by
    have:=n2 _ hm
    unfold LS.c at h1
    rw [this] at h1;simp at h1
   refine fuOne_lin (fu_st y.sz y (Nat.le_refl _) hyS).1 q1 n1 (fun v hv=>by rw [m3,if_pos hv]) (fun v hv=>?_) (fun v hv=>by rw [m2];simp [hv]) hnw hfl
   rw [q2]
   unfold LS.c
   rw [n2 v hv];rfl
  ·obtain ⟨x,rfl,p8,p9,p13,p10,p11⟩:=linS hk h
   have hxN : x.sz≤N:=by
    simp only [Tm.szs] at hN
    omega
   have hxS:=s2.1
   rw [Tm.fuL,Tm.fuL,Tm.lin,if_neg (by omega),if_neg (by omega),if_neg (by omega),if_neg (by omega),if_neg (by omega),if_neg (by omega),if_pos hk,if_neg (by simp)]
   rcases hk with rfl | rfl | rfl | rfl | rfl
   ·obtain ⟨g0,g⟩:=p8 rfl
    rw [if_pos rfl,if_pos g0]
    exact Kq (ih x hxN hxS _ (LS.F7 hs a).1 g)
   ·obtain ⟨g0,g⟩:=p9 rfl
    rw [if_neg (by omega),if_pos rfl,if_neg (by simpa using g0)]
    exact Kq (ih x hxN hxS _ (E5 hs a) g)
   ·obtain ⟨g0,g⟩:=p10 rfl
    rw [if_neg (by omega),if_neg (by omega),if_neg (by omega),if_neg (by simpa using g0),if_neg (by omega)]
    exact Kq (ih x hxN hxS _ (Dj hs a vs) g)
   ·obtain ⟨g0,gn,gb,g⟩:=p11 rfl
    rw [if_neg (by omega),if_neg (by omega),if_neg (by omega),if_neg (by simpa using g0),if_pos rfl,if_neg (by rw [gn];simp [gb])]
    exact Kq (ih x hxN hxS _ (LS.Rz (Dj hs a vs) ((Dj hs a vs).kt.put _ _)) g)
   ·obtain ⟨g0,g⟩:=p13 rfl
    rw [if_neg (by omega),if_neg (by omega),if_pos rfl,if_pos g0]
    exact Kq (ih x hxN hxS _ (LS.Rz hs (hs.kt.filter _)) g)
def kNm (c : Int) : ByteArray:=⟨#[107]⟩ ++ D5 c
mutual
def Tm.fits (m : Nat) : Tm→Bool
 | .mk k n a b vs xs cs=>if k = 3 then decide (xs.length = m) else if k = 6 then Tm.fitL m xs else if k = 7 then Cs.fitA m cs else if 8≤k∧k≠12 then Tm.fitH m xs else false
def Tm.fitL (m : Nat) : List Tm→Bool
 | []=>false
 | x :: r=>(decide (x.tk = 3) && decide (x.xs.length = m)) || Tm.fitH m r
def Tm.fitH (m : Nat) : List Tm→Bool
 | []=>false
 | x :: _=>x.fits m
def Cs.fitA (m : Nat) : List Cs→Bool
 | []=>false
 | c :: r=>c.fits m || Cs.fitA m r
def Cs.fits (m : Nat) : Cs→Bool
 | .mk t ws y=>y.fits m
end
mutual
def Tm.put (tok : ByteArray) (m : Nat) : Tm→Tm
 | .mk k n a b vs xs cs =>
  if (Tm.mk k n a b vs xs cs).fits m = false then .mk 13 0 .empty tok [] [.mk k n a b vs xs cs] []
  else if k = 3 then .mk 12 n a tok vs xs cs
  else if k = 6 then .mk k n a b vs (Tm.O8 tok m xs) cs
  else if k = 7 then .mk k n a b vs xs (Cs.X5 tok m cs)
  else .mk k n a b vs (Tm.G5 tok m xs) cs
def Tm.O8 (tok : ByteArray) (m : Nat) : List Tm→List Tm
 | []=>[]
 | x :: r=>if x.tk = 3∧x.xs.length = m then x.put tok m :: r else x :: Tm.G5 tok m r
def Tm.G5 (tok : ByteArray) (m : Nat) : List Tm→List Tm
 | []=>[]
 | x :: r=>x.put tok m :: r
def Cs.X5 (tok : ByteArray) (m : Nat) : List Cs→List Cs
 | []=>[]
 | c :: r=>c.put tok m :: Cs.X5 tok m r
def Cs.put (tok : ByteArray) (m : Nat) : Cs→Cs
 | .mk t ws y=>.mk t ws (y.put tok m)
end
theorem O1 (tok : ByteArray) (m : Nat) : ∀ l : List Cs,Cs.X5 tok m l = l.map (Cs.put tok m)
 | []=>rfl
 | c :: r=>by rw [Cs.X5,O1 tok m r];rfl
mutual
def Tm.NH : Tm→Prop
 | .mk k n a b vs xs cs=>k≠11∧Tm.NHL xs∧Cs.NHL cs
def Tm.NHL : List Tm→Prop
 | []=>True
 | x :: r=>x.NH∧Tm.NHL r
def Cs.NHL : List Cs→Prop
 | []=>True
 | c :: r=>c.NH∧Cs.NHL r
def Cs.NH : Cs→Prop
 | .mk t ws y=>y.NH
end
theorem NHL_iff : ∀ {l : List Tm},Tm.NHL l↔∀ x∈l,x.NH
 | []=>by simp [Tm.NHL]
 | x :: r=>by simp [Tm.NHL,NHL_iff (l:=r)]
theorem L8 : ∀ {l : List Cs},Cs.NHL l↔∀ x∈l,x.NH
 | []=>by simp [Cs.NHL]
 | x :: r=>by simp [Cs.NHL,L8 (l:=r)]
theorem Ow {n : ByteArray} : ∀ {l : List Tm},n∈Tm.J2 l↔∃ x∈l,n∈x.stT
 | []=>by simp [Tm.J2]
 | x :: r=>by simp [Tm.J2,Ow (l:=r)]
theorem A8 {n : ByteArray} : ∀ {l : List Cs},n∈Cs.J2 l↔∃ x∈l,n∈x.stT
 | []=>by simp [Cs.J2]
 | x :: r=>by simp [Cs.J2,A8 (l:=r)]
abbrev LS.tok (s : LS) (b : ByteArray) (m : Nat) : LS:={ s with tk:=X5 s.tk b (m : Int) }
theorem LS.tok_ok {s : LS} (h : s.Ok) (b : ByteArray) (m : Nat) : (s.tok b m).Ok:=LS.Rz h (h.kt.put _ _)
theorem useE_tk (s : LS) (T : List (ByteArray×Int)) (n : ByteArray) : ({ s with tk:=T } : LS).Yj n = ((s.Yj n).1,{ (s.Yj n).2 with tk:=T }):=by
 unfold LS.Yj
 dsimp only
 cases lkA s.ct n with
 | none=>rfl
 | some k =>
  dsimp only
  split <;> rfl
theorem inc_tk (s : LS) (T : List (ByteArray×Int)) (n : ByteArray) : ({ s with tk:=T } : LS).inc n = { s.inc n with tk:=T }:=rfl
theorem openL_tk (nm : ByteArray) (T : List (ByteArray×Int)) : ∀ (vs : List ByteArray) (s : LS),({ s with tk:=T } : LS).Kj nm vs = ((s.Kj nm vs).1,{ (s.Kj nm vs).2 with tk:=T })
 | [],s=>rfl
 | v :: r,s=>by
  rw [LS.Kj,LS.Kj]
  dsimp only
  split
  ·rfl
  ·rw [inc_tk,openL_tk nm T r (s.inc v)]
theorem openE_tk (s : LS) (T : List (ByteArray×Int)) (nm : ByteArray) (vs : List ByteArray) : ({ s with tk:=T } : LS).Xv nm vs = ((s.Xv nm vs).1,{ (s.Xv nm vs).2 with tk:=T }):=by
 unfold LS.Xv
 rw [openL_tk]
 dsimp only
 split
 ·rfl
 ·rw [useE_tk]
theorem newL_tk (nm : ByteArray) (T : List (ByteArray×Int)) : ∀ (vs : List ByteArray) (s : LS),({ s with tk:=T } : LS).Wq nm vs = ((s.Wq nm vs).1,{ (s.Wq nm vs).2 with tk:=T })
 | [],s=>rfl
 | v :: r,s=>by
  rw [LS.Wq,LS.Wq]
  dsimp only
  split
  ·rfl
  ·exact newL_tk nm T r { s with ct:=X5 s.ct v 0,inn:=X5 s.inn v nm }
theorem lin13_of {n : Int} {a b : ByteArray} {vs : List ByteArray} {x : Tm} {cs : List Cs} {s : LS} (h : (lkA s.tk b).isSome = true) (h2 : x.lin { s with tk:=Wz s.tk b } = 0) : (Tm.mk 13 n a b vs [x] cs).lin s = 0:=by
 rw [Tm.lin,if_neg (by omega),if_neg (by omega),if_neg (by omega),if_neg (by omega),if_neg (by omega),if_neg (by omega),if_pos (by omega),if_neg (by simp),if_neg (by omega),if_neg (by omega),if_pos rfl,if_pos h]
 exact Kq h2
theorem del_tok {s : LS} {b : ByteArray} {m : Nat} (h : lkA s.tk b = none) : ({ s.tok b m with tk:=Wz (s.tok b m).tk b } : LS).Sim s :=
 ⟨fun _=>rfl,fun _=>rfl,fun d=>by
  dsimp only
  rw [Hz,X7]
  by_cases e : b = d
  ·subst e;rw [if_pos rfl,h]
  ·rw [if_neg e,if_neg e]⟩
theorem put_lin (b : ByteArray) (m : Nat) : ∀ (N : Nat) (t : Tm),t.sz≤N→t.NH→t.Sh→b ∉ t.stT→∀ s : LS,s.Ok→lkA s.tk b = none→t.lin s = 0→(t.put b m).lin (s.tok b m) = 0:=by
 intro N
 induction N with
 | zero=>intro t h;have:=t.F8;omega
 | succ N ih =>
  intro t hN hH hSh hb s hs hk h
  obtain ⟨k,n,a,b0,vs,xs,cs⟩:=t
  obtain ⟨hk11,hHx,hHc⟩:=hH
  have hNN:=hN
  rw [Tm.sz] at hN
  have hst:=LS.tok_ok hs b m
  rw [Tm.put]
  split
  ·refine lin13_of (by rw [X7,if_pos rfl];rfl) ?_
   exact Cv _ _ (Nat.le_refl _) _ _ hs (LS.Rz hst (hst.kt.filter _)) ⟨fun _=>rfl,fun _=>rfl,fun d=>((del_tok (m:=m) hk).t d).symm⟩ h
  ·rename_i hfit
   have hfit : (Tm.mk k n a b0 vs xs cs).fits m = true:=by simpa using hfit
   rw [Tm.fits] at hfit
   split
   ·rename_i h3
    subst h3
    rw [if_pos rfl] at hfit
    have hm:=of_decide_eq_true hfit
    rw [O9 (.inl rfl)] at h
    rw [Tm.lin,if_neg (by omega),if_neg (by omega),if_neg (by omega),if_pos rfl,if_neg (by rw [X7,if_pos rfl,hm];simp)]
    have hsim:=del_tok (m:=m) hk
    obtain ⟨e1,e2⟩:=LS.Sim.Vv xs hsim
    rw [e1,e2.Nj (Az xs (LS.Rz hst (hst.kt.filter _))) (Az xs hs)]
    exact h
   ·rename_i h3
    rw [if_neg h3] at hfit
    split
    ·rename_i h6
     subst h6
     rw [if_pos rfl] at hfit
     obtain ⟨x,y,rfl,h1,h2,h4⟩:=lin6 h
     simp only [Tm.szs] at hN
     have hxs:=x.F8
     have hys:=y.F8
     have hbx : b ∉ x.stT:=fun hh=>hb (by rw [Tm.stT];simp only [List.mem_append,Ow];exact .inr (.inl ⟨x,by simp,hh⟩))
     have hby : b ∉ y.stT:=fun hh=>hb (by rw [Tm.stT];simp only [List.mem_append,Ow];exact .inr (.inl ⟨y,by simp,hh⟩))
     have hxa : x.U7 b = false:=by unfold Tm.U7;rw [Mj.2 hbx];rfl
     have hokF:=LS.Mk hs x
     have hokR:=LS.G9 (LS.N7 hs x) a (show (0 : Int)≤1 by omega)
     have hkF : lkA (s.fst x).tk b = none:=by unfold LS.fst;dsimp only;rw [Z9,hxa];rfl
     have hkR : lkA (s.rst x).tk b = none:=by unfold LS.rst;dsimp only;rw [Z9 (fun k=>!x.U7 k),hxa,hk];rfl
     rw [Tm.O8]
     split
     ·rename_i hx3
      -- in the first term
      have hg:=ih x (by omega) hHx.1 hSh.2.2.2.1.1 hbx _ hokF hkF h2
      have hxf : x.fits m = true:=by
       obtain ⟨xk,xn,xa,xb,xvs,xxs,xcs⟩:=x
       obtain ⟨e1,e2⟩:=hx3
       rw [Tm.tk] at e1
       subst e1
       rw [Tm.fits,if_pos rfl]
       exact decide_eq_true e2
      have hask : (x.put b m).Fx = x.Fx∧∀ d,(x.put b m).U7 d = (x.U7 d || (decide (d = b) && !hasB x.Xx (excl b))):=by
       obtain ⟨xk,xn,xa,xb,xvs,xxs,xcs⟩:=x
       obtain ⟨e1,e2⟩:=hx3
       rw [Tm.tk] at e1
       subst e1
       rw [Tm.put,if_neg (by rw [hxf];simp),if_pos rfl]
       have o1 : (Tm.mk 12 xn xa b xvs xxs xcs).Xx = (Tm.mk 3 xn xa xb xvs xxs xcs).Xx:=by rw [Tm.Xx,Tm.Xx];rfl
       have o2 : (Tm.mk 12 xn xa b xvs xxs xcs).stN = (Tm.mk 3 xn xa xb xvs xxs xcs).stN:=by rw [Tm.stN,Tm.stN];rfl
       have o3 : (Tm.mk 12 xn xa b xvs xxs xcs).stT = b :: (Tm.mk 3 xn xa xb xvs xxs xcs).stT:=by rw [Tm.stT,Tm.stT];rfl
       refine ⟨funext fun d=>by unfold Tm.Fx;rw [o1,o2],fun d=>?_⟩
       unfold Tm.U7
       rw [o1,o3]
       have : hasB (b :: (Tm.mk 3 xn xa xb xvs xxs xcs).stT) d = (decide (d = b) || hasB (Tm.mk 3 xn xa xb xvs xxs xcs).stT d):=by
        rw [Bool.eq_iff_iff,Zx,Bool.or_eq_true,Zx];simp
       rw [this]
       by_cases e : d = b
       ·subst e;cases hasB (Tm.mk 3 xn xa xb xvs xxs xcs).stT d <;> cases hasB (Tm.mk 3 xn xa xb xvs xxs xcs).Xx (excl d) <;> simp
       ·simp [e]
      obtain ⟨q1,q2⟩:=hask
      have hown : x.Xx = []:=by
       have hSx:=(Sv.1 hSh.2.2.2.1 x (by simp))
       obtain ⟨xk,xn,xa,xb,xvs,xxs,xcs⟩:=x
       obtain ⟨e1,e2⟩:=hx3
       rw [Tm.tk] at e1
       subst e1
       rw [O9 (.inl rfl)] at h2
       have htk:=Ik (LS.F4 h2).1
       obtain ⟨-,z2,-,z4,-⟩:=hSx
       rw [z2 (by omega),Tm.Xx,if_neg (by omega),if_neg (by omega),Cs.Jq]
       have : ∀ l : List Tm,(∀ x∈l,x∈xxs)→Tm.Jq l = []:=by
        intro l
        induction l with
        | nil=>intro _;rfl
        | cons w r ih2 =>
         intro hm
         have hw1:=htk w (hm w (by simp))
         have hwS:=Sv.1 z4 w (hm w (by simp))
         obtain ⟨wk,wn,wa,wb,wvs,wxs,wcs⟩:=w
         rw [Tm.tk] at hw1
         subst hw1
         rw [Tm.Jq,ih2 fun z hz=>hm z (by simp [hz]),hwS.1 (.inl rfl),hwS.2.1 (by omega),Tm.Xx,if_neg (by omega),if_neg (by omega)]
         rfl
       rw [this xxs fun _ h=>h];rfl
      have q2' : ∀ d,(x.put b m).U7 d = (x.U7 d || decide (d = b)):=fun d=>by rw [q2,hown];simp [hasB]
      refine lin6_of h1 ?_ ?_
      ·refine Cv _ _ (Nat.le_refl _) _ _ (LS.tok_ok hokF b m) (LS.Mk hst _) ⟨fun d=>?_,fun d=>rfl,fun d=>?_⟩ hg
       ·unfold LS.fst
        rw [q1]
       ·unfold LS.fst
        dsimp only
        rw [X7,Z9 x.U7,Z9 (x.put b m).U7,X7,q2']
        by_cases e : b = d
        ·subst e;rw [if_pos rfl,if_pos rfl];simp
        ·rw [if_neg e,if_neg e]
         have e' : ¬ d = b:=fun h=>e h.symm
         simp [e']
      ·refine Cv _ _ (Nat.le_refl _) _ _ hokR (LS.G9 (LS.N7 hst _) a (by omega)) ⟨fun d=>?_,fun d=>rfl,fun d=>?_⟩ h4
       ·unfold LS.rst
        rw [q1]
       ·unfold LS.rst
        dsimp only
        rw [Z9 (fun k=>!x.U7 k),Z9 (fun k=>!(x.put b m).U7 k),X7,q2']
        by_cases e : b = d
        ·subst e;rw [hk];simp
        ·rw [if_neg e]
         have e' : ¬ d = b:=fun h=>e h.symm
         simp [e']
     ·rw [Tm.G5]
      refine lin6_of h1 ?_ ?_
      ·refine Cv _ _ (Nat.le_refl _) _ _ hokF (LS.Mk hst _) ⟨fun d=>rfl,fun d=>rfl,fun d=>?_⟩ h2
       unfold LS.fst
       dsimp only
       rw [Z9 x.U7,Z9 x.U7,X7]
       by_cases e : b = d
       ·subst e;rw [hxa];rfl
       ·rw [if_neg e]
      ·have hg:=ih y (by omega) hHx.2.1 hSh.2.2.2.1.2.1 hby _ hokR hkR h4
       refine Cv _ _ (Nat.le_refl _) _ _ (LS.tok_ok hokR b m) (LS.G9 (LS.N7 hst _) a (by omega)) ⟨fun d=>rfl,fun d=>rfl,fun d=>?_⟩ hg
       unfold LS.rst
       dsimp only
       rw [X7,Z9 (fun k=>!x.U7 k),Z9 (fun k=>!x.U7 k),X7]
       by_cases e : b = d
       ·subst e;rw [if_pos rfl,if_pos rfl,hxa];rfl
       ·rw [if_neg e,if_neg e]
    ·rename_i h6
     rw [if_neg h6] at hfit
     split
     ·rename_i h7
      subst h7
      obtain ⟨x,rfl,hx,h1,h2⟩:=lin7 h
      rw [O1]
      refine lin7_of hx h1 fun c hc=>?_
      obtain ⟨c0,hc0,rfl⟩:=List.mem_map.1 hc
      obtain ⟨tg,ws,y⟩:=c0
      obtain ⟨g1,g2⟩:=P5 (h2 _ hc0)
      obtain ⟨q1,q2,q3⟩:=LS.M9 _ ws hs g1
      have hyN : y.sz≤N:=by
       have : (Cs.mk tg ws y).sz≤Cs.szs cs:=Cs.Z4 hc0
       rw [Cs.sz] at this
       omega
      have hby : b ∉ y.stT:=fun hh=>hb (by rw [Tm.stT];simp only [List.mem_append,A8];exact .inr (.inr ⟨_,hc0,by rw [Cs.stT];exact hh⟩))
      have hg:=ih y hyN (L8.1 hHc _ hc0) (Fj.1 hSh.2.2.2.2 _ hc0) hby _ q1 (by rw [q3];exact hk) g2
      rw [Cs.put,Cs.lin,newL_tk]
      dsimp only
      rw [if_neg (by simpa using g1)]
      unfold LS.tok at hg
      rw [q3] at hg
      exact hg
     ·rename_i h7
      rw [if_neg h7] at hfit
      by_cases hk8 : 8≤k∧k≠12
      ·have hkS : k = 8∨k = 9∨k = 10∨k = 11∨k = 13:=by
        rcases I5 h with e | e | e | e | e | e | e <;> omega
       obtain ⟨x,rfl,p8,p9,p13,p10,-⟩:=linS hkS h
       have hxN : x.sz≤N:=by
        simp only [Tm.szs] at hN
        omega
       have hbx : b ∉ x.stT:=fun hh=>hb (by rw [Tm.stT];simp only [List.mem_append,Ow];exact .inr (.inl ⟨x,by simp,hh⟩))
       have hxS:=hSh.2.2.2.1.1
       have hxH:=hHx.1
       rw [Tm.G5]
       rcases hkS with rfl | rfl | rfl | rfl | rfl
       ·obtain ⟨g0,g⟩:=p8 rfl
        exact lin8_of g0 (ih x hxN hxH hxS hbx _ (LS.F7 hs a).1 hk g)
       ·obtain ⟨g0,g⟩:=p9 rfl
        obtain ⟨q1,-,q3,-⟩:=LS.Vw hs g0
        have hg:=ih x hxN hxH hxS hbx _ q1 (by rw [q3];exact hk) g
        refine lin9_of (by rw [useE_tk];exact g0) ?_
        rw [useE_tk]
        unfold LS.tok at hg
        rw [q3] at hg
        exact hg
       ·obtain ⟨g0,g⟩:=p10 rfl
        obtain ⟨q1,-,q3⟩:=LS.H8 hs g0
        have hg:=ih x hxN hxH hxS hbx _ q1 (by rw [q3];exact hk) g
        refine lin10_of (by rw [openE_tk];exact g0) ?_
        rw [openE_tk]
        unfold LS.tok at hg
        rw [q3] at hg
        exact hg
       ·exact absurd rfl hk11
       ·obtain ⟨g0,g⟩:=p13 rfl
        have hne : b≠b0:=fun e=>hb (by rw [Tm.stT,if_pos (by omega),e];simp)
        have hg:=ih x hxN hxH hxS hbx _ (LS.Rz hs (hs.kt.filter _)) (show lkA (Wz s.tk b0) b = none by rw [Hz,if_neg (fun e=>hne e.symm)];exact hk) g
        refine lin13_of (by rw [X7,if_neg hne];exact g0) ?_
        refine Cv _ _ (Nat.le_refl _) _ _ (LS.tok_ok (LS.Rz hs (hs.kt.filter _)) b m) (LS.Rz hst (hst.kt.filter _)) ⟨fun d=>rfl,fun d=>rfl,fun d=>?_⟩ hg
        show lkA (X5 (Wz s.tk b0) b (m : Int)) d = lkA (Wz (X5 s.tk b (m : Int)) b0) d
        rw [X7,Hz,Hz,X7]
        by_cases e : b0 = d
        ·subst e;rw [if_neg hne,if_pos rfl,if_pos rfl]
        ·rw [if_neg e,if_neg e]
      ·rw [if_neg hk8] at hfit
       simp at hfit
section
variable (f : Tm→Int→Tm×Int)
def ruL : List Tm→Int→List Tm×Int
 | [],c=>([],c)
 | x :: r,c=>((f x c).1 :: (ruL r (f x c).2).1,(ruL r (f x c).2).2)
def ruC : List Cs→Int→List Cs×Int
 | [],c=>([],c)
 | .mk t ws y :: r,c=>(.mk t ws (f y c).1 :: (ruC r (f y c).2).1,(ruC r (f y c).2).2)
end
def Tm.ru : Nat→Tm→Int→Tm×Int
 | 0,t,c=>(t,c)
 | N + 1,.mk k n a b vs xs cs,c =>
  if k = 10∧Tm.fitH vs.length xs = true then
   (.mk 11 0 a (kNm (wr (c + 1))) vs (ruL (Tm.ru N) (Tm.G5 (kNm (wr (c + 1))) vs.length xs) (wr (c + 1))).1 [],(ruL (Tm.ru N) (Tm.G5 (kNm (wr (c + 1))) vs.length xs) (wr (c + 1))).2)
  else (.mk k n a b vs (ruL (Tm.ru N) xs c).1 (ruC (Tm.ru N) cs (ruL (Tm.ru N) xs c).2).1,(ruC (Tm.ru N) cs (ruL (Tm.ru N) xs c).2).2)
mutual
def Tm.dp : Tm→Nat
 | .mk k n a b vs xs cs=>(if k = 10 then 2 else 1) + max (Tm.dpL xs) (Cs.dpL cs)
def Tm.dpL : List Tm→Nat
 | []=>0
 | x :: r=>max x.dp (Tm.dpL r)
def Cs.dpL : List Cs→Nat
 | []=>0
 | c :: r=>max c.dp (Cs.dpL r)
def Cs.dp : Cs→Nat
 | .mk t ws y=>y.dp
end
mutual
def Tm.nt : Tm→Nat
 | .mk k n a b vs xs cs=>(if k = 10 then 1 else 0) + (Tm.ntL xs + Cs.ntL cs)
def Tm.ntL : List Tm→Nat
 | []=>0
 | x :: r=>x.nt + Tm.ntL r
def Cs.ntL : List Cs→Nat
 | []=>0
 | c :: r=>c.nt + Cs.ntL r
def Cs.nt : Cs→Nat
 | .mk t ws y=>y.nt
end
theorem dpL_mem {x : Tm} : ∀ {l : List Tm},x∈l→x.dp≤Tm.dpL l
 | y :: r,h=>by
  rw [Tm.dpL]
  rcases List.mem_cons.1 h with rfl | h
  ·omega
  ·have:=dpL_mem h;omega
theorem cdpL_mem {x : Cs} : ∀ {l : List Cs},x∈l→x.dp≤Cs.dpL l
 | y :: r,h=>by
  rw [Cs.dpL]
  rcases List.mem_cons.1 h with rfl | h
  ·omega
  ·have:=cdpL_mem h;omega
mutual
def Tm.Nx : Tm→Prop
 | .mk k n a b vs xs cs=>(k = 1∨k = 6∨k = 8→∀ d,a≠excl d)∧(k = 10→∀ v∈vs,∀ d,v≠excl d)∧Tm.NxL xs∧Cs.NxL cs
def Tm.NxL : List Tm→Prop
 | []=>True
 | x :: r=>x.Nx∧Tm.NxL r
def Cs.NxL : List Cs→Prop
 | []=>True
 | c :: r=>c.Nx∧Cs.NxL r
def Cs.Nx : Cs→Prop
 | .mk t ws y=>(∀ v∈ws,∀ d,v≠excl d)∧y.Nx
end
theorem NxL_iff : ∀ {l : List Tm},Tm.NxL l↔∀ x∈l,x.Nx
 | []=>by simp [Tm.NxL]
 | x :: r=>by simp [Tm.NxL,NxL_iff (l:=r)]
theorem P9 : ∀ {l : List Cs},Cs.NxL l↔∀ x∈l,x.Nx
 | []=>by simp [Cs.NxL]
 | x :: r=>by simp [Cs.NxL,P9 (l:=r)]
theorem excl_ne : ∀ d,ByteArray.empty≠excl d:=fun d e=>by
 have:=congrArg ByteArray.size e
 unfold excl at this
 rw [ByteArray.size_append] at this
 have h1 : (⟨#[33]⟩ : ByteArray).size = 1:=rfl
 have h0 : (ByteArray.empty).size = 0:=rfl
 omega
theorem excl_inj {a b : ByteArray} (h : excl a = excl b) : a = b:=Fw h
theorem kNm_inj {a b : Int} (ha : 0≤a) (hb : 0≤b) (h : kNm a = kNm b) : a = b:=itoaB_inj ha hb (Fw h)
theorem kNm_ne (c : Int) : kNm c≠.empty:=fun e=>by
 have:=congrArg ByteArray.size e
 unfold kNm at this
 rw [ByteArray.size_append] at this
 have h1 : (⟨#[107]⟩ : ByteArray).size = 1:=rfl
 have h0 : (ByteArray.empty).size = 0:=rfl
 omega
structure PutR (b : ByteArray) (t u : Tm) : Prop where
 dp : u.dp≤t.dp + 1
 nt : u.nt = t.nt
 nx : t.Nx→u.Nx
 nh : t.NH→u.NH
 sh : t.Sh→u.Sh
 sn : ∀ n,n∈u.stN↔n∈t.stN
 ow : ∀ n,n∈u.Xx↔n∈t.Xx
 st : ∀ d,d∈u.stT→d∈t.stT∨d = b
theorem put_r (b : ByteArray) (m : Nat) : ∀ (N : Nat) (t : Tm),t.sz≤N→PutR b t (t.put b m):=by
 intro N
 induction N with
 | zero=>intro t h;have:=t.F8;omega
 | succ N ih =>
  intro t hN
  obtain ⟨k,n,a,b0,vs,xs,cs⟩:=t
  rw [Tm.sz] at hN
  -- a list one of whose terms is put
  have hone : ∀ (x u : Tm) (r : List Tm),PutR b x u→Tm.dpL (u :: r)≤Tm.dpL (x :: r) + 1∧Tm.ntL (u :: r) = Tm.ntL (x :: r)∧(Tm.NxL (x :: r)→Tm.NxL (u :: r))∧(Tm.NHL (x :: r)→Tm.NHL (u :: r))∧(Tm.ShL (x :: r)→Tm.ShL (u :: r))∧(∀ n,n∈Tm.J6 (u :: r)↔n∈Tm.J6 (x :: r))∧(∀ n,n∈Tm.Jq (u :: r)↔n∈Tm.Jq (x :: r))∧∀ d,d∈Tm.J2 (u :: r)→d∈Tm.J2 (x :: r)∨d = b:=fun x u r h=>by
   refine ⟨?_,?_,fun hh=>⟨h.nx hh.1,hh.2⟩,fun hh=>⟨h.nh hh.1,hh.2⟩,fun hh=>⟨h.sh hh.1,hh.2⟩,fun n=>?_,fun n=>?_,fun d hd=>?_⟩
   ·have:=h.dp
    rw [Tm.dpL,Tm.dpL];omega
   ·rw [Tm.ntL,Tm.ntL,h.nt]
   ·rw [Tm.J6,Tm.J6,List.mem_append,List.mem_append,h.sn]
   ·rw [Tm.Jq,Tm.Jq,List.mem_append,List.mem_append,h.ow]
   ·rw [Tm.J2,List.mem_append] at hd ⊢
    rcases hd with hd | hd
    ·exact (h.st d hd).elim (fun h=>.inl (.inl h)) .inr
    ·exact .inl (.inr hd)
  rw [Tm.put]
  split
  ·refine ⟨?_,?_,fun h=>⟨fun _=>excl_ne,fun _=>by simp,⟨h,trivial⟩,trivial⟩,fun h=>⟨by omega,⟨h,trivial⟩,trivial⟩,fun h=>⟨by omega,fun _=>rfl,by omega,⟨h,trivial⟩,trivial⟩,fun m=>?_,fun m=>?_,fun d hd=>?_⟩
   ·generalize Tm.mk k n a b0 vs xs cs = t
    rw [Tm.dp,if_neg (by omega),Tm.dpL,Tm.dpL,Cs.dpL];omega
   ·generalize Tm.mk k n a b0 vs xs cs = t
    rw [Tm.nt,if_neg (by omega),Tm.ntL,Tm.ntL,Cs.ntL];omega
   ·generalize Tm.mk k n a b0 vs xs cs = t
    rw [Tm.stN,if_neg (by omega),Tm.J6,Tm.J6,Cs.J6];simp
   ·generalize Tm.mk k n a b0 vs xs cs = t
    rw [Tm.Xx,if_neg (by omega),if_neg (by omega),Tm.Jq,Tm.Jq,Cs.Jq];simp
   ·generalize Tm.mk k n a b0 vs xs cs = t at hd ⊢
    rw [Tm.stT,if_pos (by omega),Tm.J2,Tm.J2,Cs.J2] at hd
    simp at hd
    exact hd.elim .inr .inl
  split
  ·rename_i h3
   subst h3
   refine ⟨?_,?_,fun h=>⟨by omega,by omega,h.2.2⟩,fun h=>⟨by omega,h.2⟩,fun h=>⟨by omega,fun _=>h.2.1 (by omega),by omega,h.2.2.2⟩,fun m=>?_,fun m=>?_,fun d hd=>?_⟩
   ·rw [Tm.dp,Tm.dp,if_neg (by omega),if_neg (by omega)];omega
   ·rw [Tm.nt,Tm.nt];rfl
   ·rw [Tm.stN,Tm.stN];rfl
   ·rw [Tm.Xx,Tm.Xx];rfl
   ·rw [Tm.stT,if_pos (by omega)] at hd
    rw [Tm.stT,if_neg (by omega)]
    simp only [List.mem_append,List.mem_singleton,List.nil_append] at hd ⊢
    rcases hd with hd | hd | hd
    ·exact .inr hd
    ·exact .inl (.inl hd)
    ·exact .inl (.inr hd)
  split
  ·rename_i h6
   subst h6
   -- one of the terms is put
   have hL : ∀ l : List Tm,(∀ x∈l,x.sz≤N)→Tm.dpL (Tm.O8 b m l)≤Tm.dpL l + 1∧Tm.ntL (Tm.O8 b m l) = Tm.ntL l∧(Tm.NxL l→Tm.NxL (Tm.O8 b m l))∧(Tm.NHL l→Tm.NHL (Tm.O8 b m l))∧(Tm.ShL l→Tm.ShL (Tm.O8 b m l))∧(∀ n,n∈Tm.J6 (Tm.O8 b m l)↔n∈Tm.J6 l)∧(∀ n,n∈Tm.Jq (Tm.O8 b m l)↔n∈Tm.Jq l)∧∀ d,d∈Tm.J2 (Tm.O8 b m l)→d∈Tm.J2 l∨d = b:=by
    intro l hl
    cases l with
    | nil=>exact ⟨by simp [Tm.O8,Tm.dpL],rfl,fun _=>trivial,fun _=>trivial,fun _=>trivial,fun _=>Iff.rfl,fun _=>Iff.rfl,fun d h=>.inl h⟩
    | cons x r =>
     rw [Tm.O8]
     split
     ·exact hone x _ r (ih x (hl x (by simp)))
     ·cases r with
      | nil=>exact ⟨by rw [Tm.G5];omega,rfl,id,id,id,fun _=>Iff.rfl,fun _=>Iff.rfl,fun d h=>.inl h⟩
      | cons y r =>
       rw [Tm.G5]
       obtain ⟨a1,a2,a3,a4,a5,a6,a7,a8⟩:=hone y _ r (ih y (hl y (by simp)))
       generalize Tm.put b m y :: r = L2 at *
       generalize y :: r = L1 at *
       refine ⟨by rw [Tm.dpL,Tm.dpL];omega,by rw [Tm.ntL,Tm.ntL,a2],fun h=>⟨h.1,a3 h.2⟩,fun h=>⟨h.1,a4 h.2⟩,fun h=>⟨h.1,a5 h.2⟩,fun n=>?_,fun n=>?_,fun d hd=>?_⟩
       ·rw [Tm.J6,Tm.J6,List.mem_append,List.mem_append,a6]
       ·rw [Tm.Jq,Tm.Jq,List.mem_append,List.mem_append,a7]
       ·rw [Tm.J2,List.mem_append] at hd ⊢
        rcases hd with hd | hd
        ·exact .inl (.inl hd)
        ·exact (a8 d hd).elim (fun h=>.inl (.inr h)) .inr
   obtain ⟨a1,a2,a3,a4,a5,a6,a7,a8⟩:=hL xs fun x hx=>by have:=Tm.Z4 hx;omega
   refine ⟨?_,?_,fun h=>⟨h.1,h.2.1,a3 h.2.2.1,h.2.2.2⟩,fun h=>⟨h.1,a4 h.2.1,h.2.2⟩,fun h=>⟨by omega,h.2.1,h.2.2.1,a5 h.2.2.2.1,h.2.2.2.2⟩,fun n=>?_,fun n=>?_,fun d hd=>?_⟩
   ·rw [Tm.dp,Tm.dp];omega
   ·rw [Tm.nt,Tm.nt,a2]
   ·rw [Tm.stN,Tm.stN];simp only [List.mem_append,a6]
   ·rw [Tm.Xx,Tm.Xx];simp only [List.mem_append,a7]
   ·rw [Tm.stT] at hd ⊢
    simp only [List.mem_append] at hd ⊢
    rcases hd with hd | hd | hd
    ·exact .inl (.inl hd)
    ·exact (a8 d hd).elim (fun h=>.inl (.inr (.inl h))) .inr
    ·exact .inl (.inr (.inr hd))
  split
  ·rename_i h7
   subst h7
   have hL : ∀ l : List Cs,(∀ x∈l,x.sz≤N)→Cs.dpL (Cs.X5 b m l)≤Cs.dpL l + 1∧Cs.ntL (Cs.X5 b m l) = Cs.ntL l∧(Cs.NxL l→Cs.NxL (Cs.X5 b m l))∧(Cs.NHL l→Cs.NHL (Cs.X5 b m l))∧(Cs.ShL l→Cs.ShL (Cs.X5 b m l))∧(∀ n,n∈Cs.J6 (Cs.X5 b m l)↔n∈Cs.J6 l)∧(∀ n,n∈Cs.Jq (Cs.X5 b m l)↔n∈Cs.Jq l)∧(∀ d,d∈Cs.J2 (Cs.X5 b m l)→d∈Cs.J2 l∨d = b)∧(Cs.X5 b m l = []→l = []):=by
    intro l
    induction l with
    | nil=>intro _;exact ⟨by simp [Cs.X5,Cs.dpL],rfl,fun _=>trivial,fun _=>trivial,fun _=>trivial,fun _=>Iff.rfl,fun _=>Iff.rfl,fun d h=>.inl h,fun _=>rfl⟩
    | cons c r ih2 =>
     intro hl
     obtain ⟨a1,a2,a3,a4,a5,a6,a7,a8,-⟩:=ih2 fun z hz=>hl z (by simp [hz])
     obtain ⟨t,ws,y⟩:=c
     have hy:=hl (Cs.mk t ws y) (by simp)
     rw [Cs.sz] at hy
     have h:=ih y hy
     have e : (Cs.mk t ws y).put b m = .mk t ws (y.put b m):=by rw [Cs.put]
     rw [Cs.X5,e]
     refine ⟨?_,?_,fun hh=>⟨⟨hh.1.1,h.nx hh.1.2⟩,a3 hh.2⟩,fun hh=>⟨h.nh hh.1,a4 hh.2⟩,fun hh=>⟨h.sh hh.1,a5 hh.2⟩,fun n=>?_,fun n=>?_,fun d hd=>?_,by simp⟩
     ·have:=h.dp
      rw [Cs.dpL,Cs.dpL,Cs.dp,Cs.dp];omega
     ·rw [Cs.ntL,Cs.ntL,Cs.nt,Cs.nt,h.nt,a2]
     ·rw [Cs.J6,Cs.J6,List.mem_append,List.mem_append,Cs.stN,Cs.stN,h.sn,a6]
     ·rw [Cs.Jq,Cs.Jq,List.mem_append,List.mem_append,Cs.Xx,Cs.Xx,List.mem_append,List.mem_append,h.ow,a7]
     ·rw [Cs.J2,List.mem_append,Cs.stT] at hd ⊢
      rcases hd with hd | hd
      ·exact (h.st d hd).elim (fun h=>.inl (.inl h)) .inr
      ·exact (a8 d hd).elim (fun h=>.inl (.inr h)) .inr
   obtain ⟨a1,a2,a3,a4,a5,a6,a7,a8,a9⟩:=hL cs fun x hx=>by have:=Cs.Z4 hx;omega
   refine ⟨?_,?_,fun h=>⟨h.1,h.2.1,h.2.2.1,a3 h.2.2.2⟩,fun h=>⟨h.1,h.2.1,a4 h.2.2⟩,fun h=>⟨h.1,by omega,fun _ e=>h.2.2.1 rfl (a9 e),h.2.2.2.1,a5 h.2.2.2.2⟩,fun n=>?_,fun n=>?_,fun d hd=>?_⟩
   ·rw [Tm.dp,Tm.dp];omega
   ·rw [Tm.nt,Tm.nt,a2]
   ·rw [Tm.stN,Tm.stN];simp only [List.mem_append,a6]
   ·rw [Tm.Xx,Tm.Xx];simp only [List.mem_append,a7]
   ·rw [Tm.stT] at hd ⊢
    simp only [List.mem_append] at hd ⊢
    rcases hd with hd | hd | hd
    ·exact .inl (.inl hd)
    ·exact .inl (.inr (.inl hd))
    ·exact (a8 d hd).elim (fun h=>.inl (.inr (.inr h))) .inr
  ·rename_i hfit h3 h6 h7
   cases xs with
   | nil=>rw [Tm.G5];exact ⟨by omega,rfl,id,id,id,fun _=>Iff.rfl,fun _=>Iff.rfl,fun d h=>.inl h⟩
   | cons x r =>
    have hx : x.sz≤N:=by simp only [Tm.szs] at hN;omega
    rw [Tm.G5]
    obtain ⟨a1,a2,a3,a4,a5,a6,a7,a8⟩:=hone x _ r (ih x hx)
    refine ⟨?_,?_,fun h=>⟨h.1,h.2.1,a3 h.2.2.1,h.2.2.2⟩,fun h=>⟨h.1,a4 h.2.1,h.2.2⟩,fun h=>⟨fun hh=>by have:=h.1 hh;simp at this,h.2.1,h.2.2.1,a5 h.2.2.2.1,h.2.2.2.2⟩,fun n=>?_,fun n=>?_,fun d hd=>?_⟩
    ·rw [Tm.dp,Tm.dp];omega
    ·rw [Tm.nt,Tm.nt,a2]
    ·rw [Tm.stN,Tm.stN];simp only [List.mem_append,a6]
    ·rw [Tm.Xx,Tm.Xx];simp only [List.mem_append,a7]
    ·rw [Tm.stT] at hd ⊢
     simp only [List.mem_append] at hd ⊢
     rcases hd with hd | hd | hd
     ·exact .inl (.inl hd)
     ·exact (a8 d hd).elim (fun h=>.inl (.inr (.inl h))) .inr
     ·exact .inl (.inr (.inr hd))
end Go.Proofs.YtjpldhjgehoffaaDoor
namespace Go.Proofs.YtjpldhjgehoffaaDoor
open Classical Go.RowKit
set_option linter.unusedVariables false
set_option linter.unusedSimpArgs false
theorem put_sb (b : ByteArray) (m : Nat) : ∀ (N : Nat) (t : Tm),t.sz≤N→∀ d∈t.stT,d∈(t.put b m).stT:=by
 intro N
 induction N with
 | zero=>intro t h;have:=t.F8;omega
 | succ N ih =>
  intro t hN d hd
  obtain ⟨k,n,a,b0,vs,xs,cs⟩:=t
  rw [Tm.sz] at hN
  rw [Tm.put]
  split
  ·rw [Tm.stT,Tm.J2];simp only [List.mem_append];exact .inr (.inl (.inl hd))
  split
  ·rename_i h3
   subst h3
   rw [Tm.stT,if_neg (by omega),List.nil_append] at hd
   rw [Tm.stT];simp only [List.mem_append] at hd ⊢;exact .inr hd
  have hX : ∀ x∈xs,x.sz≤N:=fun x hx=>by have:=Tm.Z4 hx;omega
  have hH : ∀ l : List Tm,(∀ x∈l,x.sz≤N)→∀ d∈Tm.J2 l,d∈Tm.J2 (Tm.G5 b m l):=fun l hl d hd=>by
   cases l with
   | nil=>exact hd
   | cons x r =>
    rw [Tm.G5,Tm.J2,List.mem_append]
    rw [Tm.J2,List.mem_append] at hd
    exact hd.elim (fun h=>.inl (ih x (hl x (by simp)) d h)) .inr
  rw [Tm.stT] at hd
  simp only [List.mem_append] at hd
  split
  ·rw [Tm.stT]
   simp only [List.mem_append]
   rcases hd with hd | hd | hd
   ·exact .inl hd
   ·refine .inr (.inl ?_)
    cases xs with
    | nil=>exact hd
    | cons x r =>
     rw [Tm.O8]
     rw [Tm.J2,List.mem_append] at hd
     split
     ·rw [Tm.J2,List.mem_append]
      exact hd.elim (fun h=>.inl (ih x (hX x (by simp)) d h)) .inr
     ·rw [Tm.J2,List.mem_append]
      exact hd.elim .inl fun h=>.inr (hH r (fun z hz=>hX z (by simp [hz])) d h)
   ·exact .inr (.inr hd)
  split
  ·rw [Tm.stT]
   simp only [List.mem_append]
   rcases hd with hd | hd | hd
   ·exact .inl hd
   ·exact .inr (.inl hd)
   ·refine .inr (.inr ?_)
    rw [O1]
    obtain ⟨c,hc,h⟩:=A8.1 hd
    refine A8.2 ⟨_,List.mem_map.2 ⟨c,hc,rfl⟩,?_⟩
    obtain ⟨t,ws,y⟩:=c
    have:=Cs.Z4 hc
    rw [Cs.sz] at this
    rw [Cs.put,Cs.stT]
    rw [Cs.stT] at h
    exact ih y (by omega) d h
  ·rw [Tm.stT]
   simp only [List.mem_append]
   rcases hd with hd | hd | hd
   ·exact .inl hd
   ·exact .inr (.inl (hH xs hX d hd))
   ·exact .inr (.inr hd)
structure RuR (c : Int) (S O T : List ByteArray) (nt : Nat) (S' O' T' : List ByteArray) (c' : Int) : Prop where
 lo : c≤c'
 hi : c'≤c + nt
 sn : ∀ n,n∈S'↔n∈S
 ow : ∀ n,n∈O'↔n∈O∨∃ i,c < i∧i≤c'∧n = excl (kNm i)
 st : ∀ d,d∈T'→d∈T∨∃ i,c < i∧i≤c'∧d = kNm i
 sb : ∀ d,d∈T→d∈T'
theorem RuR.refl (c : Int) (sn ow st : List ByteArray) (nt : Nat) : RuR c sn ow st nt sn ow st c :=
 ⟨Int.le_refl _,by omega,fun n=>Iff.rfl,fun n=>⟨.inl,fun h=>h.elim id fun ⟨i,h1,h2,_⟩=>by omega⟩,fun d h=>.inl h,fun d h=>h⟩
theorem RuR.append {c c1 c2 : Int} {s1 o1 t1 s2 o2 t2 s1' o1' t1' s2' o2' t2' : List ByteArray} {n1 n2 : Nat} (h1 : RuR c s1 o1 t1 n1 s1' o1' t1' c1) (h2 : RuR c1 s2 o2 t2 n2 s2' o2' t2' c2) : RuR c (s1 ++ s2) (o1 ++ o2) (t1 ++ t2) (n1 + n2) (s1' ++ s2') (o1' ++ o2') (t1' ++ t2') c2:=by
 have l1:=h1.lo
 have l2:=h2.lo
 have g1:=h1.hi
 have g2:=h2.hi
 refine ⟨by omega,by push_cast;omega,fun n=>?_,fun n=>?_,fun d hd=>?_,fun d hd=>?_⟩
 ·rw [List.mem_append,List.mem_append,h1.sn,h2.sn]
 ·rw [List.mem_append,List.mem_append,h1.ow,h2.ow]
  constructor
  ·rintro ((h | ⟨i,a,b,e⟩) | (h | ⟨i,a,b,e⟩))
   ·exact .inl (.inl h)
   ·exact .inr ⟨i,a,by omega,e⟩
   ·exact .inl (.inr h)
   ·exact .inr ⟨i,by omega,b,e⟩
  ·rintro ((h | h) | ⟨i,a,b,e⟩)
   ·exact .inl (.inl h)
   ·exact .inr (.inl h)
   ·by_cases hi : i≤c1
    ·exact .inl (.inr ⟨i,a,hi,e⟩)
    ·exact .inr (.inr ⟨i,by omega,b,e⟩)
 ·rcases List.mem_append.1 hd with hd | hd
  ·rcases h1.st d hd with h | ⟨i,a,b,e⟩
   ·exact .inl (List.mem_append.2 (.inl h))
   ·exact .inr ⟨i,a,by omega,e⟩
  ·rcases h2.st d hd with h | ⟨i,a,b,e⟩
   ·exact .inl (List.mem_append.2 (.inr h))
   ·exact .inr ⟨i,by omega,b,e⟩
 ·rcases List.mem_append.1 hd with hd | hd
  ·exact List.mem_append.2 (.inl (h1.sb d hd))
  ·exact List.mem_append.2 (.inr (h2.sb d hd))
theorem ru_r : ∀ (N : Nat) (t : Tm) (c : Int),t.NH→t.Sh→0≤c→c + t.nt < 9223372036854775807→RuR c t.stN t.Xx t.stT t.nt (t.ru N c).1.stN (t.ru N c).1.Xx (t.ru N c).1.stT (t.ru N c).2:=by
 intro N
 induction N with
 | zero=>intro t c _ _ _ _;rw [Tm.ru];exact RuR.refl _ _ _ _ _
 | succ N ih =>
  intro t c hH hS h0 hb
  obtain ⟨k,n,a,b,vs,xs,cs⟩:=t
  have hL : ∀ (l : List Tm) (c : Int),Tm.NHL l→Tm.ShL l→0≤c→c + Tm.ntL l < 9223372036854775807→RuR c (Tm.J6 l) (Tm.Jq l) (Tm.J2 l) (Tm.ntL l) (Tm.J6 (ruL (Tm.ru N) l c).1) (Tm.Jq (ruL (Tm.ru N) l c).1) (Tm.J2 (ruL (Tm.ru N) l c).1) (ruL (Tm.ru N) l c).2:=by
   intro l
   induction l with
   | nil=>intro c _ _ _ _;exact RuR.refl _ _ _ _ _
   | cons x r ih2 =>
    intro c h1 h2 h3 h4
    rw [Tm.ntL] at h4
    push_cast at h4
    have g1:=ih x c h1.1 h2.1 h3 (by omega)
    have l1:=g1.lo
    have l2:=g1.hi
    have g2:=ih2 (x.ru N c).2 h1.2 h2.2 (by omega) (by omega)
    rw [ruL]
    exact g1.append g2
  have hC : ∀ (l : List Cs) (c : Int),Cs.NHL l→Cs.ShL l→0≤c→c + Cs.ntL l < 9223372036854775807→RuR c (Cs.J6 l) (Cs.Jq l) (Cs.J2 l) (Cs.ntL l) (Cs.J6 (ruC (Tm.ru N) l c).1) (Cs.Jq (ruC (Tm.ru N) l c).1) (Cs.J2 (ruC (Tm.ru N) l c).1) (ruC (Tm.ru N) l c).2:=by
   intro l
   induction l with
   | nil=>intro c _ _ _ _;exact RuR.refl _ _ _ _ _
   | cons x r ih2 =>
    intro c h1 h2 h3 h4
    obtain ⟨t,ws,y⟩:=x
    rw [Cs.ntL,Cs.nt] at h4
    push_cast at h4
    have g1:=ih y c h1.1 h2.1 h3 (by omega)
    have l1:=g1.lo
    have l2:=g1.hi
    have g2:=ih2 (y.ru N c).2 h1.2 h2.2 (by omega) (by omega)
    rw [ruC]
    have g0 : RuR c (Cs.mk t ws y).stN (Cs.mk t ws y).Xx (Cs.mk t ws y).stT (Cs.mk t ws y).nt (Cs.mk t ws (y.ru N c).1).stN (Cs.mk t ws (y.ru N c).1).Xx (Cs.mk t ws (y.ru N c).1).stT (y.ru N c).2:=by
     rw [Cs.stN,Cs.stN,Cs.Xx,Cs.Xx,Cs.stT,Cs.stT,Cs.nt]
     refine ⟨g1.lo,g1.hi,g1.sn,fun n=>?_,g1.st,g1.sb⟩
     rw [List.mem_append,List.mem_append,g1.ow,or_assoc]
    exact g0.append g2
  rw [Tm.nt] at hb
  push_cast at hb
  rw [Tm.ru]
  split
  ·rename_i hc
   obtain ⟨rfl,hfit⟩:=hc
   have hcs:=hS.2.1 (by omega)
   subst hcs
   have hbn : c + 1 + (Tm.ntL xs : Int) < 9223372036854775807:=by
    rw [if_pos rfl] at hb
    simp only [Cs.ntL] at hb
    omega
   have hw : wr (c + 1) = c + 1:=wr_of (by omega) (by omega)
   rw [hw]
   cases xs with
   | nil=>simp [Tm.fitH] at hfit
   | cons x r =>
    have hp:=put_r (kNm (c + 1)) vs.length x.sz x (Nat.le_refl _)
    have hpb:=put_sb (kNm (c + 1)) vs.length x.sz x (Nat.le_refl _)
    rw [Tm.G5]
    have hnt : Tm.ntL (x.put (kNm (c + 1)) vs.length :: r) = Tm.ntL (x :: r):=by rw [Tm.ntL,Tm.ntL,hp.nt]
    have g:=hL (x.put (kNm (c + 1)) vs.length :: r) (c + 1) ⟨hp.nh hH.2.1.1,hH.2.1.2⟩ ⟨hp.sh hS.2.2.2.1.1,hS.2.2.2.1.2⟩ (by omega) (by rw [hnt];exact hbn)
    generalize ruL (Tm.ru N) (x.put (kNm (c + 1)) vs.length :: r) (c + 1) = X at g ⊢
    obtain ⟨us,c'⟩:=X
    rw [hnt] at g
    have l1:=g.lo
    have l2:=g.hi
    dsimp only at l1 l2 g ⊢
    refine ⟨by omega,?_,fun m=>?_,fun m=>?_,fun d hd=>?_,fun d hd=>?_⟩
    ·rw [Tm.nt,if_pos rfl];push_cast;omega
    ·rw [Tm.stN,Tm.stN,if_pos (by omega),if_pos (by omega)]
     simp only [List.mem_append,g.sn,Cs.J6]
     rw [Tm.J6,Tm.J6,List.mem_append,List.mem_append,hp.sn]
    ·rw [Tm.Xx,Tm.Xx,if_neg (by omega),if_pos rfl,if_neg (by omega),if_neg (by omega)]
     simp only [List.mem_append,g.ow,Cs.Jq,List.mem_singleton,List.nil_append]
     rw [Tm.Jq,Tm.Jq,List.mem_append,List.mem_append,hp.ow]
     constructor
     ·rintro (h | (h | ⟨i,e1,e2,e3⟩) | h)
      ·exact .inr ⟨c + 1,by omega,by omega,h⟩
      ·exact .inl (.inl h)
      ·exact .inr ⟨i,by omega,e2,e3⟩
      ·exact .inl (.inr h)
     ·rintro ((h | h) | ⟨i,e1,e2,e3⟩)
      ·exact .inr (.inl (.inl h))
      ·exact .inr (.inr h)
      ·by_cases e : i = c + 1
       ·exact .inl (by rw [e3,e])
       ·exact .inr (.inl (.inr ⟨i,by omega,e2,e3⟩))
    ·rw [Tm.stT,if_neg (by omega)] at hd
     rw [Tm.stT,if_neg (by omega)]
     simp only [List.mem_append,Cs.J2,List.nil_append,List.append_nil] at hd ⊢
     rcases g.st d hd with h | ⟨i,e1,e2,e3⟩
     ·rw [Tm.J2,List.mem_append] at h
      rcases h with h | h
      ·rcases hp.st d h with h | h
       ·exact .inl (by rw [Tm.J2,List.mem_append];exact .inl h)
       ·exact .inr ⟨c + 1,by omega,by omega,h⟩
      ·exact .inl (by rw [Tm.J2,List.mem_append];exact .inr h)
     ·exact .inr ⟨i,by omega,e2,e3⟩
    ·rw [Tm.stT,if_neg (by omega)] at hd
     rw [Tm.stT,if_neg (by omega)]
     simp only [List.mem_append,Cs.J2,List.nil_append,List.append_nil] at hd ⊢
     refine g.sb d ?_
     rw [Tm.J2,List.mem_append] at hd ⊢
     exact hd.elim (fun h=>.inl (hpb d h)) .inr
  ·have hx : (0 : Int)≤(if k = 10 then 1 else 0 : Int):=by split <;> omega
   have hb' : c + ((Tm.ntL xs : Int) + (Cs.ntL cs : Int)) < 9223372036854775807:=by
    split at hb <;> simp at hb <;> omega
   have g1:=hL xs c hH.2.1 hS.2.2.2.1 h0 (by omega)
   have l1:=g1.lo
   have l2:=g1.hi
   have g2:=hC cs (ruL (Tm.ru N) xs c).2 hH.2.2 hS.2.2.2.2 (by omega) (by omega)
   have g:=g1.append g2
   generalize ruL (Tm.ru N) xs c = X at g1 g2 g l1 l2 ⊢
   obtain ⟨us,c1⟩:=X
   dsimp only at g1 g2 g l1 l2 ⊢
   generalize ruC (Tm.ru N) cs c1 = Y at g2 g ⊢
   obtain ⟨ds,c2⟩:=Y
   dsimp only at g2 g ⊢
   have m1:=g.lo
   have m2:=g.hi
   refine ⟨m1,?_,fun m=>?_,fun m=>?_,fun d hd=>?_,fun d hd=>?_⟩
   ·rw [Tm.nt];push_cast at m2 ⊢;split <;> omega
   ·have:=g.sn m
    rw [Tm.stN,Tm.stN]
    simp only [List.mem_append] at this ⊢
    rw [this]
   ·have:=g.ow m
    rw [Tm.Xx,Tm.Xx]
    simp only [List.mem_append] at this ⊢
    rw [this]
    simp only [or_assoc]
   ·rw [Tm.stT,List.mem_append] at hd
    rw [Tm.stT,List.mem_append]
    rcases hd with hd | hd
    ·exact .inl (.inl hd)
    ·exact (g.st d hd).elim (fun h=>.inl (.inr h)) .inr
   ·rw [Tm.stT,List.mem_append] at hd ⊢
    rcases hd with hd | hd
    ·exact .inl hd
    ·exact .inr (g.sb d hd)
theorem ru_var {N : Nat} {x : Tm} (h : x.tk = 1) (hS : x.Sh) (c : Int) : x.ru N c = (x,c):=by
 cases N with
 | zero=>rfl
 | succ N =>
  obtain ⟨k,n,a,b,vs,xs,cs⟩:=x
  rw [Tm.tk] at h
  subst h
  rw [Tm.ru,if_neg (by omega),hS.1 (.inl rfl),hS.2.1 (by omega)]
  rfl
theorem ruL_vars {N : Nat} : ∀ {xs : List Tm},(∀ x∈xs,x.tk = 1)→Tm.ShL xs→∀ c,ruL (Tm.ru N) xs c = (xs,c)
 | [],_,_,c=>rfl
 | x :: r,h,hS,c=>by
  rw [ruL,ru_var (h x (by simp)) hS.1,ruL_vars (fun y hy=>h y (by simp [hy])) hS.2]
theorem lin11_of {n : Int} {a b : ByteArray} {vs : List ByteArray} {x : Tm} {cs : List Cs} {s : LS} (h : (s.Xv a vs).1 = 0) (hb : lkA s.tk b = none) (he : b≠.empty) (h2 : x.lin ((s.Xv a vs).2.tok b vs.length) = 0) : (Tm.mk 11 n a b vs [x] cs).lin s = 0:=by
 rw [Tm.lin,if_neg (by omega),if_neg (by omega),if_neg (by omega),if_neg (by omega),if_neg (by omega),if_neg (by omega),if_pos (by omega),if_neg (by simp),if_neg (by omega),if_neg (by omega),if_neg (by omega),if_neg (by simpa using h),if_pos rfl,if_neg (by rw [hb];simp [he])]
 exact Kq h2
theorem openL_nx (nm : ByteArray) : ∀ (vs : List ByteArray) {s : LS},(∀ d,lkA s.ct (excl d) = none)→(∀ v∈vs,∀ d,v≠excl d)→∀ d,lkA (s.Kj nm vs).2.ct (excl d) = none
 | [],s,h,_,d=>h d
 | v :: r,s,h,hv,d=>by
  rw [LS.Kj]
  split
  ·exact h d
  ·refine openL_nx nm r (s:=s.inc v) (fun d=>?_) (fun u hu=>hv u (by simp [hu])) d
   unfold LS.inc
   dsimp only
   rw [X7,if_neg (hv v (by simp) d)]
   exact h d
theorem ru_split {x x' : Tm} {c c' : Int} (hc : 0≤c) (g : RuR c x.stN x.Xx x.stT x.nt x'.stN x'.Xx x'.stT c') {s : LS} (hk : ∀ i,c < i→lkA s.tk (kNm i) = none) (hn : ∀ d,lkA s.ct (excl d) = none) : (s.fst x).Sim (s.fst x')∧∀ a,({ s.rst x with ct:=X5 (s.rst x).ct a 1 } : LS).Sim { s.rst x' with ct:=X5 (s.rst x').ct a 1 }:=by
 have hN : ∀ n,lkA s.ct n≠none→x'.Fx n = x.Fx n:=fun n hk=>by
  have hne : ∀ d,n≠excl d:=fun d e=>hk (by rw [e];exact hn d)
  unfold Tm.Fx
  have e1 : hasB x'.stN n = hasB x.stN n:=by rw [Bool.eq_iff_iff,Zx,Zx,g.sn]
  have e2 : hasB x'.Xx n = hasB x.Xx n:=by
   rw [Bool.eq_iff_iff,Zx,Zx,g.ow]
   exact ⟨fun h=>h.elim id fun ⟨i,_,_,e⟩=>absurd e (hne _),.inl⟩
  rw [e1,e2]
 have hT : ∀ d,lkA s.tk d≠none→x'.U7 d = x.U7 d:=fun d hd=>by
  have hne : ∀ i,c < i→d≠kNm i:=fun i hi e=>hd (by rw [e];exact hk i hi)
  unfold Tm.U7
  have e1 : hasB x'.stT d = hasB x.stT d:=by
   rw [Bool.eq_iff_iff,Zx,Zx]
   exact ⟨fun h=>(g.st d h).elim id fun ⟨i,h1,_,e⟩=>absurd e (hne i h1),g.sb d⟩
  have e2 : hasB x'.Xx (excl d) = hasB x.Xx (excl d):=by
   rw [Bool.eq_iff_iff,Zx,Zx,g.ow]
   exact ⟨fun h=>h.elim id fun ⟨i,h1,_,e⟩=>absurd (excl_inj e) (hne i h1),.inl⟩
  rw [e1,e2]
 refine ⟨⟨fun n=>?_,fun _=>rfl,fun d=>?_⟩,fun a=>⟨fun n=>?_,fun _=>rfl,fun d=>?_⟩⟩
 ·unfold LS.fst
  dsimp only
  rw [Hq (fun _ k=>Dk k),Hq (fun _ k=>Dk k),Z9,Z9]
  by_cases h : lkA s.ct n = none
  ·rw [h];split <;> split <;> rfl
  ·rw [hN n h]
 ·unfold LS.fst
  dsimp only
  rw [Z9,Z9]
  by_cases h : lkA s.tk d = none
  ·rw [h];split <;> split <;> rfl
  ·rw [hT d h]
 ·unfold LS.rst
  dsimp only
  rw [X7,X7,Hq (fun k v=>if x.Fx k then v - Dk v else v),Hq (fun k v=>if x'.Fx k then v - Dk v else v)]
  by_cases h : lkA s.ct n = none
  ·rw [h];rfl
  ·rw [hN n h]
 ·unfold LS.rst
  dsimp only
  rw [Z9 (fun k=>!x.U7 k),Z9 (fun k=>!x'.U7 k)]
  by_cases h : lkA s.tk d = none
  ·rw [h];split <;> split <;> rfl
  ·rw [hT d h]
theorem ru_lin : ∀ (N : Nat) (t : Tm) (c : Int) (s : LS),t.dp≤N→t.NH→t.Sh→t.Nx→0≤c→c + t.nt < 9223372036854775807→(∀ i,c < i→kNm i ∉ t.stT)→s.Ok→(∀ i,c < i→lkA s.tk (kNm i) = none)→(∀ d,lkA s.ct (excl d) = none)→t.lin s = 0→(t.ru N c).1.lin s = 0:=by
 intro N
 induction N with
 | zero=>intro t c s _ _ _ _ _ _ _ _ _ _ h;rw [Tm.ru];exact h
 | succ N ih =>
  intro t c s hd hH hS hX h0 hb hf hs hk hn h
  obtain ⟨k,n,a,b,vs,xs,cs⟩:=t
  rw [Tm.dp] at hd
  rw [Tm.nt] at hb
  push_cast at hb
  obtain ⟨n1,n2,n3,n4⟩:=hX
  have hfx : ∀ x∈xs,∀ i,c < i→kNm i ∉ x.stT:=fun x hx i hi hm=>hf i hi (by rw [Tm.stT];simp only [List.mem_append,Ow];exact .inr (.inl ⟨x,hx,hm⟩))
  have hfc : ∀ t ws y,Cs.mk t ws y∈cs→∀ i,c < i→kNm i ∉ y.stT:=fun t ws y hx i hi hm=>hf i hi (by rw [Tm.stT];simp only [List.mem_append,A8];exact .inr (.inr ⟨_,hx,by rw [Cs.stT];exact hm⟩))
  have hdx : ∀ x∈xs,x.dp≤N:=fun x hx=>by have:=dpL_mem hx;split at hd <;> omega
  rcases I5 h with rfl | rfl | h3 | rfl | rfl | rfl | h8
  ·rw [Tm.ru,if_neg (by omega),hS.1 (.inl rfl),hS.2.1 (by omega)]
   rw [lin1] at h ⊢;exact h
  ·rw [Tm.ru,if_neg (by omega),hS.1 (.inr rfl),hS.2.1 (by omega)]
   rw [lin2] at h ⊢;exact h
  ·rw [O9 h3] at h
   rw [Tm.ru,if_neg (by omega),ruL_vars (Ik (LS.F4 h).1) hS.2.2.2.1,O9 h3]
   exact h
  ·have h12:=lin12 h
   rw [Tm.ru,if_neg (by omega),ruL_vars (Ik (LS.F4 h12.2).1) hS.2.2.2.1,hS.2.1 (by omega)]
   dsimp only [ruC]
   rw [hS.2.1 (by omega)] at h
   exact h
  ·obtain ⟨x,y,rfl,h1,h2,h3⟩:=lin6 h
   rw [hS.2.1 (by omega)] at hb ⊢
   rw [if_neg (by omega)] at hb
   simp only [Tm.ntL,Cs.ntL] at hb
   have g1:=ru_r N x c hH.2.1.1 hS.2.2.2.1.1 h0 (by omega)
   have l1:=g1.lo
   have l2:=g1.hi
   obtain ⟨sF,sR⟩:=ru_split h0 g1 hk hn
   rw [Tm.ru,if_neg (by omega)]
   dsimp only [ruL,ruC]
   have oR:=LS.G9 (LS.N7 hs x) a (show (0 : Int)≤1 by omega)
   have oR':=LS.G9 (LS.N7 hs (x.ru N c).1) a (show (0 : Int)≤1 by omega)
   refine lin6_of h1 ?_ ?_
   ·refine ih x c _ (hdx x (by simp)) hH.2.1.1 hS.2.2.2.1.1 n3.1 h0 (by omega) (hfx x (by simp)) (LS.Mk hs _) (fun i hi=>?_) (fun d=>?_) (Cv _ _ (Nat.le_refl _) _ _ (LS.Mk hs x) (LS.Mk hs _) sF h2)
    ·unfold LS.fst
     dsimp only
     rw [Z9,hk i hi];split <;> rfl
    ·unfold LS.fst
     dsimp only
     rw [Hq (fun _ k=>Dk k),Z9,hn d];split <;> rfl
   ·refine ih y (x.ru N c).2 _ (hdx y (by simp)) hH.2.1.2.1 hS.2.2.2.1.2.1 n3.2.1 (by omega) (by omega) (fun i hi=>hfx y (by simp) i (by omega)) oR' (fun i hi=>?_) (fun d=>?_) (Cv _ _ (Nat.le_refl _) _ _ oR oR' (sR a) h3)
    ·unfold LS.rst
     dsimp only
     rw [Z9 (fun k=>!(x.ru N c).1.U7 k),hk i (by omega)];split <;> rfl
    ·unfold LS.rst
     dsimp only
     rw [X7,if_neg (n1 (by omega) d),Hq (fun k v=>if (x.ru N c).1.Fx k then v - Dk v else v),hn d];rfl
  ·obtain ⟨x,rfl,hx,h1,h2⟩:=lin7 h
   rw [Tm.ru,if_neg (by omega),ruL_vars (fun y hy=>by simp only [List.mem_singleton] at hy;subst hy;exact hx) hS.2.2.2.1]
   dsimp only
   refine lin7_of hx h1 ?_
   have hd7 : ∀ t ws y,Cs.mk t ws y∈cs→y.dp≤N:=fun t ws y hm=>by
    have:=cdpL_mem hm
    rw [Cs.dp] at this
    rw [if_neg (by omega)] at hd
    omega
   rw [if_neg (by omega)] at hb
   have : ∀ (l : List Cs) (c' : Int),(∀ z∈l,z∈cs)→c≤c'→c' + Cs.ntL l < 9223372036854775807→∀ z∈(ruC (Tm.ru N) l c').1,z.lin s x.nm = 0:=by
    intro l
    induction l with
    | nil=>intro c' _ _ _ z hz;simp [ruC] at hz
    | cons z r ih2 =>
     intro c' hm hc' hbz w hw
     obtain ⟨tg,ws,y⟩:=z
     have hmz:=hm _ (List.mem_cons_self ..)
     rw [Cs.ntL,Cs.nt] at hbz
     push_cast at hbz
     have hyH : y.NH:=L8.1 hH.2.2 _ hmz
     have hyS : y.Sh:=Fj.1 hS.2.2.2.2 _ hmz
     have hyX:=P9.1 n4 _ hmz
     have g1:=ru_r N y c' hyH hyS (by omega) (by omega)
     have l1:=g1.lo
     have l2:=g1.hi
     rw [ruC] at hw
     rcases List.mem_cons.1 hw with rfl | hw
     ·obtain ⟨e1,e2⟩:=P5 (h2 _ hmz)
      obtain ⟨p1,p2⟩:=newL_inv x.nm ws e1
      obtain ⟨-,m2,-⟩:=newL_of x.nm ws (s:=s) p1 p2
      obtain ⟨q1,q2,q3⟩:=LS.M9 _ ws hs e1
      rw [Cs.lin,if_neg (by simpa using e1)]
      refine ih y c' _ (hd7 _ _ _ hmz) hyH hyS hyX.2 (by omega) (by omega) (fun i hi=>hfc _ _ _ hmz i (by omega)) q1 (fun i hi=>by rw [q3];exact hk i (by omega)) (fun d=>?_) e2
      have:=m2 (excl d)
      rw [hn d] at this
      have hnw : excl d ∉ ws:=fun hw=>hyX.1 _ hw d rfl
      simpa [hnw] using this
     ·exact ih2 (y.ru N c').2 (fun z hz=>hm z (List.mem_cons_of_mem _ hz)) (by omega) (by omega) w hw
   refine this cs c (fun _ h=>h) (Int.le_refl _) ?_
   simp only [Tm.ntL] at hb
   omega
  ·obtain ⟨x,rfl,p8,p9,p13,p10,p11⟩:=linS h8 h
   have hcs:=hS.2.1 (show k≠7 by omega)
   subst hcs
   have hxd:=hdx x (by simp)
   have hxH:=hH.2.1.1
   have hxS:=hS.2.2.2.1.1
   have hxX:=n3.1
   have hxf:=hfx x (by simp)
   simp only [Tm.ntL,Cs.ntL] at hb
   have hbx : c + (x.nt : Int) < 9223372036854775807:=by split at hb <;> omega
   rw [Tm.ru]
   split
   ·rename_i hc
    obtain ⟨rfl,hfit⟩:=hc
    obtain ⟨g0,g⟩:=p10 rfl
    obtain ⟨q1,q2,q3⟩:=LS.H8 hs g0
    rw [if_pos rfl] at hb hd
    have hw : wr (c + 1) = c + 1:=wr_of (by omega) (by omega)
    rw [hw,Tm.G5]
    dsimp only [ruL]
    have hp:=put_r (kNm (c + 1)) vs.length x.sz x (Nat.le_refl _)
    have hkT : lkA (s.Xv a vs).2.tk (kNm (c + 1)) = none:=by rw [q3];exact hk _ (by omega)
    have hpl:=put_lin (kNm (c + 1)) vs.length x.sz x (Nat.le_refl _) hxH hxS (hxf _ (by omega)) _ q1 hkT g
    refine lin11_of g0 (hk _ (by omega)) (kNm_ne _) ?_
    refine ih _ (c + 1) _ ?_ (hp.nh hxH) (hp.sh hxS) (hp.nx hxX) (by omega) ?_ (fun i hi hm=>?_) (LS.tok_ok q1 _ _) (fun i hi=>?_) (fun d=>?_) hpl
    ·have h1:=hp.dp
     rw [Tm.dpL,Tm.dpL,Cs.dpL] at hd
     omega
    ·rw [hp.nt];omega
    ·rcases hp.st _ hm with h | h
     ·exact hxf i (by omega) h
     ·have:=kNm_inj (by omega) (by omega) h
      omega
    ·dsimp only
     rw [X7,if_neg (fun e=>by have:=kNm_inj (by omega) (by omega) e;omega),q3]
     exact hk i (by omega)
    ·show lkA (s.Xv a vs).2.ct (excl d) = none
     have ho:=openL_nx a vs hn (n2 rfl) d
     unfold LS.Xv at g0 ⊢
     split
     ·exact ho
     ·rename_i h1
      rw [if_neg h1] at g0
      have:=(LS.Vw (Qq3 a vs hs) g0).2.2.2.2.1 (excl d)
      rw [ho] at this
      simpa using this
   ·dsimp only [ruL,ruC]
    rcases h8 with rfl | rfl | rfl | rfl | rfl
    ·obtain ⟨g0,g⟩:=p8 rfl
     refine lin8_of g0 (ih x c _ hxd hxH hxS hxX h0 hbx hxf (LS.F7 hs a).1 hk (fun d=>?_) g)
     unfold LS.inc
     dsimp only
     rw [X7,if_neg (n1 (by omega) d)]
     exact hn d
    ·obtain ⟨g0,g⟩:=p9 rfl
     obtain ⟨q1,-,q3,-,q5,-⟩:=LS.Vw hs g0
     refine lin9_of g0 (ih x c _ hxd hxH hxS hxX h0 hbx hxf q1 (fun i hi=>by rw [q3];exact hk i hi) (fun d=>?_) g)
     have:=q5 (excl d)
     rw [hn d] at this
     simpa using this
    ·obtain ⟨g0,g⟩:=p10 rfl
     obtain ⟨q1,-,q3⟩:=LS.H8 hs g0
     refine lin10_of g0 (ih x c _ hxd hxH hxS hxX h0 hbx hxf q1 (fun i hi=>by rw [q3];exact hk i hi) (fun d=>?_) g)
     have ho:=openL_nx a vs hn (n2 rfl) d
     unfold LS.Xv at g0 ⊢
     split
     ·exact ho
     ·rename_i h1
      rw [if_neg h1] at g0
      have:=(LS.Vw (Qq3 a vs hs) g0).2.2.2.2.1 (excl d)
      rw [ho] at this
      simpa using this
    ·exact absurd rfl hH.1
    ·obtain ⟨g0,g⟩:=p13 rfl
     refine lin13_of g0 (ih x c _ hxd hxH hxS hxX h0 hbx hxf (LS.Rz hs (hs.kt.filter _)) (fun i hi=>?_) hn g)
     show lkA (Wz s.tk b) (kNm i) = none
     rw [Hz,hk i hi]
     split <;> rfl
def NoX (n : ByteArray) : Prop:=∀ d,n≠excl d
theorem nameB_noX {n : ByteArray} (h : Gx n = true) : NoX n:=fun d e=>by
 have h0 : n[0]? = some 33:=by
  rw [e]
  unfold excl
  have hz : 0 < (⟨#[33]⟩ ++ d : ByteArray).size:=by
   rw [ByteArray.size_append]
   have : (⟨#[33]⟩ : ByteArray).size = 1:=rfl
   omega
  rw [getElem?_pos _ 0 hz]
  congr 1
 unfold Gx at h
 simp only [Bool.and_eq_true,List.all_eq_true,decide_eq_true_eq] at h
 have h4:=h.1 0 (List.mem_range.2 (by omega))
 rw [h0] at h4
 exact absurd h4 (by decide)
structure Shp (t : Tm) : Prop where
 sh : t.Sh
 s1 : t.S1
 nh : t.NH
 nx : t.Nx
theorem Qj5 {k : Int} (hk : k = 8∨k = 9) : ∀ (l : List ByteArray) {t : Tm},(∀ n∈l,NoX n)→Shp t→Shp (cnt k l t)
 | [],_,_,h=>h
 | a :: r,t,hl,h=>by
  have g:=Qj5 hk r (fun n hn=>hl n (by simp [hn])) h
  exact ⟨⟨by omega,fun _=>rfl,by omega,⟨g.sh,trivial⟩,trivial⟩,⟨fun _=>⟨⟨_,rfl⟩,rfl⟩,⟨g.s1,trivial⟩,trivial⟩,⟨by omega,⟨g.nh,trivial⟩,trivial⟩,⟨fun _=>hl a (by simp),by omega,⟨g.nx,trivial⟩,trivial⟩⟩
theorem badB_no {ws : List ByteArray} (h : badB ws = false) : ∀ w∈ws,Gx w = true:=fun w hw=>by
 unfold badB at h
 rw [List.any_eq_false] at h
 have:=h w hw
 simpa using this
theorem wrong_shp (f : Y3) : ∀ (N : Nat) (t : Tm) (names : List ByteArray) (deep : Int),t.sz < N→t.wrong f names deep = 0→(∀ n∈names,NoX n)→Shp t∧t.stT = []:=by
 intro N
 induction N with
 | zero=>intro t _ _ h;omega
 | succ N ih =>
  intro t names deep hN h hn
  obtain ⟨k,m,a,b,vs,xs,cs⟩:=t
  obtain ⟨h1,h2,h3,h4,h5,h6,h7⟩:=Gw h
  rw [Tm.sz] at hN
  have ha : k = 1∨k = 6→NoX a:=fun hk=>by
   unfold Y1 at h5
   rcases hk with rfl | rfl
   ·rw [if_pos rfl] at h5
    split at h5
    ·rename_i hh;exact hn a (Zx.1 hh)
    ·cases h5
   ·rw [if_neg (by omega),if_neg (by omega),if_neg (by omega),if_neg (by omega),if_pos rfl] at h5
    split at h5
    ·rename_i hh;exact nameB_noX hh
    ·cases h5
  have hx : ∀ x∈xs,Shp x∧x.stT = []:=fun x hx=>by
   obtain ⟨j,hj⟩:=List.mem_iff_getElem?.1 hx
   have hs : x.sz≤Tm.szs xs:=Tm.Z4 hx
   refine ih x _ (deep + 1) (by omega) (Sw h6 j x hj) fun n hm=>?_
   split at hm
   ·rename_i hc
    rcases List.mem_append.1 hm with hm | hm
    ·exact hn n hm
    ·simp only [List.mem_singleton] at hm
     subst hm
     exact ha (.inr hc.1)
   ·exact hn n hm
  have hc7 : k≠7→cs = []:=fun hk=>by
   unfold Xq at h4
   simp [hk] at h4
   exact h4.2
  have hxs : Tm.ShL xs∧Tm.S1L xs∧Tm.NHL xs∧Tm.NxL xs∧Tm.J2 xs = []:=by
   refine ⟨Sv.2 fun x h=>(hx x h).1.sh,Qk0.2 fun x h=>(hx x h).1.s1,NHL_iff.2 fun x h=>(hx x h).1.nh,NxL_iff.2 fun x h=>(hx x h).1.nx,?_⟩
   exact List.eq_nil_iff_forall_not_mem.2 fun d hd=>by
    obtain ⟨x,h1,h2⟩:=Ow.1 hd
    rw [(hx x h1).2] at h2;cases h2
  have hcs : Cs.ShL cs∧Cs.S1L cs∧Cs.NHL cs∧Cs.NxL cs∧Cs.J2 cs = []:=by
   by_cases hk : k = 7
   ·have key : ∀ t ws y,Cs.mk t ws y∈cs→(Shp y∧y.stT = [])∧∀ w∈ws,NoX w:=fun t ws y hm=>by
     obtain ⟨-,-,-,q4,-,q6⟩:=Mw (h7 hk).2.2 hm
     have hw : ∀ w∈ws,NoX w:=fun w hw=>nameB_noX (badB_no q4 w hw)
     have hs : (Cs.mk t ws y).sz≤Cs.szs cs:=Cs.Z4 hm
     rw [Cs.sz] at hs
     exact ⟨ih y _ (deep + 1) (by omega) q6 fun n hm=>(List.mem_append.1 hm).elim (hn n) (hw n),hw⟩
    refine ⟨Fj.2 fun c h=>?_,P8.2 fun c h=>?_,L8.2 fun c h=>?_,P9.2 fun c h=>?_,?_⟩
    ·obtain ⟨t,ws,y⟩:=c;exact (key t ws y h).1.1.sh
    ·obtain ⟨t,ws,y⟩:=c;exact (key t ws y h).1.1.s1
    ·obtain ⟨t,ws,y⟩:=c;exact (key t ws y h).1.1.nh
    ·obtain ⟨t,ws,y⟩:=c;exact ⟨(key t ws y h).2,(key t ws y h).1.1.nx⟩
    ·exact List.eq_nil_iff_forall_not_mem.2 fun d hd=>by
      obtain ⟨c,h1,h2⟩:=A8.1 hd
      obtain ⟨t,ws,y⟩:=c
      rw [Cs.stT,(key t ws y h1).1.2] at h2;cases h2
   ·rw [hc7 hk];exact ⟨trivial,trivial,trivial,trivial,rfl⟩
  refine ⟨⟨⟨fun hk=>?_,hc7,fun hk e=>(h7 hk).1 (by rw [e];rfl),hxs.1,hcs.1⟩,⟨by omega,hxs.2.1,hcs.2.1⟩,⟨by omega,hxs.2.2.1,hcs.2.2.1⟩,⟨fun hk=>ha (by omega),by omega,hxs.2.2.2.1,hcs.2.2.2.1⟩⟩,?_⟩
  ·unfold Xq at h4
   rcases hk with rfl | rfl <;> simp at h4 <;> exact h4.1
  ·rw [Tm.stT,if_neg (by omega),hxs.2.2.2.2,hcs.2.2.2.2];rfl
theorem shp_var {x : Tm} (h : Shp x) (h1 : x.tk = 1) : NoX x.nm:=by
 obtain ⟨k,n,a,b,vs,xs,cs⟩:=x
 exact h.nx.1 (.inl h1)
theorem ow_shp : ∀ (d : Nat) (t : Tm) (has : List ByteArray),t.Rt d→t.isP = true→Shp t→(∀ n∈has,NoX n)→Shp (t.ow has):=by
 intro d
 induction d with
 | zero=>intro t _ h;exact h.elim
 | succ d ih =>
  intro t has hR hP hS hh
  obtain ⟨k,n0,a,b,vs,xs,cs⟩:=t
  have hR':=hR
  obtain ⟨hk,-,-,hx,hc⟩:=hR
  rw [Tm.isP,Bool.and_eq_true] at hP
  obtain ⟨hP1,hP2⟩:=hP
  have hxS : ∀ x∈xs,Shp x:=fun x hm=>⟨Sv.1 hS.sh.2.2.2.1 x hm,Qk0.1 hS.s1.2.1 x hm,NHL_iff.1 hS.nh.2.1 x hm,NxL_iff.1 hS.nx.2.2.1 x hm⟩
  have hcS : ∀ t ws y,Cs.mk t ws y∈cs→Shp y∧∀ w∈ws,NoX w:=fun t ws y hm=>⟨⟨Fj.1 hS.sh.2.2.2.2 _ hm,P8.1 hS.s1.2.2 _ hm,L8.1 hS.nh.2.2 _ hm,(P9.1 hS.nx.2.2.2 _ hm).2⟩,(P9.1 hS.nx.2.2.2 _ hm).1⟩
  rw [Tm.ow]
  generalize hF : (Tm.mk k n0 a b vs xs cs).free = F
  have hO : ∀ n∈inN has F,NoX n:=fun n hn=>hh n (V8.1 hn).1
  refine Qj5 (.inr rfl) _ (fun n hn=>hh n (J8.1 hn).1) ?_
  split
  ·rename_i h3
   have hvar:=isL_var (by omega) hP1
   refine Qj5 (.inl rfl) _ (fun n hn=>?_) hS
   obtain ⟨x,hx1,rfl⟩:=Av xs [] n hn
   exact shp_var (hxS x hx1) (hvar x hx1)
  split
  ·rename_i h6
   subst h6
   obtain ⟨x,y,rfl,rfl,hxR,hyR⟩:=rt_two hR'
   have hPx:=Qx9 hP1 x (by simp)
   have hPy:=Qx9 hP1 y (by simp)
   generalize inN has F = O at hO
   rw [letD,letH,Tm.owZ,Tm.owZ,Tm.owZ]
   simp only [List.headD_cons,List.tail_cons]
   have ha : NoX a:=hS.nx.1 (by omega)
   have gx:=ih x (inN O x.free) hxR hPx (hxS x (by simp)) fun n hn=>hO n (V8.1 hn).1
   have gy:=ih y (inN O (woN y.free [a]) ++ [a]) hyR hPy (hxS y (by simp)) fun n hn=>by
    rcases List.mem_append.1 hn with hn | hn
    ·exact hO n (V8.1 hn).1
    ·simp only [List.mem_singleton] at hn;subst hn;exact ha
   refine Qj5 (.inl rfl) _ (fun n hn=>hO n (V8.1 (V8.1 hn).1).1) ?_
   exact ⟨⟨by omega,fun _=>rfl,by omega,⟨gx.sh,gy.sh,trivial⟩,trivial⟩,⟨by omega,⟨gx.s1,gy.s1,trivial⟩,trivial⟩,⟨by omega,⟨gx.nh,gy.nh,trivial⟩,trivial⟩,⟨fun _=>ha,by omega,⟨gx.nx,gy.nx,trivial⟩,trivial⟩⟩
  split
  ·rename_i h7
   subst h7
   have hvar:=isL_var (by omega) hP1
   obtain ⟨x0,rfl,hx0⟩:=rt_one hR'
   have hnm : nmH [x0] = x0.nm:=rfl
   have h0:=hxS x0 (by simp)
   have h0n:=shp_var h0 (hvar x0 (by simp))
   generalize inN has F = O at hO
   rw [owL_eq,hnm]
   have key : ∀ c∈cs,∃ t ws y',c.ow O x0.nm = .mk t ws y'∧Shp y'∧∀ w∈ws,NoX w:=fun c hm=>by
    obtain ⟨t,ws,y⟩:=c
    obtain ⟨hyS,hw⟩:=hcS t ws y hm
    refine ⟨t,ws,_,by rw [Cs.ow],?_,hw⟩
    refine Qj5 (.inl rfl) _ (fun n hn=>hw n (V8.1 hn).1) (Qj5 (.inr rfl) _ (fun n hn=>?_) (ih y _ (hc _ hm).2 (cisL_all hP2 t ws y hm) hyS fun n hn=>?_))
    ·split at hn
     ·cases hn
     ·simp only [List.mem_singleton] at hn;subst hn;exact h0n
    ·have : n∈O ++ inN ws y.free:=by
      split at hn
      ·exact hn
      ·exact (J8.1 hn).1
     rcases List.mem_append.1 this with h | h
     ·exact hO n h
     ·exact hw n (V8.1 h).1
   have hne : cs≠[]:=hS.sh.2.2.1 rfl
   refine ⟨⟨by omega,by omega,fun _ e=>hne (by simpa using e),⟨h0.sh,trivial⟩,Fj.2 fun c h=>?_⟩,⟨by omega,⟨h0.s1,trivial⟩,P8.2 fun c h=>?_⟩,⟨by omega,⟨h0.nh,trivial⟩,L8.2 fun c h=>?_⟩,⟨by omega,by omega,⟨h0.nx,trivial⟩,P9.2 fun c h=>?_⟩⟩
   all_goals
    obtain ⟨c0,hc0,rfl⟩:=List.mem_map.1 h
    obtain ⟨t,ws,y',e,hy,hw⟩:=key c0 hc0
    rw [e]
   ·exact hy.sh
   ·exact hy.s1
   ·exact hy.nh
   ·exact ⟨hw,hy.nx⟩
  ·exact hS
theorem sr_shp : ∀ (N : Nat) (t : Tm) (rest : List ByteArray),t.sz≤N→Shp t→Shp (t.sr rest).2∧∀ n∈(t.sr rest).1,n∈rest:=by
 intro N
 induction N with
 | zero=>intro t _ h;have:=t.F8;omega
 | succ N ih =>
  intro t rest hN hS
  obtain ⟨k,n,a,b,vs,xs,cs⟩:=t
  rw [Tm.sr]
  by_cases hc : k = 8∧hasB rest a = true
  ·rw [if_pos hc]
   obtain ⟨⟨x,rfl⟩,rfl⟩:=hS.s1.1 (.inl hc.1)
   rw [Tm.srL]
   have hxN : x.sz≤N:=by
    rw [Tm.sz] at hN
    simp only [Tm.szs] at hN
    omega
   obtain ⟨h1,h2⟩:=ih x (woN rest [a]) hxN ⟨hS.sh.2.2.2.1.1,hS.s1.2.1.1,hS.nh.2.1.1,hS.nx.2.2.1.1⟩
   exact ⟨h1,fun n hn=>(J8.1 (h2 n hn)).1⟩
  ·rw [if_neg hc];exact ⟨hS,fun n h=>h⟩
theorem fuOne_shp {k : Int} {na : Nat} {nm : ByteArray} {ws : List ByteArray} {y : Tm} (hS : Shp y) (hw : ∀ w∈ws,NoX w) : Shp (G7 k na nm ws y):=by
 unfold G7
 split
 ·rename_i hcond
  obtain ⟨-,-,-,h9,hnm⟩:=hcond
  obtain ⟨h1,h2⟩:=sr_shp y.sz y ws (Nat.le_refl _) hS
  generalize y.sr ws = Z at *
  obtain ⟨rest,z⟩:=Z
  dsimp only at *
  obtain ⟨k,n,a,b,vs,xs,cs⟩:=z
  rw [Tm.tk] at h9
  subst h9
  obtain ⟨⟨x,rfl⟩,rfl⟩:=h1.s1.1 (.inr (.inl rfl))
  have ha0 : (Tm.mk 9 n a b vs [x] []).a0 = x:=rfl
  rw [ha0]
  have g:=Qj5 (k:=9) (.inr rfl) rest (t:=x) (fun n hn=>hw n (h2 n hn)) ⟨h1.sh.2.2.2.1.1,h1.s1.2.1.1,h1.nh.2.1.1,h1.nx.2.2.1.1⟩
  exact ⟨⟨by omega,fun _=>rfl,by omega,⟨g.sh,trivial⟩,trivial⟩,⟨fun _=>⟨⟨_,rfl⟩,rfl⟩,⟨g.s1,trivial⟩,trivial⟩,⟨by omega,⟨g.nh,trivial⟩,trivial⟩,⟨by omega,fun _=>hw,⟨g.nx,trivial⟩,trivial⟩⟩
 ·exact hS
theorem fu_shp : ∀ (N : Nat) (t : Tm),t.sz≤N→Shp t→Shp t.fu:=by
 intro N
 induction N with
 | zero=>intro t h;have:=t.F8;omega
 | succ N ih =>
  intro t hN hS
  obtain ⟨k,n,a,b,vs,xs,cs⟩:=t
  rw [Tm.sz] at hN
  have hx : ∀ x∈xs,Shp x.fu:=fun x hm=>ih x (by have:=Tm.Z4 hm;omega) ⟨Sv.1 hS.sh.2.2.2.1 x hm,Qk0.1 hS.s1.2.1 x hm,NHL_iff.1 hS.nh.2.1 x hm,NxL_iff.1 hS.nx.2.2.1 x hm⟩
  have hc : ∀ c∈cs,∃ t ws y',c.fu k xs.length (nmH xs) = .mk t ws y'∧Shp y'∧∀ w∈ws,NoX w:=fun c hm=>by
   obtain ⟨t,ws,y⟩:=c
   have hw:=(P9.1 hS.nx.2.2.2 _ hm).1
   have hs : (Cs.mk t ws y).sz≤Cs.szs cs:=Cs.Z4 hm
   rw [Cs.sz] at hs
   exact ⟨t,ws,_,by rw [Cs.fu],fuOne_shp (ih y (by omega) ⟨Fj.1 hS.sh.2.2.2.2 _ hm,P8.1 hS.s1.2.2 _ hm,L8.1 hS.nh.2.2 _ hm,(P9.1 hS.nx.2.2.2 _ hm).2⟩) hw,hw⟩
  rw [Tm.fu,Tm.Qj1,Cs.Qj1]
  have hxm : ∀ u∈xs.map Tm.fu,Shp u:=fun u hu=>by obtain ⟨x,hx1,rfl⟩:=List.mem_map.1 hu;exact hx x hx1
  refine ⟨⟨fun h=>by rw [hS.sh.1 h];rfl,fun h=>by rw [hS.sh.2.1 h];rfl,fun h e=>hS.sh.2.2.1 h (by simpa using e),Sv.2 fun u hu=>(hxm u hu).sh,Fj.2 fun c h=>?_⟩,⟨fun h=>?_,Qk0.2 fun u hu=>(hxm u hu).s1,P8.2 fun c h=>?_⟩,⟨hS.nh.1,NHL_iff.2 fun u hu=>(hxm u hu).nh,L8.2 fun c h=>?_⟩,⟨hS.nx.1,hS.nx.2.1,NxL_iff.2 fun u hu=>(hxm u hu).nx,P9.2 fun c h=>?_⟩⟩
  ·obtain ⟨c0,hc0,rfl⟩:=List.mem_map.1 h
   obtain ⟨t,ws,y',e,hy,hw⟩:=hc c0 hc0
   rw [e];exact hy.sh
  ·obtain ⟨⟨x,rfl⟩,rfl⟩:=hS.s1.1 h
   exact ⟨⟨_,rfl⟩,rfl⟩
  ·obtain ⟨c0,hc0,rfl⟩:=List.mem_map.1 h
   obtain ⟨t,ws,y',e,hy,hw⟩:=hc c0 hc0
   rw [e];exact hy.s1
  ·obtain ⟨c0,hc0,rfl⟩:=List.mem_map.1 h
   obtain ⟨t,ws,y',e,hy,hw⟩:=hc c0 hc0
   rw [e];exact hy.nh
  ·obtain ⟨c0,hc0,rfl⟩:=List.mem_map.1 h
   obtain ⟨t,ws,y',e,hy,hw⟩:=hc c0 hc0
   rw [e];exact ⟨hw,hy.nx⟩
end Go.Proofs.YtjpldhjgehoffaaDoor
