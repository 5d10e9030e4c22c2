import Derived.Deep.RegionHeld3
import Derived.Deep.RegionLaw
import Derived.BigRegion
import Derived.Deep.Cut
import Derived.WalkSmall
import Derived.Test.YtnddiddkmhiclaaGreatDoorTy
set_option maxHeartbeats 4000000
set_option maxRecDepth 20000
set_option linter.unusedVariables false
set_option linter.unusedSimpArgs false
namespace Go.Proofs.YtnddiddkmhiclaaGreatDoor
section
open Go.RowKit
structure Qx where
 kind:Int
 n:Int
 deriving DecidableEq
structure Qk where
 count:Int
 tag:Int
 slots:List Qx
 deriving DecidableEq
structure Hp where
 cells:List Qk
 made:Int
 used:Int
 live:Int
 peak:Int
 deriving DecidableEq
def Qx.row(s:Qx):List D:=[.int s.kind,.int s.n]
def Qk.row(c:Qk):List D:=[.int c.count,.int c.tag,.sl (c.slots.map Qx.row)]
theorem GG:(Tryz.prog.info? 48).map (λi=>(i.zero,i.size,i.bytes))=some (some (.agg #[.int .i64 0,.int .i64 0]),2,16):=by kernel_rfl
theorem GH:(Tryz.prog.info? 43).map (λi=>(i.zero,i.size,i.bytes))=some (some (.agg #[.int .i64 0,.int .i64 0,.slice none 0 0]),3,40):=by kernel_rfl
theorem Qx.QH(s:Qx):s.row.length=2:=rfl
theorem Qk.QH(s:Qk):s.row.length=3:=rfl
theorem RA{g:Type}(f:g->List D)(k:Nat)(j:∀x,(f x).length=k)(l:List g)(i:Nat)(r:List D)(h:(l.map f)[i]? =some r):r.length=k:=by
 obtain⟨x,_,rfl⟩:=List.mem_map.1 (List.mem_of_getElem? h);exact j x
theorem EH{g:Type}(f:g->List D)(o:∀(x:g) (j:Nat) (d:D),(f x)[j]? =some d->d.flat)(l:List g)(i j:Nat)(r:List D)(d:D)(h:(l.map f)[i]? =some r)(t:r[j]? =some d):d.flat:=by
 obtain⟨x,_,rfl⟩:=List.mem_map.1 (List.mem_of_getElem? h);exact o x j d t
theorem Qx.flat(s:Qx)(j:Nat)(d:D)(h:s.row[j]? =some d):d.flat:=by
 match j,h with
 |0,h=>simp[Qx.row]at h;subst h;trivial
 |1,h=>simp[Qx.row]at h;subst h;trivial
theorem U9(l : List Qx)(ok : Nat->Prop)(a : Option Addr)(n c : Nat)(w : World)(hn : n = l.length)(hbig : n<=8796093022208)(hok : ∀ b,ok b->b < w.heap.size)(hR : Xk w ok (.sl (l.map Qx.row)) (.slice a n c)) :
  Calls Tryz.prog 56 #[.slice a n c] w λe w'=>∃ a' c',e = .returned (.slice a' n c')/\Xk w' (λb=>w.heap.size<=b/\b < w'.heap.size) (.sl (l.map Qx.row)) (.slice a' n c')/\Below w.heap.size w w':=by
 obtain ⟨i0,hi,hz0,hz1,hz2⟩:=info_parts GG
 have q:=λ(w : World) (a : Option Addr) (n c n' c' : Nat)=>Lib.run_eql_slice_nil (P:=Tryz.prog) w 41 48 a n c n' c' Tryz.underlying41
 have HN:=Lib.hid hn
 clear hn
 go_enter Tryz.func56,Tryz.ntmps56
 rcases a with _ | ad
 ·go_wp2_with fail
  go_ret
  obtain ⟨h0,rfl,rfl⟩:=hR.SQ
  exact ⟨none,0,rfl,by rw [h0];exact .empty none 0 (λ_=>rfl) (Nat.zero_le _),Below.refl _ _⟩
 ·go_wp2_with (at_builtin;refine ZY _ rfl (.tmp 5) (.tmp 6) 41 rfl w.heap.size 48 i0 _ 2 16 Tryz.underlying41 hi hz0 hz1 hz2 rfl (by omega) (λ_=>False) _ [] rfl (U5.made w w.heap.size _ 2 _ (Nat.le_refl _)) (some ad) n c (l.map Qx.row) ?c1 rfl ok ?c2 ?c3 ?c4 ?c5 ?c6 ?c7 ?c8 ?_)
  case c1=>rw [HN.out];simp
  case c2=>exact hR.alloc _ hok
  case c3=>intro i j r d u hr hd hu;refine hu.flat ?_;exact EH Qx.row Qx.flat l i j r d hr hd
  case c4=>exact RA _ _ Qx.QH l
  case c5=>have:=HN.out;simp [maxLen];omega
  case c6=>have:=HN.out;simp;omega
  case c7=>simp
  case c8=>simp
  intro v' w1 hA hg hv'
  have hb : Below w.heap.size w w1:=((Below.refl _ _).alloc (Nat.le_refl _) _).grown hg (by simp) (by simp [Value.ownBlock])
  have hF : ∃ a' c',v' = .slice a' n c'/\Xk w1 (λb=>w.heap.size<=b/\b < w1.heap.size) (.sl (l.map Qx.row)) (.slice a' n c'):=by
   have h1:=hA.Ty (ok':=λb=>w.heap.size<=b/\b < w1.heap.size) (λb h1 h2=>⟨h1,h2⟩) (λb h=>h.elim)
   obtain ⟨a',c',rfl,_⟩:=h1.Ik
   refine ⟨a',c',by rw [HN.out];simp,?_⟩
   rw [HN.out]
   simpa using h1
  obtain ⟨a',c',rfl,hF⟩:=hF
  go_wp2
  go_ret
  exact ⟨a',c',rfl,hF,hb⟩
theorem Qk.at_{w:World}{ok:Nat->Prop}{l ys zs:List Qk}{x:Qk}{a:Option Addr}{n c:Nat}(h:Xk w ok (.sl (l.map Qk.row)) (.slice a n c))(P:l=ys++x::zs):
  ∃(b o:Nat) (g:Option Addr) (i:Nat),a=some ⟨b,o,none⟩/\ok b/\w.cell? ⟨b,o+ys.length * 3,none⟩=some (.int .i64 x.count)/\w.cell? ⟨b,o+ys.length * 3+1,none⟩=some (.int .i64 x.tag)/\
   w.cell? ⟨b,o+ys.length * 3+2,none⟩=some (.slice g x.slots.length i)/\Xk w ok (.sl (x.slots.map Qx.row)) (.slice g x.slots.length i)/\(-9223372036854775808<=x.count/\x.count<=9223372036854775807)/\(-9223372036854775808<=x.tag/\x.tag<=9223372036854775807):=by
 obtain⟨U,_⟩:=h.D7;have j:ys.length<n:=by rw[U,P];simp
 obtain⟨b,o,size,V,r,hr,f,rfl,t,C,I⟩:=h.at_ j;have hx:(l.map Qk.row)[ys.length]? =some x.row:=by rw[P];simp
 rw[hx]at hr;obtain rfl:=Option.some.inj hr;rw[Qk.QH]at f;subst f;obtain⟨e0,l0,u0⟩:=(I 0 _ rfl).X5;obtain⟨e1,l1,u1⟩:=(I 1 _ rfl).X5;have T:=I 2 _ rfl;obtain⟨g,i,J,_⟩:=T.Ik;rw[List.length_map]at J;refine⟨b,o,g,i,rfl,t,?_,?_,?_,by rw[<-J];exact T,⟨l0,u0⟩,⟨l1,u1⟩⟩
 ·rw[<-e0];exact C 0 oM
 ·rw[<-e1];exact C 1 oM
 ·rw[<-J];exact C 2 oM
theorem Qk.Qj1{w:World}{ok:Nat->Prop}{x:Qk}{i:Option Addr}{l:Nat}(h:Xk w ok (.sl (x.slots.map Qx.row)) (.slice i x.slots.length l))(o: -9223372036854775808<=x.count/\x.count<=9223372036854775807)(r: -9223372036854775808<=x.tag/\x.tag<=9223372036854775807):
  Xm w ok x.row [.int .i64 x.count,.int .i64 x.tag,.slice i x.slots.length l]:=by
 refine⟨rfl,λj d v f g=>?_⟩;match j,f,g with
 |0,f,g=>simp[Qk.row]at f g;subst f g;exact .int _ o.1 o.2
 |1,f,g=>simp[Qk.row]at f g;subst f g;exact .int _ r.1 r.2
 |2,f,g=>simp[Qk.row]at f g;subst f g;exact h
theorem Qg0(l : List Qk)(made used live peak : Int)(ok : Nat->Prop)(a : Option Addr)(n c : Nat)(w : World)(hn : n = l.length)(hbig : n<=1000000)(hs : ∀ x∈l,x.slots.length<=8796093022208)(hok : ∀ b,ok b->b < w.heap.size)(hR : Xk w ok (.sl (l.map Qk.row)) (.slice a n c)) :
  Calls Tryz.prog 40 #[.agg #[.slice a n c,.int .i64 made,.int .i64 used,.int .i64 live,.int .i64 peak]] w λe w'=>∃ v,e = .returned (.agg #[v,.int .i64 made,.int .i64 used,.int .i64 live,.int .i64 peak]) /\
   U5 w' w.heap.size 43 3 (λb=>w.heap.size<=b/\b < w'.heap.size) v (l.map Qk.row)/\Below w.heap.size w w':=by
 obtain ⟨i0,hi,hz0,hz1,hz2⟩:=info_parts GH
 have HN:=Lib.hid hn
 have HS:=Lib.hid hs
 clear hn hs
 go_enter Tryz.func40,Tryz.ntmps40
 go_wp2_with fail
 go_loopw [3,9] (λv i wr=>∃ ys zs : List Qk,Hid (l = ys ++ zs)/\i = .int .i64 ys.length/\U5 wr (w.heap.size + 2) 43 3 (λb=>w.heap.size + 2<=b/\b < wr.heap.size) v (ys.map Qk.row)/\Below w.heap.size w wr /\
   U8 wr w.heap.size 46 #[.slice a n c,.int .i64 made,.int .i64 used,.int .i64 live,.int .i64 peak]/\U8 wr (w.heap.size + 1) 46 #[.slice none 0 0,.int .i64 0,.int .i64 0,.int .i64 0,.int .i64 0])
  (λ_ i _=>n - (intOf i).toNat)
 case atStart =>
  exact ⟨[],l,rfl,rfl,U5.nil _ _ _ _ _,((Below.refl _ _).alloc (Nat.le_refl _) _).alloc (by simp) _,(U8.new _ _ _).alloc _,U8.new' _ _ _ _ (by simp)⟩
 case round =>
  obtain ⟨ys,zs,HL,rfl,hA,hb,hB0,hB1⟩:=hrel
  have hwb : w.heap.size + 2<=wr.heap.size:=by have:=hB1.lt;omega
  rcases zs with _ | ⟨x,zs⟩
  ·have hlen : n<=ys.length:=by rw [HN.out,HL.out];simp
   have hc0:=hB0.cell
   have hc1:=hB1.cell
   have hf0:=hB0.frozen
   have hf1:=hB1.frozen
   obtain ⟨a3,c3,rfl⟩:=hA.shape
   rw [List.append_nil] at HL
   have hown:=hA.own
   have HA:=Lib.hid hA
   clear hA
   go_wp2_with fail
   rw [List.length_map] at HA hown
   refine bodyPost_ret (v:=.agg #[.slice a3 ys.length c3,.int .i64 made,.int .i64 used,.int .i64 live,.int .i64 peak]) (by simp [results,Tryz.results40,go_sem,hc1]) rfl ?_
   clear hc0 hc1 hf0 hf1
   refine ⟨.slice a3 ys.length c3,?_⟩
   refine And.intro rfl ?_
   refine And.intro ?_ ?_
   ·rw [HL.out]
    refine U5.weak (ok:=λb=>w.heap.size + 2<=b/\b < wr.heap.size) (U5.Jk9 (base:=w.heap.size + 2) ?_ (by omega)) (λb hb=>⟨by omega,by simpa using hb.2⟩)
    iterate 6 refine U5.setCell ?_ _ (λe=>by have:=hown _ e;dsimp only at this;omega) (λb hb=>by dsimp only at hb ⊢;omega)
    exact HA.out
   ·exact ((((((hb.setCell (by simp) _).setCell (by simp) _).setCell (by simp) _).setCell (by simp) _).setCell (by simp) _).setCell (by simp) _)
  ·have hlt : ys.length < n:=by rw [HN.out,HL.out];simp
   have hsx : x.slots.length<=8796093022208:=HS.out x (by rw [HL.out];simp)
   obtain ⟨b,o,sa,sc,rfl,hob,c0,c1,c2,hrs,r0,r1⟩:=Qk.at_ hR HL.out
   have hbl:=hok _ hob
   have d0:=(hb.cell (p:=⟨b,o + ys.length * 3,none⟩) hbl).trans c0
   have d1:=(hb.cell (p:=⟨b,o + ys.length * 3 + 1,none⟩) hbl).trans c1
   have d2:=(hb.cell (p:=⟨b,o + ys.length * 3 + 2,none⟩) hbl).trans c2
   go_wp2_with fail
   refine (U9 x.slots ok sa _ sc _ rfl (by omega) (λb hb=>by simp;have:=hok b hb;omega) ((hrs.under hb hok).alloc _ (λb hb=>by have:=hok b hb;omega))).mono ?_
   rintro e w2 ⟨sa',sc',rfl,hr2,hb2⟩
   have hb2' : Below (wr.heap.size + 1) (wr.alloc (.cells #[.int .i64 x.count,.int .i64 x.tag,.slice sa x.slots.length sc] 43)) w2:=by simpa using hb2
   have hsz2 : wr.heap.size + 1<=w2.heap.size:=by have:=hb2'.size;simpa using this
   have hBc : U8 w2 wr.heap.size 43 #[.int .i64 x.count,.int .i64 x.tag,.slice sa x.slots.length sc]:=(U8.new wr _ _).under hb2' (by omega)
   have hc2:=hBc.cell
   have hf2:=hBc.frozen
   have hA2 : U5 w2 (w.heap.size + 2) 43 3 (λb=>w.heap.size + 2<=b/\b < w2.heap.size/\b≠wr.heap.size) u3 (ys.map Qk.row) :=
    ((hA.alloc _ (λb hb=>hb.2)).under hb2' (by simp) (λb hb=>by have:=hb.2;omega)).weak (λb hb=>⟨hb.1,by omega,by omega⟩)
   have hown : ∀ g,u3.ownBlock = some g->w.heap.size + 2<=g/\g < wr.heap.size:=hA.own
   have hr3 : Xk w2 (λb=>wr.heap.size + 1<=b/\b < w2.heap.size) (.sl (x.slots.map Qx.row)) (.slice sa' x.slots.length sc'):=by simpa using hr2
   have hb2w : Below wr.heap.size wr w2:=((Below.refl _ wr).alloc (Nat.le_refl _) _).trans (hb2'.mono (by omega))
   have hA3 : U5 (w2.setCell ⟨wr.heap.size,2,none⟩ (.slice sa' x.slots.length sc')) (w.heap.size + 2) 43 3 (λb=>w.heap.size + 2<=b/\b < w2.heap.size/\b≠wr.heap.size) u3 (ys.map Qk.row) :=
    hA2.setCell _ (λe=>by have:=hown _ e;simp at this) (λb hb=>hb.2.2)
   have hr4 : Xm (w2.setCell ⟨wr.heap.size,2,none⟩ (.slice sa' x.slots.length sc')) (λb=>(w.heap.size + 2<=b/\b < w2.heap.size/\b≠wr.heap.size)/\u3.ownBlock≠some b) x.row [.int .i64 x.count,.int .i64 x.tag,.slice sa' x.slots.length sc'] :=
    Qk.Qj1 ((hr3.setCell _ (λb hb=>by show b≠wr.heap.size;omega)).weak λb hb=>⟨⟨by omega,hb.2,by omega⟩,λe=>by have:=(hown b e).2;omega⟩) r0 r1
   clear hb2 hr2 hb2' hA2 hr3 c0 c1 c2 d0 d1 d2
   go_wp2_with (at_builtin;refine JC _ rfl (.tmp 17) (.tmp 19) 44 rfl (w.heap.size + 2) 43 i0 _ 3 40 Tryz.underlying44 hi hz0 hz1 hz2 rfl (by omega) (λb=>w.heap.size + 2<=b/\b < w2.heap.size/\b≠wr.heap.size) u3 (ys.map Qk.row) rfl _ _ hA3 _ rfl ?d7 x.row rfl hr4 ?d3 ?d4 ?d5 ?d6 ?_)
   case d7=>simp [World.setCell]
   case d3=>simp [maxLen];omega
   case d4=>simp;omega
   case d5=>intro b hb;simp [World.setCell];omega
   case d6=>simp [World.setCell];omega
   intro g cap w4 hA4 hg4 hv4 hlt4
   have hsz4 : w2.heap.size + 1<=w4.heap.size:=by have:=hg4.size;simpa [World.setCell] using this
   have hA5 : U5 w4 (w.heap.size + 2) 43 3 (λb=>w.heap.size + 2<=b/\b < w4.heap.size) (.slice (some ⟨g,0,none⟩) (ys.length + 1) cap) ((ys ++ [x]).map Qk.row):=by
    rw [List.map_append]
    simpa using hA4.weak λb hb=>⟨hb.1,by omega⟩
   have hb4 : Below (w.heap.size + 2) wr w4:=((hb2w.mono hwb).setCell (by simpa using hwb) _ |>.alloc (by simp [World.setCell];omega) _).grown hg4 (by simp [World.setCell];omega) λk hk=>(hown k hk).1
   have hB0':=hB0.under hb4 (by omega)
   have hB1':=hB1.under hb4 (by omega)
   have hb5:=hb.trans (hb4.mono (by omega))
   clear hA4 hg4 hA3 hA hB0 hB1 hb2w hc2 hf2
   have HA5:=Lib.hid hA5
   go_wp2
   go_roundw
   case rel=>exact ⟨ys ++ [x],zs,by rw [HL.out,List.append_assoc];rfl,by simp,HA5.out,hb5,hB0',hB1'⟩
   case measure=>simp [intOf];omega
theorem Qx.at_{w:World}{ok:Nat->Prop}{l ys zs:List Qx}{x:Qx}{a:Option Addr}{n c:Nat}(h:Xk w ok (.sl (l.map Qx.row)) (.slice a n c))(j:l=ys++x::zs):
  ∃(b o:Nat),a=some ⟨b,o,none⟩/\ok b/\w.cell? ⟨b,o+ys.length * 2,none⟩=some (.int .i64 x.kind)/\w.cell? ⟨b,o+ys.length * 2+1,none⟩=some (.int .i64 x.n)/\
   (-9223372036854775808<=x.kind/\x.kind<=9223372036854775807)/\(-9223372036854775808<=x.n/\x.n<=9223372036854775807):=by
 obtain⟨I,_⟩:=h.D7;have g:ys.length<n:=by rw[I,j];simp
 obtain⟨b,o,size,V,r,hr,f,rfl,i,t,C⟩:=h.at_ g;have J:(l.map Qx.row)[ys.length]? =some x.row:=by rw[j];simp
 rw[J]at hr;obtain rfl:=Option.some.inj hr;rw[Qx.QH]at f;subst f;obtain⟨P,T,U⟩:=(C 0 _ rfl).X5;obtain⟨e1,l1,u1⟩:=(C 1 _ rfl).X5;refine⟨b,o,rfl,i,?_,?_,⟨T,U⟩,⟨l1,u1⟩⟩
 ·rw[<-P];exact t 0 oM
 ·rw[<-e1];exact t 1 oM
def Hp.at(h:Hp)(n:Int):Option Qk:=if 0<=n then h.cells[n.toNat]? else none
def Hp.there(h:Hp)(s:Qx):Bool:=s.kind==2 && (match h.at s.n with|some c=>decide (0<c.count)|none=>false)
def Hp.kept(h:Hp)(s:Qx):Bool:=match h.at s.n with|some c=>c.count== -1|none=>false
theorem JO{f:Type}{l:List f}{k:Nat}{x:f}(h:l[k]? =some x):∃ys zs,l=ys++x::zs/\ys.length=k:=by
 have g:=(List.getElem?_eq_some_iff.1 h).1;refine⟨l.take k,l.drop (k+1),?_,by simp;omega⟩;have:l[k]=x:=(List.getElem?_eq_some_iff.1 h).2;rw[<-this,<-List.drop_eq_getElem_cons g,List.take_append_drop]
theorem Hp.Gv{h:Hp}{i:Int}{x:Qk}(e:h.at i=some x):0<=i/\i<h.cells.length/\∃ys zs,h.cells=ys++x::zs/\ys.length=i.toNat:=by
 unfold Hp.at at e;split at e
 ·obtain⟨ys,zs,f,g⟩:=JO e;have:=(List.getElem?_eq_some_iff.1 e).1;exact⟨by assumption,oM,ys,zs,f,g⟩
 ·cases e
theorem Hp.Ao{h:Hp}{i:Int}(e:h.at i=none):i<0\/h.cells.length<=i:=by
 unfold Hp.at at e;split at e
 ·have:=List.getElem?_eq_none_iff.1 e;omega
 ·omega
theorem Qk.XP{w:World}{ok:Nat->Prop}{h:Hp}{i:Int}{x:Qk}{a:Option Addr}{n c:Nat}(f:Xk w ok (.sl (h.cells.map Qk.row)) (.slice a n c))(e:h.at i=some x):
  0<=i/\i<n/\∃(b o:Nat) (g:Option Addr) (j:Nat),a=some ⟨b,o,none⟩/\ok b/\w.cell? ⟨b,o+i.toNat * 3,none⟩=some (.int .i64 x.count)/\w.cell? ⟨b,o+i.toNat * 3+1,none⟩=some (.int .i64 x.tag)/\
   w.cell? ⟨b,o+i.toNat * 3+2,none⟩=some (.slice g x.slots.length j)/\Xk w ok (.sl (x.slots.map Qx.row)) (.slice g x.slots.length j)/\(-9223372036854775808<=x.count/\x.count<=9223372036854775807)/\(-9223372036854775808<=x.tag/\x.tag<=9223372036854775807):=by
 obtain⟨l,I,ys,zs,r,t⟩:=Hp.Gv e;obtain⟨C,_⟩:=f.D7;rw[List.length_map]at C;refine⟨l,oM,?_⟩;rw[<-t];exact Qk.at_ f r
section
variable {w:World} {ok:Nat->Prop} {base:Nat} {e:TypeId} {l ys zs:List Qk} {x:Qk} {a:Option Addr} {n c:Nat}
theorem U5.Oi(h:U5 w base e 3 ok (.slice a n c) (l.map Qk.row))(U:l=ys++x::zs):
  ∃(g:Nat) (j:Option Addr) (r:Nat),a=some ⟨g,0,none⟩/\base<=g/\g<w.heap.size/\w.cell? ⟨g,ys.length * 3,none⟩=some (.int .i64 x.count)/\w.cell? ⟨g,ys.length * 3+1,none⟩=some (.int .i64 x.tag)/\
   w.cell? ⟨g,ys.length * 3+2,none⟩=some (.slice j x.slots.length r)/\(∀o,w.frozen? ⟨g,o,none⟩=false)/\Xk w (λb=>ok b/\b≠g) (.sl (x.slots.map Qx.row)) (.slice j x.slots.length r)/\
   (-9223372036854775808<=x.count/\x.count<=9223372036854775807)/\(-9223372036854775808<=x.tag/\x.tag<=9223372036854775807):=by
 have t:(l.map Qk.row)[ys.length]? =some x.row:=by rw[U];simp
 obtain⟨g,c',u0,I,hb,hg,c0,hf,r0⟩:=h.get t (show x.row[0]? =_ from rfl);obtain⟨g1,a1,u1,f,_,_,c1,_,r1⟩:=h.get t (show x.row[1]? =_ from rfl);obtain⟨g2,a2,u2,i,_,_,J,_,C⟩:=h.get t (show x.row[2]? =_ from rfl);simp only[Value.slice.injEq]at I f i;obtain⟨rfl,rfl,rfl⟩:=I;obtain⟨P,_,_⟩:=f;obtain⟨T,_,_⟩:=i;simp only[Option.some.injEq,Addr.mk.injEq,and_true]at P T;subst P T;obtain⟨rfl,l0⟩:=r0.X5;obtain⟨rfl,l1⟩:=r1.X5;obtain⟨j,r,rfl,_⟩:=C.Ik;rw[List.length_map]at J C;exact⟨g,j,r,rfl,hb,hg,c0,c1,J,hf,C,l0,l1⟩
theorem U5.QX{g:Nat}(h:U5 w base e 3 ok (.slice (some ⟨g,0,none⟩) n c) ((ys++x::zs).map Qk.row))(k:Int)(f: -9223372036854775808<=k)(l:k<=9223372036854775807):
  U5 (w.setCell ⟨g,ys.length * 3,none⟩ (.int .i64 k)) base e 3 ok (.slice (some ⟨g,0,none⟩) n c) ((ys++{ x with count:=k }::zs).map Qk.row):=by
 have:=h.Xz9 (i:=ys.length) (j:=0) (g:=g) (r:=x.row) (d:=.int k) rfl (by simp) oM (.int k f l);simpa[Qk.row]using this
theorem U5.Zh0{g:Nat}(h:U5 w base e 3 ok (.slice (some ⟨g,0,none⟩) n c) ((ys++x::zs).map Qk.row))(k:Int)(f: -9223372036854775808<=k)(l:k<=9223372036854775807):
  U5 (w.setCell ⟨g,ys.length * 3+1,none⟩ (.int .i64 k)) base e 3 ok (.slice (some ⟨g,0,none⟩) n c) ((ys++{ x with tag:=k }::zs).map Qk.row):=by
 have:=h.Xz9 (i:=ys.length) (j:=1) (g:=g) (r:=x.row) (d:=.int k) rfl (by simp) oM (.int k f l);simpa[Qk.row]using this
theorem U5.Oh{g:Nat}(h:U5 w base e 3 ok (.slice (some ⟨g,0,none⟩) n c) ((ys++x::zs).map Qk.row))(s:List Qx)(v:Value)(f:Xk w (λb=>ok b/\b≠g) (.sl (s.map Qx.row)) v):
  U5 (w.setCell ⟨g,ys.length * 3+2,none⟩ v) base e 3 ok (.slice (some ⟨g,0,none⟩) n c) ((ys++{ x with slots:=s }::zs).map Qk.row):=by
 have:=h.Xz9 (i:=ys.length) (j:=2) (g:=g) (r:=x.row) (d:=.sl (s.map Qx.row)) rfl (by simp) oM f;simpa[Qk.row]using this
end
theorem QT(l:List Qk)(made used live f:Int)(ok:Nat->Prop)(a:Option Addr)(n c:Nat)(w:World)(C:n=l.length)(g:n<=1000000)(J:∀x∈l,x.slots.length<=8796093022208)(o:∀b,ok b->b<w.heap.size)(P:Xk w ok (.sl (l.map Qk.row)) (.slice a n c)):
  Calls Tryz.prog 40 #[.agg #[.slice a n c,.int .i64 made,.int .i64 used,.int .i64 live,.int .i64 f]] w λe w'=>∃i j,e= .returned (.agg #[.slice i n j,.int .i64 made,.int .i64 used,.int .i64 live,.int .i64 f])/\
   U5 w' w.heap.size 43 3 (Zn ok w.heap.size w') (.slice i n j) (l.map Qk.row)/\Below w.heap.size w w':=
 (Qg0 l made used live f ok a n c w C g J o P).mono λe w' ⟨v,I,r,t⟩=>by
  obtain⟨i,j,rfl⟩:=r.shape;rw[List.length_map,<-C]at I r;exact⟨i,j,I,r.weak λb t=>.inr t,t⟩
end
section
open Go.RowKit
theorem Az(h : Hp)(s : Qx)(x : Qk)(ok : Nat->Prop)(b o n c p : Nat)(w : World)(hok : ∀ b,ok b->b < w.heap.size)(hp : w.cell? ⟨p,0,none⟩ = some (.slice (some ⟨b,o,none⟩) n c))(hR : Xk w ok (.sl (h.cells.map Qk.row)) (.slice (some ⟨b,o,none⟩) n c))(hx : h.at s.n = some x)(hc : 1<=x.count) :
  Calls Tryz.prog 41 #[.pointer (some ⟨p,0,none⟩),.agg #[.int .i64 s.kind,.int .i64 s.n]] w λe w'=>e = .returned (.pointer (some ⟨b,o + s.n.toNat * 3,none⟩))/\Below w.heap.size w w':=by
 obtain ⟨hn,_,hm⟩:=hR.D7
 unfold maxLen at hm
 obtain ⟨h0,h1,b',o',sa,sc,hbo,hob,c0,_⟩:=Qk.XP hR hx
 simp only [Option.some.injEq,Addr.mk.injEq,and_true] at hbo
 obtain ⟨rfl,rfl⟩:=hbo
 have hbl:=hok _ hob
 have hpl:=World.block_lt_of_cell? w _ hp
 have hca : ∀ ob : Obj,(w.alloc ob).cell? ⟨p,0,none⟩ = some (.slice (some ⟨b,o,none⟩) n c):=λob=>(World.cell?_alloc_lt w ob ⟨p,0,none⟩ hpl).trans hp
 have hcb : ∀ ob : Obj,(w.alloc ob).cell? ⟨b,o + s.n.toNat * 3,none⟩ = some (.int .i64 x.count):=λob=>(World.cell?_alloc_lt w ob ⟨b,_,none⟩ hbl).trans c0
 clear hx hn
 have hn0 : decide (s.n < 0) = false:=by simpa using h0
 have hn1 : decide ((n : Int)<=s.n) = false:=by simpa using h1
 have hn2 : decide (x.count < 1) = false:=by simpa using hc
 go_enter Tryz.func41,Tryz.ntmps41
 go_wp2_with fail
 go_quiet (fail)
 go_wp2_with fail
 go_quiet (fail)
 go_wp2_with fail
 go_ret
 exact ⟨rfl,((Below.refl _ _).alloc (Nat.le_refl _) _).trans (by first | exact Below.refl _ _ | exact ⟨rfl,rfl,rfl,Nat.le_refl _,λ_ _=>rfl⟩)⟩
theorem Aj(h : Hp)(s : Qx)(ok : Nat->Prop)(a : Option Addr)(n c p : Nat)(w : World)(hok : ∀ b,ok b->b < w.heap.size)(hp : w.cell? ⟨p,0,none⟩ = some (.slice a n c))(hR : Xk w ok (.sl (h.cells.map Qk.row)) (.slice a n c))(hx : ∀ x,h.at s.n = some x->x.count < 1) :
  Calls Tryz.prog 41 #[.pointer (some ⟨p,0,none⟩),.agg #[.int .i64 s.kind,.int .i64 s.n]] w λe w'=>e = .returned (.pointer none)/\Below w.heap.size w w':=by
 obtain ⟨hn,_,hm⟩:=hR.D7
 rw [List.length_map] at hn
 unfold maxLen at hm
 have hpl:=World.block_lt_of_cell? w _ hp
 have hca : ∀ ob : Obj,(w.alloc ob).cell? ⟨p,0,none⟩ = some (.slice a n c):=λob=>(World.cell?_alloc_lt w ob ⟨p,0,none⟩ hpl).trans hp
 rcases hx' : h.at s.n with _ | x
 ·have hi:=Hp.Ao hx'
  rw [<- hn] at hi
  clear hx hx' hn
  by_cases h0 : s.n < 0
  ·clear hi
   have hn0 : decide (s.n < 0) = true:=by simpa using h0
   go_enter Tryz.func41,Tryz.ntmps41
   go_wp2_with fail
   go_quiet (fail)
   go_wp2_with fail
   go_ret
   exact ⟨rfl,((Below.refl _ _).alloc (Nat.le_refl _) _).trans (by first | exact Below.refl _ _ | exact ⟨rfl,rfl,rfl,Nat.le_refl _,λ_ _=>rfl⟩)⟩
  ·have h1 : (n : Int)<=s.n:=by omega
   clear hi
   have hn0 : decide (s.n < 0) = false:=by simpa using h0
   have hn1 : decide ((n : Int)<=s.n) = true:=by simpa using h1
   go_enter Tryz.func41,Tryz.ntmps41
   go_wp2_with fail
   go_quiet (fail)
   go_wp2_with fail
   go_ret
   exact ⟨rfl,((Below.refl _ _).alloc (Nat.le_refl _) _).trans (by first | exact Below.refl _ _ | exact ⟨rfl,rfl,rfl,Nat.le_refl _,λ_ _=>rfl⟩)⟩
 ·have hc:=hx x hx'
  obtain ⟨h0,h1,b,o,sa,sc,rfl,hob,c0,_⟩:=Qk.XP hR hx'
  have hbl:=hok _ hob
  have hcb : ∀ ob : Obj,(w.alloc ob).cell? ⟨b,o + s.n.toNat * 3,none⟩ = some (.int .i64 x.count):=λob=>(World.cell?_alloc_lt w ob ⟨b,_,none⟩ hbl).trans c0
  clear hx hx' hn
  have hn0 : decide (s.n < 0) = false:=by simpa using h0
  have hn1 : decide ((n : Int)<=s.n) = false:=by simpa using h1
  have hn2 : decide (x.count < 1) = true:=by simpa using hc
  go_enter Tryz.func41,Tryz.ntmps41
  go_wp2_with fail
  go_quiet (fail)
  go_wp2_with fail
  go_ret
  exact ⟨rfl,((Below.refl _ _).alloc (Nat.le_refl _) _).trans (by first | exact Below.refl _ _ | exact ⟨rfl,rfl,rfl,Nat.le_refl _,λ_ _=>rfl⟩)⟩
theorem Yl(h : Hp)(s : Qx)(x : Qk)(ok : Nat->Prop)(b o n c p : Nat)(w : World)(hok : ∀ b,ok b->b < w.heap.size)(hp : w.cell? ⟨p,0,none⟩ = some (.slice (some ⟨b,o,none⟩) n c))(hR : Xk w ok (.sl (h.cells.map Qk.row)) (.slice (some ⟨b,o,none⟩) n c))(hx : h.at s.n = some x)(hc : x.count = -1) :
  Calls Tryz.prog 90 #[.pointer (some ⟨p,0,none⟩),.agg #[.int .i64 s.kind,.int .i64 s.n]] w λe w'=>e = .returned (.pointer (some ⟨b,o + s.n.toNat * 3,none⟩))/\Below w.heap.size w w':=by
 obtain ⟨hn,_,hm⟩:=hR.D7
 unfold maxLen at hm
 obtain ⟨h0,h1,b',o',sa,sc,hbo,hob,c0,_⟩:=Qk.XP hR hx
 simp only [Option.some.injEq,Addr.mk.injEq,and_true] at hbo
 obtain ⟨rfl,rfl⟩:=hbo
 have hbl:=hok _ hob
 have hpl:=World.block_lt_of_cell? w _ hp
 have hca : ∀ ob : Obj,(w.alloc ob).cell? ⟨p,0,none⟩ = some (.slice (some ⟨b,o,none⟩) n c):=λob=>(World.cell?_alloc_lt w ob ⟨p,0,none⟩ hpl).trans hp
 have hcb : ∀ ob : Obj,(w.alloc ob).cell? ⟨b,o + s.n.toNat * 3,none⟩ = some (.int .i64 x.count):=λob=>(World.cell?_alloc_lt w ob ⟨b,_,none⟩ hbl).trans c0
 clear hx hn
 have hn0 : decide (s.n < 0) = false:=by simpa using h0
 have hn1 : decide ((n : Int)<=s.n) = false:=by simpa using h1
 have hn2 : (x.count != -1) = false:=by simpa using hc
 clear hc
 go_enter Tryz.func90,Tryz.ntmps90
 go_wp2_with fail
 go_quiet (fail)
 go_wp2_with fail
 go_quiet (fail)
 go_wp2_with fail
 go_ret
 exact ⟨rfl,((Below.refl _ _).alloc (Nat.le_refl _) _).trans (by first | exact Below.refl _ _ | exact ⟨rfl,rfl,rfl,Nat.le_refl _,λ_ _=>rfl⟩)⟩
theorem Ym(h : Hp)(s : Qx)(ok : Nat->Prop)(a : Option Addr)(n c p : Nat)(w : World)(hok : ∀ b,ok b->b < w.heap.size)(hp : w.cell? ⟨p,0,none⟩ = some (.slice a n c))(hR : Xk w ok (.sl (h.cells.map Qk.row)) (.slice a n c))(hx : ∀ x,h.at s.n = some x->x.count≠-1) :
  Calls Tryz.prog 90 #[.pointer (some ⟨p,0,none⟩),.agg #[.int .i64 s.kind,.int .i64 s.n]] w λe w'=>e = .returned (.pointer none)/\Below w.heap.size w w':=by
 obtain ⟨hn,_,hm⟩:=hR.D7
 rw [List.length_map] at hn
 unfold maxLen at hm
 have hpl:=World.block_lt_of_cell? w _ hp
 have hca : ∀ ob : Obj,(w.alloc ob).cell? ⟨p,0,none⟩ = some (.slice a n c):=λob=>(World.cell?_alloc_lt w ob ⟨p,0,none⟩ hpl).trans hp
 rcases hx' : h.at s.n with _ | x
 ·have hi:=Hp.Ao hx'
  rw [<- hn] at hi
  clear hx hx' hn
  by_cases h0 : s.n < 0
  ·clear hi
   have hn0 : decide (s.n < 0) = true:=by simpa using h0
   go_enter Tryz.func90,Tryz.ntmps90
   go_wp2_with fail
   go_quiet (fail)
   go_wp2_with fail
   go_ret
   exact ⟨rfl,((Below.refl _ _).alloc (Nat.le_refl _) _).trans (by first | exact Below.refl _ _ | exact ⟨rfl,rfl,rfl,Nat.le_refl _,λ_ _=>rfl⟩)⟩
  ·have h1 : (n : Int)<=s.n:=by omega
   clear hi
   have hn0 : decide (s.n < 0) = false:=by simpa using h0
   have hn1 : decide ((n : Int)<=s.n) = true:=by simpa using h1
   go_enter Tryz.func90,Tryz.ntmps90
   go_wp2_with fail
   go_quiet (fail)
   go_wp2_with fail
   go_ret
   exact ⟨rfl,((Below.refl _ _).alloc (Nat.le_refl _) _).trans (by first | exact Below.refl _ _ | exact ⟨rfl,rfl,rfl,Nat.le_refl _,λ_ _=>rfl⟩)⟩
 ·have hc:=hx x hx'
  obtain ⟨h0,h1,b,o,sa,sc,rfl,hob,c0,_⟩:=Qk.XP hR hx'
  have hbl:=hok _ hob
  have hcb : ∀ ob : Obj,(w.alloc ob).cell? ⟨b,o + s.n.toNat * 3,none⟩ = some (.int .i64 x.count):=λob=>(World.cell?_alloc_lt w ob ⟨b,_,none⟩ hbl).trans c0
  clear hx hx' hn
  have hn0 : decide (s.n < 0) = false:=by simpa using h0
  have hn1 : decide ((n : Int)<=s.n) = false:=by simpa using h1
  have hn2 : (x.count != -1) = true:=by simpa using hc
  clear hc
  go_enter Tryz.func90,Tryz.ntmps90
  go_wp2_with fail
  go_quiet (fail)
  go_wp2_with fail
  go_ret
  exact ⟨rfl,((Below.refl _ _).alloc (Nat.le_refl _) _).trans (by first | exact Below.refl _ _ | exact ⟨rfl,rfl,rfl,Nat.le_refl _,λ_ _=>rfl⟩)⟩
def Hp.zero:Hp:=⟨[],0,0,0,0⟩
def Hp.put(h:Hp)(n:Int)(x:Qk):Hp:={ h with cells:=h.cells.set n.toNat x }
def Hp.dup(h:Hp)(s:Qx):Hp×Int:=
 if s.kind=2 then
  match h.at s.n with
  |some x=>if 1<=x.count then (h.put s.n { x with count:=x.count+1 },0)else (Hp.zero,14)
  |none=>(Hp.zero,14)
 else (h,0)
structure Hp.Ok (M:Int) (h:Hp):Prop where
 len:(h.cells.length:Int)<=M
 slots:∀x∈h.cells,(x.slots.length:Int)<=M
 count:∀x∈h.cells,-(1000000 * M)<=x.count/\x.count<=1000000 * M
 made: -(1000000 * M)<=h.made/\h.made<=1000000 * M
 used: -(1000000 * M)<=h.used/\h.used<=1000000 * M
 live: -M<=h.live/\h.live<=M
 peak: -M<=h.peak/\h.peak<=M
def M8(w:World)(p base:Nat)(ok:Nat->Prop)(a:Option Addr)(n c:Nat)(h:Hp):Prop:=
 U8 w p 46 #[.slice a n c,.int .i64 h.made,.int .i64 h.used,.int .i64 h.live,.int .i64 h.peak]/\U5 w base 43 3 ok (.slice a n c) (h.cells.map Qk.row)
def M7(w w':World)(ok:Nat->Prop)(v:Value)(h:Hp):Prop:=
 ∃a n c,v= .agg #[.slice a n c,.int .i64 h.made,.int .i64 h.used,.int .i64 h.live,.int .i64 h.peak]/\Xk w' (Zn ok w.heap.size w') (.sl (h.cells.map Qk.row)) (.slice a n c)
section
variable {w w':World} {p base:Nat} {ok ok':Nat->Prop} {a:Option Addr} {n c:Nat} {h:Hp}
theorem M7.zero:M7 w w' ok (.agg #[.slice none 0 0,.int .i64 0,.int .i64 0,.int .i64 0,.int .i64 0]) Hp.zero:=⟨none,0,0,rfl,.empty none 0 (λ_=>rfl) (Nat.zero_le _)⟩
theorem M8.under{B:Nat}(f:M8 w p base ok a n c h)(i:Below B w w')(j:w.heap.size<=B)(g:∀b,ok b->b<B):M8 w' p base ok a n c h:=
 ⟨f.1.under i (Nat.lt_of_lt_of_le f.1.lt j),f.2.under i j g⟩
theorem M8.alloc(g:M8 w p base ok a n c h)(o:Obj)(f:∀b,ok b->b<w.heap.size):M8 (w.alloc o) p base ok a n c h:=⟨g.1.alloc o,g.2.alloc o f⟩
theorem M8.Ty(i:M8 w p base ok a n c h)(g:∀b,base<=b->b<w.heap.size->ok' b)(f:∀b,ok b->ok' b):Xk w ok' (.sl (h.cells.map Qk.row)) (.slice a n c):=i.2.Ty g f
end
theorem Hp.Z8{h:Hp}{ys zs:List Qk}{x y:Qk}{n:Int}(f:h.cells=ys++x::zs)(g:ys.length=n.toNat):(h.put n y).cells=ys++y::zs:=by
 unfold Hp.put;rw[f,<-g];simp
theorem EC(h : Hp)(s : Qx)(M : Int)(ok : Nat->Prop)(p base : Nat)(a : Option Addr)(n c : Nat)(w : World)(hM : M<=1000000000000)(hO : h.Ok M)(hok : ∀ b,ok b->b < w.heap.size/\b≠p)(hpg : ∀ g,a = some ⟨g,0,none⟩->g≠p)(hB : M8 w p base ok a n c h) :
  Calls Tryz.prog 94 #[.pointer (some ⟨p,0,none⟩),.agg #[.int .i64 s.kind,.int .i64 s.n]] w λe w'=>e = .returned (.bool ((h.dup s).2 == 0))/\w.grownBy w' (Value.slice a n c).ownBlock/\((h.dup s).2 = 0->M8 w' p base ok a n c (h.dup s).1):=by
 by_cases hk : s.kind = 2
 ·have hR : Xk w (λb=>b < w.heap.size) (.sl (h.cells.map Qk.row)) (.slice a n c):=hB.Ty (λb _ h=>h) (λb hb=>(hok b hb).1)
  have hp:=hB.1.cell 0
  have hk' : (s.kind != 2) = false:=by simpa using hk
  have bad : (∀ x,h.at s.n = some x->x.count < 1)->Calls Tryz.prog 94 #[.pointer (some ⟨p,0,none⟩),.agg #[.int .i64 s.kind,.int .i64 s.n]] w λe w'=>e = .returned (.bool false)/\w.grownBy w' (Value.slice a n c).ownBlock:=by
   intro hno
   have hp':=hp
   clear hk hB hO
   go_enter Tryz.func94,Tryz.ntmps94
   go_wp2_with fail
   refine (Aj h s (λb=>b < w.heap.size) a n c p _ (λb hb=>by simp;omega) ?_ (hR.alloc _ λb hb=>hb) hno).mono ?_
   ·rw [World.cell?_alloc_lt w _ _ (World.block_lt_of_cell? w _ hp')];exact hp'
   rintro e w2 ⟨rfl,hb2⟩
   go_wp2_with fail
   go_ret
   have hb3 : Below w.heap.size w w2:=((Below.refl _ _).alloc (Nat.le_refl _) _).trans (hb2.mono (by simp))
   exact ⟨rfl,hb3.os,hb3.tape,hb3.output,hb3.size,λk hk _=>hb3.block k hk⟩
  rcases hx : h.at s.n with _ | x
  ·have HE : h.dup s = (Hp.zero,14):=by simp [Hp.dup,hx,hk]
   refine (bad λx e=>by rw [hx] at e;cases e).mono λe w' ⟨he,hg⟩=>⟨by rw [HE];exact he,hg,λh=>by rw [HE] at h;simp at h⟩
  ·by_cases hc : 1<=x.count
   ·have HE : Hid (h.dup s = (h.put s.n { x with count:=x.count + 1 },0)):=by simp [Hid,Hp.dup,hx,hk,hc]
    obtain ⟨h0,h1,ys,zs,hl,hky⟩:=Hp.Gv hx
    have hcb:=(hO.count x (by rw [hl];simp)).2
    have hA:=hB.2
    obtain ⟨g,sa,sc,rfl,hbg,hgs,c0,_,_,hf,_⟩:=U5.Oi hA hl
    rw [hky] at c0
    have hp':=hp
    have HB:=Lib.hid hB
    have HH:=Lib.hid (And.intro hx (And.intro hl hky))
    clear hk hB hO hA hx hl hky hp
    go_enter Tryz.func94,Tryz.ntmps94
    go_wp2_with fail
    refine (Az h s x (λb=>b < w.heap.size) g 0 n c p _ (λb hb=>by simp;omega) ?_ (hR.alloc _ λb hb=>hb) HH.out.1 hc).mono ?_
    ·rw [World.cell?_alloc_lt w _ _ (World.block_lt_of_cell? w _ hp')];exact hp'
    rintro e w2 ⟨rfl,hb2⟩
    have hb3 : Below w.heap.size w w2:=((Below.refl _ _).alloc (Nat.le_refl _) _).trans (hb2.mono (by simp))
    have c2 : w2.cell? ⟨g,s.n.toNat * 3,none⟩ = some (.int .i64 x.count):=(hb3.cell hgs).trans c0
    have f2 : w2.frozen? ⟨g,s.n.toNat * 3,none⟩ = false:=(hb3.frozen hgs).trans (hf _)
    clear hp' c0 hf hb2
    go_wp2_with fail
    go_ret
    refine ⟨by rw [HE.out];rfl,⟨hb3.os,hb3.tape,hb3.output,by simpa using hb3.size,λk hk hne=>?_⟩,λ_=>?_⟩
    ·rw [Below.heap_setCell _ _ _ _ (λe=>hne (by rw [e];rfl))]
     exact hb3.block k hk
    ·rw [HE.out]
     have hB2:=HB.out.under hb3 (Nat.le_refl _) λb hb=>(hok b hb).1
     obtain ⟨_,hl,hky⟩:=HH.out
     refine ⟨hB2.1.far (λe=>hpg g rfl e.symm) _,?_⟩
     have hA2:=hB2.2
     rw [hl] at hA2
     have:=hA2.QX (x.count + 1) (by omega) (by omega)
     rw [hky] at this
     rw [Hp.Z8 hl hky]
     exact this
   ·have HE : h.dup s = (Hp.zero,14):=by simp [Hp.dup,hx,hk,hc]
    refine (bad λx' e=>by rw [hx] at e;obtain rfl:=Option.some.inj e;omega).mono λe w' ⟨he,hg⟩=>⟨by rw [HE];exact he,hg,λh=>by rw [HE] at h;simp at h⟩
 ·have HE : Hid (h.dup s = (h,0)):=by simp [Hid,Hp.dup,hk]
  have hk' : (s.kind != 2) = true:=by simpa using hk
  have HB:=Lib.hid hB
  clear hk hB
  go_enter Tryz.func94,Tryz.ntmps94
  go_wp2_with fail
  go_ret
  refine ⟨by rw [HE.out];rfl,World.grownBy_alloc _ _ _,λ_=>?_⟩
  rw [HE.out]
  exact HB.out.alloc _ λb hb=>(hok b hb).1
theorem Hp.Zg8{h:Hp}{s:Qx}(f:(h.dup s).2≠0):h.dup s=(Hp.zero,14):=by
 unfold Hp.dup at f⊢;by_cases g:s.kind=2
 ·rw[if_pos g]at f⊢;rcases hx:h.at s.n with _|x
  ·rfl
  ·rw[hx]at f;by_cases i:1<=x.count
   ·simp[i]at f
   ·simp[i]
 ·simp[g]at f
def Zh7(h:Hp)(s:Qx)(ok:Nat->Prop)(w:World)(e:Ending)(w':World):Prop:=
 ∃v,e= .returned (.tuple #[v,.int .i64 (h.dup s).2])/\M7 w w' ok v (h.dup s).1/\Below w.heap.size w w'
theorem Qg2(h : Hp)(s : Qx)(M : Int)(ok : Nat->Prop)(a : Option Addr)(n c : Nat)(w : World)(hM : M<=1000000)(hO : h.Ok M)(hok : ∀ b,ok b->b < w.heap.size)(hR : Xk w ok (.sl (h.cells.map Qk.row)) (.slice a n c)) :
  Calls Tryz.prog 82 #[.agg #[.slice a n c,.int .i64 h.made,.int .i64 h.used,.int .i64 h.live,.int .i64 h.peak],.agg #[.int .i64 s.kind,.int .i64 s.n]] w (Zh7 h s ok w):=by
 have hn:=hR.D7.1
 rw [List.length_map] at hn
 have hlen:=hO.len
 have hsl : ∀ x∈h.cells,x.slots.length<=8796093022208:=λx hx=>by have:=hO.slots x hx;omega
 have hokB : ∀ (o1 o2 o3 : Obj),∀ b,ok b->b < (((w.alloc o1).alloc o2).alloc o3).heap.size:=λ_ _ _ b hb=>by have:=hok b hb;simp;omega
 have HN:=Lib.hid hn
 have HO:=Lib.hid hO
 clear hn hO
 go_enter Tryz.func82,Tryz.ntmps82
 go_wp2_with fail
 refine (QT h.cells h.made h.used h.live h.peak ok a n c _ HN.out (by have:=HN.out;omega) hsl (hokB _ _ _) (((hR.alloc _ hok).alloc _ (λb hb=>by have:=hok b hb;simp;omega)).alloc _ (λb hb=>by have:=hok b hb;simp;omega))).mono ?_
 rintro e w1 ⟨a',c',rfl,hA,hb1⟩
 have hS:=(U8.under ((U8.new' (w.alloc _) 48 #[.int .i64 s.kind,.int .i64 s.n] (w.heap.size + 1) (by simp)).alloc _) hb1 (by simp)).cell
 have hQ:=U8.under (U8.new' ((w.alloc _).alloc _) 46 #[.slice none 0 0,.int .i64 0,.int .i64 0,.int .i64 0,.int .i64 0] (w.heap.size + 1 + 1) (by simp)) hb1 (by simp)
 have hbw : Below w.heap.size w w1:=((((Below.refl _ w).alloc (Nat.le_refl _) _).alloc (by simp) _).alloc (by simp;omega) _).trans (hb1.mono (by simp;omega))
 have hsz : w.heap.size + 3<=w1.heap.size:=by have:=hb1.size;simp at this;omega
 have hA1 : U5 w1 (w.heap.size + 3) 43 3 (Zn ok (w.heap.size + 3) w1) (.slice a' n c') (h.cells.map Qk.row):=by simpa using hA
 have hok1 : ∀ b,Zn ok (w.heap.size + 3) w1 b->b < w1.heap.size:=λb hb=>by rcases hb with hb | hb <;> first | omega | (have:=hok b hb;omega)
 have hsa : ∀ (o : Obj) (i : Nat),(w1.alloc o).cell? ⟨w.heap.size + 1,i,none⟩ = #[.int .i64 s.kind,.int .i64 s.n][i]?:=λo i=>(World.cell?_alloc_lt w1 o ⟨w.heap.size + 1,i,none⟩ (by dsimp only;omega)).trans (hS i)
 have HB : M8 (w1.alloc (.cells #[.slice a' n c',.int .i64 h.made,.int .i64 h.used,.int .i64 h.live,.int .i64 h.peak] 46)) w1.heap.size (w.heap.size + 3) (Zn ok (w.heap.size + 3) w1) a' n c' h:=⟨U8.new _ _ _,hA1.alloc _ hok1⟩
 clear hA hb1 hS
 go_wp2_with fail
 refine (EC h s M (Zn ok (w.heap.size + 3) w1) w1.heap.size (w.heap.size + 3) a' n c' _ (by omega) HO.out (λb hb=>⟨by have:=hok1 b hb;simp;omega,by have:=hok1 b hb;omega⟩) (λg hg=>by have:=hA1.own g (by rw [hg];rfl);omega) HB).mono ?_
 rintro e w2 ⟨rfl,hg2,hB2⟩
 have hown2 : (Value.slice a' n c').ownBlock≠some (w.heap.size + 1 + 1):=λe=>by have:=(hA1.own _ e).1;omega
 have hQ2:=(hQ.alloc (.cells #[.slice a' n c',.int .i64 h.made,.int .i64 h.used,.int .i64 h.live,.int .i64 h.peak] 46)).grown hg2 hown2.symm
 have hb2 : Below w.heap.size w w2:=(hbw.alloc hbw.size _).grown hg2 (by simp;omega) (λk hk=>by have:=(hA1.own _ hk).1;omega)
 have hsz2 : w1.heap.size < w2.heap.size:=by have:=hg2.size;simp at this;omega
 have hc2:=hQ2.cell
 have hf2:=hQ2.frozen
 clear hg2 hQ hown2
 by_cases hz : (h.dup s).2 = 0
 ·have hz' : ((h.dup s).2 == 0) = true:=by simpa using hz
  have HB2:=hB2 hz
  have hc3:=HB2.1.cell
  have HZ:=Lib.hid hz
  clear hz hB2 HB
  go_wp2_with fail
  refine bodyPost_ret (v:=.tuple #[.agg #[.slice a' n c',.int .i64 (h.dup s).1.made,.int .i64 (h.dup s).1.used,.int .i64 (h.dup s).1.live,.int .i64 (h.dup s).1.peak],.int .i64 0]) (by simp [results,Tryz.results82,go_sem,hc2]) rfl ?_
  clear hc2 hf2 hc3
  refine ⟨_,by rw [HZ.out],⟨a',n,c',rfl,?_⟩,?_⟩
  ·refine Xk.weak (ok:=λb=>ok b\/(w.heap.size + 3<=b/\b < w2.heap.size)) ?_ (λb hb=>hb.imp id λh=>⟨by omega,by simpa using h.2⟩)
   iterate 5 refine Xk.setCell ?_ _ (λb hb=>by rcases hb with hb | hb <;> dsimp only <;> first | omega | (have:=hok b hb;omega))
   exact HB2.Ty (λb h1 h2=>.inr ⟨h1,h2⟩) (λb hb=>hb.imp id λh=>⟨h.1,by have:=h.2;omega⟩)
  ·exact (((((hb2.setCell (by simp;omega) _).setCell (by simp;omega) _).setCell (by simp;omega) _).setCell (by simp;omega) _).setCell (by simp;omega) _)
 ·have hz' : ((h.dup s).2 == 0) = false:=by simpa using hz
  have HE:=Hp.Zg8 hz
  have HE':=Lib.hid HE
  clear HE hz hB2 HB
  go_wp2_with fail
  refine bodyPost_ret (v:=.tuple #[.agg #[.slice none 0 0,.int .i64 0,.int .i64 0,.int .i64 0,.int .i64 0],.int .i64 14]) (by simp [results,Tryz.results82,go_sem,hc2]) rfl ?_
  refine ⟨_,by rw [HE'.out],by rw [HE'.out];exact M7.zero,?_⟩
  exact (((((hb2.setCell (by simp;omega) _).setCell (by simp;omega) _).setCell (by simp;omega) _).setCell (by simp;omega) _).setCell (by simp;omega) _)
end
section
open Go.RowKit
def Qk.zero:Qk:=⟨0,0,[]⟩
def Hp.free(h:Hp)(s:Qx):Hp×Int:=
 if s.kind=2 then
  if h.kept s=true then ({ h.put s.n Qk.zero with live:=h.live-1 },0)else (Hp.zero,14)
 else (h,0)
def Zz8(h:Hp)(s:Qx)(ok:Nat->Prop)(w:World)(e:Ending)(w':World):Prop:=
 ∃v,e= .returned (.tuple #[v,.int .i64 (h.free s).2])/\M7 w w' ok v (h.free s).1/\Below w.heap.size w w'
theorem Hp.YY{h:Hp}{s:Qx}(f:h.kept s=true):∃x,h.at s.n=some x/\x.count= -1:=by
 unfold Hp.kept at f;rcases hx:h.at s.n with _|x
 ·simp[hx]at f
 ·rw[hx]at f;exact⟨x,rfl,by simpa using f⟩
theorem Hp.NK{h:Hp}{s:Qx}(f:¬h.kept s=true):∀x,h.at s.n=some x->x.count≠-1:=λx g i=>f (by simp[Hp.kept,g,i])
section
variable {w:World} {ok:Nat->Prop} {base:Nat} {e:TypeId} {ys zs:List Qk} {x:Qk} {n c:Nat}
theorem U5.Kb{g:Nat}(h:U5 w base e 3 ok (.slice (some ⟨g,0,none⟩) n c) ((ys++x::zs).map Qk.row))(y:Qk)(v:Value)(i: -9223372036854775808<=y.count/\y.count<=9223372036854775807)(j: -9223372036854775808<=y.tag/\y.tag<=9223372036854775807)
  (l:Xk w (λb=>ok b/\b≠g) (.sl (y.slots.map Qx.row)) v):
  U5 (((w.setCell ⟨g,ys.length * 3,none⟩ (.int .i64 y.count)).setCell ⟨g,ys.length * 3+1,none⟩ (.int .i64 y.tag)).setCell ⟨g,ys.length * 3+2,none⟩ v) base e 3 ok (.slice (some ⟨g,0,none⟩) n c) ((ys++y::zs).map Qk.row):=
 ((h.QX y.count i.1 i.2).Zh0 y.tag j.1 j.2).Oh y.slots v ((l.setCell _ (λb f=>f.2)).setCell _ (λb f=>f.2))
end
theorem Jx5{w W:World}{q B:Nat}{ok:Nat->Prop}{a:Option Addr}{n c:Nat}{h:Hp}(i:∀b,ok b->b<w.heap.size)(g:w.heap.size<=q)(t:q<B)(f:Below w.heap.size w W)
  (C:Xk W (λb=>ok b\/(B<=b/\b<W.heap.size)) (.sl (h.cells.map Qk.row)) (.slice a n c)) (j l o r v4:Value):
  M7 w (((((W.setCell ⟨q,0,none⟩ j).setCell ⟨q,1,none⟩ l).setCell ⟨q,2,none⟩ o).setCell ⟨q,3,none⟩ r).setCell ⟨q,4,none⟩ v4) ok (.agg #[.slice a n c,.int .i64 h.made,.int .i64 h.used,.int .i64 h.live,.int .i64 h.peak]) h/\
   Below w.heap.size w (((((W.setCell ⟨q,0,none⟩ j).setCell ⟨q,1,none⟩ l).setCell ⟨q,2,none⟩ o).setCell ⟨q,3,none⟩ r).setCell ⟨q,4,none⟩ v4):=by
 refine⟨⟨a,n,c,rfl,?_⟩,?_⟩
 ·refine Xk.weak (ok:=λb=>ok b\/(B<=b/\b<W.heap.size)) ?_ (λb f=>f.imp id λh=>⟨oM,by simp;omega⟩);iterate 5 refine Xk.setCell ?_ _ (λb f=>by rcases f with f|f<;> dsimp only<;> first|omega|(have:=i b f;omega))
  exact C
 ·exact(((((f.setCell g _).setCell g _).setCell g _).setCell g _).setCell g _)
theorem JX{w W:World}{q p B:Nat}{ok f:Nat->Prop}{a:Option Addr}{n c:Nat}{h:Hp}(i:∀b,ok b->b<w.heap.size)(C:w.heap.size<=q)(j:q<B)(I:Below w.heap.size w W)
  (J:M8 W p B f a n c h) (g:∀b,f b->ok b\/(B<=b/\b<W.heap.size)) (l o r t v4:Value):
  M7 w (((((W.setCell ⟨q,0,none⟩ l).setCell ⟨q,1,none⟩ o).setCell ⟨q,2,none⟩ r).setCell ⟨q,3,none⟩ t).setCell ⟨q,4,none⟩ v4) ok (.agg #[.slice a n c,.int .i64 h.made,.int .i64 h.used,.int .i64 h.live,.int .i64 h.peak]) h/\
   Below w.heap.size w (((((W.setCell ⟨q,0,none⟩ l).setCell ⟨q,1,none⟩ o).setCell ⟨q,2,none⟩ r).setCell ⟨q,3,none⟩ t).setCell ⟨q,4,none⟩ v4):=
 Jx5 i C j I (J.Ty (λb P T=>.inr ⟨P,T⟩) g) l o r t v4
theorem IL(h : Hp)(s : Qx)(M : Int)(ok : Nat->Prop)(a : Option Addr)(n c : Nat)(w : World)(hM : M<=1000000)(hO : h.Ok M)(hok : ∀ b,ok b->b < w.heap.size)(hR : Xk w ok (.sl (h.cells.map Qk.row)) (.slice a n c)) :
  Calls Tryz.prog 85 #[.agg #[.slice a n c,.int .i64 h.made,.int .i64 h.used,.int .i64 h.live,.int .i64 h.peak],.agg #[.int .i64 s.kind,.int .i64 s.n]] w (Zz8 h s ok w):=by
 have hn:=hR.D7.1
 rw [List.length_map] at hn
 have hlen:=hO.len
 have hsl : ∀ x∈h.cells,x.slots.length<=8796093022208:=λx hx=>by have:=hO.slots x hx;omega
 have hokB : ∀ (o1 o2 o3 : Obj),∀ b,ok b->b < (((w.alloc o1).alloc o2).alloc o3).heap.size:=λ_ _ _ b hb=>by have:=hok b hb;simp;omega
 have HN:=Lib.hid hn
 have HO:=Lib.hid hO
 clear hn hO
 go_enter Tryz.func85,Tryz.ntmps85
 go_wp2_with fail
 refine (QT h.cells h.made h.used h.live h.peak ok a n c _ HN.out (by have:=HN.out;omega) hsl (hokB _ _ _) (((hR.alloc _ hok).alloc _ (λb hb=>by have:=hok b hb;simp;omega)).alloc _ (λb hb=>by have:=hok b hb;simp;omega))).mono ?_
 rintro e w1 ⟨a',c',rfl,hA,hb1⟩
 have hS:=(U8.under ((U8.new' (w.alloc _) 48 #[.int .i64 s.kind,.int .i64 s.n] (w.heap.size + 1) (by simp)).alloc _) hb1 (by simp)).cell
 have hQ:=U8.under (U8.new' ((w.alloc _).alloc _) 46 #[.slice none 0 0,.int .i64 0,.int .i64 0,.int .i64 0,.int .i64 0] (w.heap.size + 1 + 1) (by simp)) hb1 (by simp)
 have hbw : Below w.heap.size w w1:=((((Below.refl _ w).alloc (Nat.le_refl _) _).alloc (by simp) _).alloc (by simp;omega) _).trans (hb1.mono (by simp;omega))
 have hsz : w.heap.size + 3<=w1.heap.size:=by have:=hb1.size;simp at this;omega
 have hA1 : U5 w1 (w.heap.size + 3) 43 3 (Zn ok (w.heap.size + 3) w1) (.slice a' n c') (h.cells.map Qk.row):=by simpa using hA
 have hok1 : ∀ b,Zn ok (w.heap.size + 3) w1 b->b < w1.heap.size:=λb hb=>by rcases hb with hb | hb <;> first | omega | (have:=hok b hb;omega)
 have hsa : ∀ (o : Obj) (i : Nat),(w1.alloc o).cell? ⟨w.heap.size + 1,i,none⟩ = #[.int .i64 s.kind,.int .i64 s.n][i]?:=λo i=>(World.cell?_alloc_lt w1 o ⟨w.heap.size + 1,i,none⟩ (by dsimp only;omega)).trans (hS i)
 have HB : M8 (w1.alloc (.cells #[.slice a' n c',.int .i64 h.made,.int .i64 h.used,.int .i64 h.live,.int .i64 h.peak] 46)) w1.heap.size (w.heap.size + 3) (Zn ok (w.heap.size + 3) w1) a' n c' h:=⟨U8.new _ _ _,hA1.alloc _ hok1⟩
 clear hA hb1 hS
 have hR1 : Xk (w1.alloc (.cells #[.slice a' n c',.int .i64 h.made,.int .i64 h.used,.int .i64 h.live,.int .i64 h.peak] 46)) (λb=>b < w1.heap.size) (.sl (h.cells.map Qk.row)) (.slice a' n c') :=
  (hA1.Ty (ok':=λb=>b < w1.heap.size) (λb _ h=>h) hok1).alloc _ (λb hb=>hb)
 have hQa:=hQ.alloc (.cells #[.slice a' n c',.int .i64 h.made,.int .i64 h.used,.int .i64 h.live,.int .i64 h.peak] 46)
 by_cases hk : s.kind = 2
 ·have hk' : (s.kind != 2) = false:=by simpa using hk
  have HK:=Lib.hid hk
  clear hk
  go_wp2_with fail
  by_cases ht : h.kept s = true
  ·obtain ⟨x,hx,hxc⟩:=Hp.YY ht
   have HE : Hid (h.free s = ({ h.put s.n Qk.zero with live:=h.live - 1 },0)):=by rw [Hid,Hp.free,if_pos HK.out,if_pos ht]
   obtain ⟨h0,h1,ys,zs,hl,hky⟩:=Hp.Gv hx
   obtain ⟨g,sa,sc,rfl,hbg,hgs,_⟩:=U5.Oi hA1 hl
   refine (Yl h s x (λb=>b < w1.heap.size) g 0 n c' w1.heap.size _ (λb hb=>by simp;omega) (by simp) hR1 hx hxc).mono ?_
   rintro e w2 ⟨rfl,hb2⟩
   have hB2:=HB.under hb2 (Nat.le_refl _) (λb hb=>by have:=hok1 b hb;simp;omega)
   have hQ2:=hQa.under hb2 (by simp;omega)
   have hbW : Below w.heap.size w w2:=(hbw.alloc hbw.size _).trans (hb2.mono (by simp;omega))
   have hs2 : w1.heap.size < w2.heap.size:=by have:=hb2.size;simp at this;omega
   have hA2:=hB2.2
   obtain ⟨g',sa',sc',hg',_,_,c0,c1,c2,hf,_⟩:=U5.Oi hA2 hl
   simp only [Option.some.injEq,Addr.mk.injEq,and_true] at hg'
   subst hg'
   rw [hky] at c0 c1 c2
   have hc2:=hB2.1.cell
   have hf2:=hB2.1.frozen
   have hq2:=hQ2.cell
   have hqf:=hQ2.frozen
   have hne : g≠w1.heap.size:=by omega
   have hne' : g≠w.heap.size + 1 + 1:=by omega
   have hlv:=HO.out.live
   have HH:=Lib.hid (And.intro hl hky)
   have HB2:=Lib.hid hB2
   clear hx hxc hl hky hA1 hA2 hB2 HB ht hR1 hb2
   go_wp2_with fail
   refine bodyPost_ret (v:=.tuple #[.agg #[.slice (some ⟨g,0,none⟩) n c',.int .i64 h.made,.int .i64 h.used,.int .i64 (h.live - 1),.int .i64 h.peak],.int .i64 0]) (by simp [results,Tryz.results85,go_sem,hq2]) rfl ?_
   obtain ⟨hl,hky⟩:=HH.out
   have hA3:=HB2.out.2
   rw [hl] at hA3
   have hA4:=hA3.Kb Qk.zero (.slice none 0 0) (by simp [Qk.zero]) (by simp [Qk.zero]) (.empty none 0 (λ_=>rfl) (Nat.zero_le _))
   rw [hky,<- Hp.Z8 hl hky] at hA4
   have hB5 : M8 ((((w2.setCell ⟨g,s.n.toNat * 3,none⟩ (.int .i64 0)).setCell ⟨g,s.n.toNat * 3 + 1,none⟩ (.int .i64 0)).setCell ⟨g,s.n.toNat * 3 + 2,none⟩ (.slice none 0 0)).setCell ⟨w1.heap.size,3,none⟩ (.int .i64 (h.live - 1)))
     w1.heap.size (w.heap.size + 3) (Zn ok (w.heap.size + 3) w1) (some ⟨g,0,none⟩) n c' { h.put s.n Qk.zero with live:=h.live - 1 } :=
    ⟨(((HB2.out.1.far hne.symm _).far hne.symm _).far hne.symm _).FM 3 _,hA4.setCell _ (by simp [Value.ownBlock];exact hne) (λb hb=>by have:=hok1 b hb;dsimp only;omega)⟩
   have hfin:=JX (q:=w.heap.size + 1 + 1) hok (by omega) (by omega) ((((hbW.setCell (by dsimp only;omega) _).setCell (by dsimp only;omega) _).setCell (by dsimp only;omega) _).setCell (by dsimp only;omega) _) hB5 (λb hb=>hb.imp id λh=>⟨h.1,by simp;omega⟩)
    (.slice (some ⟨g,0,none⟩) n c') (.int .i64 h.made) (.int .i64 h.used) (.int .i64 (h.live - 1)) (.int .i64 h.peak)
   exact ⟨_,by rw [HE.out],by rw [HE.out];exact hfin.1,hfin.2⟩
  ·have HE : Hid (h.free s = (Hp.zero,14)):=by rw [Hid,Hp.free,if_pos HK.out,if_neg ht]
   refine (Ym h s (λb=>b < w1.heap.size) a' n c' w1.heap.size _ (λb hb=>by simp;omega) (by simp) hR1 (Hp.NK ht)).mono ?_
   rintro e w2 ⟨rfl,hb2⟩
   have hQ2:=hQa.under hb2 (by simp;omega)
   have hbW : Below w.heap.size w w2:=(hbw.alloc hbw.size _).trans (hb2.mono (by simp;omega))
   have hs2 : w1.heap.size < w2.heap.size:=by have:=hb2.size;simp at this;omega
   have hq2:=hQ2.cell
   have hqf:=hQ2.frozen
   clear ht hb2
   go_wp2_with fail
   refine bodyPost_ret (v:=.tuple #[.agg #[.slice none 0 0,.int .i64 0,.int .i64 0,.int .i64 0,.int .i64 0],.int .i64 14]) (by simp [results,Tryz.results85,go_sem,hq2]) rfl ?_
   refine ⟨_,by rw [HE.out],by rw [HE.out];exact M7.zero,?_⟩
   exact (((((hbW.setCell (by simp;omega) _).setCell (by simp;omega) _).setCell (by simp;omega) _).setCell (by simp;omega) _).setCell (by simp;omega) _)
 ·have hk' : (s.kind != 2) = true:=by simpa using hk
  have HE : Hid (h.free s = (h,0)):=by simp [Hid,Hp.free,hk]
  have hq2:=hQa.cell
  have hqf:=hQa.frozen
  clear hk
  go_wp2_with fail
  refine bodyPost_ret (v:=.tuple #[.agg #[.slice a' n c',.int .i64 h.made,.int .i64 h.used,.int .i64 h.live,.int .i64 h.peak],.int .i64 0]) (by simp [results,Tryz.results85,go_sem,hq2]) rfl ?_
  refine ⟨_,by rw [HE.out],?_,?_⟩
  ·rw [HE.out]
   refine ⟨a',n,c',rfl,?_⟩
   refine Xk.weak (ok:=Zn ok (w.heap.size + 3) w1) ?_ (λb hb=>hb.imp id λh=>⟨by omega,by simp;omega⟩)
   iterate 5 refine Xk.setCell ?_ _ (λb hb=>by rcases hb with hb | hb <;> dsimp only <;> first | omega | (have:=hok b hb;omega))
   exact (hA1.Ty (ok':=Zn ok (w.heap.size + 3) w1) (λb h1 h2=>.inr ⟨h1,h2⟩) (λb hb=>hb)).alloc _ hok1
  ·exact ((((((hbw.alloc hbw.size _).setCell (by simp;omega) _).setCell (by simp;omega) _).setCell (by simp;omega) _).setCell (by simp;omega) _).setCell (by simp;omega) _)
end
section
open Go.RowKit
def Hp.L9(h:Hp):List Qx->Hp×Int
 |[]=>(h,0)
 |s::r=>if (h.dup s).2=0 then (h.dup s).1.L9 r else (Hp.zero,14)
def Hp.open(h:Hp)(s:Qx)(keep:Bool):Hp×Bool×Int:=
 if h.there s=true then
  match h.at s.n with
  |some x=>
   if x.count=1 then (if keep then h.put s.n { Qk.zero with count:=-1 }else { h.put s.n Qk.zero with live:=h.live-1 },true,0)
   else if ((h.put s.n { x with count:=x.count-1 }).L9 x.slots).2=0 then (((h.put s.n { x with count:=x.count-1 }).L9 x.slots).1,false,0)
   else (Hp.zero,false,14)
  |none=>(Hp.zero,false,14)
 else (Hp.zero,false,14)
def Zz6(h:Hp)(s:Qx)(keep:Bool)(ok:Nat->Prop)(w:World)(e:Ending)(w':World):Prop:=
 ∃v,e= .returned (.tuple #[v,.bool (h.open s keep).2.1,.int .i64 (h.open s keep).2.2])/\M7 w w' ok v (h.open s keep).1/\Below w.heap.size w w'
theorem Hp.KJ{h:Hp}{s:Qx}{x:Qk}(f:s.kind=2)(g:h.at s.n=some x)(i:1<=x.count):h.there s=true:=by
 simp[Hp.there,f,g];omega
theorem Hp.Xt{h:Hp}{s:Qx}(f:h.there s=true):s.kind=2/\∃x,h.at s.n=some x/\1<=x.count:=by
 unfold Hp.there at f;rcases hx:h.at s.n with _|x
 ·simp[hx]at f
 ·rw[hx]at f;simp at f;exact⟨f.1,x,rfl,oM⟩
theorem Hp.put_mem{h:Hp}{n:Int}{y z:Qk}(g:z∈(h.put n y).cells):z=y\/z∈h.cells:=by
 unfold Hp.put at g;rcases List.mem_or_eq_of_mem_set g with f|f
 ·exact .inr f
 ·exact .inl f
theorem Hp.Ok.put{h:Hp}{M:Int}(f:h.Ok M)(n:Int){y:Qk}(i:(y.slots.length:Int)<=M)(j: -(1000000 * M)<=y.count/\y.count<=1000000 * M):(h.put n y).Ok M:=
 ⟨by simpa[Hp.put]using f.len,λz g=>by rcases Hp.put_mem g with rfl|g;exact i;exact f.slots z g,λz g=>by rcases Hp.put_mem g with rfl|g;exact j;exact f.count z g,f.made,f.used,f.live,f.peak⟩
theorem Hp.Ok.mono{h:Hp}{M i:Int}(f:h.Ok M)(j:M<=i):h.Ok i:=
 ⟨by have:=f.len;omega,λx g=>by have:=f.slots x g;omega,λx g=>by have:=f.count x g;omega,by have:=f.made;omega,by have:=f.used;omega,by have:=f.live;omega,by have:=f.peak;omega⟩
theorem Hp.Ok.dup{h:Hp}{M:Int}(f:h.Ok M)(r:0<=M)(s:Qx):(h.dup s).1.Ok (M+1):=by
 have g:Hp.zero.Ok (M+1):=⟨by simp[Hp.zero];omega,by simp[Hp.zero],by simp[Hp.zero],by simp[Hp.zero];omega,by simp[Hp.zero];omega,by simp[Hp.zero];omega,by simp[Hp.zero];omega⟩
 unfold Hp.dup;by_cases i:s.kind=2
 ·rw[if_pos i];rcases hx:h.at s.n with _|x
  ·exact g
  ·obtain⟨_,_,ys,zs,o,_⟩:=Hp.Gv hx;have j:x∈h.cells:=by rw[o];simp
   by_cases l:1<=x.count
   ·simp only[l,if_true];exact(f.mono oM).put _ (by have:=f.slots x j;simp;omega) (by have:=f.count x j;simp;omega)
   ·simp only[l,if_false];exact g
 ·rw[if_neg i];exact f.mono oM
theorem Hp.Yr{h:Hp}{s:Qx}(f:(h.dup s).2=0):(h.dup s).1.made=h.made/\(h.dup s).1.used=h.used/\(h.dup s).1.live=h.live/\(h.dup s).1.peak=h.peak:=by
 unfold Hp.dup at f⊢;by_cases g:s.kind=2
 ·rw[if_pos g]at f⊢;rcases hx:h.at s.n with _|x
  ·simp[hx]at f
  ·rw[hx]at f;by_cases i:1<=x.count
   ·simp[i,Hp.put]
   ·simp[i]at f
 ·simp[g]
theorem NM(h : Hp)(s : Qx)(keep : Bool)(M : Int)(ok : Nat->Prop)(a : Option Addr)(n c : Nat)(w : World)(hM : M<=1000000)(hO : h.Ok M)(hok : ∀ b,ok b->b < w.heap.size)(hR : Xk w ok (.sl (h.cells.map Qk.row)) (.slice a n c)) :
  Calls Tryz.prog 95 #[.agg #[.slice a n c,.int .i64 h.made,.int .i64 h.used,.int .i64 h.live,.int .i64 h.peak],.agg #[.int .i64 s.kind,.int .i64 s.n],.bool keep] w (Zz6 h s keep ok w):=by
 have hn:=hR.D7.1
 rw [List.length_map] at hn
 have hlen:=hO.len
 have hsl : ∀ x∈h.cells,x.slots.length<=8796093022208:=λx hx=>by have:=hO.slots x hx;omega
 have hokB : ∀ (o1 o2 o3 : Obj),∀ b,ok b->b < (((w.alloc o1).alloc o2).alloc o3).heap.size:=λ_ _ _ b hb=>by have:=hok b hb;simp;omega
 have HN:=Lib.hid hn
 have HO:=Lib.hid hO
 clear hn hO
 go_enter Tryz.func95,Tryz.ntmps95
 go_wp2_with fail
 refine (QT h.cells h.made h.used h.live h.peak ok a n c _ HN.out (by have:=HN.out;omega) hsl (hokB _ _ _) (((hR.alloc _ hok).alloc _ (λb hb=>by have:=hok b hb;simp;omega)).alloc _ (λb hb=>by have:=hok b hb;simp;omega))).mono ?_
 rintro e w1 ⟨a',c',rfl,hA,hb1⟩
 have hSb:=(U8.under ((U8.new' (w.alloc _) 48 #[.int .i64 s.kind,.int .i64 s.n] (w.heap.size + 1) (by simp)).alloc _) hb1 (by simp))
 have hS:=hSb.cell
 have hQ:=U8.under (U8.new' ((w.alloc _).alloc _) 46 #[.slice none 0 0,.int .i64 0,.int .i64 0,.int .i64 0,.int .i64 0] (w.heap.size + 1 + 1) (by simp)) hb1 (by simp)
 have hbw : Below w.heap.size w w1:=((((Below.refl _ w).alloc (Nat.le_refl _) _).alloc (by simp) _).alloc (by simp;omega) _).trans (hb1.mono (by simp;omega))
 have hsz : w.heap.size + 3<=w1.heap.size:=by have:=hb1.size;simp at this;omega
 have hA1 : U5 w1 (w.heap.size + 3) 43 3 (Zn ok (w.heap.size + 3) w1) (.slice a' n c') (h.cells.map Qk.row):=by simpa using hA
 have hok1 : ∀ b,Zn ok (w.heap.size + 3) w1 b->b < w1.heap.size:=λb hb=>by rcases hb with hb | hb <;> first | omega | (have:=hok b hb;omega)
 have hsa : ∀ (o : Obj) (i : Nat),(w1.alloc o).cell? ⟨w.heap.size + 1,i,none⟩ = #[.int .i64 s.kind,.int .i64 s.n][i]?:=λo i=>(World.cell?_alloc_lt w1 o ⟨w.heap.size + 1,i,none⟩ (by dsimp only;omega)).trans (hS i)
 have HB : M8 (w1.alloc (.cells #[.slice a' n c',.int .i64 h.made,.int .i64 h.used,.int .i64 h.live,.int .i64 h.peak] 46)) w1.heap.size (w.heap.size + 3) (Zn ok (w.heap.size + 3) w1) a' n c' h:=⟨U8.new _ _ _,hA1.alloc _ hok1⟩
 clear hA hb1 hS
 have hR1 : Xk (w1.alloc (.cells #[.slice a' n c',.int .i64 h.made,.int .i64 h.used,.int .i64 h.live,.int .i64 h.peak] 46)) (λb=>b < w1.heap.size) (.sl (h.cells.map Qk.row)) (.slice a' n c') :=
  (hA1.Ty (ok':=λb=>b < w1.heap.size) (λb _ h=>h) hok1).alloc _ (λb hb=>hb)
 have hQa:=hQ.alloc (.cells #[.slice a' n c',.int .i64 h.made,.int .i64 h.used,.int .i64 h.live,.int .i64 h.peak] 46)
 have hSa : U8 (w1.alloc (.cells #[.slice a' n c',.int .i64 h.made,.int .i64 h.used,.int .i64 h.live,.int .i64 h.peak] 46)) (w.heap.size + 1) 48 #[.int .i64 s.kind,.int .i64 s.n]:=hSb.alloc _
 go_wp2_with fail
 by_cases hP : ∃ x,h.at s.n = some x/\1<=x.count
 ·obtain ⟨x,hx,hxc⟩:=hP
  obtain ⟨h0,h1,ys,zs,hl,hky⟩:=Hp.Gv hx
  obtain ⟨g,sa,sc,rfl,hbg,hgs,_⟩:=U5.Oi hA1 hl
  refine (Az h s x (λb=>b < w1.heap.size) g 0 n c' w1.heap.size _ (λb hb=>by simp;omega) (by simp) hR1 hx hxc).mono ?_
  rintro e w2 ⟨rfl,hb2⟩
  have hB2:=HB.under hb2 (Nat.le_refl _) (λb hb=>by have:=hok1 b hb;simp;omega)
  have hQ2:=hQa.under hb2 (by simp;omega)
  have hS2:=(hSa.under hb2 (by simp;omega)).cell
  have hbW : Below w.heap.size w w2:=(hbw.alloc hbw.size _).trans (hb2.mono (by simp;omega))
  have hs2 : w1.heap.size < w2.heap.size:=by have:=hb2.size;simp at this;omega
  have hq2:=hQ2.cell
  have hqf:=hQ2.frozen
  by_cases hk : s.kind = 2
  ·have hk' : (s.kind != 2) = false:=by simpa using hk
   have ht:=Hp.KJ hk hx hxc
   have hA2:=hB2.2
   obtain ⟨g',sa',sc',hg',_,_,c0,c1,c2,hf,hrs2,_⟩:=U5.Oi hA2 hl
   simp only [Option.some.injEq,Addr.mk.injEq,and_true] at hg'
   subst hg'
   rw [hky] at c0 c1 c2
   have hc2:=hB2.1.cell
   have hf2:=hB2.1.frozen
   have hne : g≠w1.heap.size:=by omega
   have hne' : g≠w.heap.size + 1 + 1:=by omega
   have hne'' : g≠w.heap.size + 1:=by omega
   have hlv:=HO.out.live
   have hxm : x∈h.cells:=by rw [hl];simp
   have hct:=HO.out.count x hxm
   have hslx:=HO.out.slots x hxm
   have HH:=Lib.hid (And.intro hl hky)
   have HB2:=Lib.hid hB2
   have HX:=Lib.hid hx
   have HT:=Lib.hid ht
   clear hx hl hky hA1 hA2 hB2 HB ht hR1 hb2 hk hxm
   by_cases h1c : x.count = 1
   ·have hb1 : (x.count == 1) = true:=by simpa using h1c
    have H1:=Lib.hid h1c
    clear h1c
    have hA3 : Hid (U5 (((w2.setCell ⟨g,s.n.toNat * 3,none⟩ (.int .i64 0)).setCell ⟨g,s.n.toNat * 3 + 1,none⟩ (.int .i64 0)).setCell ⟨g,s.n.toNat * 3 + 2,none⟩ (.slice none 0 0)) (w.heap.size + 3) 43 3 (Zn ok (w.heap.size + 3) w1) (.slice (some ⟨g,0,none⟩) n c') ((ys ++ Qk.zero :: zs).map Qk.row)):=by
     obtain ⟨hl,hky⟩:=HH.out
     have hA3:=HB2.out.2
     rw [hl] at hA3
     have hA4:=hA3.Kb Qk.zero (.slice none 0 0) (by simp [Qk.zero]) (by simp [Qk.zero]) (.empty none 0 (λ_=>rfl) (Nat.zero_le _))
     rw [hky] at hA4
     exact hA4
    cases keep
    ·have HE : Hid (h.open s false = ({ h.put s.n Qk.zero with live:=h.live - 1 },true,0)):=by rw [Hid,Hp.open,if_pos HT.out,HX.out];simp [H1.out]
     go_wp2_with fail
     refine bodyPost_ret (v:=.tuple #[.agg #[.slice (some ⟨g,0,none⟩) n c',.int .i64 h.made,.int .i64 h.used,.int .i64 (h.live - 1),.int .i64 h.peak],.bool true,.int .i64 0]) (by simp [results,Tryz.results95,go_sem,hq2]) rfl ?_
     obtain ⟨hl,hky⟩:=HH.out
     have hA4:=hA3.out
     rw [<- Hp.Z8 hl hky] at hA4
     have hB5 : M8 ((((w2.setCell ⟨g,s.n.toNat * 3,none⟩ (.int .i64 0)).setCell ⟨g,s.n.toNat * 3 + 1,none⟩ (.int .i64 0)).setCell ⟨g,s.n.toNat * 3 + 2,none⟩ (.slice none 0 0)).setCell ⟨w1.heap.size,3,none⟩ (.int .i64 (h.live - 1)))
       w1.heap.size (w.heap.size + 3) (Zn ok (w.heap.size + 3) w1) (some ⟨g,0,none⟩) n c' { h.put s.n Qk.zero with live:=h.live - 1 } :=
      ⟨(((HB2.out.1.far hne.symm _).far hne.symm _).far hne.symm _).FM 3 _,hA4.setCell _ (by simp [Value.ownBlock];exact hne) (λb hb=>by have:=hok1 b hb;dsimp only;omega)⟩
     have hfin:=JX (q:=w.heap.size + 1 + 1) hok (by omega) (by omega) ((((hbW.setCell (by dsimp only;omega) _).setCell (by dsimp only;omega) _).setCell (by dsimp only;omega) _).setCell (by dsimp only;omega) _) hB5 (λb hb=>hb.imp id λh=>⟨h.1,by simp;omega⟩)
      (.slice (some ⟨g,0,none⟩) n c') (.int .i64 h.made) (.int .i64 h.used) (.int .i64 (h.live - 1)) (.int .i64 h.peak)
     exact ⟨_,by rw [HE.out],by rw [HE.out];exact hfin.1,hfin.2⟩
    ·have HE : Hid (h.open s true = (h.put s.n { Qk.zero with count:=-1 },true,0)):=by rw [Hid,Hp.open,if_pos HT.out,HX.out];simp [H1.out]
     go_wp2_with fail
     refine bodyPost_ret (v:=.tuple #[.agg #[.slice (some ⟨g,0,none⟩) n c',.int .i64 h.made,.int .i64 h.used,.int .i64 h.live,.int .i64 h.peak],.bool true,.int .i64 0]) (by simp [results,Tryz.results95,go_sem,hq2]) rfl ?_
     obtain ⟨hl,hky⟩:=HH.out
     have hA4:=hA3.out.QX (-1) (by omega) (by omega)
     rw [hky,<- Hp.Z8 hl hky] at hA4
     have hB5 : M8 ((((w2.setCell ⟨g,s.n.toNat * 3,none⟩ (.int .i64 0)).setCell ⟨g,s.n.toNat * 3 + 1,none⟩ (.int .i64 0)).setCell ⟨g,s.n.toNat * 3 + 2,none⟩ (.slice none 0 0)).setCell ⟨g,s.n.toNat * 3,none⟩ (.int .i64 (-1)))
       w1.heap.size (w.heap.size + 3) (Zn ok (w.heap.size + 3) w1) (some ⟨g,0,none⟩) n c' (h.put s.n { Qk.zero with count:=-1 }) :=
      ⟨(((HB2.out.1.far hne.symm _).far hne.symm _).far hne.symm _).far hne.symm _,hA4⟩
     have hfin:=JX (q:=w.heap.size + 1 + 1) hok (by omega) (by omega) ((((hbW.setCell (by dsimp only;omega) _).setCell (by dsimp only;omega) _).setCell (by dsimp only;omega) _).setCell (by dsimp only;omega) _) hB5 (λb hb=>hb.imp id λh=>⟨h.1,by simp;omega⟩)
      (.slice (some ⟨g,0,none⟩) n c') (.int .i64 h.made) (.int .i64 h.used) (.int .i64 h.live) (.int .i64 h.peak)
     exact ⟨_,by rw [HE.out],by rw [HE.out];exact hfin.1,hfin.2⟩
   ·have hb1 : (x.count == 1) = false:=by simpa using h1c
    have H1:=Lib.hid h1c
    clear h1c
    have HX1 : Hid (x.slots.length<=1000000):=by rw [Hid];omega
    have hA3 : Hid (M8 (w2.setCell ⟨g,s.n.toNat * 3,none⟩ (.int .i64 (x.count - 1))) w1.heap.size (w.heap.size + 3) (Zn ok (w.heap.size + 3) w1) (some ⟨g,0,none⟩) n c' (h.put s.n { x with count:=x.count - 1 })):=by
     obtain ⟨hl,hky⟩:=HH.out
     have hA3:=HB2.out.2
     rw [hl] at hA3
     have hA4:=hA3.QX (x.count - 1) (by omega) (by omega)
     rw [hky,<- Hp.Z8 hl hky] at hA4
     exact ⟨HB2.out.1.far hne.symm _,hA4⟩
    have hO3 : Hid ((h.put s.n { x with count:=x.count - 1 }).Ok (M + 1)):=(HO.out.mono (by omega)).put _ (by simp;omega) (by simp;omega)
    have hrs3 : Xk (w2.setCell ⟨g,s.n.toNat * 3,none⟩ (.int .i64 (x.count - 1))) (λb=>Zn ok (w.heap.size + 3) w1 b/\b≠g) (.sl (x.slots.map Qx.row)) (.slice sa' x.slots.length sc'):=hrs2.setCell _ (λb hb=>hb.2)
    go_wp2_with fail
    refine (U9 x.slots _ sa' _ sc' _ rfl (by have:=HX1.out;omega) (λb hb=>by have:=hok1 b hb.1;simp;omega) hrs3).mono ?_
    rintro e w3 ⟨sa3,sc3,rfl,hr3,hb3⟩
    have hB3:=Lib.hid (hA3.out.under hb3 (Nat.le_refl _) (λb hb=>by have:=hok1 b hb;simp;omega))
    have hQ3:=(hQ2.far (p:=⟨g,s.n.toNat * 3,none⟩) hne'.symm (.int .i64 (x.count - 1))).under hb3 (by simp;omega)
    have hbW3 : Below w.heap.size w w3:=(hbW.setCell (p:=⟨g,s.n.toNat * 3,none⟩) (by dsimp only;omega) (.int .i64 (x.count - 1))).trans (hb3.mono (by simp;omega))
    have hs3 : w2.heap.size<=w3.heap.size:=by have:=hb3.size;simp at this;omega
    have hr3' : Xk w3 (λb=>w2.heap.size<=b/\b < w3.heap.size) (.sl (x.slots.map Qx.row)) (.slice sa3 x.slots.length sc3):=by simpa using hr3
    clear hr3 hb3 hrs3 hc2 hf2 hq2 hqf hS2 c0 c1 c2 hf hrs2
    go_wp2_with fail
    go_loopw [55] (λi wr=>∃ (ps qs : List Qx) (h2 : Hp),Hid (x.slots = ps ++ qs/\(h.put s.n { x with count:=x.count - 1 }).L9 x.slots = h2.L9 qs/\h2.made = h.made/\h2.used = h.used/\h2.live = h.live/\h2.peak = h.peak)/\i = .int .i64 ps.length/\M8 wr w1.heap.size (w.heap.size + 3) (Zn ok (w.heap.size + 3) w1) (some ⟨g,0,none⟩) n c' h2 /\
      Hid (h2.Ok (M + 1 + ps.length))/\Xk wr (λb=>w2.heap.size<=b/\b < w3.heap.size) (.sl (x.slots.map Qx.row)) (.slice sa3 x.slots.length sc3)/\w3.heap.size<=wr.heap.size/\Below w.heap.size w wr /\
      U8 wr (w.heap.size + 1 + 1) 46 #[.slice none 0 0,.int .i64 0,.int .i64 0,.int .i64 0,.int .i64 0])
     (λi _=>x.slots.length - (intOf i).toNat)
    case atStart=>exact ⟨[],x.slots,_,⟨rfl,rfl,rfl,rfl,rfl,rfl⟩,rfl,hB3.out,by have:=hO3.out;exact (by simpa using this : Hp.Ok (M + 1 + ((([] : List Qx).length : Nat) : Int)) _),hr3',Nat.le_refl _,hbW3,hQ3⟩
    case round =>
     obtain ⟨ps,qs,h2,HL,rfl,hBr,HOr,hRr,hsr,hbr,hQr⟩:=hrel
     have hqr:=hQr.cell
     have hqfr:=hQr.frozen
     rcases qs with _ | ⟨y,qs⟩
     ·have hlen : x.slots.length<=ps.length:=by rw [HL.out.1];simp
      have hbc:=hBr.1.cell
      have HBr:=Lib.hid hBr
      have HE : Hid (h.open s keep = (h2,false,0)):=by
       rw [Hid,Hp.open,if_pos HT.out,HX.out]
       simp only [H1.out,if_false,HL.out.2.1]
       simp [Hp.L9]
      clear hBr
      go_wp2_with fail
      refine bodyPost_ret (v:=.tuple #[.agg #[.slice (some ⟨g,0,none⟩) n c',.int .i64 h2.made,.int .i64 h2.used,.int .i64 h2.live,.int .i64 h2.peak],.bool false,.int .i64 0]) (by simp [results,Tryz.results95,go_sem,hqr]) rfl ?_
      have hfin:=JX (q:=w.heap.size + 1 + 1) hok (by omega) (by omega) hbr HBr.out (λb hb=>hb.imp id λh=>⟨h.1,by omega⟩)
       (.slice (some ⟨g,0,none⟩) n c') (.int .i64 h2.made) (.int .i64 h2.used) (.int .i64 h2.live) (.int .i64 h2.peak)
      exact ⟨_,by rw [HE.out],by rw [HE.out];exact hfin.1,hfin.2⟩
     ·have hlt : ps.length < x.slots.length:=by rw [HL.out.1];simp
      obtain ⟨b1,o1,rfl,hob,d0,d1,rr0,rr1⟩:=Qx.at_ hRr HL.out.1
      have HBr:=Lib.hid hBr
      have hokr : ∀ b,Zn ok (w.heap.size + 3) w1 b->b < wr.heap.size:=λb hb=>by have:=hok1 b hb;omega
      have hM2 : M + 1 + ps.length<=1000000000000:=by have:=HX1.out;omega
      clear hBr
      go_wp2_with fail
      refine (EC h2 y (M + 1 + ps.length) (Zn ok (w.heap.size + 3) w1) w1.heap.size (w.heap.size + 3) (some ⟨g,0,none⟩) n c' _ hM2 HOr.out (λb hb=>⟨by have:=hokr b hb;simp;omega,by have:=hok1 b hb;omega⟩) (λg' hg'=>by simp only [Option.some.injEq,Addr.mk.injEq,and_true] at hg';omega) (HBr.out.alloc _ hokr)).mono ?_
      rintro e w4 ⟨rfl,hg4,hB4⟩
      have hs4 : wr.heap.size < w4.heap.size:=by have:=hg4.size;simp at this;omega
      have hown : (Value.slice (some ⟨g,0,none⟩) n c').ownBlock = some g:=rfl
      have hQ4:=(hQr.alloc (.cells #[.int .i64 y.kind,.int .i64 y.n] 48)).grown hg4 (by rw [hown];simp;omega)
      have hb4 : Below w.heap.size w w4:=(hbr.alloc hbr.size _).grown hg4 (by simp;have:=hbr.size;omega) (λk hk=>by rw [hown] at hk;simp at hk;omega)
      have hR4 : Xk w4 (λb=>w2.heap.size<=b/\b < w3.heap.size) (.sl (x.slots.map Qx.row)) (.slice (some ⟨b1,o1,none⟩) x.slots.length sc3) :=
       (hRr.alloc _ (λb hb=>by omega)).keep λq hq=>World.cell?_of_block (hg4.block q.block (by simp;omega) (by rw [hown];simp;omega))
      have hq4:=hQ4.cell
      have hqf4:=hQ4.frozen
      clear hqr hqfr d0 d1 hg4
      by_cases hz : (h2.dup y).2 = 0
      ·have hz' : ((h2.dup y).2 == 0) = true:=by simpa using hz
       have HB4:=Lib.hid (hB4 hz)
       have HL4 : Hid (x.slots = (ps ++ [y]) ++ qs/\(h.put s.n { x with count:=x.count - 1 }).L9 x.slots = (h2.dup y).1.L9 qs/\(h2.dup y).1.made = h.made/\(h2.dup y).1.used = h.used/\(h2.dup y).1.live = h.live/\(h2.dup y).1.peak = h.peak):=by
        obtain ⟨l1,l2,l3,l4,l5,l6⟩:=HL.out
        refine ⟨by rw [l1];simp,by rw [l2,Hp.L9,if_pos hz],?_,?_,?_,?_⟩
        ·rw [(Hp.Yr hz).1,l3]
        ·rw [(Hp.Yr hz).2.1,l4]
        ·rw [(Hp.Yr hz).2.2.1,l5]
        ·rw [(Hp.Yr hz).2.2.2,l6]
       have HO4 : Hid ((h2.dup y).1.Ok (M + 1 + ((ps ++ [y]).length : Nat))):=by
        have:=HOr.out.dup (by omega) y
        rw [Hid]
        refine this.mono ?_
        simp
        omega
       clear hz hB4
       go_wp2_with fail
       go_roundw
       case rel=>exact ⟨ps ++ [y],qs,(h2.dup y).1,HL4,by simp,HB4.out,HO4,hR4,by omega,hb4,hQ4⟩
       case measure=>simp [intOf];omega
      ·have hz' : ((h2.dup y).2 == 0) = false:=by simpa using hz
       have HE : Hid (h.open s keep = (Hp.zero,false,14)):=by
        rw [Hid,Hp.open,if_pos HT.out,HX.out]
        simp only [H1.out,if_false,HL.out.2.1,Hp.L9,if_neg hz]
        simp
       clear hz hB4
       go_wp2_with fail
       refine bodyPost_ret (v:=.tuple #[.agg #[.slice none 0 0,.int .i64 0,.int .i64 0,.int .i64 0,.int .i64 0],.bool false,.int .i64 14]) (by simp [results,Tryz.results95,go_sem,hq4]) rfl ?_
       refine ⟨_,by rw [HE.out],by rw [HE.out];exact M7.zero,?_⟩
       exact (((((hb4.setCell (by simp;omega) _).setCell (by simp;omega) _).setCell (by simp;omega) _).setCell (by simp;omega) _).setCell (by simp;omega) _)
  ·have hk' : (s.kind != 2) = true:=by simpa using hk
   have HE : Hid (h.open s keep = (Hp.zero,false,14)):=by rw [Hid,Hp.open,if_neg (λht=>hk (Hp.Xt ht).1)]
   clear hk hx hl hky hB2 HB hR1 hb2
   go_wp2_with fail
   refine bodyPost_ret (v:=.tuple #[.agg #[.slice none 0 0,.int .i64 0,.int .i64 0,.int .i64 0,.int .i64 0],.bool false,.int .i64 14]) (by simp [results,Tryz.results95,go_sem,hq2]) rfl ?_
   refine ⟨_,by rw [HE.out],by rw [HE.out];exact M7.zero,?_⟩
   exact (((((hbW.setCell (by simp;omega) _).setCell (by simp;omega) _).setCell (by simp;omega) _).setCell (by simp;omega) _).setCell (by simp;omega) _)
 ·refine (Aj h s (λb=>b < w1.heap.size) a' n c' w1.heap.size _ (λb hb=>by simp;omega) (by simp) hR1 (λx hx=>by have : ¬ 1<=x.count:=λhc=>hP ⟨x,hx,hc⟩;omega)).mono ?_
  rintro e w2 ⟨rfl,hb2⟩
  have hQ2:=hQa.under hb2 (by simp;omega)
  have hS2:=(hSa.under hb2 (by simp;omega)).cell
  have hbW : Below w.heap.size w w2:=(hbw.alloc hbw.size _).trans (hb2.mono (by simp;omega))
  have hs2 : w1.heap.size < w2.heap.size:=by have:=hb2.size;simp at this;omega
  have hq2:=hQ2.cell
  have hqf:=hQ2.frozen
  have HE : Hid (h.open s keep = (Hp.zero,false,14)):=by rw [Hid,Hp.open,if_neg (λht=>hP (Hp.Xt ht).2)]
  clear hP HB hR1 hb2
  by_cases hk : s.kind = 2
  ·have hk' : (s.kind != 2) = false:=by simpa using hk
   clear hk
   go_wp2_with fail
   refine bodyPost_ret (v:=.tuple #[.agg #[.slice none 0 0,.int .i64 0,.int .i64 0,.int .i64 0,.int .i64 0],.bool false,.int .i64 14]) (by simp [results,Tryz.results95,go_sem,hq2]) rfl ?_
   refine ⟨_,by rw [HE.out],by rw [HE.out];exact M7.zero,?_⟩
   exact (((((hbW.setCell (by simp;omega) _).setCell (by simp;omega) _).setCell (by simp;omega) _).setCell (by simp;omega) _).setCell (by simp;omega) _)
  ·have hk' : (s.kind != 2) = true:=by simpa using hk
   clear hk
   go_wp2_with fail
   refine bodyPost_ret (v:=.tuple #[.agg #[.slice none 0 0,.int .i64 0,.int .i64 0,.int .i64 0,.int .i64 0],.bool false,.int .i64 14]) (by simp [results,Tryz.results95,go_sem,hq2]) rfl ?_
   refine ⟨_,by rw [HE.out],by rw [HE.out];exact M7.zero,?_⟩
   exact (((((hbW.setCell (by simp;omega) _).setCell (by simp;omega) _).setCell (by simp;omega) _).setCell (by simp;omega) _).setCell (by simp;omega) _)
def Zz3(h:Hp)(s:Qx)(ok:Nat->Prop)(w:World)(e:Ending)(w':World):Prop:=
 ∃v,e= .returned (.tuple #[v,.int .i64 (h.open s false).2.2])/\M7 w w' ok v (h.open s false).1/\Below w.heap.size w w'
def Hp.hold(h:Hp)(s:Qx):Hp×Qx×Int:=((h.open s true).1,if (h.open s true).2.1 then s else⟨0,0⟩,(h.open s true).2.2)
def Lb(h:Hp)(s:Qx)(ok:Nat->Prop)(w:World)(e:Ending)(w':World):Prop:=
 ∃v,e= .returned (.tuple #[v,.agg #[.int .i64 (h.hold s).2.1.kind,.int .i64 (h.hold s).2.1.n],.int .i64 (h.hold s).2.2])/\M7 w w' ok v (h.hold s).1/\Below w.heap.size w w'
theorem Hp.Qk3(h:Hp)(s:Qx)(keep:Bool)(f:(h.open s keep).2.1=true):(h.open s keep).2.2=0:=by
 unfold Hp.open at f⊢;by_cases i:h.there s=true
 ·rw[if_pos i]at f⊢;rcases hx:h.at s.n with _|x
  ·rw[hx]at f;simp at f
  ·rw[hx]at f;by_cases g:x.count=1
   ·simp[g]
   ·by_cases j:((h.put s.n { x with count:=x.count-1 }).L9 x.slots).2=0
    ·simp[g,j]at f
    ·simp[g,j]at f
 ·rw[if_neg i]at f;simp at f
theorem IJ(h : Hp)(s : Qx)(M : Int)(ok : Nat->Prop)(a : Option Addr)(n c : Nat)(w : World)(hM : M<=1000000)(hO : h.Ok M)(hMo : 3 * M<=1000000)(hok : ∀ b,ok b->b < w.heap.size)(hR : Xk w ok (.sl (h.cells.map Qk.row)) (.slice a n c)) :
  Calls Tryz.prog 83 #[.agg #[.slice a n c,.int .i64 h.made,.int .i64 h.used,.int .i64 h.live,.int .i64 h.peak],.agg #[.int .i64 s.kind,.int .i64 s.n]] w (Zz3 h s ok w):=by
 have HO:=Lib.hid hO
 clear hO
 go_enter Tryz.func83,Tryz.ntmps83
 go_wp2_with fail
 refine (NM h s false M ok a n c _ hM HO.out (λb hb=>by have:=hok b hb;simp;omega) (((hR.alloc _ hok).alloc _ (λb hb=>by have:=hok b hb;simp;omega)).alloc _ (λb hb=>by have:=hok b hb;simp;omega))).mono ?_
 rintro e w1 ⟨v,rfl,⟨a',n',c',rfl,hR1⟩,hb1⟩
 have hQ:=U8.under (U8.new' ((w.alloc _).alloc _) 46 #[.slice none 0 0,.int .i64 0,.int .i64 0,.int .i64 0,.int .i64 0] (w.heap.size + 1 + 1) (by simp)) hb1 (by simp)
 have hbw : Below w.heap.size w w1:=((((Below.refl _ w).alloc (Nat.le_refl _) _).alloc (by simp) _).alloc (by simp;omega) _).trans (hb1.mono (by simp;omega))
 have hsz : w.heap.size + 3<=w1.heap.size:=by have:=hb1.size;simp at this;omega
 have hq:=(hQ.alloc (.cells #[.slice a' n' c',.int .i64 (h.open s false).1.made,.int .i64 (h.open s false).1.used,.int .i64 (h.open s false).1.live,.int .i64 (h.open s false).1.peak] 46)).cell
 have hqf:=(hQ.alloc (.cells #[.slice a' n' c',.int .i64 (h.open s false).1.made,.int .i64 (h.open s false).1.used,.int .i64 (h.open s false).1.live,.int .i64 (h.open s false).1.peak] 46)).frozen
 have hR2 : Xk w1 (λb=>ok b\/(w.heap.size + 3<=b/\b < w1.heap.size)) (.sl ((h.open s false).1.cells.map Qk.row)) (.slice a' n' c'):=hR1.weak λb hb=>hb.imp id λh=>⟨by have:=h.1;simp at this;omega,h.2⟩
 clear hR1 hb1
 go_wp2_with fail
 refine bodyPost_ret (v:=.tuple #[.agg #[.slice a' n' c',.int .i64 (h.open s false).1.made,.int .i64 (h.open s false).1.used,.int .i64 (h.open s false).1.live,.int .i64 (h.open s false).1.peak],.int .i64 (h.open s false).2.2]) (by simp [results,Tryz.results83,go_sem,hq]) rfl ?_
 have hfin:=Jx5 (q:=w.heap.size + 1 + 1) (B:=w.heap.size + 3) (h:=(h.open s false).1) hok (by omega) (by omega) (hbw.alloc hbw.size (.cells #[.slice a' n' c',.int .i64 (h.open s false).1.made,.int .i64 (h.open s false).1.used,.int .i64 (h.open s false).1.live,.int .i64 (h.open s false).1.peak] 46))
  ((hR2.alloc _ (λb hb=>by rcases hb with hb | hb <;> first | omega | (have:=hok b hb;omega))).weak (ok':=λb=>ok b\/(w.heap.size + 3<=b/\b < (w1.alloc (.cells #[.slice a' n' c',.int .i64 (h.open s false).1.made,.int .i64 (h.open s false).1.used,.int .i64 (h.open s false).1.live,.int .i64 (h.open s false).1.peak] 46)).heap.size)) (λb hb=>hb.imp id λh=>⟨h.1,by simp;omega⟩))
  (.slice a' n' c') (.int .i64 (h.open s false).1.made) (.int .i64 (h.open s false).1.used) (.int .i64 (h.open s false).1.live) (.int .i64 (h.open s false).1.peak)
 exact ⟨_,rfl,hfin.1,hfin.2⟩
theorem IK(h : Hp)(s : Qx)(M : Int)(ok : Nat->Prop)(a : Option Addr)(n c : Nat)(w : World)(hM : M<=1000000)(hO : h.Ok M)(hMo : 3 * M<=1000000)(hok : ∀ b,ok b->b < w.heap.size)(hR : Xk w ok (.sl (h.cells.map Qk.row)) (.slice a n c)) :
  Calls Tryz.prog 84 #[.agg #[.slice a n c,.int .i64 h.made,.int .i64 h.used,.int .i64 h.live,.int .i64 h.peak],.agg #[.int .i64 s.kind,.int .i64 s.n]] w (Lb h s ok w):=by
 have HO:=Lib.hid hO
 clear hO
 have hb4 : ∀ b,ok b->b < w.heap.size + 4:=λb hb=>by have:=hok b hb;omega
 go_enter Tryz.func84,Tryz.ntmps84
 go_wp2_with fail
 refine (NM h s true M ok a n c _ hM HO.out (λb hb=>by have:=hok b hb;simp;omega) ((((hR.alloc _ hok).alloc _ (λb hb=>by have:=hok b hb;simp;omega)).alloc _ (λb hb=>by have:=hok b hb;simp;omega)).alloc _ (λb hb=>by have:=hok b hb;simp;omega))).mono ?_
 rintro e w1 ⟨v,rfl,⟨a',n',c',rfl,hR1⟩,hb1⟩
 have hS:=U8.under (((U8.new' (w.alloc _) 48 #[.int .i64 s.kind,.int .i64 s.n] (w.heap.size + 1) (by simp)).alloc _).alloc _) hb1 (by first | (simp;done) | (simp;omega))
 have hQ:=U8.under ((U8.new' ((w.alloc _).alloc _) 46 #[.slice none 0 0,.int .i64 0,.int .i64 0,.int .i64 0,.int .i64 0] (w.heap.size + 1 + 1) (by simp)).alloc _) hb1 (by simp)
 have hZ:=U8.under (U8.new' (((w.alloc _).alloc _).alloc _) 48 #[.int .i64 0,.int .i64 0] (w.heap.size + 1 + 1 + 1) (by simp)) hb1 (by simp)
 have hbw : Below w.heap.size w w1:=(((((Below.refl _ w).alloc (Nat.le_refl _) _).alloc (by simp) _).alloc (by simp;omega) _).alloc (by simp;omega) _).trans (hb1.mono (by simp;omega))
 have hsz : w.heap.size + 4<=w1.heap.size:=by have:=hb1.size;simp at this;omega
 have hsc:=(hS.alloc (.cells #[.slice a' n' c',.int .i64 (h.open s true).1.made,.int .i64 (h.open s true).1.used,.int .i64 (h.open s true).1.live,.int .i64 (h.open s true).1.peak] 46)).cell
 have hq:=(hQ.alloc (.cells #[.slice a' n' c',.int .i64 (h.open s true).1.made,.int .i64 (h.open s true).1.used,.int .i64 (h.open s true).1.live,.int .i64 (h.open s true).1.peak] 46)).cell
 have hqf:=(hQ.alloc (.cells #[.slice a' n' c',.int .i64 (h.open s true).1.made,.int .i64 (h.open s true).1.used,.int .i64 (h.open s true).1.live,.int .i64 (h.open s true).1.peak] 46)).frozen
 have hz:=(hZ.alloc (.cells #[.slice a' n' c',.int .i64 (h.open s true).1.made,.int .i64 (h.open s true).1.used,.int .i64 (h.open s true).1.live,.int .i64 (h.open s true).1.peak] 46)).cell
 have hzf:=(hZ.alloc (.cells #[.slice a' n' c',.int .i64 (h.open s true).1.made,.int .i64 (h.open s true).1.used,.int .i64 (h.open s true).1.live,.int .i64 (h.open s true).1.peak] 46)).frozen
 have hR2 : Xk w1 (λb=>ok b\/(w.heap.size + 4<=b/\b < w1.heap.size)) (.sl ((h.open s true).1.cells.map Qk.row)) (.slice a' n' c'):=hR1.weak λb hb=>hb.imp id λh=>⟨by have:=h.1;simp at this;omega,h.2⟩
 clear hR1 hb1
 have herr:=Hp.Qk3 h s true
 cases hm : (h.open s true).2.1
 ·have HE : Hid ((h.hold s).2 = (⟨0,0⟩,(h.open s true).2.2)):=by simp [Hid,Hp.hold,hm]
  clear herr
  by_cases he : (h.open s true).2.2 = 0
  all_goals
   first
   | have he' : ((h.open s true).2.2 != 0) = false:=by simpa using he
   | have he' : ((h.open s true).2.2 != 0) = true:=by simpa using he
  all_goals
   clear he
   go_wp2_with fail
   refine bodyPost_ret (v:=.tuple #[.agg #[.slice a' n' c',.int .i64 (h.open s true).1.made,.int .i64 (h.open s true).1.used,.int .i64 (h.open s true).1.live,.int .i64 (h.open s true).1.peak],.agg #[.int .i64 0,.int .i64 0],.int .i64 (h.open s true).2.2]) (by simp [results,Tryz.results84,go_sem,hq,hz]) rfl ?_
   refine ⟨_,by rw [HE.out];rfl,⟨a',n',c',rfl,?_⟩,?_⟩
   ·refine Xk.weak (ok:=λb=>ok b\/(w.heap.size + 4<=b/\b < w1.heap.size)) ?_ (λb hb=>hb.imp id λh=>⟨by omega,by simp;omega⟩)
    iterate 7 refine Xk.setCell ?_ _ (λb hb=>by dsimp only;rcases hb with hb | hb <;> first | omega | (have:=hok b hb;omega))
    exact (hR2.alloc _ (λb hb=>by rcases hb with hb | hb <;> first | omega | (have:=hok b hb;omega)))
   ·exact ((((((((hbw.alloc hbw.size _).setCell (by first | (simp;done) | (simp;omega)) _).setCell (by first | (simp;done) | (simp;omega)) _).setCell (by first | (simp;done) | (simp;omega)) _).setCell (by first | (simp;done) | (simp;omega)) _).setCell (by first | (simp;done) | (simp;omega)) _).setCell (by first | (simp;done) | (simp;omega)) _).setCell (by first | (simp;done) | (simp;omega)) _)
 ·have h0 : (h.open s true).2.2 = 0:=herr hm
  have HE : Hid ((h.hold s).2 = (s,0)):=by simp [Hid,Hp.hold,hm,h0]
  have HZ:=Lib.hid h0
  have he' : ((h.open s true).2.2 != 0) = false:=by simp [h0]
  clear herr h0
  go_wp2_with fail
  go_region
  all_goals
   go_wp2_with fail
   refine bodyPost_ret (v:=.tuple #[.agg #[.slice a' n' c',.int .i64 (h.open s true).1.made,.int .i64 (h.open s true).1.used,.int .i64 (h.open s true).1.live,.int .i64 (h.open s true).1.peak],.agg #[.int .i64 s.kind,.int .i64 s.n],.int .i64 0]) (by simp [results,Tryz.results84,go_sem,hq,hz]) rfl ?_
   refine ⟨_,by rw [HE.out];rfl,⟨a',n',c',rfl,?_⟩,?_⟩
   ·refine Xk.weak (ok:=λb=>ok b\/(w.heap.size + 4<=b/\b < w1.heap.size)) ?_ (λb hb=>hb.imp id λh=>⟨by omega,by simp;omega⟩)
    refine Xk.drew ?_
    iterate 7 refine Xk.setCell ?_ _ (λb hb=>by dsimp only;rcases hb with hb | hb <;> first | omega | (have:=hok b hb;omega))
    exact (hR2.alloc _ (λb hb=>by rcases hb with hb | hb <;> first | omega | (have:=hok b hb;omega)))
   ·refine Below.drew ?_
    exact ((((((((hbw.alloc hbw.size _).setCell (by first | (simp;done) | (simp;omega)) _).setCell (by first | (simp;done) | (simp;omega)) _).setCell (by first | (simp;done) | (simp;omega)) _).setCell (by first | (simp;done) | (simp;omega)) _).setCell (by first | (simp;done) | (simp;omega)) _).setCell (by first | (simp;done) | (simp;omega)) _).setCell (by first | (simp;done) | (simp;omega)) _)
def Hp.get(h:Hp)(s:Qx):Int×List Qx×Int:=
 if h.there s=true then (match h.at s.n with|some x=>(x.tag,x.slots,0)|none=>(0,[],14))else (0,[],14)
def Jy(h:Hp)(s:Qx)(ok:Nat->Prop)(w:World)(e:Ending)(w':World):Prop:=
 ∃a n c,e= .returned (.tuple #[.int .i64 (h.get s).1,.slice a n c,.int .i64 (h.get s).2.2])/\Xk w' (Zn ok w.heap.size w') (.sl ((h.get s).2.1.map Qx.row)) (.slice a n c)/\Below w.heap.size w w'
theorem Jy.bad{h:Hp}{s:Qx}{ok:Nat->Prop}{w w':World}(f:h.get s=(0,[],14))(g:Below w.heap.size w w'):Jy h s ok w (.returned (.tuple #[.int .i64 0,.slice none 0 0,.int .i64 14])) w':=
 ⟨none,0,0,by rw[f],by rw[f];exact .empty none 0 (λ_=>rfl) (Nat.zero_le _),g⟩
theorem Qg1(h : Hp)(s : Qx)(ok : Nat→Prop)(a : Option Addr)(n c : Nat)(w : World)(hsl : ∀ x∈h.cells,x.slots.length≤8796093022208)(hok : ∀ b,ok b→b < w.heap.size)(hR : Xk w ok (.sl (h.cells.map Qk.row)) (.slice a n c)) :
  Calls Tryz.prog 34 #[.agg #[.slice a n c,.int .i64 h.made,.int .i64 h.used,.int .i64 h.live,.int .i64 h.peak],.agg #[.int .i64 s.kind,.int .i64 s.n]] w (Jy h s ok w):=by
 have HS:=Lib.hid hsl
 clear hsl
 have hR0 : ∀ o1 o2 : Obj,Xk ((w.alloc o1).alloc o2) ok (.sl (h.cells.map Qk.row)) (.slice a n c):=fun o1 o2=>(hR.alloc _ hok).alloc _ (fun b hb=>by have:=hok b hb;simp;omega)
 go_enter Tryz.func34,Tryz.ntmps34
 go_wp2_with fail
 by_cases hP : ∃ x,h.at s.n = some x∧1≤x.count
 ·obtain ⟨x,hx,hxc⟩:=hP
  obtain ⟨h0,h1,ys,zs,hl,hky⟩:=Hp.Gv hx
  have hsx:=HS.out x (by rw [hl];simp)
  obtain ⟨_,_,b,o,_,_,rfl,hob,_⟩:=Qk.XP hR hx
  refine (Az h s x ok b o n c w.heap.size _ (fun b hb=>by have:=hok b hb;simp;omega) (by simp [World.cell?_alloc_past]) (hR0 _ _) hx hxc).mono ?_
  rintro e w1 ⟨rfl,hb1⟩
  have hS:=(U8.under (U8.new' (w.alloc _) 48 #[.int .i64 s.kind,.int .i64 s.n] (w.heap.size + 1) (by simp)) hb1 (by simp)).cell
  have hbw : Below w.heap.size w w1:=(((Below.refl _ w).alloc (Nat.le_refl _) _).alloc (by simp) _).trans (hb1.mono (by simp;omega))
  have hR1:=hR.under hbw hok
  obtain ⟨_,_,b',o',sa,sc,hbo,_,c0,c1,c2,hrs,_⟩:=Qk.XP hR1 hx
  simp only [Option.some.injEq,Addr.mk.injEq,and_true] at hbo
  obtain ⟨rfl,rfl⟩:=hbo
  have hok1 : ∀ b,ok b→b < w1.heap.size:=fun b hb=>by have:=hok b hb;have:=hbw.size;omega
  clear hb1 c0
  by_cases hk : s.kind = 2
  ·have hk' : (s.kind != 2) = false:=by simpa using hk
   have HE : Hid (h.get s = (x.tag,x.slots,0)):=by rw [Hid,Hp.get,if_pos (Hp.KJ hk hx hxc),hx]
   clear hk hx hl hky
   go_wp2_with fail
   go_region_held3 (fun w'=>w'.cell? ⟨b,o + s.n.toNat * 3 + 1,none⟩ = some (.int .i64 x.tag)∧w'.cell? ⟨b,o + s.n.toNat * 3 + 2,none⟩ = some (.slice sa x.slots.length sc))
    (first
     | go_keep
     | (go_split_ands
        refine ⟨?_, ?_⟩
        ·(rw [hb3.cell (by simp; exact hok1 _ hob)]; assumption)
        ·(rw [hb3.cell (by simp; exact hok1 _ hob)]; assumption)))
    ((go_at_call 56;refine (U9 x.slots ok sa _ sc _ rfl (by omega) (fun b hb=>by simp;exact hok1 b hb) (by first | exact hrs.drew | exact hrs)).mono ?_;rintro e w3 ⟨sa3,sc3,rfl,hr3,hb3⟩))
   go_wp2_with fail
   go_ret3
   have hw1:=hbw.size
   exact ⟨sa3,_,sc3,by rw [HE.out];rfl,by rw [HE.out];exact hr3.weak fun b hb=>.inr ⟨by have:=hb.1;simp at this;omega,hb.2⟩,hbw.trans ((Below.drew (Below.refl _ _)).trans (hb3.mono (by simp;omega)))⟩
  ·have hk' : (s.kind != 2) = true:=by simpa using hk
   have HE : Hid (h.get s = (0,[],14)):=by rw [Hid,Hp.get,if_neg (fun ht=>hk (Hp.Xt ht).1)]
   clear hk hx hl hky
   go_wp2_with fail
   go_ret3
   exact Jy.bad HE.out hbw
 ·refine (Aj h s ok a n c w.heap.size _ (fun b hb=>by have:=hok b hb;simp;omega) (by simp [World.cell?_alloc_past]) (hR0 _ _) (fun x hx=>by have : ¬ 1≤x.count:=fun hc=>hP ⟨x,hx,hc⟩;omega)).mono ?_
  rintro e w1 ⟨rfl,hb1⟩
  have hS:=(U8.under (U8.new' (w.alloc _) 48 #[.int .i64 s.kind,.int .i64 s.n] (w.heap.size + 1) (by simp)) hb1 (by simp)).cell
  have hbw : Below w.heap.size w w1:=(((Below.refl _ w).alloc (Nat.le_refl _) _).alloc (by simp) _).trans (hb1.mono (by simp;omega))
  have HE : Hid (h.get s = (0,[],14)):=by rw [Hid,Hp.get,if_neg (fun ht=>hP (Hp.Xt ht).2)]
  clear hP hb1
  by_cases hk : s.kind = 2
  ·have hk' : (s.kind != 2) = false:=by simpa using hk
   clear hk
   go_wp2_with fail
   go_ret3
   exact Jy.bad HE.out hbw
  ·have hk' : (s.kind != 2) = true:=by simpa using hk
   clear hk
   go_wp2_with fail
   go_ret3
   exact Jy.bad HE.out hbw
def room:List Qk->Nat
 |[]=>0
 |x::r=>if x.count=0 then 0 else room r+1
theorem room_le(l:List Qk):room l<=l.length:=by
 induction l with
 |nil=>exact Nat.le_refl _
 |cons x r f=>unfold room;split<;> simp<;> omega
theorem Np(ys zs:List Qk)(h:∀y∈ys,y.count≠0):room (ys++zs)=ys.length+room zs:=by
 induction ys with
 |nil=>simp
 |cons y r f=>
  have g:y.count≠0:=h y (by simp);rw[List.cons_append,room,if_neg g,f (λz i=>h z (by simp[i]))];simp;omega
def VX(l:List Qk):Int:=if room l<l.length then (room l:Int)else -1
theorem DJ(x : Qk)(v : Value)(w : World) :
  Calls Tryz.prog 92 #[.agg #[.int .i64 x.count,.int .i64 x.tag,v]] w λe w'=>e = .returned (.bool (x.count == 0))/\Below w.heap.size w w':=by
 go_enter Tryz.func92,Tryz.ntmps92
 go_wp2_with fail
 go_ret
 exact ⟨rfl,(Below.refl _ _).alloc (Nat.le_refl _) _⟩
theorem Co(l : List Qk)(ok : Nat->Prop)(a : Option Addr)(n c : Nat)(w : World)(hok : ∀ b,ok b->b < w.heap.size)(hR : Xk w ok (.sl (l.map Qk.row)) (.slice a n c)) :
  Calls Tryz.prog 91 #[.slice a n c,.func (.func 92) #[] #[]] w λe w'=>e = .returned (.int .i64 (VX l))/\Below w.heap.size w w':=by
 obtain ⟨hn,_,hm⟩:=hR.D7
 rw [List.length_map] at hn
 have HN:=Lib.hid hn
 clear hn
 unfold maxLen at hm
 go_enter Tryz.func91,Tryz.ntmps91
 go_wp2_with fail
 go_loopw [8] (λi wr=>∃ ys zs : List Qk,Hid (l = ys ++ zs/\∀ y∈ys,y.count≠0)/\i = .int .i64 ys.length/\Below w.heap.size w wr)
  (λi _=>n - (intOf i).toNat)
 case atStart=>exact ⟨[],l,⟨rfl,by simp⟩,rfl,Below.refl _ _⟩
 case round =>
  obtain ⟨ys,zs,HL,rfl,hb⟩:=hrel
  rcases zs with _ | ⟨x,zs⟩
  ·have hlen : n<=ys.length:=by rw [HN.out,HL.out.1];simp
   have HE : Hid (VX l = -1):=by
    obtain ⟨h1,h2⟩:=HL.out
    rw [Hid,VX,if_neg]
    have:=Np ys [] h2
    rw [h1,this]
    simp
   go_wp2_with fail
   go_ret
   exact ⟨by rw [HE.out];rfl,hb⟩
  ·have hlt : ys.length < n:=by rw [HN.out,HL.out.1];simp
   obtain ⟨b,o,sa,sc,rfl,hob,c0,c1,c2,_⟩:=Qk.at_ hR HL.out.1
   have hbl:=hok _ hob
   have d0:=(hb.cell (p:=⟨b,o + ys.length * 3,none⟩) hbl).trans c0
   have d1:=(hb.cell (p:=⟨b,o + ys.length * 3 + 1,none⟩) hbl).trans c1
   have d2:=(hb.cell (p:=⟨b,o + ys.length * 3 + 2,none⟩) hbl).trans c2
   clear c0 c1 c2
   by_cases hx : x.count = 0
   ·have hx' : (x.count == 0) = true:=by simpa using hx
    have HE : Hid (VX l = ys.length):=by
     obtain ⟨h1,h2⟩:=HL.out
     have:=Np ys (x :: zs) h2
     rw [room,if_pos hx] at this
     rw [Hid,VX,h1,this,if_pos (by simp)]
     simp
    clear hx
    go_wp2_with fail
    refine (DJ x _ _).mono ?_
    rintro e w1 ⟨rfl,hb1⟩
    go_wp2_with fail
    go_ret
    exact ⟨by rw [HE.out];rfl,hb.trans (hb1.mono hb.size)⟩
   ·have hx' : (x.count == 0) = false:=by simpa using hx
    have HL2 : Hid (l = (ys ++ [x]) ++ zs/\∀ y∈ys ++ [x],y.count≠0):=⟨by rw [HL.out.1];simp,λy hy=>by
     rcases List.mem_append.1 hy with h1 | h1
     ·exact HL.out.2 y h1
     ·simp at h1;rw [h1];exact hx⟩
    clear hx
    go_wp2_with fail
    refine (DJ x _ _).mono ?_
    rintro e w1 ⟨rfl,hb1⟩
    have hb2:=hb.trans (hb1.mono hb.size)
    clear hb1
    go_wp2_with fail
    go_roundw
    case rel=>exact ⟨ys ++ [x],zs,HL2,by simp,hb2⟩
    case measure=>simp [intOf];omega
def Hp.make(h:Hp)(tag:Int)(l:List Qx):Hp×Qx×Int:=
 if 200<=h.live then (Hp.zero,⟨0,0⟩,13)
 else (⟨h.cells.take (room h.cells)++⟨1,tag,l⟩::h.cells.drop (room h.cells+1),h.made+1,h.used,h.live+1,max h.peak (h.live+1)⟩,⟨2,room h.cells⟩,0)
def EZ(h:Hp)(tag:Int)(l:List Qx)(ok:Nat->Prop)(w:World)(e:Ending)(w':World):Prop:=
 ∃v,e= .returned (.tuple #[v,.agg #[.int .i64 (h.make tag l).2.1.kind,.int .i64 (h.make tag l).2.1.n],.int .i64 (h.make tag l).2.2])/\M7 w w' ok v (h.make tag l).1/\Below w.heap.size w w'
theorem NN(hp : Hp)(tag : Int)(l : List Qx)(M : Int)(ok : Nat→Prop)(a : Option Addr)(n c : Nat)(la : Option Addr)(ln lc : Nat)(w : World)(hM : M≤1000000)(hO : hp.Ok M)(ht : -9223372036854775808≤tag∧tag≤9223372036854775807)(hl : ln = l.length)(hlb : ln≤8796093022208)
  (hok : ∀ b,ok b→b < w.heap.size) (hR : Xk w ok (.sl (hp.cells.map Qk.row)) (.slice a n c)) (hL : Xk w ok (.sl (l.map Qx.row)) (.slice la ln lc)) :
  Calls Tryz.prog 79 #[.agg #[.slice a n c,.int .i64 hp.made,.int .i64 hp.used,.int .i64 hp.live,.int .i64 hp.peak],.int .i64 tag,.slice la ln lc] w (EZ hp tag l ok w):=by
 have hn:=hR.D7.1
 rw [List.length_map] at hn
 have hlen:=hO.len
 have hsl : ∀ x∈hp.cells,x.slots.length≤8796093022208:=fun x hx=>by have:=hO.slots x hx;omega
 have hmd:=hO.made
 have hlv:=hO.live
 have hpk:=hO.peak
 have hus:=hO.used
 have HN:=Lib.hid hn
 have HO:=Lib.hid hO
 have HLn:=Lib.hid hl
 clear hn hO hl
 by_cases hf : 200≤hp.live
 ·have HE : Hid (hp.make tag l = (Hp.zero,⟨0,0⟩,13)):=by rw [Hid,Hp.make,if_pos hf]
  go_enter Tryz.func79,Tryz.ntmps79
  go_wp2_with fail
  refine bodyPost_ret (v:=.tuple #[.agg #[.slice none 0 0,.int .i64 0,.int .i64 0,.int .i64 0,.int .i64 0],.agg #[.int .i64 0,.int .i64 0],.int .i64 13]) (by simp [results,Tryz.results79,go_sem]) rfl ?_
  refine ⟨_,by rw [HE.out],by rw [HE.out];exact M7.zero,?_⟩
  exact (((Below.refl _ w).alloc (Nat.le_refl _) _).alloc (by simp) _).alloc (by simp;omega) _
 ·obtain ⟨i0,hi,hz0,hz1,hz2⟩:=info_parts GH
  have hokB : ∀ (o1 o2 o3 : Obj),∀ b,ok b→b < (((w.alloc o1).alloc o2).alloc o3).heap.size:=fun _ _ _ b hb=>by have:=hok b hb;simp;omega
  go_enter Tryz.func79,Tryz.ntmps79
  go_wp2_with fail
  refine (QT hp.cells hp.made hp.used hp.live hp.peak ok a n c _ HN.out (by have:=HN.out;omega) hsl (hokB _ _ _) (((hR.alloc _ hok).alloc _ (fun b hb=>by have:=hok b hb;simp;omega)).alloc _ (fun b hb=>by have:=hok b hb;simp;omega))).mono ?_
  rintro e w1 ⟨a',c',rfl,hA,hb1⟩
  have hQ:=U8.under ((U8.new' (w.alloc _) 46 #[.slice none 0 0,.int .i64 0,.int .i64 0,.int .i64 0,.int .i64 0] (w.heap.size + 1) (by simp)).alloc _) hb1 (by simp)
  have hZ:=U8.under (U8.new' ((w.alloc _).alloc _) 48 #[.int .i64 0,.int .i64 0] (w.heap.size + 1 + 1) (by simp)) hb1 (by simp)
  have hbw : Below w.heap.size w w1:=((((Below.refl _ w).alloc (Nat.le_refl _) _).alloc (by simp) _).alloc (by simp;omega) _).trans (hb1.mono (by simp;omega))
  have hsz : w.heap.size + 3≤w1.heap.size:=by have:=hb1.size;simp at this;omega
  have hA1 : U5 w1 (w.heap.size + 3) 43 3 (Zn ok (w.heap.size + 3) w1) (.slice a' n c') (hp.cells.map Qk.row):=by simpa using hA
  have hok1 : ∀ b,Zn ok (w.heap.size + 3) w1 b→b < w1.heap.size:=fun b hb=>by rcases hb with hb | hb <;> first | omega | (have:=hok b hb;omega)
  have hL1:=hL.under hbw hok
  clear hA hb1
  obtain ⟨W,hW⟩ : ∃ W,W = w1.alloc (.cells #[.slice a' n c',.int .i64 hp.made,.int .i64 hp.used,.int .i64 hp.live,.int .i64 hp.peak] 46):=⟨_,rfl⟩
  have hWP : U8 W w1.heap.size 46 #[.slice a' n c',.int .i64 hp.made,.int .i64 hp.used,.int .i64 hp.live,.int .i64 hp.peak]:=by rw [hW];exact U8.new _ _ _
  have hWA : U5 W (w.heap.size + 3) 43 3 (Zn ok (w.heap.size + 3) w1) (.slice a' n c') (hp.cells.map Qk.row):=by rw [hW];exact hA1.alloc _ hok1
  have hWQ : U8 W (w.heap.size + 1) 46 #[.slice none 0 0,.int .i64 0,.int .i64 0,.int .i64 0,.int .i64 0]:=by rw [hW];exact hQ.alloc _
  have hWZ : U8 W (w.heap.size + 1 + 1) 48 #[.int .i64 0,.int .i64 0]:=by rw [hW];exact hZ.alloc _
  have hWb : Below w.heap.size w W:=by rw [hW];exact hbw.alloc hbw.size _
  have hWs : W.heap.size = w1.heap.size + 1:=by rw [hW];simp
  have hWL : Xk W ok (.sl (l.map Qx.row)) (.slice la ln lc):=by rw [hW];exact hL1.alloc _ (fun b hb=>by have:=hok b hb;omega)
  have hWR : Xk W (fun b=>b < w1.heap.size) (.sl (hp.cells.map Qk.row)) (.slice a' n c'):=by rw [hW];exact (hA1.Ty (ok':=fun b=>b < w1.heap.size) (fun b _ hp=>hp) hok1).alloc _ (fun b hb=>hb)
  go_upto_region 4 with (fail)
  rw [← hW]
  clear hW
  have hcpW:=hWP.cell
  have hA1own : ∀ g,(Value.slice a' n c').ownBlock = some g→g < w1.heap.size:=fun g hg=>(hA1.own g hg).2
  go_wp2_with fail
  clear hcpW
  refine (Co hp.cells (fun b=>b < w1.heap.size) a' n c' W (fun b hb=>by omega) hWR).mono ?_
  rintro e w2 ⟨rfl,hb2⟩
  have hP2:=hWP.under hb2 hWP.lt
  have hQ2:=hWQ.under hb2 hWQ.lt
  have hZ2:=hWZ.under hb2 hWZ.lt
  have hL2:=hWL.under hb2 (fun b hb=>by have:=hok b hb;have:=hWb.size;omega)
  have hA2:=hWA.under hb2 (Nat.le_refl _) (fun b hb=>by have:=hok1 b hb;omega)
  have hbW2 : Below w.heap.size w w2:=hWb.trans (hb2.mono hWb.size)
  have hs2 : w1.heap.size < w2.heap.size:=by have:=hb2.size;omega
  have hcp2:=hP2.cell
  have hfp2:=hP2.frozen
  clear hWP hWA hWQ hWZ hWb hWs hWL hWR hb2 hQ hZ hA1 hL1
  by_cases hr : room hp.cells < hp.cells.length
  ·obtain ⟨k,hk⟩ : ∃ k,k = room hp.cells:=⟨_,rfl⟩
   have HR : Hid (VX hp.cells = (k : Int)):=by rw [Hid,VX,if_pos hr,hk]
   obtain ⟨ys,zs,hyz,hyk⟩:=JO (List.getElem?_eq_getElem hr)
   obtain ⟨x,hxx⟩ : ∃ x,x = hp.cells[room hp.cells]:=⟨_,rfl⟩
   rw [← hxx] at hyz
   have hkl : (0 : Int)≤(k : Int):=by omega
   have hkn : k < n:=by rw [HN.out,hk];exact hr
   have HK : Hid (k = ys.length):=by rw [Hid,hk,hyk]
   have HF : Hid (hp.cells.take (room hp.cells) ++ ⟨1,tag,l⟩ :: hp.cells.drop (room hp.cells + 1) = ys ++ ⟨1,tag,l⟩ :: zs):=by
    rw [Hid,← hyk]
    conv=>lhs;rw [hyz]
    simp
   rw [hyz] at hA2
   have HKR : Hid (room hp.cells = k):=hk.symm
   clear hk hr hyz hyk hxx
   rw [HR.out]
   go_upto_region 8 with (fail)
   obtain ⟨g,sa,sc,rfl,hbg,hgs,_⟩:=U5.Oi hA2 rfl
   have hgne : g≠w1.heap.size:=by have:=hA1own g rfl;omega
   obtain ⟨X,n2,c2,hX⟩ : ∃ X n2 c2,X = w2∧n2 = n∧c2 = c':=⟨_,_,_,rfl,rfl,rfl⟩
   obtain ⟨rfl,rfl,rfl⟩:=hX
   have HXA:=Lib.hid hA2
   have hXP:=hP2
   have hXQ:=hQ2
   have hXZ:=hZ2
   have hXL:=hL2
   have hXb:=hbW2
   have hXs:=hs2
   clear hA2 hP2 hQ2 hZ2 hL2 hbW2 hs2 hcp2 hfp2
   -- the room is there: its cell is made
   have hne : g≠w1.heap.size:=hgne
   have hgX : g < X.heap.size:=hgs
   have hcp:=hXP.cell 0
   obtain ⟨sa0,sc0,x0,x1,x2,xf⟩ : ∃ sa sc,X.cell? ⟨g,k * 3,none⟩ = some (.int .i64 x.count)∧X.cell? ⟨g,k * 3 + 1,none⟩ = some (.int .i64 x.tag)∧X.cell? ⟨g,k * 3 + 2,none⟩ = some (.slice sa x.slots.length sc)∧(∀ o,X.frozen? ⟨g,o,none⟩ = false):=by
    obtain ⟨g',sa,sc,hg',_,_,c0,c1,c2,hf,_⟩:=U5.Oi HXA.out rfl
    simp only [Option.some.injEq,Addr.mk.injEq,and_true] at hg'
    subst hg'
    rw [HK.out]
    exact ⟨sa,sc,c0,c1,c2,hf⟩
   have hkn' : (k : Int) < (n2 : Int):=by omega
   have hk0' : (0 : Int)≤(k : Int):=by omega
   go_region_held3 (fun w'=>w'.cell? ⟨w1.heap.size,0,none⟩ = some (.slice (some ⟨g,0,none⟩) n2 c2))
    (first
     | go_keep
     | (rw [hb3.cell (by simp;omega)];assumption))
    ((go_at_call 56;refine (U9 l ok la _ lc _ HLn.out (by omega) (fun b hb=>by have:=hok b hb;have:=hXb.size;simp;omega) (by first | exact hXL.drew | exact hXL)).mono ?_;rintro e w3 ⟨sa3,sc3,rfl,hr3,hb3⟩;have d0 : w3.cell? ⟨g,k * 3,none⟩ = some (.int .i64 x.count):=(hb3.cell (by simp;omega)).trans x0;have d1 : w3.cell? ⟨g,k * 3 + 1,none⟩ = some (.int .i64 x.tag):=(hb3.cell (by simp;omega)).trans x1;have d2 : w3.cell? ⟨g,k * 3 + 2,none⟩ = some (.slice sa0 x.slots.length sc0):=(hb3.cell (by simp;omega)).trans x2;have df : ∀ o,w3.frozen? ⟨g,o,none⟩ = false:=fun o=>(hb3.frozen (by simp;omega)).trans (xf o)))
   obtain ⟨Y,hY⟩ : ∃ Y,Y = ((w3.setCell ⟨g,k * 3,none⟩ (.int .i64 1)).setCell ⟨g,k * 3 + 1,none⟩ (.int .i64 tag)).setCell ⟨g,k * 3 + 2,none⟩ (.slice sa3 ln sc3):=⟨_,rfl⟩
   have hs3 : X.heap.size≤w3.heap.size:=by have:=hb3.size;simpa using this
   have hb3' : Below X.heap.size X w3:=(Below.drew (Below.refl _ _)).trans (hb3.mono (by simp))
   have hokX : ∀ b,Zn ok (w.heap.size + 3) w1 b→b < X.heap.size∧b≠w1.heap.size:=fun b hb=>by have:=hok1 b hb;omega
   have hYA : U5 Y (w.heap.size + 3) 43 3 (fun b=>ok b∨(w.heap.size + 3≤b∧b < w3.heap.size∧b≠w1.heap.size)) (.slice (some ⟨g,0,none⟩) n2 c2) ((ys ++ ⟨1,tag,l⟩ :: zs).map Qk.row):=by
    have h1:=(HXA.out.under hb3' (Nat.le_refl _) (fun b hb=>(hokX b hb).1)).weak (ok':=(fun b=>ok b∨(w.heap.size + 3≤b∧b < w3.heap.size∧b≠w1.heap.size))) (fun b hb=>hb.imp id fun hp=>⟨hp.1,by omega,by omega⟩)
    have hr : Xk w3 (fun b=>(ok b∨(w.heap.size + 3≤b∧b < w3.heap.size∧b≠w1.heap.size))∧b≠g) (.sl (l.map Qx.row)) (.slice sa3 ln sc3):=hr3.weak fun b hb=>⟨.inr ⟨by have:=hb.1;simp at this;omega,hb.2,by have:=hb.1;simp at this;omega⟩,by have:=hb.1;simp at this;omega⟩
    have h2:=h1.Kb ⟨1,tag,l⟩ (.slice sa3 ln sc3) (by simp) ht hr
    rw [← HK.out,← hY] at h2
    exact h2
   have hYP : U8 Y w1.heap.size 46 #[.slice (some ⟨g,0,none⟩) n2 c2,.int .i64 hp.made,.int .i64 hp.used,.int .i64 hp.live,.int .i64 hp.peak]:=by
    rw [hY];exact (((hXP.under hb3' hXP.lt).far (by dsimp only;omega) _).far (by dsimp only;omega) _).far (by dsimp only;omega) _
   have hYQ : U8 Y (w.heap.size + 1) 46 #[.slice none 0 0,.int .i64 0,.int .i64 0,.int .i64 0,.int .i64 0]:=by
    rw [hY];exact (((hXQ.under hb3' hXQ.lt).far (by dsimp only;omega) _).far (by dsimp only;omega) _).far (by dsimp only;omega) _
   have hYZ : U8 Y (w.heap.size + 1 + 1) 48 #[.int .i64 0,.int .i64 0]:=by
    rw [hY];exact (((hXZ.under hb3' hXZ.lt).far (by dsimp only;omega) _).far (by dsimp only;omega) _).far (by dsimp only;omega) _
   have hYb : Below w.heap.size w Y:=by
    rw [hY];exact (((hXb.trans (hb3'.mono hXb.size)).setCell (by dsimp only;omega) _).setCell (by dsimp only;omega) _).setCell (by dsimp only;omega) _
   have hYs : Y.heap.size = w3.heap.size:=by rw [hY];simp
   rw [← hY]
   clear hY
   have HYS:=Lib.hid hYs
   have hpc:=hYP.cell
   have hpf:=hYP.frozen
   have hqc:=hYQ.cell
   have hqf:=hYQ.frozen
   have hzc:=hYZ.cell
   have hzf:=hYZ.frozen
   have HYA:=Lib.hid hYA
   have HE : Hid (hp.make tag l = (⟨ys ++ ⟨1,tag,l⟩ :: zs,hp.made + 1,hp.used,hp.live + 1,max hp.peak (hp.live + 1)⟩,⟨2,k⟩,0)):=by rw [Hid,Hp.make,if_neg (by omega),HF.out,HKR.out]
   clear hYs hYA x0 x1 x2 xf d0 d1 d2 df hcp hr3 hb3
   go_wp2_with fail
   all_goals
    have HP5 : Hid (M8 (((Y.setCell ⟨w1.heap.size,1,none⟩ (.int .i64 (hp.made + 1))).setCell ⟨w1.heap.size,3,none⟩ (.int .i64 (hp.live + 1))).setCell ⟨w1.heap.size,4,none⟩ (.int .i64 (max hp.peak (hp.live + 1)))) w1.heap.size (w.heap.size + 3) (fun b=>ok b∨(w.heap.size + 3≤b∧b < w3.heap.size∧b≠w1.heap.size)) (some ⟨g,0,none⟩) n2 c2 ⟨ys ++ ⟨1,tag,l⟩ :: zs,hp.made + 1,hp.used,hp.live + 1,max hp.peak (hp.live + 1)⟩):=by
     have hg' : (Value.slice (some (⟨g,0,none⟩ : Addr)) n2 c2).ownBlock≠some w1.heap.size:=by simp [Value.ownBlock];omega
     have hx' : ∀ b,(ok b∨(w.heap.size + 3≤b∧b < w3.heap.size∧b≠w1.heap.size))→b≠w1.heap.size:=fun b hb=>by rcases hb with hb | hb <;> first | omega | (have:=hok b hb;omega)
     exact ⟨((hYP.FM 1 _).FM 3 _).FM 4 _,((HYA.out.setCell _ hg' hx').setCell _ hg' hx').setCell _ hg' hx'⟩
   ·have hmx : max hp.peak (hp.live + 1) = hp.live + 1:=by omega
    rw [hmx] at HP5 HE
    refine bodyPost_ret (v:=.tuple #[.agg #[.slice (some ⟨g,0,none⟩) n2 c2,.int .i64 (hp.made + 1),.int .i64 hp.used,.int .i64 (hp.live + 1),.int .i64 (hp.live + 1)],.agg #[.int .i64 2,.int .i64 k],.int .i64 0]) (by simp [results,Tryz.results79,go_sem,hqc,hzc]) rfl ?_
    refine ⟨_,by rw [HE.out],?_,?_⟩
    ·rw [HE.out]
     refine ⟨_,n2,c2,rfl,?_⟩
     have hR5:=HP5.out.Ty (ok':=fun b=>ok b∨(w.heap.size + 3≤b∧b < w3.heap.size)) (fun b h1 h2=>.inr ⟨h1,by have:=HYS.out;simp at h2;omega⟩) (fun b hb=>hb.imp id fun hp=>⟨hp.1,hp.2.1⟩)
     refine Xk.weak (ok:=fun b=>ok b∨(w.heap.size + 3≤b∧b < w3.heap.size)) ?_ (fun b hb=>hb.imp id fun hp=>⟨by omega,by have:=HYS.out;simp;omega⟩)
     iterate 7 refine Xk.setCell ?_ _ (fun b hb=>by dsimp only;rcases hb with hb | hb <;> first | omega | (have:=hok b hb;omega))
     exact hR5
    ·exact ((((((((((hYb.setCell (by dsimp only;omega) _).setCell (by dsimp only;omega) _).setCell (by dsimp only;omega) _).setCell (by dsimp only;omega) _).setCell (by dsimp only;omega) _).setCell (by dsimp only;omega) _).setCell (by dsimp only;omega) _).setCell (by dsimp only;omega) _).setCell (by dsimp only;omega) _).setCell (by dsimp only;omega) _)
   ·have hmx : max hp.peak (hp.live + 1) = hp.peak:=by omega
    rw [hmx] at HP5 HE
    refine bodyPost_ret (v:=.tuple #[.agg #[.slice (some ⟨g,0,none⟩) n2 c2,.int .i64 (hp.made + 1),.int .i64 hp.used,.int .i64 (hp.live + 1),.int .i64 hp.peak],.agg #[.int .i64 2,.int .i64 k],.int .i64 0]) (by simp [results,Tryz.results79,go_sem,hqc,hzc]) rfl ?_
    refine ⟨_,by rw [HE.out],?_,?_⟩
    ·rw [HE.out]
     refine ⟨_,n2,c2,rfl,?_⟩
     have hR5:=HP5.out.Ty (ok':=fun b=>ok b∨(w.heap.size + 3≤b∧b < w3.heap.size)) (fun b h1 h2=>.inr ⟨h1,by have:=HYS.out;simp at h2;omega⟩) (fun b hb=>hb.imp id fun hp=>⟨hp.1,hp.2.1⟩)
     refine Xk.weak (ok:=fun b=>ok b∨(w.heap.size + 3≤b∧b < w3.heap.size)) ?_ (fun b hb=>hb.imp id fun hp=>⟨by omega,by have:=HYS.out;simp;omega⟩)
     iterate 7 refine Xk.setCell ?_ _ (fun b hb=>by dsimp only;rcases hb with hb | hb <;> first | omega | (have:=hok b hb;omega))
     exact hR5
    ·exact ((((((((((hYb.setCell (by dsimp only;omega) _).setCell (by dsimp only;omega) _).setCell (by dsimp only;omega) _).setCell (by dsimp only;omega) _).setCell (by dsimp only;omega) _).setCell (by dsimp only;omega) _).setCell (by dsimp only;omega) _).setCell (by dsimp only;omega) _).setCell (by dsimp only;omega) _).setCell (by dsimp only;omega) _)
  ·have HR : Hid (VX hp.cells = -1):=by rw [Hid,VX,if_neg hr]
   have hrr : room hp.cells = hp.cells.length:=by have:=room_le hp.cells;omega
   obtain ⟨k,hk⟩ : ∃ k,k = n:=⟨_,rfl⟩
   have HKR : Hid (room hp.cells = k):=by rw [Hid,hk,HN.out,hrr]
   have HK : Hid (k = hp.cells.length):=by rw [Hid,hk,HN.out]
   have HF : Hid (hp.cells.take (room hp.cells) ++ ⟨1,tag,l⟩ :: hp.cells.drop (room hp.cells + 1) = hp.cells ++ ⟨1,tag,l⟩ :: []):=by
    rw [Hid,hrr,List.take_length,List.drop_eq_nil_of_le (by omega)]
   subst hk
   have HA2:=Lib.hid hA2
   have hown2:=hA2.own
   clear hr hrr hA2
   rw [HR.out]
   have hbz : Xm w2 (fun b=>Zn ok (w.heap.size + 3) w1 b∧(Value.slice a' k c').ownBlock≠some b) Qk.zero.row [.int .i64 0,.int .i64 0,.slice none 0 0]:=Qk.Qj1 (x:=Qk.zero) (.empty none 0 (fun _=>rfl) (Nat.zero_le _)) (by simp [Qk.zero]) (by simp [Qk.zero])
   go_upto_region 8 with (at_builtin;refine JC _ rfl (.tmp 27) (.tmp 29) 44 rfl (w.heap.size + 3) 43 i0 _ 3 40 Tryz.underlying44 hi hz0 hz1 hz2 rfl (by omega) (Zn ok (w.heap.size + 3) w1) (.slice a' k c') (hp.cells.map Qk.row) rfl _ _ HA2.out _ rfl ?d7 Qk.zero.row rfl hbz ?d3 ?d4 ?d5 ?d6 ?_)
   case d7=>rfl
   case d3=>simp [maxLen];omega
   case d4=>simp;omega
   case d5=>intro b hb;have:=hok1 b hb;omega
   case d6=>omega
   intro g cap w4 hA4 hg4 hv4 hlt4
   have hgrow : ∀ q,(Value.slice a' k c').ownBlock = some q→w.heap.size + 3≤q∧q < w1.heap.size:=fun q hq=>⟨(hown2 q hq).1,hA1own q hq⟩
   have hs4 : w2.heap.size < w4.heap.size:=by have:=hg4.size;simp at this;omega
   have hnp : (Value.slice a' k c').ownBlock≠some w1.heap.size:=fun e=>by have:=(hgrow _ e).2;omega
   have hP4:=(hP2.alloc (.cells #[.int .i64 0,.int .i64 0,.slice none 0 0] 43)).grown hg4 hnp.symm
   have hQ4:=(hQ2.alloc (.cells #[.int .i64 0,.int .i64 0,.slice none 0 0] 43)).grown hg4 (fun e=>by have:=(hgrow _ e.symm).1;omega)
   have hZ4:=(hZ2.alloc (.cells #[.int .i64 0,.int .i64 0,.slice none 0 0] 43)).grown hg4 (fun e=>by have:=(hgrow _ e.symm).1;omega)
   have hbW4 : Below w.heap.size w w4:=(hbW2.alloc hbW2.size _).grown hg4 (by simp;have:=hbW2.size;omega) (fun q hq=>by have:=(hgrow _ hq).1;omega)
   have hL4 : Xk w4 ok (.sl (l.map Qx.row)) (.slice la ln lc):=hL2.under (B:=w.heap.size) ⟨hg4.os,hg4.tape,hg4.output,by omega,fun q hq=>(hg4.block q (by simp;omega) (fun e=>by have:=(hgrow _ e.symm).1;omega)).trans (Below.heap_alloc w2 _ q (by omega))⟩ hok
   have hgr : w.heap.size + 3≤g∧g≠w1.heap.size∧g < w4.heap.size:=by
    rcases hv4 with e | e
    ·have:=hgrow _ e;omega
    ·omega
   have hcp4:=hP4.cell
   have hfp4:=hP4.frozen
   have HA4:=Lib.hid hA4
   clear hcp2 hfp2 hA4 hg4 hv4
   go_upto_region 8 with (fail)
   obtain ⟨n2,hn2⟩ : ∃ n2,n2 = hp.cells.length + 1:=⟨_,rfl⟩
   obtain ⟨c2,hc2⟩ : ∃ c2,c2 = cap:=⟨_,rfl⟩
   subst hc2
   rw [← hn2]
   obtain ⟨X,hX⟩ : ∃ X,X = w4.setCell ⟨w1.heap.size,0,none⟩ (.slice (some ⟨g,0,none⟩) n2 c2):=⟨_,rfl⟩
   have hgne : g≠w1.heap.size:=hgr.2.1
   have hbg : w.heap.size + 3≤g:=hgr.1
   have hgs : g < X.heap.size:=by rw [hX];simp;exact hgr.2.2
   have hXs : w1.heap.size < X.heap.size:=by rw [hX];simp;omega
   have hkn : k < n2:=by rw [hn2,HK.out];omega
   have hkl : (0 : Int)≤(k : Int):=by omega
   obtain ⟨ys,hys⟩ : ∃ ys,ys = hp.cells:=⟨_,rfl⟩
   obtain ⟨zs,hzs⟩ : ∃ zs : List Qk,zs = []:=⟨_,rfl⟩
   obtain ⟨x,hx⟩ : ∃ x,x = Qk.zero:=⟨_,rfl⟩
   have HXA : Hid (U5 X (w.heap.size + 3) 43 3 (Zn ok (w.heap.size + 3) w1) (.slice (some ⟨g,0,none⟩) n2 c2) ((ys ++ x :: zs).map Qk.row)):=by
    have h4:=HA4.out
    rw [Hid,hX,hys,hzs,hx,hn2]
    have h5:=h4.setCell (p:=⟨w1.heap.size,0,none⟩) (.slice (some ⟨g,0,none⟩) (hp.cells.length + 1) c2) (by simp [Value.ownBlock];omega) (fun b hb=>by have:=hok1 b hb;dsimp only;omega)
    simpa using h5
   have HKo:=HK.out
   have HFo:=HF.out
   clear HK HF
   rw [← hys] at HKo
   rw [← hzs] at HFo
   have HF : Hid (hp.cells.take (room hp.cells) ++ ⟨1,tag,l⟩ :: hp.cells.drop (room hp.cells + 1) = ys ++ ⟨1,tag,l⟩ :: zs):=by rw [Hid,HFo,hys]
   have HK : Hid (k = ys.length):=HKo
   have hXP : U8 X w1.heap.size 46 #[.slice (some ⟨g,0,none⟩) n2 c2,.int .i64 hp.made,.int .i64 hp.used,.int .i64 hp.live,.int .i64 hp.peak]:=by rw [hX];exact hP4.FM 0 _
   have hXQ : U8 X (w.heap.size + 1) 46 #[.slice none 0 0,.int .i64 0,.int .i64 0,.int .i64 0,.int .i64 0]:=by rw [hX];exact hQ4.far (by dsimp only;omega) _
   have hXZ : U8 X (w.heap.size + 1 + 1) 48 #[.int .i64 0,.int .i64 0]:=by rw [hX];exact hZ4.far (by dsimp only;omega) _
   have hXb : Below w.heap.size w X:=by rw [hX];exact hbW4.setCell (by dsimp only;omega) _
   have hXL : Xk X ok (.sl (l.map Qx.row)) (.slice la ln lc):=by rw [hX];exact hL4.setCell _ (fun b hb=>by have:=hok b hb;dsimp only;omega)
   have HNk:=HN
   rw [← hX]
   clear hX hn2 hys hzs hx HKo HFo hcp4 hfp4 HA4 hP4 hQ4 hZ4 hbW4 hL4 hP2 hQ2 hZ2 hL2 hbW2 HA2 hgr hown2
   -- the room is there: its cell is made
   have hne : g≠w1.heap.size:=hgne
   have hgX : g < X.heap.size:=hgs
   have hcp:=hXP.cell 0
   obtain ⟨sa0,sc0,x0,x1,x2,xf⟩ : ∃ sa sc,X.cell? ⟨g,k * 3,none⟩ = some (.int .i64 x.count)∧X.cell? ⟨g,k * 3 + 1,none⟩ = some (.int .i64 x.tag)∧X.cell? ⟨g,k * 3 + 2,none⟩ = some (.slice sa x.slots.length sc)∧(∀ o,X.frozen? ⟨g,o,none⟩ = false):=by
    obtain ⟨g',sa,sc,hg',_,_,c0,c1,c2,hf,_⟩:=U5.Oi HXA.out rfl
    simp only [Option.some.injEq,Addr.mk.injEq,and_true] at hg'
    subst hg'
    rw [HK.out]
    exact ⟨sa,sc,c0,c1,c2,hf⟩
   have hkn' : (k : Int) < (n2 : Int):=by omega
   have hk0' : (0 : Int)≤(k : Int):=by omega
   go_region_held3 (fun w'=>w'.cell? ⟨w1.heap.size,0,none⟩ = some (.slice (some ⟨g,0,none⟩) n2 c2))
    (first
     | go_keep
     | (rw [hb3.cell (by simp;omega)];assumption))
    ((go_at_call 56;refine (U9 l ok la _ lc _ HLn.out (by omega) (fun b hb=>by have:=hok b hb;have:=hXb.size;simp;omega) (by first | exact hXL.drew | exact hXL)).mono ?_;rintro e w3 ⟨sa3,sc3,rfl,hr3,hb3⟩;have d0 : w3.cell? ⟨g,k * 3,none⟩ = some (.int .i64 x.count):=(hb3.cell (by simp;omega)).trans x0;have d1 : w3.cell? ⟨g,k * 3 + 1,none⟩ = some (.int .i64 x.tag):=(hb3.cell (by simp;omega)).trans x1;have d2 : w3.cell? ⟨g,k * 3 + 2,none⟩ = some (.slice sa0 x.slots.length sc0):=(hb3.cell (by simp;omega)).trans x2;have df : ∀ o,w3.frozen? ⟨g,o,none⟩ = false:=fun o=>(hb3.frozen (by simp;omega)).trans (xf o)))
   obtain ⟨Y,hY⟩ : ∃ Y,Y = ((w3.setCell ⟨g,k * 3,none⟩ (.int .i64 1)).setCell ⟨g,k * 3 + 1,none⟩ (.int .i64 tag)).setCell ⟨g,k * 3 + 2,none⟩ (.slice sa3 ln sc3):=⟨_,rfl⟩
   have hs3 : X.heap.size≤w3.heap.size:=by have:=hb3.size;simpa using this
   have hb3' : Below X.heap.size X w3:=(Below.drew (Below.refl _ _)).trans (hb3.mono (by simp))
   have hokX : ∀ b,Zn ok (w.heap.size + 3) w1 b→b < X.heap.size∧b≠w1.heap.size:=fun b hb=>by have:=hok1 b hb;omega
   have hYA : U5 Y (w.heap.size + 3) 43 3 (fun b=>ok b∨(w.heap.size + 3≤b∧b < w3.heap.size∧b≠w1.heap.size)) (.slice (some ⟨g,0,none⟩) n2 c2) ((ys ++ ⟨1,tag,l⟩ :: zs).map Qk.row):=by
    have h1:=(HXA.out.under hb3' (Nat.le_refl _) (fun b hb=>(hokX b hb).1)).weak (ok':=(fun b=>ok b∨(w.heap.size + 3≤b∧b < w3.heap.size∧b≠w1.heap.size))) (fun b hb=>hb.imp id fun hp=>⟨hp.1,by omega,by omega⟩)
    have hr : Xk w3 (fun b=>(ok b∨(w.heap.size + 3≤b∧b < w3.heap.size∧b≠w1.heap.size))∧b≠g) (.sl (l.map Qx.row)) (.slice sa3 ln sc3):=hr3.weak fun b hb=>⟨.inr ⟨by have:=hb.1;simp at this;omega,hb.2,by have:=hb.1;simp at this;omega⟩,by have:=hb.1;simp at this;omega⟩
    have h2:=h1.Kb ⟨1,tag,l⟩ (.slice sa3 ln sc3) (by simp) ht hr
    rw [← HK.out,← hY] at h2
    exact h2
   have hYP : U8 Y w1.heap.size 46 #[.slice (some ⟨g,0,none⟩) n2 c2,.int .i64 hp.made,.int .i64 hp.used,.int .i64 hp.live,.int .i64 hp.peak]:=by
    rw [hY];exact (((hXP.under hb3' hXP.lt).far (by dsimp only;omega) _).far (by dsimp only;omega) _).far (by dsimp only;omega) _
   have hYQ : U8 Y (w.heap.size + 1) 46 #[.slice none 0 0,.int .i64 0,.int .i64 0,.int .i64 0,.int .i64 0]:=by
    rw [hY];exact (((hXQ.under hb3' hXQ.lt).far (by dsimp only;omega) _).far (by dsimp only;omega) _).far (by dsimp only;omega) _
   have hYZ : U8 Y (w.heap.size + 1 + 1) 48 #[.int .i64 0,.int .i64 0]:=by
    rw [hY];exact (((hXZ.under hb3' hXZ.lt).far (by dsimp only;omega) _).far (by dsimp only;omega) _).far (by dsimp only;omega) _
   have hYb : Below w.heap.size w Y:=by
    rw [hY];exact (((hXb.trans (hb3'.mono hXb.size)).setCell (by dsimp only;omega) _).setCell (by dsimp only;omega) _).setCell (by dsimp only;omega) _
   have hYs : Y.heap.size = w3.heap.size:=by rw [hY];simp
   rw [← hY]
   clear hY
   have HYS:=Lib.hid hYs
   have hpc:=hYP.cell
   have hpf:=hYP.frozen
   have hqc:=hYQ.cell
   have hqf:=hYQ.frozen
   have hzc:=hYZ.cell
   have hzf:=hYZ.frozen
   have HYA:=Lib.hid hYA
   have HE : Hid (hp.make tag l = (⟨ys ++ ⟨1,tag,l⟩ :: zs,hp.made + 1,hp.used,hp.live + 1,max hp.peak (hp.live + 1)⟩,⟨2,k⟩,0)):=by rw [Hid,Hp.make,if_neg (by omega),HF.out,HKR.out]
   clear hYs hYA x0 x1 x2 xf d0 d1 d2 df hcp hr3 hb3
   go_wp2_with fail
   all_goals
    have HP5 : Hid (M8 (((Y.setCell ⟨w1.heap.size,1,none⟩ (.int .i64 (hp.made + 1))).setCell ⟨w1.heap.size,3,none⟩ (.int .i64 (hp.live + 1))).setCell ⟨w1.heap.size,4,none⟩ (.int .i64 (max hp.peak (hp.live + 1)))) w1.heap.size (w.heap.size + 3) (fun b=>ok b∨(w.heap.size + 3≤b∧b < w3.heap.size∧b≠w1.heap.size)) (some ⟨g,0,none⟩) n2 c2 ⟨ys ++ ⟨1,tag,l⟩ :: zs,hp.made + 1,hp.used,hp.live + 1,max hp.peak (hp.live + 1)⟩):=by
     have hg' : (Value.slice (some (⟨g,0,none⟩ : Addr)) n2 c2).ownBlock≠some w1.heap.size:=by simp [Value.ownBlock];omega
     have hx' : ∀ b,(ok b∨(w.heap.size + 3≤b∧b < w3.heap.size∧b≠w1.heap.size))→b≠w1.heap.size:=fun b hb=>by rcases hb with hb | hb <;> first | omega | (have:=hok b hb;omega)
     exact ⟨((hYP.FM 1 _).FM 3 _).FM 4 _,((HYA.out.setCell _ hg' hx').setCell _ hg' hx').setCell _ hg' hx'⟩
   ·have hmx : max hp.peak (hp.live + 1) = hp.live + 1:=by omega
    rw [hmx] at HP5 HE
    refine bodyPost_ret (v:=.tuple #[.agg #[.slice (some ⟨g,0,none⟩) n2 c2,.int .i64 (hp.made + 1),.int .i64 hp.used,.int .i64 (hp.live + 1),.int .i64 (hp.live + 1)],.agg #[.int .i64 2,.int .i64 k],.int .i64 0]) (by simp [results,Tryz.results79,go_sem,hqc,hzc]) rfl ?_
    refine ⟨_,by rw [HE.out],?_,?_⟩
    ·rw [HE.out]
     refine ⟨_,n2,c2,rfl,?_⟩
     have hR5:=HP5.out.Ty (ok':=fun b=>ok b∨(w.heap.size + 3≤b∧b < w3.heap.size)) (fun b h1 h2=>.inr ⟨h1,by have:=HYS.out;simp at h2;omega⟩) (fun b hb=>hb.imp id fun hp=>⟨hp.1,hp.2.1⟩)
     refine Xk.weak (ok:=fun b=>ok b∨(w.heap.size + 3≤b∧b < w3.heap.size)) ?_ (fun b hb=>hb.imp id fun hp=>⟨by omega,by have:=HYS.out;simp;omega⟩)
     iterate 7 refine Xk.setCell ?_ _ (fun b hb=>by dsimp only;rcases hb with hb | hb <;> first | omega | (have:=hok b hb;omega))
     exact hR5
    ·exact ((((((((((hYb.setCell (by dsimp only;omega) _).setCell (by dsimp only;omega) _).setCell (by dsimp only;omega) _).setCell (by dsimp only;omega) _).setCell (by dsimp only;omega) _).setCell (by dsimp only;omega) _).setCell (by dsimp only;omega) _).setCell (by dsimp only;omega) _).setCell (by dsimp only;omega) _).setCell (by dsimp only;omega) _)
   ·have hmx : max hp.peak (hp.live + 1) = hp.peak:=by omega
    rw [hmx] at HP5 HE
    refine bodyPost_ret (v:=.tuple #[.agg #[.slice (some ⟨g,0,none⟩) n2 c2,.int .i64 (hp.made + 1),.int .i64 hp.used,.int .i64 (hp.live + 1),.int .i64 hp.peak],.agg #[.int .i64 2,.int .i64 k],.int .i64 0]) (by simp [results,Tryz.results79,go_sem,hqc,hzc]) rfl ?_
    refine ⟨_,by rw [HE.out],?_,?_⟩
    ·rw [HE.out]
     refine ⟨_,n2,c2,rfl,?_⟩
     have hR5:=HP5.out.Ty (ok':=fun b=>ok b∨(w.heap.size + 3≤b∧b < w3.heap.size)) (fun b h1 h2=>.inr ⟨h1,by have:=HYS.out;simp at h2;omega⟩) (fun b hb=>hb.imp id fun hp=>⟨hp.1,hp.2.1⟩)
     refine Xk.weak (ok:=fun b=>ok b∨(w.heap.size + 3≤b∧b < w3.heap.size)) ?_ (fun b hb=>hb.imp id fun hp=>⟨by omega,by have:=HYS.out;simp;omega⟩)
     iterate 7 refine Xk.setCell ?_ _ (fun b hb=>by dsimp only;rcases hb with hb | hb <;> first | omega | (have:=hok b hb;omega))
     exact hR5
    ·exact ((((((((((hYb.setCell (by dsimp only;omega) _).setCell (by dsimp only;omega) _).setCell (by dsimp only;omega) _).setCell (by dsimp only;omega) _).setCell (by dsimp only;omega) _).setCell (by dsimp only;omega) _).setCell (by dsimp only;omega) _).setCell (by dsimp only;omega) _).setCell (by dsimp only;omega) _).setCell (by dsimp only;omega) _)
def Hp.use(h:Hp)(s:Qx)(tag:Int)(l:List Qx):Hp×Qx×Int:=
 if s.kind=2 then
  if h.kept s=true then ({ h.put s.n ⟨1,tag,l⟩with used:=h.used+1 },s,0)else (Hp.zero,⟨0,0⟩,14)
 else h.make tag l
def Ap(h:Hp)(s:Qx)(tag:Int)(l:List Qx)(ok:Nat->Prop)(w:World)(e:Ending)(w':World):Prop:=
 ∃v,e= .returned (.tuple #[v,.agg #[.int .i64 (h.use s tag l).2.1.kind,.int .i64 (h.use s tag l).2.1.n],.int .i64 (h.use s tag l).2.2])/\M7 w w' ok v (h.use s tag l).1/\Below w.heap.size w w'
theorem OM{w g:World}{ok:Nat->Prop}{d:D}{v:Value}(i:∀b,ok b->b<w.heap.size)(C:Xk g (λb=>ok b\/(w.heap.size+4<=b/\b<g.heap.size)) d v)(j l o r v4 t v6:Value):
  Xk (((((((g.setCell ⟨w.heap.size+1+1,0,none⟩ j).setCell ⟨w.heap.size+1+1,1,none⟩ l).setCell ⟨w.heap.size+1+1,2,none⟩ o).setCell ⟨w.heap.size+1+1,3,none⟩ r).setCell ⟨w.heap.size+1+1,4,none⟩ v4).setCell ⟨w.heap.size+1+1+1,0,none⟩ t).setCell ⟨w.heap.size+1+1+1,1,none⟩ v6)
   (Zn ok w.heap.size (((((((g.setCell ⟨w.heap.size+1+1,0,none⟩ j).setCell ⟨w.heap.size+1+1,1,none⟩ l).setCell ⟨w.heap.size+1+1,2,none⟩ o).setCell ⟨w.heap.size+1+1,3,none⟩ r).setCell ⟨w.heap.size+1+1,4,none⟩ v4).setCell ⟨w.heap.size+1+1+1,0,none⟩ t).setCell ⟨w.heap.size+1+1+1,1,none⟩ v6)) d v:=by
 refine Xk.weak (ok:=λb=>ok b\/(w.heap.size+4<=b/\b<g.heap.size)) ?_ (λb f=>f.imp id λh=>⟨oM,by simp;omega⟩);iterate 7 refine Xk.setCell ?_ _ (λb f=>by dsimp only;rcases f with f|f<;> first|omega|(have:=i b f;omega))
 exact C
theorem Qw9(h : Hp)(s : Qx)(tag : Int)(l : List Qx)(M : Int)(ok : Nat->Prop)(a : Option Addr)(n c : Nat)(la : Option Addr)(ln lc : Nat)(w : World)(hM : M<=1000000)(hO : h.Ok M)(ht : -9223372036854775808<=tag/\tag<=9223372036854775807)(hl : ln = l.length)(hlb : ln<=8796093022208)
  (hok : ∀ b,ok b->b < w.heap.size) (hR : Xk w ok (.sl (h.cells.map Qk.row)) (.slice a n c)) (hL : Xk w ok (.sl (l.map Qx.row)) (.slice la ln lc)) :
  Calls Tryz.prog 78 #[.agg #[.slice a n c,.int .i64 h.made,.int .i64 h.used,.int .i64 h.live,.int .i64 h.peak],.agg #[.int .i64 s.kind,.int .i64 s.n],.int .i64 tag,.slice la ln lc] w (Ap h s tag l ok w):=by
 have hn:=hR.D7.1
 rw [List.length_map] at hn
 have hlen:=hO.len
 have hsl : ∀ x∈h.cells,x.slots.length<=8796093022208:=λx hx=>by have:=hO.slots x hx;omega
 have hus:=hO.used
 have HN:=Lib.hid hn
 have HO:=Lib.hid hO
 have HLn:=Lib.hid hl
 clear hn hO hl
 have hR4 : ∀ o1 o2 o3 o4 : Obj,Xk ((((w.alloc o1).alloc o2).alloc o3).alloc o4) ok (.sl (h.cells.map Qk.row)) (.slice a n c):=λ_ _ _ _=>(((hR.alloc _ hok).alloc _ (λb hb=>by have:=hok b hb;simp;omega)).alloc _ (λb hb=>by have:=hok b hb;simp;omega)).alloc _ (λb hb=>by have:=hok b hb;simp;omega)
 have hL4 : ∀ o1 o2 o3 o4 : Obj,Xk ((((w.alloc o1).alloc o2).alloc o3).alloc o4) ok (.sl (l.map Qx.row)) (.slice la ln lc):=λ_ _ _ _=>(((hL.alloc _ hok).alloc _ (λb hb=>by have:=hok b hb;simp;omega)).alloc _ (λb hb=>by have:=hok b hb;simp;omega)).alloc _ (λb hb=>by have:=hok b hb;simp;omega)
 have hok4 : ∀ o1 o2 o3 o4 : Obj,∀ b,ok b->b < ((((w.alloc o1).alloc o2).alloc o3).alloc o4).heap.size:=λ_ _ _ _ b hb=>by have:=hok b hb;simp;omega
 by_cases hk : s.kind = 2
 ·have hk' : (s.kind != 2) = false:=by simpa using hk
  have HK:=Lib.hid hk
  clear hk
  go_enter Tryz.func78,Tryz.ntmps78
  go_wp2_with fail
  refine (QT h.cells h.made h.used h.live h.peak ok a n c _ HN.out (by have:=HN.out;omega) hsl (hok4 _ _ _ _) (hR4 _ _ _ _)).mono ?_
  rintro e w1 ⟨a',c',rfl,hA,hb1⟩
  have hS:=U8.under (((U8.new' (w.alloc _) 48 #[.int .i64 s.kind,.int .i64 s.n] (w.heap.size + 1) (by simp)).alloc _).alloc _) hb1 (by first | (simp;done) | (simp;omega))
  have hQ:=U8.under ((U8.new' ((w.alloc _).alloc _) 46 #[.slice none 0 0,.int .i64 0,.int .i64 0,.int .i64 0,.int .i64 0] (w.heap.size + 1 + 1) (by simp)).alloc _) hb1 (by simp)
  have hZ:=U8.under (U8.new' (((w.alloc _).alloc _).alloc _) 48 #[.int .i64 0,.int .i64 0] (w.heap.size + 1 + 1 + 1) (by simp)) hb1 (by simp)
  have hbw : Below w.heap.size w w1:=(((((Below.refl _ w).alloc (Nat.le_refl _) _).alloc (by simp) _).alloc (by simp;omega) _).alloc (by simp;omega) _).trans (hb1.mono (by simp;omega))
  have hsz : w.heap.size + 4<=w1.heap.size:=by have:=hb1.size;simp at this;omega
  have hA1 : U5 w1 (w.heap.size + 4) 43 3 (Zn ok (w.heap.size + 4) w1) (.slice a' n c') (h.cells.map Qk.row):=by simpa using hA
  have hok1 : ∀ b,Zn ok (w.heap.size + 4) w1 b->b < w1.heap.size:=λb hb=>by rcases hb with hb | hb <;> first | omega | (have:=hok b hb;omega)
  have hL1:=hL.under hbw hok
  have hA1own : ∀ g,(Value.slice a' n c').ownBlock = some g->w.heap.size + 4<=g/\g < w1.heap.size:=hA1.own
  clear hA hb1
  obtain ⟨W,hW⟩ : ∃ W,W = w1.alloc (.cells #[.slice a' n c',.int .i64 h.made,.int .i64 h.used,.int .i64 h.live,.int .i64 h.peak] 46):=⟨_,rfl⟩
  have hWP : U8 W w1.heap.size 46 #[.slice a' n c',.int .i64 h.made,.int .i64 h.used,.int .i64 h.live,.int .i64 h.peak]:=by rw [hW];exact U8.new _ _ _
  have hWA : U5 W (w.heap.size + 4) 43 3 (Zn ok (w.heap.size + 4) w1) (.slice a' n c') (h.cells.map Qk.row):=by rw [hW];exact hA1.alloc _ hok1
  have hWS : U8 W (w.heap.size + 1) 48 #[.int .i64 s.kind,.int .i64 s.n]:=by rw [hW];exact hS.alloc _
  have hWQ : U8 W (w.heap.size + 1 + 1) 46 #[.slice none 0 0,.int .i64 0,.int .i64 0,.int .i64 0,.int .i64 0]:=by rw [hW];exact hQ.alloc _
  have hWZ : U8 W (w.heap.size + 1 + 1 + 1) 48 #[.int .i64 0,.int .i64 0]:=by rw [hW];exact hZ.alloc _
  have hWb : Below w.heap.size w W:=by rw [hW];exact hbw.alloc hbw.size _
  have hWs : W.heap.size = w1.heap.size + 1:=by rw [hW];simp
  have hWL : Xk W ok (.sl (l.map Qx.row)) (.slice la ln lc):=by rw [hW];exact hL1.alloc _ (λb hb=>by have:=hok b hb;omega)
  have hWR : Xk W (λb=>b < w1.heap.size) (.sl (h.cells.map Qk.row)) (.slice a' n c'):=by rw [hW];exact (hA1.Ty (ok':=λb=>b < w1.heap.size) (λb _ h=>h) hok1).alloc _ (λb hb=>hb)
  have hsc:=hS.cell
  go_upto_region 4 with (fail)
  rw [<- hW]
  clear hW hsc hS hQ hZ hA1 hL1
  have hsc:=hWS.cell
  have hpc:=hWP.cell
  go_wp2_with fail
  clear hsc hpc
  by_cases hkp : h.kept s = true
  ·obtain ⟨x,hx,hxc⟩:=Hp.YY hkp
   obtain ⟨h0,h1,ys,zs,hl,hky⟩:=Hp.Gv hx
   obtain ⟨g,_,_,rfl,hbg,_⟩:=U5.Oi hWA hl
   have HE : Hid (h.use s tag l = ({ h.put s.n ⟨1,tag,l⟩ with used:=h.used + 1 },s,0)):=by rw [Hid,Hp.use,if_pos HK.out,if_pos hkp]
   have hg1:=(hA1own g rfl).2
   refine (Yl h s x (λb=>b < w1.heap.size) g 0 n c' w1.heap.size W (λb hb=>by omega) (hWP.cell 0) hWR hx hxc).mono ?_
   rintro e w2 ⟨rfl,hb2⟩
   have hP2:=hWP.under hb2 hWP.lt
   have hS2:=hWS.under hb2 hWS.lt
   have hQ2:=hWQ.under hb2 hWQ.lt
   have hZ2:=hWZ.under hb2 hWZ.lt
   have hL2:=hWL.under hb2 (λb hb=>by have:=hok b hb;have:=hWb.size;omega)
   have hA2:=hWA.under hb2 (Nat.le_refl _) (λb hb=>by have:=hok1 b hb;omega)
   have hbW2 : Below w.heap.size w w2:=hWb.trans (hb2.mono hWb.size)
   have hs2 : w1.heap.size < w2.heap.size:=by have:=hb2.size;omega
   have HH:=Lib.hid (And.intro hl hky)
   clear hx hxc hl hky hWP hWS hWQ hWZ hWL hWA hWR hWb hWs hb2 hkp
   go_wp2_with fail
   refine (U9 l ok la _ lc _ HLn.out (by omega) (λb hb=>by have:=hok b hb;omega) hL2).mono ?_
   rintro e w3 ⟨sa3,sc3,rfl,hr3,hb3⟩
   have hs3 : w2.heap.size<=w3.heap.size:=hb3.size
   have hP3:=hP2.under hb3 hP2.lt
   have hS3:=hS2.under hb3 hS2.lt
   have hQ3:=hQ2.under hb3 hQ2.lt
   have hZ3:=hZ2.under hb3 hZ2.lt
   have hbW3 : Below w.heap.size w w3:=hbW2.trans (hb3.mono hbW2.size)
   have hA3:=(hA2.under hb3 (Nat.le_refl _) (λb hb=>by have:=hok1 b hb;omega)).weak (ok':=λb=>ok b\/(w.heap.size + 4<=b/\b < w3.heap.size/\b≠w1.heap.size)) (λb hb=>hb.imp id λh=>⟨h.1,by omega,by omega⟩)
   obtain ⟨hl,hky⟩:=HH.out
   obtain ⟨g',sa',sc',hg',_,_,c0,c1,c2,hf,_⟩:=U5.Oi hA3 hl
   simp only [Option.some.injEq,Addr.mk.injEq,and_true] at hg'
   subst hg'
   rw [hky] at c0 c1 c2
   rw [hl] at hA3
   have hA4:=hA3.Kb ⟨1,tag,l⟩ (.slice sa3 ln sc3) (by simp) ht (hr3.weak λb hb=>⟨.inr ⟨by omega,hb.2,by omega⟩,by omega⟩)
   rw [hky,<- Hp.Z8 hl hky] at hA4
   have HA4:=Lib.hid hA4
   have hpc:=hP3.cell
   have hpf:=hP3.frozen
   have hsc:=hS3.cell
   have hqc:=hQ3.cell
   have hqf:=hQ3.frozen
   have hzc:=hZ3.cell
   have hzf:=hZ3.frozen
   have hne : g≠w1.heap.size:=by omega
   have hne1 : g≠w.heap.size + 1:=by omega
   have hne2 : g≠w.heap.size + 1 + 1:=by omega
   have hne3 : g≠w.heap.size + 1 + 1 + 1:=by omega
   have hnp1 : w1.heap.size≠w.heap.size + 1:=by omega
   have hnp2 : w1.heap.size≠w.heap.size + 1 + 1:=by omega
   have hnp3 : w1.heap.size≠w.heap.size + 1 + 1 + 1:=by omega
   clear hP2 hS2 hQ2 hZ2 hL2 hA2 hbW2 hr3 hb3 hA3 hA4 hl hky
   go_wp2_with fail
   go_region
   all_goals
    go_wp2_with fail
    refine bodyPost_ret (v:=.tuple #[.agg #[.slice (some ⟨g,0,none⟩) n c',.int .i64 h.made,.int .i64 (h.used + 1),.int .i64 h.live,.int .i64 h.peak],.agg #[.int .i64 s.kind,.int .i64 s.n],.int .i64 0]) (by simp [results,Tryz.results78,go_sem,hqc,hzc]) rfl ?_
    have hR5:=(HA4.out.setCell (p:=⟨w1.heap.size,2,none⟩) (.int .i64 (h.used + 1)) (by simp [Value.ownBlock];omega) (λb hb=>by dsimp only;rcases hb with hb | hb <;> first | omega | (have:=hok b hb;omega))).Ty (ok':=λb=>ok b\/(w.heap.size + 4<=b/\b < w3.heap.size)) (λb h1 h2=>.inr ⟨h1,by simpa using h2⟩) (λb hb=>hb.imp id λh=>⟨h.1,h.2.1⟩)
    refine ⟨_,by rw [HE.out],?_,?_⟩
    ·rw [HE.out]
     refine ⟨_,n,c',rfl,?_⟩
     refine Xk.weak (ok:=λb=>ok b\/(w.heap.size + 4<=b/\b < w3.heap.size)) ?_ (λb hb=>hb.imp id λh=>⟨by omega,by simp;omega⟩)
     refine Xk.drew ?_
     iterate 7 refine Xk.setCell ?_ _ (λb hb=>by dsimp only;rcases hb with hb | hb <;> first | omega | (have:=hok b hb;omega))
     exact hR5
    ·refine Below.drew ?_
     exact (((((((((((hbW3.setCell (by dsimp only;omega) _).setCell (by dsimp only;omega) _).setCell (by dsimp only;omega) _).setCell (by dsimp only;omega) _).setCell (by dsimp only;omega) _).setCell (by dsimp only;omega) _).setCell (by dsimp only;omega) _).setCell (by dsimp only;omega) _).setCell (by dsimp only;omega) _).setCell (by dsimp only;omega) _).setCell (by dsimp only;omega) _)
  ·have HE : Hid (h.use s tag l = (Hp.zero,⟨0,0⟩,14)):=by rw [Hid,Hp.use,if_pos HK.out,if_neg hkp]
   refine (Ym h s (λb=>b < w1.heap.size) a' n c' w1.heap.size W (λb hb=>by omega) (hWP.cell 0) hWR (Hp.NK hkp)).mono ?_
   rintro e w2 ⟨rfl,hb2⟩
   have hQ2:=hWQ.under hb2 hWQ.lt
   have hZ2:=hWZ.under hb2 hWZ.lt
   have hbW2 : Below w.heap.size w w2:=hWb.trans (hb2.mono hWb.size)
   have hqc:=hQ2.cell
   have hqf:=hQ2.frozen
   have hzc:=hZ2.cell
   have hzf:=hZ2.frozen
   clear hkp hWs
   go_wp2_with fail
   refine bodyPost_ret (v:=.tuple #[.agg #[.slice none 0 0,.int .i64 0,.int .i64 0,.int .i64 0,.int .i64 0],.agg #[.int .i64 0,.int .i64 0],.int .i64 14]) (by simp [results,Tryz.results78,go_sem,hqc,hzc]) rfl ?_
   refine ⟨_,by rw [HE.out],by rw [HE.out];exact M7.zero,?_⟩
   exact (((((((hbW2.setCell (by dsimp only;omega) _).setCell (by dsimp only;omega) _).setCell (by dsimp only;omega) _).setCell (by dsimp only;omega) _).setCell (by dsimp only;omega) _).setCell (by dsimp only;omega) _).setCell (by dsimp only;omega) _)
 ·have hk' : (s.kind != 2) = true:=by simpa using hk
  have HE : Hid (h.use s tag l = h.make tag l):=by rw [Hid,Hp.use,if_neg hk]
  clear hk
  go_enter Tryz.func78,Tryz.ntmps78
  go_wp2_with fail
  refine (NN h tag l M ok a n c la ln lc _ hM HO.out ht HLn.out hlb (hok4 _ _ _ _) (hR4 _ _ _ _) (hL4 _ _ _ _)).mono ?_
  rintro e w1 ⟨v,rfl,⟨a',n',c',rfl,hR1⟩,hb1⟩
  have hQ:=U8.under ((U8.new' ((w.alloc _).alloc _) 46 #[.slice none 0 0,.int .i64 0,.int .i64 0,.int .i64 0,.int .i64 0] (w.heap.size + 1 + 1) (by simp)).alloc _) hb1 (by simp)
  have hZ:=U8.under (U8.new' (((w.alloc _).alloc _).alloc _) 48 #[.int .i64 0,.int .i64 0] (w.heap.size + 1 + 1 + 1) (by simp)) hb1 (by simp)
  have hbw : Below w.heap.size w w1:=(((((Below.refl _ w).alloc (Nat.le_refl _) _).alloc (by simp) _).alloc (by simp;omega) _).alloc (by simp;omega) _).trans (hb1.mono (by simp;omega))
  have hsz : w.heap.size + 4<=w1.heap.size:=by have:=hb1.size;simp at this;omega
  have hR2 : Hid (Xk w1 (λb=>ok b\/(w.heap.size + 4<=b/\b < w1.heap.size)) (.sl ((h.make tag l).1.cells.map Qk.row)) (.slice a' n' c')):=hR1.weak λb hb=>hb.imp id λh=>⟨by have:=h.1;simp at this;omega,h.2⟩
  have hqc:=hQ.cell
  have hqf:=hQ.frozen
  have hzc:=hZ.cell
  have hzf:=hZ.frozen
  clear hR1 hb1
  go_wp2_with fail
  refine bodyPost_ret (v:=.tuple #[.agg #[.slice a' n' c',.int .i64 (h.make tag l).1.made,.int .i64 (h.make tag l).1.used,.int .i64 (h.make tag l).1.live,.int .i64 (h.make tag l).1.peak],.agg #[.int .i64 (h.make tag l).2.1.kind,.int .i64 (h.make tag l).2.1.n],.int .i64 (h.make tag l).2.2]) (by simp [results,Tryz.results78,go_sem,hqc,hzc]) rfl ?_
  refine ⟨_,by rw [HE.out],by rw [HE.out];exact ⟨a',n',c',rfl,OM hok hR2.out _ _ _ _ _ _ _⟩,?_⟩
  exact (((((((hbw.setCell (by dsimp only;omega) _).setCell (by dsimp only;omega) _).setCell (by dsimp only;omega) _).setCell (by dsimp only;omega) _).setCell (by dsimp only;omega) _).setCell (by dsimp only;omega) _).setCell (by dsimp only;omega) _)
def tot:List Qk->Nat
 |[]=>0
 |x::r=>x.slots.length+tot r
theorem R5(a b:List Qk):tot (a++b)=tot a+tot b:=by
 induction a with
 |nil=>simp[tot]
 |cons x r f=>simp[tot,f];omega
def Hp.step(h:Hp)(x:Qx)(st:List Qx):Hp×List Qx×Int:=
 if x.kind=2 then
  match h.at x.n with
  |some c=>
   if 1<=c.count then
    if c.count=1 then ({ h.put x.n Qk.zero with live:=h.live-1 },c.slots.reverse++st,0)
    else (h.put x.n { c with count:=c.count-1 },st,0)
   else (h,st,14)
  |none=>(h,st,14)
 else (h,st,0)
def Mf:Nat->Hp->List Qx->Hp×Int
 |_,h,[]=>(h,0)
 |0,h,_::_=>(h,0)
 |f+1,h,x::st=>if (h.step x st).2.2=0 then Mf f (h.step x st).1 (h.step x st).2.1 else (Hp.zero,14)
theorem Hp.Zf{h:Hp}{x:Qx}{st:List Qx}(f:(h.step x st).2.2=0):(h.step x st).2.1.length+tot (h.step x st).1.cells+1<=(x::st).length+tot h.cells:=by
 unfold Hp.step at f⊢;by_cases l:x.kind=2
 ·rw[if_pos l]at f⊢;rcases hx:h.at x.n with _|c
  ·rw[hx]at f;simp at f
  ·obtain⟨_,_,ys,zs,i,g⟩:=Hp.Gv hx;rw[hx]at f;by_cases j:1<=c.count
   ·by_cases o:c.count=1
    ·simp only[if_pos j,if_pos o];have:=Hp.Z8 (y:=Qk.zero) i g;simp only[this];rw[i,R5,R5];simp[tot,Qk.zero];omega
    ·simp only[if_pos j,if_neg o];have:=Hp.Z8 (y:={ c with count:=c.count-1 }) i g;rw[this,i,R5,R5];simp[tot];omega
   ·simp[j]at f
 ·rw[if_neg l];simp;omega
theorem CQ:∀(f g:Nat) (h:Hp) (st:List Qx),st.length+tot h.cells<=f->st.length+tot h.cells<=g->Mf f h st=Mf g h st:=by
 intro f;induction f with
 |zero=>
  intro g h st l j;have:st=[]:=List.eq_nil_of_length_eq_zero oM;subst this;cases g<;> rfl
 |succ f o=>
  intro g h st l j;rcases st with _|⟨x,st⟩
  ·cases g<;> rfl
  ·rcases g with _|g
   ·simp at j
   ·simp only[Mf];by_cases i:(h.step x st).2.2=0
    ·have:=Hp.Zf i;rw[if_pos i,if_pos i];exact o g _ _ oM oM
    ·rw[if_neg i,if_neg i]
def Hp.drops(h:Hp)(st:List Qx):Hp×Int:=Mf (st.length+tot h.cells) h st
def Hp.drop(h:Hp)(s:Qx):Hp×Int:=h.drops [s]
theorem Hp.Pj(h:Hp):h.drops []=(h,0):=by
 unfold Hp.drops;cases([]:List Qx).length+tot h.cells<;> rfl
theorem Hp.N9(h:Hp)(x:Qx)(st:List Qx):h.drops (x::st)=if (h.step x st).2.2=0 then (h.step x st).1.drops (h.step x st).2.1 else (Hp.zero,14):=by
 unfold Hp.drops;rw[show(x::st).length+tot h.cells=(st.length+tot h.cells)+1 from by simp;omega];simp only[Mf];by_cases f:(h.step x st).2.2=0
 ·have:=Hp.Zf f;rw[if_pos f,if_pos f];exact CQ _ _ _ _ (by simp at this;omega) (Nat.le_refl _)
 ·rw[if_neg f,if_neg f]
theorem Hp.Md(h:Hp):∀(n:Nat) (st:List Qx),st.length+tot h.cells<=n->(h.drops st).2=0\/h.drops st=(Hp.zero,14):=by
 intro n;induction n generalizing h with
 |zero=>
  intro st g;have:st=[]:=List.eq_nil_of_length_eq_zero oM;subst this;exact .inl (by rw[Hp.Pj])
 |succ n i=>
  intro st g;rcases st with _|⟨x,st⟩
  ·exact .inl (by rw[Hp.Pj])
  ·rw[Hp.N9];by_cases f:(h.step x st).2.2=0
   ·rw[if_pos f];have:=Hp.Zf f;exact i _ _ oM
   ·rw[if_neg f];exact .inr rfl
def Zz9(h:Hp)(s:Qx)(ok:Nat->Prop)(w:World)(e:Ending)(w':World):Prop:=
 ∃v,e= .returned (.tuple #[v,.int .i64 (h.drop s).2])/\M7 w w' ok v (h.drop s).1/\Below w.heap.size w w'
theorem OW{l:List Qk}{M:Int}(i:0<=M)(h:∀x∈l,(x.slots.length:Int)<=M):(tot l:Int)<=l.length * M:=by
 induction l with
 |nil=>simp[tot]
 |cons x r f=>
  have j:=h x (by simp);have o:=f (λy g=>h y (by simp[g]));simp only[tot,List.length_cons];rw[show(((r.length+1:Nat):Int)) * M=r.length * M+M from by rw[Int.natCast_add,Int.add_mul];simp];omega
section
variable {w:World} {base size:Nat} {e:TypeId} {ok:Nat->Prop} {a:Option Addr} {n c:Nat}
theorem U5.of_block{g:Nat}{cs:Array Value}{r:List D}(f:w.heap[g]? =some (.cells cs e (0,0)))(l:base<=g)(hr:Xm w (λb=>ok b/\b≠g) r cs.toList)(o:r.length=size):U5 w base e size ok (.slice (some ⟨g,0,none⟩) 1 1) [r]:=by
 have t:=hr.1;simp at t;refine⟨cs.toList,⟨by simp;omega,.inr ⟨g,1,cs,rfl,l,f,Nat.le_refl _,by simp[maxLen],oM,?_⟩⟩,λi C h=>?_,λi j C d u h I J=>?_⟩
 ·rw[List.take_of_length_le];simp;omega
 ·match i,h with
  |0,h=>simp at h;rw[<-h];exact o
 ·match i,h with
  |0,h=>
   simp at h;subst h;exact(hr.2 j d u I (by simpa using J)).weak λb f=>⟨f.1,by simp[Value.ownBlock];exact λe=>f.2 e.symm⟩
theorem U5.pop{rows:List (List D)}{r:List D}{m:Nat}(h:U5 w base e size ok (.slice a m c) (rows++[r])):U5 w base e size ok (.slice a rows.length c) rows:=by
 obtain⟨xs,P,h2,h3⟩:=h;have T:=P.1;simp at T;refine⟨xs.take (rows.length * size),⟨by rw[List.length_take,T,Nat.add_mul];omega,?_⟩,λi l h=>h2 i l (by rw[List.getElem?_append_left (List.getElem?_eq_some_iff.1 h).1];exact h),λi j l d u hr hd f=>?_⟩
 ·rcases P.2 with⟨U,hn⟩|⟨g,cap,o,U,hg,hh,t,C,I,J⟩
  ·simp at hn
  ·injection U with e1 e2 e3;subst e1 e3;refine .inr ⟨g,c,o,rfl,hg,hh,by simp at t;omega,C,I,?_⟩;rw[<-J,List.take_take];congr 1;simp
 ·have hi:=(List.getElem?_eq_some_iff.1 hr).1;refine(h3 i j l d u (by rw[List.getElem?_append_left hi];exact hr) hd (by
   rw[List.getElem?_take]at f;split at f
   ·exact f
   ·cases f)).weak λb hb=>⟨hb.1,?_⟩
  cases a<;> exact hb.2
end
theorem IM(h : Hp)(s : Qx)(M : Int)(ok : Nat->Prop)(a : Option Addr)(n c : Nat)(w : World)(hM : M<=1000000)(hO : h.Ok M)(hsr0 : (-9223372036854775808<=s.kind/\s.kind<=9223372036854775807)/\(-9223372036854775808<=s.n/\s.n<=9223372036854775807))(hok : ∀ b,ok b->b < w.heap.size)(hR : Xk w ok (.sl (h.cells.map Qk.row)) (.slice a n c)) :
  Calls Tryz.prog 19 #[.agg #[.slice a n c,.int .i64 h.made,.int .i64 h.used,.int .i64 h.live,.int .i64 h.peak],.agg #[.int .i64 s.kind,.int .i64 s.n]] w (Zz9 h s ok w):=by
 have hn:=hR.D7.1
 rw [List.length_map] at hn
 have hlen:=hO.len
 have hsl : ∀ x∈h.cells,x.slots.length<=8796093022208:=λx hx=>by have:=hO.slots x hx;omega
 have hokB : ∀ (o1 o2 o3 : Obj),∀ b,ok b->b < (((w.alloc o1).alloc o2).alloc o3).heap.size:=λ_ _ _ b hb=>by have:=hok b hb;simp;omega
 have HN:=Lib.hid hn
 have HO:=Lib.hid hO
 clear hn hO
 go_enter Tryz.func19,Tryz.ntmps19
 go_wp2_with fail
 refine (QT h.cells h.made h.used h.live h.peak ok a n c _ HN.out (by have:=HN.out;omega) hsl (hokB _ _ _) (((hR.alloc _ hok).alloc _ (λb hb=>by have:=hok b hb;simp;omega)).alloc _ (λb hb=>by have:=hok b hb;simp;omega))).mono ?_
 rintro e w1 ⟨a',c',rfl,hA,hb1⟩
 have hS:=(U8.under ((U8.new' (w.alloc _) 48 #[.int .i64 s.kind,.int .i64 s.n] (w.heap.size + 1) (by simp)).alloc _) hb1 (by simp)).cell
 have hQ:=U8.under (U8.new' ((w.alloc _).alloc _) 46 #[.slice none 0 0,.int .i64 0,.int .i64 0,.int .i64 0,.int .i64 0] (w.heap.size + 1 + 1) (by simp)) hb1 (by simp)
 have hbw : Below w.heap.size w w1:=((((Below.refl _ w).alloc (Nat.le_refl _) _).alloc (by simp) _).alloc (by simp;omega) _).trans (hb1.mono (by simp;omega))
 have hsz : w.heap.size + 3<=w1.heap.size:=by have:=hb1.size;simp at this;omega
 have hA1 : U5 w1 (w.heap.size + 3) 43 3 (Zn ok (w.heap.size + 3) w1) (.slice a' n c') (h.cells.map Qk.row):=by simpa using hA
 have hok1 : ∀ b,Zn ok (w.heap.size + 3) w1 b->b < w1.heap.size:=λb hb=>by rcases hb with hb | hb <;> first | omega | (have:=hok b hb;omega)
 have hsa : ∀ (o : Obj) (i : Nat),(w1.alloc o).cell? ⟨w.heap.size + 1,i,none⟩ = #[.int .i64 s.kind,.int .i64 s.n][i]?:=λo i=>(World.cell?_alloc_lt w1 o ⟨w.heap.size + 1,i,none⟩ (by dsimp only;omega)).trans (hS i)
 have HB : M8 (w1.alloc (.cells #[.slice a' n c',.int .i64 h.made,.int .i64 h.used,.int .i64 h.live,.int .i64 h.peak] 46)) w1.heap.size (w.heap.size + 3) (Zn ok (w.heap.size + 3) w1) a' n c' h:=⟨U8.new _ _ _,hA1.alloc _ hok1⟩
 have htot : (tot h.cells : Int)<=1000000000000:=by
  have:=OW (by omega : (0 : Int)<=M) HO.out.slots
  have h2 : (h.cells.length : Int) * M<=1000000 * 1000000:=Int.mul_le_mul (by omega) hM (by omega) (by omega)
  omega
 have hlv:=HO.out.live
 have HSR : Hid ((-9223372036854775808<=s.kind/\s.kind<=9223372036854775807)/\(-9223372036854775808<=s.n/\s.n<=9223372036854775807)):=hsr0
 clear hA hb1 hS
 obtain ⟨W,hW⟩ : ∃ W,W = w1.alloc (.cells #[.slice a' n c',.int .i64 h.made,.int .i64 h.used,.int .i64 h.live,.int .i64 h.peak] 46):=⟨_,rfl⟩
 have hWB : M8 W w1.heap.size (w.heap.size + 3) (Zn ok (w.heap.size + 3) w1) a' n c' h:=by rw [hW];exact HB
 have hWQ : U8 W (w.heap.size + 1 + 1) 46 #[.slice none 0 0,.int .i64 0,.int .i64 0,.int .i64 0,.int .i64 0]:=by rw [hW];exact hQ.alloc _
 have hWb : Below w.heap.size w W:=by rw [hW];exact hbw.alloc hbw.size _
 have hWs : W.heap.size = w1.heap.size + 1:=by rw [hW];simp
 have hWS : ∀ i,W.cell? ⟨w.heap.size + 1,i,none⟩ = #[.int .i64 s.kind,.int .i64 s.n][i]?:=λi=>by rw [hW];exact hsa _ i
 go_upto_region 2 with (fail)
 rw [<- hW]
 have HWS:=Lib.hid hWs
 have hws : w1.heap.size < W.heap.size:=by omega
 clear hW hsa HB hQ hbw hokB hWs
 go_wp2_with fail
 have hA1own:=hA1.own
 go_loopg [7] (1 + tot h.cells) (λk v wr=>∃ (st : List Qx) (h2 : Hp) (aT : Option Addr) (cT : Nat),Hid (h.drop s = h2.drops st/\st.length + tot h2.cells = k/\k<=1 + tot h.cells∧-M - (1 + tot h.cells - k)<=h2.live/\h2.live<=M)/\v = .slice aT st.length cT /\
   U5 wr (w1.heap.size + 1) 48 2 (λ_=>False) (.slice aT st.length cT) (st.reverse.map Qx.row)/\M8 wr w1.heap.size (w.heap.size + 3) (Zn ok (w.heap.size + 3) w1) a' n c' h2 /\
   U8 wr (w.heap.size + 1 + 1) 46 #[.slice none 0 0,.int .i64 0,.int .i64 0,.int .i64 0,.int .i64 0]/\Below w.heap.size w wr/\w1.heap.size < wr.heap.size)
 case atStart =>
  have hRW : Xm (W.alloc (.cells #[.int .i64 s.kind,.int .i64 s.n] 48)) (λb=>False/\b≠W.heap.size) s.row [.int .i64 s.kind,.int .i64 s.n]:=by
   obtain ⟨hs1,hs2⟩:=HSR.out
   refine ⟨rfl,λj d v hd hv=>?_⟩
   match j,hd,hv with
   | 0,hd,hv=>simp [Qx.row] at hd hv;subst hd hv;exact .int _ hs1.1 hs1.2
   | 1,hd,hv=>simp [Qx.row] at hd hv;subst hd hv;exact .int _ hs2.1 hs2.2
  refine ⟨[s],h,some ⟨W.heap.size,0,none⟩,1,⟨rfl,by simp,by omega,by omega,by omega⟩,rfl,?_,hWB.alloc _ (λb hb=>by have:=hok1 b hb;omega),hWQ.alloc _,hWb.alloc hWb.size _,by simp;omega⟩
  exact U5.of_block (heap_alloc_new W _) (by omega) hRW rfl
 case round =>
  obtain ⟨st,h2,aT,cT,HL,rfl,hAT,hBx,hQr,hbr,hsr⟩:=hrel
  rcases st with _ | ⟨x,st⟩
  ·have hqr:=hQr.cell
   have hqf:=hQr.frozen
   have hbc:=hBx.1.cell
   have HBx:=Lib.hid hBx
   have HE : Hid (h.drop s = (h2,0)):=by rw [Hid,HL.out.1,Hp.Pj]
   clear hAT hBx
   go_wp2_with fail
   refine bodyPost_ret (v:=.tuple #[.agg #[.slice a' n c',.int .i64 h2.made,.int .i64 h2.used,.int .i64 h2.live,.int .i64 h2.peak],.int .i64 0]) (by simp [results,Tryz.results19,go_sem,hqr]) rfl ?_
   have hfin:=JX (q:=w.heap.size + 1 + 1) hok (by omega) (by omega) hbr HBx.out (λb hb=>hb.imp id λh=>⟨h.1,by omega⟩)
    (.slice a' n c') (.int .i64 h2.made) (.int .i64 h2.used) (.int .i64 h2.live) (.int .i64 h2.peak)
   exact ⟨_,by rw [HE.out],by rw [HE.out];exact hfin.1,hfin.2⟩
  ·have hrev : (x :: st).reverse = st.reverse ++ x :: []:=by simp
   rw [hrev] at hAT
   have hRT:=hAT.Ty (ok':=λb=>w1.heap.size + 1<=b/\b < wr.heap.size) (λb h1 h2=>⟨h1,h2⟩) (λb h=>h.elim)
   obtain ⟨gT,oT,rfl,hgT,t0,t1,_,_⟩:=Qx.at_ hRT rfl
   rw [List.length_reverse] at t0 t1
   have hcT : st.length + 1<=cT:=by have:=hRT.D7.2.1;simpa using this
   have hcM : cT<=9223372036854775807:=by have:=hRT.D7.2.2;unfold maxLen at this;omega
   have hAP : U5 wr (w1.heap.size + 1) 48 2 (λ_=>False) (.slice (some ⟨gT,oT,none⟩) (st.reverse.map Qx.row).length cT) (st.reverse.map Qx.row):=by
    rw [List.map_append] at hAT
    exact hAT.pop
   rw [List.length_map,List.length_reverse] at hAP
   have HAP:=Lib.hid hAP
   have HBx:=Lib.hid hBx
   have hlb : st.length + 1<=1000000000001:=by have h1:=HL.out.2.1;have h2:=HL.out.2.2.1;rw [List.length_cons] at h1;omega
   clear hrev hAT hRT hAP hBx
   by_cases hk : x.kind = 2
   ·have hk' : (x.kind != 2) = false:=by simpa using hk
    have HK:=Lib.hid hk
    clear hk
    go_wp2_with fail
    have hRx : Xk wr (λb=>b < wr.heap.size) (.sl (h2.cells.map Qk.row)) (.slice a' n c'):=HBx.out.Ty (λb _ h=>h) (λb hb=>by have:=hok1 b hb;omega)
    have hQa:=hQr.alloc (.cells #[.int .i64 x.kind,.int .i64 x.n] 48)
    have hBa:=HBx.out.alloc (.cells #[.int .i64 x.kind,.int .i64 x.n] 48) (λb hb=>by have:=hok1 b hb;omega)
    by_cases hP : ∃ y,h2.at x.n = some y/\1<=y.count
    ·obtain ⟨y,hy,hyc⟩:=hP
     obtain ⟨h0,h1,ys,zs,hl,hky⟩:=Hp.Gv hy
     obtain ⟨g,_,_,rfl,_⟩:=U5.Oi hBa.2 hl
     have hg1:=(hA1own g rfl).2
     have hg0:=(hA1own g rfl).1
     refine (Az h2 x y (λb=>b < wr.heap.size) g 0 n c' w1.heap.size _ (λb hb=>by simp;omega) (hBa.1.cell 0) (hRx.alloc _ (λb hb=>hb)) hy hyc).mono ?_
     rintro e w2 ⟨rfl,hb2⟩
     have hB2:=hBa.under hb2 (Nat.le_refl _) (λb hb=>by have:=hok1 b hb;simp;omega)
     have hQ2:=hQa.under hb2 (by simp;omega)
     have hbW : Below w.heap.size w w2:=(hbr.alloc hbr.size _).trans (hb2.mono (by simp;have:=hbr.size;omega))
     have hs2 : wr.heap.size < w2.heap.size:=by have:=hb2.size;simp at this;omega
     have hAT2 : U5 w2 (w1.heap.size + 1) 48 2 (λ_=>False) (.slice (some ⟨gT,oT,none⟩) st.length cT) (st.reverse.map Qx.row):=(HAP.out.alloc _ (λb hb=>hb.elim)).under hb2 (Nat.le_refl _) (λb hb=>hb.elim)
     obtain ⟨g',sa',sc',hg',_,_,c0,c1,c2,hf,hrs2,r0,r1⟩:=U5.Oi hB2.2 hl
     simp only [Option.some.injEq,Addr.mk.injEq,and_true] at hg'
     subst hg'
     rw [hky] at c0 c1 c2
     have hbc:=hB2.1.cell
     have hbf:=hB2.1.frozen
     have hne : g≠w1.heap.size:=by omega
     have hne2 : g≠w.heap.size + 1 + 1:=by omega
     have HH:=Lib.hid (And.intro hl hky)
     have HY:=Lib.hid hy
     have HB2:=Lib.hid hB2
     have hlv2 : -2000002000000<=h2.live/\h2.live<=1000000:=by
      obtain ⟨_,_,l3,l4,l5⟩:=HL.out
      omega
     clear hl hky hy hB2 hRx hBa hb2 t0 t1
     by_cases h1c : y.count = 1
     ·have hb1 : (y.count - 1 == 0) = true:=by simp;omega
      have H1:=Lib.hid h1c
      clear h1c
      have hc0U:=c0
      obtain ⟨V,hV⟩ : ∃ V,V = w2.setCell ⟨g,x.n.toNat * 3,none⟩ (.int .i64 (y.count - 1)):=⟨_,rfl⟩
      have hVA : U5 V (w1.heap.size + 1) 48 2 (λ_=>False) (.slice (some ⟨gT,oT,none⟩) st.length cT) (st.reverse.map Qx.row):=by
       rw [hV]
       refine hAT2.setCell _ (λe=>?_) (λb hb=>hb.elim)
       have:=(hAT2.own _ e).1
       dsimp only at this
       omega
      have hVr : Xk V (λb=>Zn ok (w.heap.size + 3) w1 b/\b≠g) (.sl (y.slots.map Qx.row)) (.slice sa' y.slots.length sc'):=by rw [hV];exact hrs2.setCell _ (λb hb=>hb.2)
      have hVB : Hid (U8 V w1.heap.size 46 #[.slice (some ⟨g,0,none⟩) n c',.int .i64 h2.made,.int .i64 h2.used,.int .i64 h2.live,.int .i64 h2.peak]/\U5 V (w.heap.size + 3) 43 3 (Zn ok (w.heap.size + 3) w1) (.slice (some ⟨g,0,none⟩) n c') ((ys ++ { y with count:=y.count - 1 } :: zs).map Qk.row)):=by
       obtain ⟨hl,hky⟩:=HH.out
       have hA3:=HB2.out.2
       rw [hl] at hA3
       have hA4:=hA3.QX (y.count - 1) (by omega) (by omega)
       rw [hky] at hA4
       rw [Hid,hV]
       exact ⟨HB2.out.1.far hne.symm _,hA4⟩
      have hVQ : U8 V (w.heap.size + 1 + 1) 46 #[.slice none 0 0,.int .i64 0,.int .i64 0,.int .i64 0,.int .i64 0]:=by rw [hV];exact hQ2.far hne2.symm _
      have hVb : Below w.heap.size w V:=by rw [hV];exact hbW.setCell (by dsimp only;omega) _
      have hVs : V.heap.size = w2.heap.size:=by rw [hV];simp
      have HVS:=Lib.hid hVs
      have HV:=Lib.hid hV
      clear hV hVs
      go_upto_region 11 with (fail)
      have hV':=HV.out
      rw [<- hV']
      clear hV' HV c0 c1 c2 hf hbc hbf hrs2 hAT2 hQ2 hbW r0 r1 hc0U
      obtain ⟨j0,hj,hy0,hy1,hy2⟩:=info_parts GG
      obtain ⟨g',sb,sd,hg',_,hgV,u0,u1,u2,uf,hru,_⟩:=U5.Oi hVB.out.2 rfl
      simp only [Option.some.injEq,Addr.mk.injEq,and_true] at hg'
      subst hg'
      have hvb:=hVB.out.1.cell
      have hvf:=hVB.out.1.frozen
      have hky2:=HH.out.2
      rw [hky2] at u0 u1 u2
      have hvr2 : Hid (∃ sb',sb' = sb):=⟨_,rfl⟩
      clear hky2 hvr2
      have hslt : y.slots.length + st.length<=1000000000001:=by
       have h1:=HL.out.2.1
       have h2':=HL.out.2.2.1
       have h3 : y.slots.length<=tot h2.cells:=by rw [HH.out.1,R5];simp [tot];omega
       rw [List.length_cons] at h1
       omega
      have HVA:=Lib.hid hVA
      have HRU:=Lib.hid hru
      have hownT:=hVA.own
      have hvs2:=HVS.out
      have hvs3 : w1.heap.size + 1<=V.heap.size:=by omega
      clear hVA hVr hvs2 hru
      go_wp2_with (at_builtin;refine ZY _ rfl (.tmp 48) (.tmp 52) 41 rfl (w1.heap.size + 1) 48 j0 _ 2 16 Tryz.underlying41 hj hy0 hy1 hy2 rfl (by omega) (λ_=>False) (.slice (some ⟨gT,oT,none⟩) st.length cT) (st.reverse.map Qx.row) rfl HVA.out sb y.slots.length sd (y.slots.map Qx.row) (by simp) rfl (λb=>Zn ok (w.heap.size + 3) w1 b/\b≠g) HRU.out (λi j r d u hr hd hu=>hu.flat (EH Qx.row Qx.flat y.slots i j r d hr hd)) (RA _ _ Qx.QH y.slots) (by simp [maxLen];omega) (by simp;omega) (λb hb=>hb.elim) (by omega) ?_)
      intro v' w4 hA4 hg4 hv4
      have hownp : ∀ q,(Value.slice (some ⟨gT,oT,none⟩) st.length cT).ownBlock = some q->w1.heap.size + 1<=q:=λq hq=>(hownT q hq).1
      have hs4 : V.heap.size<=w4.heap.size:=hg4.size
      have hrr : (List.map Qx.row st).reverse ++ List.map Qx.row y.slots = (y.slots.reverse ++ st).reverse.map Qx.row:=by simp
      rw [hrr] at hA4
      obtain ⟨a4,c4,hv4'⟩:=hA4.shape
      rw [List.length_map,List.length_reverse] at hv4'
      subst hv4'
      have hQ4:=hVQ.grown hg4 (λe=>by have:=hownp _ e.symm;omega)
      have hP4:=hVB.out.1.grown hg4 (λe=>by have:=hownp _ e.symm;omega)
      have hb4 : Below w.heap.size w w4:=hVb.grown hg4 hVb.size (λq hq=>by have:=hownp _ hq;omega)
      have hgo : (Value.slice (some (⟨g,0,none⟩ : Addr)) n c').ownBlock≠(Value.slice (some ⟨gT,oT,none⟩) st.length cT).ownBlock:=λe=>by have:=hownp g (by rw [<- e];rfl);omega
      have hAc4:=hVB.out.2.grown hg4 (.inr hgo) (λb hb=>⟨by have:=hok1 b hb;omega,λe=>by have:=hownp _ e;have:=hok1 b hb;omega⟩)
      have hne4 : some g≠(Value.slice (some ⟨gT,oT,none⟩) st.length cT).ownBlock:=hgo
      have e0 : w4.cell? ⟨g,x.n.toNat * 3,none⟩ = some (.int .i64 (y.count - 1)):=(hg4.cell_far _ hgV hne4).trans u0
      have e1 : w4.cell? ⟨g,x.n.toNat * 3 + 1,none⟩ = some (.int .i64 y.tag):=(hg4.cell_far _ hgV hne4).trans u1
      have e2 : w4.cell? ⟨g,x.n.toNat * 3 + 2,none⟩ = some (.slice sb y.slots.length sd):=(hg4.cell_far _ hgV hne4).trans u2
      have ef : ∀ o,w4.frozen? ⟨g,o,none⟩ = false:=λo=>(hg4.frozen_far _ hgV hne4).trans (uf o)
      have hpc:=hP4.cell
      have hpf:=hP4.frozen
      have HA4:=Lib.hid hA4
      have HC4:=Lib.hid hAc4
      have HL2 : Hid (h.drop s = ({ h2.put x.n Qk.zero with live:=h2.live - 1 } : Hp).drops (y.slots.reverse ++ st)/\(y.slots.reverse ++ st).length + tot (h2.put x.n Qk.zero).cells = gk - 1/\0 < gk):=by
       obtain ⟨l1,l2,l3,l4,l5⟩:=HL.out
       have hst : h2.step x st = ({ h2.put x.n Qk.zero with live:=h2.live - 1 },y.slots.reverse ++ st,0):=by
        unfold Hp.step
        rw [if_pos HK.out,HY.out]
        simp only [if_pos hyc,if_pos H1.out]
       have hm : y.slots.length + tot (h2.put x.n Qk.zero).cells = tot h2.cells:=by
        rw [Hp.Z8 HH.out.1 HH.out.2,HH.out.1,R5,R5]
        simp [tot,Qk.zero]
        omega
       rw [List.length_cons] at l2
       refine ⟨?_,by simp;omega,by omega⟩
       rw [l1,Hp.N9,hst]
       simp
      clear hvb hvf u0 u1 u2 uf hA4 hg4 hv4 hVQ hVb hrr hAc4 hQr hbr hQa hgT hownT
      go_wp2_with fail
      go_roundg (gk - 1)
      case measure=>have:=HL2.out.2.2;omega
      case rel =>
       obtain ⟨l1,l2,l3⟩:=HL2.out
       obtain ⟨_,_,m3,m4,m5⟩:=HL.out
       obtain ⟨hl,hky⟩:=HH.out
       have hA5:=HC4.out.Kb Qk.zero (.slice none 0 0) (by simp [Qk.zero]) (by simp [Qk.zero]) (.empty none 0 (λ_=>rfl) (Nat.zero_le _))
       rw [hky,<- Hp.Z8 hl hky] at hA5
       have hown4:=HA4.out.own
       refine ⟨y.slots.reverse ++ st,{ h2.put x.n Qk.zero with live:=h2.live - 1 },a4,c4,⟨l1,l2,by omega,by dsimp only;omega,by dsimp only;omega⟩,by simp,?_,⟨(((hP4.far hne.symm _).far hne.symm _).far hne.symm _).FM 3 _,hA5.setCell _ (by simp [Value.ownBlock];omega) (λb hb=>by have:=hok1 b hb;dsimp only;omega)⟩,(((hQ4.far hne2.symm _).far hne2.symm _).far hne2.symm _).far (by dsimp only;omega) _,((((hb4.setCell (by dsimp only;omega) _).setCell (by dsimp only;omega) _).setCell (by dsimp only;omega) _).setCell (by dsimp only;omega) _),by simp;omega⟩
       iterate 4 refine U5.setCell ?_ _ (λe=>by have:=(hown4 _ e).1;dsimp only at this;omega) (λb hb=>hb.elim)
       exact HA4.out
     ·have hb1 : (y.count - 1 == 0) = false:=by simp;omega
      have HL2 : Hid (h.drop s = (h2.put x.n { y with count:=y.count - 1 }).drops st/\st.length + tot (h2.put x.n { y with count:=y.count - 1 }).cells = gk - 1/\0 < gk):=by
       obtain ⟨l1,l2,l3,l4,l5⟩:=HL.out
       have hst : h2.step x st = (h2.put x.n { y with count:=y.count - 1 },st,0):=by
        unfold Hp.step
        rw [if_pos HK.out,HY.out]
        simp only [if_pos hyc,if_neg h1c]
       have hm : tot (h2.put x.n { y with count:=y.count - 1 }).cells = tot h2.cells:=by
        rw [Hp.Z8 HH.out.1 HH.out.2,HH.out.1,R5,R5]
        rfl
       rw [List.length_cons] at l2
       refine ⟨?_,by rw [hm];omega,by omega⟩
       rw [l1,Hp.N9,hst]
       simp
      have HC:=Lib.hid h1c
      clear h1c
      go_wp2_with fail
      go_roundg (gk - 1)
      case measure=>have:=HL2.out.2.2;omega
      case rel =>
       obtain ⟨l1,l2,l3⟩:=HL2.out
       obtain ⟨_,_,m3,m4,m5⟩:=HL.out
       obtain ⟨hl,hky⟩:=HH.out
       have hA3:=HB2.out.2
       rw [hl] at hA3
       have hA4:=hA3.QX (y.count - 1) (by omega) (by omega)
       rw [hky,<- Hp.Z8 hl hky] at hA4
       refine ⟨st,_,some ⟨gT,oT,none⟩,cT,⟨l1,l2,by omega,by simp only [Hp.put];omega,m5⟩,rfl,hAT2.setCell _ ?_ (λb hb=>hb.elim),⟨HB2.out.1.far hne.symm _,hA4⟩,hQ2.far hne2.symm _,hbW.setCell (by dsimp only;omega) _,by simp;omega⟩
       intro e
       have:=(hAT2.own _ e).1
       dsimp only at this
       omega
    ·refine (Aj h2 x (λb=>b < wr.heap.size) a' n c' w1.heap.size _ (λb hb=>by simp;omega) (hBa.1.cell 0) (hRx.alloc _ (λb hb=>hb)) (λy hy=>by have : ¬ 1<=y.count:=λhc=>hP ⟨y,hy,hc⟩;omega)).mono ?_
     rintro e w2 ⟨rfl,hb2⟩
     have hQ2:=hQa.under hb2 (by simp;omega)
     have hbW : Below w.heap.size w w2:=(hbr.alloc hbr.size _).trans (hb2.mono (by simp;have:=hbr.size;omega))
     have hq2:=hQ2.cell
     have hqf:=hQ2.frozen
     have HE : Hid (h.drop s = (Hp.zero,14)):=by
      rw [Hid,HL.out.1,Hp.N9]
      have hst : (h2.step x st).2.2 = 14:=by
       unfold Hp.step
       rw [if_pos HK.out]
       rcases hy : h2.at x.n with _ | y
       ·rfl
       ·have : ¬ 1<=y.count:=λhc=>hP ⟨y,hy,hc⟩
        simp only [if_neg this]
      rw [hst]
      simp
     clear hP hRx hBa hb2 t0 t1
     go_wp2_with fail
     refine bodyPost_ret (v:=.tuple #[.agg #[.slice none 0 0,.int .i64 0,.int .i64 0,.int .i64 0,.int .i64 0],.int .i64 14]) (by simp [results,Tryz.results19,go_sem,hq2]) rfl ?_
     refine ⟨_,by rw [HE.out],by rw [HE.out];exact M7.zero,?_⟩
     exact (((((hbW.setCell (by simp;omega) _).setCell (by simp;omega) _).setCell (by simp;omega) _).setCell (by simp;omega) _).setCell (by simp;omega) _)
   ·have hk' : (x.kind != 2) = true:=by simpa using hk
    have HL2 : Hid (h.drop s = h2.drops st/\st.length + tot h2.cells = gk - 1/\0 < gk/\gk<=1 + tot h.cells∧-M - (1 + tot h.cells - gk)<=h2.live/\h2.live<=M):=by
     obtain ⟨l1,l2,l3,l4,l5⟩:=HL.out
     simp at l2
     refine ⟨?_,by omega,by omega,by omega,by omega,by omega⟩
     rw [l1,Hp.N9]
     have : h2.step x st = (h2,st,0):=by rw [Hp.step,if_neg hk]
     rw [this]
     simp
    clear hk
    go_wp2_with fail
    go_roundg (gk - 1)
    case measure=>have:=HL2.out.2.2.1;omega
    case rel =>
     obtain ⟨l1,l2,l3,l4,l5,l6⟩:=HL2.out
     exact ⟨st,h2,some ⟨gT,oT,none⟩,cT,⟨l1,l2,by omega,by omega,l6⟩,rfl,HAP.out.alloc _ (λb hb=>hb.elim),HBx.out.alloc _ (λb hb=>by have:=hok1 b hb;omega),hQr.alloc _,hbr.alloc hbr.size _,by simp;omega⟩
end
section
open Go.RowKit
structure Hp.Dk (k:Nat) (h:Hp):Prop where
 len:h.cells.length<=1000000
 slots:∀x∈h.cells,x.slots.length<=8796093022208
 count:∀x∈h.cells,-1000000000000<=x.count/\x.count<=1000000000000
 lo: -4000000000000<=h.live-k-tot h.cells
 hi:h.live<=1000000
theorem Hp.BK{h:Hp}{n:Int}{x y:Qk}(i:h.at n=some x):tot (h.put n y).cells+x.slots.length=tot h.cells+y.slots.length:=by
 obtain⟨_,_,ys,zs,g,f⟩:=Hp.Gv i;rw[Hp.Z8 g f,g,R5,R5];simp[tot];omega
theorem Hp.Ok.dk{h:Hp}{M:Int}(j:M<=1000000)(f:h.Ok M):h.Dk 1:=by
 have i:=f.len;have l:=f.live;refine⟨oM,λx g=>by have:=f.slots x g;omega,λx g=>by have:=f.count x g;omega,?_,oM⟩;have:=OW (by omega:(0:Int)<=M) f.slots;have o:(h.cells.length:Int) * M<=1000000 * 1000000:=Int.mul_le_mul oM j oM oM;omega
theorem Hp.Dk.put{h:Hp}{k j:Nat}(D:h.Dk k)(n:Int){y:Qk}(o:y.slots.length<=8796093022208)(r: -1000000000000<=y.count/\y.count<=1000000000000)(l:Int)
  (g: -4000000000000<=l-j-tot (h.put n y).cells) (i:l<=1000000):({ h.put n y with live:=l }:Hp).Dk j:=
 ⟨by simpa[Hp.put]using D.len,λz f=>by rcases Hp.put_mem f with rfl|f;exact o;exact D.slots z f,λz f=>by rcases Hp.put_mem f with rfl|f;exact r;exact D.count z f,g,i⟩
theorem Hp.Dk.step{h:Hp}{x:Qx}{st:List Qx}{k:Nat}(D:h.Dk ((x::st).length+k))(f:(h.step x st).2.2=0):
  (h.step x st).1.Dk ((h.step x st).2.1.length+k)/\tot (h.step x st).1.cells<=tot h.cells:=by
 have i:=D.lo;rw[List.length_cons]at i;have j:=D.hi;unfold Hp.step at f⊢;by_cases t:x.kind=2
 ·rw[if_pos t]at f⊢;rcases hx:h.at x.n with _|c
  ·rw[hx]at f;simp at f
  ·rw[hx]at f;obtain⟨_,_,ys,zs,I,J⟩:=Hp.Gv hx;have g:c∈h.cells:=by rw[I];simp
   have l:=D.slots c g;have P:=D.count c g;by_cases o:1<=c.count
   ·by_cases C:c.count=1
    ·have r:=Hp.BK (y:=Qk.zero) hx;simp[Qk.zero]at r;simp only[if_pos o,if_pos C];refine⟨D.put _ (by simp[Qk.zero]) (by simp[Qk.zero]) _ ?_ oM,?_⟩
     ·simp[Qk.zero];omega
     ·simp[Qk.zero];omega
    ·have r:=Hp.BK (y:={ c with count:=c.count-1 }) hx;dsimp only at r;simp only[if_pos o,if_neg C];refine⟨D.put (y:={ c with count:=c.count-1 }) _ l (by dsimp only;omega) h.live ?_ j,?_⟩
     ·show _<=h.live-_-_;omega
     ·omega
   ·simp[o]at f
 ·rw[if_neg t];refine⟨⟨D.len,D.slots,D.count,by dsimp only;omega,D.hi⟩,Nat.le_refl _⟩
theorem Hp.Dk.drops:∀(n:Nat) (h:Hp) (st:List Qx) (k:Nat),st.length+tot h.cells<=n->h.Dk (st.length+k)->(h.drops st).2=0->
  (h.drops st).1.Dk k/\tot (h.drops st).1.cells<=tot h.cells:=by
 intro n;induction n with
 |zero=>
  intro h st k i D f;have:st=[]:=List.eq_nil_of_length_eq_zero oM;subst this;rw[Hp.Pj];exact⟨by simpa using D,Nat.le_refl _⟩
 |succ n j=>
  intro h st k i D f;rcases st with _|⟨x,st⟩
  ·rw[Hp.Pj];exact⟨by simpa using D,Nat.le_refl _⟩
  ·rw[Hp.N9]at f⊢;by_cases g:(h.step x st).2.2=0
   ·rw[if_pos g]at f⊢;have r:=Hp.Zf g;obtain⟨l,t⟩:=D.step g;obtain⟨o,C⟩:=j _ _ k oM l f;exact⟨o,oM⟩
   ·rw[if_neg g]at f;simp at f
abbrev Dq(s:Qx):AV:=.agg [Iv s.kind,Iv s.n]
abbrev Rn(l:List Qx):AV:=La (l.map Qx.row)
abbrev Aq(h:Hp):AV:=.agg [La (h.cells.map Qk.row),Iv h.made,Iv h.used,Iv h.live,Iv h.peak]
section
variable {w:World} {ok:Nat->Prop} {g:Gh} {m:Me}
theorem VR.agg5{j l o r t:AV}{v:Value}(h:VR w ok g m (.agg [j,l,o,r,t]) v):∃C I J P v4,v= .agg #[C,I,J,P,v4]/\VR w ok g m j C/\VR w ok g m l I/\VR w ok g m o J/\VR w ok g m r P/\VR w ok g m t v4:=by
 obtain⟨vs,rfl,U,f,_⟩:=h.Ju;simp at U;refine⟨vs[0],vs[1],vs[2],vs[3],vs[4],?_,f 0 _ _ rfl (Array.getElem?_eq_getElem _),f 1 _ _ rfl (Array.getElem?_eq_getElem _),f 2 _ _ rfl (Array.getElem?_eq_getElem _),f 3 _ _ rfl (Array.getElem?_eq_getElem _),f 4 _ _ rfl (Array.getElem?_eq_getElem _)⟩;congr 1;apply Array.ext
 ·simp;omega
 ·intro i T _;match i,T with
  |0,_=>rfl
  |1,_=>rfl
  |2,_=>rfl
  |3,_=>rfl
  |4,_=>rfl
  |i+5,T=>omega
theorem VR.hp{h:Hp}{v:Value}(i:VR w ok g m (Aq h) v):∃a n c,v= .agg #[.slice a n c,.int .i64 h.made,.int .i64 h.used,.int .i64 h.live,.int .i64 h.peak]/\Xk w ok (.sl (h.cells.map Qk.row)) (.slice a n c)/\P7 h.made/\P7 h.used/\P7 h.live/\P7 h.peak:=by
 obtain⟨v0,v1,v2,v3,v4,rfl,f,j,l,o,r⟩:=i.agg5;obtain⟨a,c,rfl,_⟩:=f.Zj.Ik;obtain⟨rfl,t,C⟩:=j.Zj.X5;obtain⟨rfl,I,J⟩:=l.Zj.X5;obtain⟨rfl,P,T⟩:=o.Zj.X5;obtain⟨rfl,U,u4⟩:=r.Zj.X5;exact⟨a,_,c,rfl,f.Zj,⟨t,C⟩,⟨I,J⟩,⟨P,T⟩,⟨U,u4⟩⟩
theorem VR.Xq6(cs:List AV)(vs:List Value)(j:cs.length=vs.length)(h:∀(i:Nat) (c:AV) (v:Value),cs[i]? =some c->vs[i]? =some v->VR w ok g m c v/\v.oneCell'=true):VR w ok g m (.agg cs) (.agg vs.toArray):=by
 refine .agg cs vs.toArray (by simpa using j) (λi c v l f=>(h i c v l (by simpa using f)).1) (λi v f=>?_);have o:i<cs.length:=by have:=(Array.getElem?_eq_some_iff.1 f).1;simp at this;omega
 exact(h i _ v (List.getElem?_eq_getElem o) (by simpa using f)).2
theorem VR.ofInt{n:Int}(h:P7 n):VR w ok g m (Iv n) (.int .i64 n):=.d _ _ (.int n h.1 h.2)
theorem VR.Xj8{I J P T U:AV}{l r t C v4:Value}(h0:VR w ok g m I l)(h1:VR w ok g m J r)(h2:VR w ok g m P t)(h3:VR w ok g m T C)(h4:VR w ok g m U v4)(o:(l.oneCell' && r.oneCell' && t.oneCell' && C.oneCell' && v4.oneCell')=true):VR w ok g m (.agg [I,J,P,T,U]) (.agg #[l,r,t,C,v4]):=by
 simp only[Bool.and_eq_true]at o;obtain⟨⟨⟨⟨o0,o1⟩,o2⟩,o3⟩,o4⟩:=o;refine VR.Xq6 [I,J,P,T,U] [l,r,t,C,v4] rfl λi c v f j=>?_
 match i,f,j with
 |0,f,j=>cases f;cases j;exact⟨h0,o0⟩
 |1,f,j=>cases f;cases j;exact⟨h1,o1⟩
 |2,f,j=>cases f;cases j;exact⟨h2,o2⟩
 |3,f,j=>cases f;cases j;exact⟨h3,o3⟩
 |4,f,j=>cases f;cases j;exact⟨h4,o4⟩
 |i+5,f,j=>simp at f
theorem VR.BQ(cs:List AV)(vs:List Value)(f:cs.length=vs.length)(h:∀(i:Nat) (c:AV) (v:Value),cs[i]? =some c->vs[i]? =some v->VR w ok g m c v):VR w ok g m (.tuple cs) (.tuple vs.toArray):=
 .tuple cs vs.toArray (by simpa using f) (λi c v j l=>h i c v j (by simpa using l))
theorem VR.Qk8{l o:AV}{r t:Value}(C:VR w ok g m l r)(I:VR w ok g m o t):VR w ok g m (.tuple [l,o]) (.tuple #[r,t]):=
 VR.BQ [l,o] [r,t] rfl λi c v f j=>by
  match i,f,j with
  |0,f,j=>cases f;cases j;exact C
  |1,f,j=>cases f;cases j;exact I
  |i+2,f,j=>simp at f
theorem VR.Uf{l o r:AV}{t C I:Value}(J:VR w ok g m l t)(P:VR w ok g m o C)(T:VR w ok g m r I):VR w ok g m (.tuple [l,o,r]) (.tuple #[t,C,I]):=
 VR.BQ [l,o,r] [t,C,I] rfl λi c v f j=>by
  match i,f,j with
  |0,f,j=>cases f;cases j;exact J
  |1,f,j=>cases f;cases j;exact P
  |2,f,j=>cases f;cases j;exact T
  |i+3,f,j=>simp at f
end
theorem Zq9{w:World}{ok:Nat->Prop}{c f:AV}{vals:Array Value}(o:[c,f].length=vals.size)(g:∀(i:Nat) (d:AV) (v:Value),[c,f][i]? =some d->vals[i]? =some v->VR w ok Ug FQ d v):∃v j,vals= #[v,j]/\VR w ok Ug FQ c v/\VR w ok Ug FQ f j:=by
 simp at o;refine⟨vals[0],vals[1],?_,g 0 c _ rfl (Array.getElem?_eq_getElem _),g 1 f _ rfl (Array.getElem?_eq_getElem _)⟩;apply Array.ext
 ·simp;omega
 ·intro i l _;match i,l with
  |0,_=>rfl
  |1,_=>rfl
  |i+2,l=>omega
theorem Qv.elder{P:Program}{k:Nat}{args:List AV}{r:AV}(hent:∃fn,P.funcs[k]? =some fn∧(fn.name== "runtime.NumGoroutine")=false∧fn.body.isNone=false)(hr:∀q:Nat→Bool,r.has q=false)
  (h : ∀ (w : World) (ok : Nat→Prop) (vals : Array Value),(∀ b,ok b→b < w.heap.size)→args.length = vals.size→(∀ (i : Nat) (c : AV) (v : Value),args[i]? = some c→vals[i]? = some v→VR w ok Ug FQ c v) →
   Calls P k vals w fun e w'=>∃v,e= .returned v∧Below w.heap.size w w'∧VR w' (Zn ok w.heap.size w') Ug FQ r v):Qv P k args (fun _=>r) none:=by
 refine⟨hent,fun d=>hr _,fun _ d=>hr _,(fun y hy=>by cases hy),fun d w ok vals _hgi hok hl hv=>(h w ok vals hok hl hv).mono ?_⟩;rintro e w' ⟨v,rfl,hb,hv⟩;exact⟨v,Zn ok w.heap.size w',Ug,rfl,hb,fun b hb=>.inl hb,fun b hb=>hb,hv.mono (fun _=>false) (hr _) (fun _ _=>rfl) (fun _ h=>h) (fun o x' _ hx'=>by simp[FP]at hx'),fun y hy=>by cases hy⟩
end
end Go.Proofs.YtnddiddkmhiclaaGreatDoor
