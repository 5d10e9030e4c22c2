import Derived.Test.YtapiiklnnkkdlaaDoorFreeD
import Derived.Test.YtapiiklnnkkdlaaDoorBackB
import Derived.Test.YtapiiklnnkkdlaaDoorNameB
import Derived.Test.YtapiiklnnkkdlaaDoorPlainQ
/- Terms that own names, plainly. -/
namespace Go.Proofs.YtapiiklnnkkdlaaDoor
open Go.RowKit
set_option linter.unusedVariables false
set_option linter.unusedSimpArgs false
def inN (l o : List ByteArray) : List ByteArray := l.filter fun s => hasB o s
def Tm.nm : Tm → ByteArray
  | .mk _ _ a _ _ _ _ => a
def moreN (had : List ByteArray) : List Tm → List ByteArray
  | [] => []
  | x :: r => if hasB had x.nm then x.nm :: moreN (had ++ [x.nm]) r else moreN (had ++ [x.nm]) r
def letH (a : ByteArray) (own : List ByteArray) : List Tm → List (List ByteArray)
  | [x, y] => [inN own x.free, inN own (woN y.free [a]) ++ [a]]
  | _ => []
def letD (a : ByteArray) (own : List ByteArray) : List Tm → List ByteArray
  | [x, y] => inN (inN own x.free) (woN y.free [a])
  | _ => []
def nmH : List Tm → ByteArray
  | x :: _ => x.nm
  | [] => .empty
mutual
def Tm.ow : Tm → List ByteArray → Tm
  | .mk k n a b vs xs cs, has => cnt 9 (woN has (Tm.mk k n a b vs xs cs).free) (
      if k = 3 ∨ k = 4 ∨ k = 5 then cnt 8 (moreN [] xs) (.mk k n a b vs xs cs)
      else if k = 6 then cnt 8 (letD a (inN has (Tm.mk k n a b vs xs cs).free) xs) (.mk 6 0 a .empty [] (Tm.owZ xs (letH a (inN has (Tm.mk k n a b vs xs cs).free) xs)) [])
      else if k = 7 then .mk 7 0 .empty .empty [] xs (Cs.owL cs (inN has (Tm.mk k n a b vs xs cs).free) (nmH xs))
      else .mk k n a b vs xs cs)
def Tm.owZ : List Tm → List (List ByteArray) → List Tm
  | [], _ => []
  | x :: r, hs => x.ow (hs.headD []) :: Tm.owZ r hs.tail
def Cs.owL : List Cs → List ByteArray → ByteArray → List Cs
  | [], _, _ => []
  | c :: r, own, nm => c.ow own nm :: Cs.owL r own nm
def Cs.ow : Cs → List ByteArray → ByteArray → Cs
  | .mk t ws y, own, nm => .mk t ws (cnt 8 (inN ws y.free) (cnt 9 (if hasB y.free nm then [] else [nm]) (y.ow (if hasB y.free nm then own ++ inN ws y.free else woN (own ++ inN ws y.free) [nm]))))
end
def Fn.ow (f : Fn) : Fn := ⟨f.name, f.params, f.body.ow f.params⟩
end Go.Proofs.YtapiiklnnkkdlaaDoor

namespace Go.Proofs.YtapiiklnnkkdlaaDoor
open Go.RowKit
attribute [local simp] runD mkRc ldOf stOf stOk ldArg noAny dstOk guardOk opEff opEff0 effOp pureOp callOp zEff evA constAV scalAV Value.oneCell' frGet memGet startAS frOf isGoCall idIn AS.after nextR opnIds objIds AV.ids idsL AObj.ids frNo memNo opnAny isAny mkVal rdCells wrCells fldAddr idxAddr srcRows litRows toD1 toDs setAt sliceAV optI partAV bldAV fillAV binAV binI AV.cells callEff calleeOf frKill memKill AV.kill AObj.kill AV.has AV.hasL Op.operands Call.operands keepF keepM viewIds cChk renOf moGet moWs moQ cEff moLike moHave AV.ren renL AObj.ren AObj.like kept startC moMem AV.frz frz1 frzL frSub memSub frzs AS.frz frFrz memFrz AObj.frz takeMap takeLen bleF Nat.ble_eq memAny objAny mapOp D.keyOk rowAV valRow extOp wrapOp phO frLow memLow memLow1 objLow memEmpty Low LowL
set_option linter.unusedVariables false
set_option linter.unusedSimpArgs false


theorem Tm.Ok.nm {x : Tm} (h : x.Ok) : x.nm.size ≤ 140737488355328 := by
  obtain ⟨k, n, a, b, vs, xs, cs⟩ := x
  exact h.1.1
theorem Tm.Fit.cs {k n : Int} {a b : ByteArray} {vs : List ByteArray} {xs : List Tm} {cs : List Cs} (h : (Tm.mk k n a b vs xs cs).Fit) : ∀ c ∈ cs, (∀ s ∈ c.2, s.size ≤ 140737488355328) ∧ c.3.Fit := fun c hc => by
  obtain ⟨t, ws, x⟩ := c
  have h1 := Cs.Oks_iff.1 h.ok.2.2.2 _ hc
  exact ⟨h1.1, (h.case hc).1⟩
end Go.Proofs.YtapiiklnnkkdlaaDoor

namespace Go.Proofs.YtapiiklnnkkdlaaDoor
open Go.RowKit
set_option linter.unusedVariables false
set_option linter.unusedSimpArgs false
def Tm.xs : Tm → List Tm
  | .mk _ _ _ _ _ xs _ => xs
def Tm.a0 (t : Tm) : Tm := t.xs.headD t
mutual
def Tm.sr : Tm → List ByteArray → List ByteArray × Tm
  | .mk k n a b vs xs cs, rest => if k = 8 ∧ hasB rest a = true then Tm.srL xs (woN rest [a]) (.mk k n a b vs xs cs) else (rest, .mk k n a b vs xs cs)
def Tm.srL : List Tm → List ByteArray → Tm → List ByteArray × Tm
  | [], rest, t => (rest, t)
  | x :: _, rest, _ => x.sr rest
end
def fuOne (k : Int) (na : Nat) (nm : ByteArray) (ws : List ByteArray) (body : Tm) : Tm :=
  if ws.length ≠ 0 ∧ na = 1 ∧ k = 7 ∧ (body.sr ws).2.tk = 9 ∧ (body.sr ws).2.nm = nm then .mk 10 0 nm .empty ws [cnt 9 (body.sr ws).1 (body.sr ws).2.a0] [] else body
mutual
def Tm.fu : Tm → Tm
  | .mk k n a b vs xs cs => .mk k n a b vs (Tm.fuL xs) (Cs.fuL k xs.length (nmH xs) cs)
def Tm.fuL : List Tm → List Tm
  | [] => []
  | x :: r => x.fu :: Tm.fuL r
def Cs.fuL (k : Int) (na : Nat) (nm : ByteArray) : List Cs → List Cs
  | [] => []
  | c :: r => c.fu k na nm :: Cs.fuL k na nm r
def Cs.fu (k : Int) (na : Nat) (nm : ByteArray) : Cs → Cs
  | .mk t ws y => .mk t ws (fuOne k na nm ws y.fu)
end
theorem Tm.fuL_eq : ∀ l : List Tm, Tm.fuL l = l.map Tm.fu
  | [] => rfl
  | x :: r => by rw [Tm.fuL, Tm.fuL_eq r]; rfl
theorem Cs.fuL_eq (k : Int) (na : Nat) (nm : ByteArray) : ∀ l : List Cs, Cs.fuL k na nm l = l.map (Cs.fu k na nm)
  | [] => rfl
  | x :: r => by rw [Cs.fuL, Cs.fuL_eq k na nm r]; rfl
def Fn.fu (f : Fn) : Fn := ⟨f.name, f.params, f.body.fu⟩
mutual
def Tm.Du : Tm → Prop
  | .mk k _ _ _ _ xs cs => (k = 8 ∨ k = 9 → xs ≠ []) ∧ Tm.DuL xs ∧ Cs.DuL cs
def Tm.DuL : List Tm → Prop
  | [] => True
  | x :: r => x.Du ∧ Tm.DuL r
def Cs.DuL : List Cs → Prop
  | [] => True
  | c :: r => c.Du ∧ Cs.DuL r
def Cs.Du : Cs → Prop
  | .mk _ ws y => ws.length ≤ 6 ∧ y.Du
end
theorem Tm.DuL_iff : ∀ {l : List Tm}, Tm.DuL l ↔ ∀ x ∈ l, x.Du
  | [] => by simp [Tm.DuL]
  | x :: r => by simp [Tm.DuL, Tm.DuL_iff (l := r)]
theorem Cs.DuL_iff : ∀ {l : List Cs}, Cs.DuL l ↔ ∀ x ∈ l, x.Du
  | [] => by simp [Cs.DuL]
  | x :: r => by simp [Cs.DuL, Cs.DuL_iff (l := r)]
theorem Tm.Du.a0 {t : Tm} (h : t.Du) : t.a0.Du := by
  obtain ⟨k, n, a, b, vs, xs, cs⟩ := t
  unfold Tm.a0 Tm.xs
  rcases xs with _ | ⟨x, r⟩
  · exact h
  · exact h.2.1.1
theorem Tm.Ok.a0 {t : Tm} (h : t.Ok) : t.a0.Ok := by
  obtain ⟨k, n, a, b, vs, xs, cs⟩ := t
  unfold Tm.a0 Tm.xs
  rcases xs with _ | ⟨x, r⟩
  · exact h
  · exact h.2.2.1.1

theorem rt_mono : ∀ (d : Nat) (t : Tm) (e : Nat), d ≤ e → t.Rt d → t.Rt e := by
  intro d
  induction d with
  | zero => intro t e _ h; exact h.elim
  | succ d ih =>
    intro t e he h
    obtain ⟨e, rfl⟩ : ∃ e', e = e' + 1 := ⟨e - 1, by omega⟩
    obtain ⟨k, n, a, b, vs, xs, cs⟩ := t
    obtain ⟨h1, h2, h3, h4, h5⟩ := h
    exact ⟨h1, h2, h3, fun x hx => ih x e (by omega) (h4 x hx), fun c hc => ⟨(h5 c hc).1, ih _ e (by omega) (h5 c hc).2⟩⟩
theorem around_rt (d : Nat) : ∀ (bs : Bs) (t : Tm), (∀ b ∈ bs, b.2.Rt d) → t.Rt d → (around bs t).Rt (bs.length + d)
  | [], t, _, h => by simpa [around] using h
  | b :: r, t, hb, h => by
    have h1 := around_rt d r t (fun x hx => hb x (List.mem_cons_of_mem _ hx)) h
    rw [around, List.length_cons, show r.length + 1 + d = (r.length + d) + 1 from by omega]
    refine ⟨by omega, rfl, by simp, fun x hx => ?_, by simp⟩
    rcases List.mem_cons.1 hx with rfl | hx
    · exact rt_mono d _ _ (by omega) (hb b (List.mem_cons_self ..))
    · rw [List.mem_singleton.1 hx]; exact h1
theorem varT_rt (s : ByteArray) (d : Nat) : (varT s).Rt (d + 1) := ⟨by omega, rfl, by simp, by simp, by simp⟩
theorem pl_rt : ∀ (d : Nat) (t : Tm) (c : Int), t.Rt d → (t.pl c).1.Rt (7 * d) := by
  intro d
  induction d with
  | zero => intro t _ h; exact h.elim
  | succ d ih =>
  intro t c hR
  obtain ⟨k, n, a, b, vs, xs, cs⟩ := t
  have hR' := hR
  obtain ⟨hk, hmany, h6, hx, hc⟩ := hR'
  have hA : ∀ (ys : List Tm) (c : Int), (∀ y ∈ ys, y ∈ xs) → (∀ x ∈ (Tm.ats ys c).1, x.Rt (7 * d)) ∧ ∀ b ∈ (Tm.ats ys c).2.1, b.2.Rt (7 * d) := by
    intro ys
    induction ys with
    | nil => intro c _; exact ⟨fun x h => by simp [Tm.ats] at h, fun b h => by simp [Tm.ats] at h⟩
    | cons y r ih2 =>
      intro c hm
      have hy := hx y (hm y (List.mem_cons_self ..))
      have hd0 : 0 < d := by
        rcases d with _ | d
        · exact hy.elim
        · omega
      rw [Tm.ats]
      split
      · obtain ⟨h1, h2⟩ := ih2 c fun z hz => hm z (List.mem_cons_of_mem _ hz)
        refine ⟨fun x hx => ?_, h2⟩
        rcases List.mem_cons.1 hx with rfl | hx
        · exact rt_mono d _ _ (by omega) hy
        · exact h1 x hx
      · obtain ⟨h1, h2⟩ := ih2 (y.pl (wr (c + 1))).2 fun z hz => hm z (List.mem_cons_of_mem _ hz)
        refine ⟨fun x hx => ?_, fun b hb => ?_⟩
        · rcases List.mem_cons.1 hx with rfl | hx
          · rw [show 7 * d = (7 * d - 1) + 1 from by omega]
            exact varT_rt _ _
          · exact h1 x hx
        · rcases List.mem_cons.1 hb with rfl | hb
          · exact ih y _ hy
          · exact h2 b hb
  have hL : ∀ (ys : List Tm) (c : Int), (∀ y ∈ ys, y ∈ xs) → (∀ x ∈ (Tm.plL ys c).1, x.Rt (7 * d)) ∧ (Tm.plL ys c).1.length = ys.length := by
    intro ys
    induction ys with
    | nil => intro c _; exact ⟨fun x h => by simp [Tm.plL] at h, rfl⟩
    | cons y r ih2 =>
      intro c hm
      obtain ⟨h1, h2⟩ := ih2 (y.pl c).2 fun z hz => hm z (List.mem_cons_of_mem _ hz)
      rw [Tm.plL]
      refine ⟨fun x hx' => ?_, by simp [h2]⟩
      rcases List.mem_cons.1 hx' with rfl | hx'
      · exact ih y c (hx y (hm y (List.mem_cons_self ..)))
      · exact h1 x hx'
  have hC : ∀ (ys : List Cs) (c : Int), (∀ y ∈ ys, y ∈ cs) → (∀ x ∈ (Cs.plL ys c).1, x.2.length ≤ 6 ∧ x.3.Rt (7 * d)) ∧ (Cs.plL ys c).1.length = ys.length := by
    intro ys
    induction ys with
    | nil => intro c _; exact ⟨fun x h => by simp [Cs.plL] at h, rfl⟩
    | cons y r ih2 =>
      intro c hm
      obtain ⟨h1, h2⟩ := ih2 (y.pl c).2 fun z hz => hm z (List.mem_cons_of_mem _ hz)
      obtain ⟨g1, g2⟩ := hc y (hm y (List.mem_cons_self ..))
      obtain ⟨t, ws, y⟩ := y
      rw [Cs.plL]
      refine ⟨fun x hx' => ?_, by simp [h2]⟩
      rcases List.mem_cons.1 hx' with rfl | hx'
      · rw [Cs.pl]; exact ⟨g1, ih y c g2⟩
      · exact h1 x hx'
  have hbl := ats_blen xs c
  have hvl := ats_len xs c
  obtain ⟨hv, hb⟩ := hA xs c fun _ h => h
  have hxs : xs.length + cs.length ≤ 6 := h6
  rw [Tm.pl]
  split
  · rename_i hk3
    have hcs : cs = [] := by
      unfold manyB at hmany
      rcases hk3 with rfl | rfl | rfl <;> simp at hmany <;> exact hmany.2
    subst hcs
    have hN : (Tm.mk k n a .empty [] (Tm.ats xs c).1 []).Rt (7 * d + 1) := ⟨hk, by rw [hvl]; exact hmany, by rw [hvl]; exact h6, hv, by simp⟩
    exact rt_mono _ _ _ (by omega) (around_rt (7 * d + 1) _ _ (fun b hb' => rt_mono _ _ _ (by omega) (hb b hb')) hN)
  split
  · rename_i hk6
    subst hk6
    have hx2 : xs.length = 2 ∧ cs = [] := by
      unfold manyB at hmany
      simp at hmany
      exact hmany
    obtain ⟨g1, g2⟩ := hL xs c fun _ h => h
    refine rt_mono (7 * d + 1) _ _ (by omega) ⟨hk, ?_, by rw [g2]; simp; omega, g1, by simp⟩
    rw [g2, hx2.1]; rfl
  split
  · rename_i hk7
    subst hk7
    obtain ⟨g1, g2⟩ := hC cs (Tm.ats xs c).2.2 fun _ h => h
    have hN : (Tm.mk 7 0 .empty .empty [] (Tm.ats xs c).1 (Cs.plL cs (Tm.ats xs c).2.2).1).Rt (7 * d + 1) := ⟨hk, by rw [hvl, g2]; exact hmany, by rw [hvl, g2]; exact h6, hv, g1⟩
    have hx1 : xs.length = 1 := by
      unfold manyB at hmany
      simp at hmany
      exact hmany
    exact rt_mono _ _ _ (by omega) (around_rt (7 * d + 1) _ _ (fun b hb' => rt_mono _ _ _ (by omega) (hb b hb')) hN)
  · exact rt_mono (d + 1) _ _ (by omega) hR
theorem sz_pos (t : Tm) : 1 ≤ t.sz := by obtain ⟨k, n, a, b, vs, xs, cs⟩ := t; simp only [Tm.sz]; omega
mutual
theorem Tm.rn_sz : ∀ (t : Tm) (ps : Ps) (c : Int), (t.rn ps c).1.sz ≤ t.sz
  | .mk k n a b vs xs cs, ps, c => by
    have h1 := Tm.rns_sz k a ps 0 xs a c
    have h2 := Cs.rnL_sz cs ps (Tm.rns k a ps 0 xs a c).2.2
    rw [Tm.rn]
    split
    · simp only [Tm.sz, Tm.szs, Cs.szs]; omega
    · simp only [Tm.sz]; omega
theorem Tm.rns_sz (k : Int) (a : ByteArray) (ps : Ps) : ∀ (i : Nat) (l : List Tm) (nm : ByteArray) (c : Int), Tm.szs (Tm.rns k a ps i l nm c).1 ≤ Tm.szs l
  | _, [], _, _ => by simp [Tm.rns, Tm.szs]
  | i, x :: r, nm, c => by
    rw [Tm.rns]
    split
    · have h1 := Tm.rn_sz x (ps ++ [(a, vNm (wr (c + 1)))]) (wr (c + 1))
      have h2 := Tm.rns_sz k a ps (i + 1) r (vNm (wr (c + 1))) (x.rn (ps ++ [(a, vNm (wr (c + 1)))]) (wr (c + 1))).2
      simp only [Tm.szs]; omega
    · have h1 := Tm.rn_sz x ps c
      have h2 := Tm.rns_sz k a ps (i + 1) r nm (x.rn ps c).2
      simp only [Tm.szs]; omega
theorem Cs.rnL_sz : ∀ (l : List Cs) (ps : Ps) (c : Int), Cs.szs (Cs.rnL l ps c).1 ≤ Cs.szs l
  | [], _, _ => by simp [Cs.rnL, Cs.szs]
  | x :: r, ps, c => by
    have h1 := Cs.rn_sz x ps c
    have h2 := Cs.rnL_sz r ps (x.rn ps c).2
    rw [Cs.rnL]
    simp only [Cs.szs]; omega
theorem Cs.rn_sz : ∀ (d : Cs) (ps : Ps) (c : Int), (d.rn ps c).1.sz ≤ d.sz
  | .mk t ws y, ps, c => by
    have := Tm.rn_sz y (ps ++ ws.zip (freshL ws c)) (freshC ws c)
    rw [Cs.rn]
    simp only [Cs.sz]; omega
end

theorem digit_byte (u : Nat) : ∀ b ∈ Lib.decDigits u, 48 ≤ b.toNat ∧ b.toNat ≤ 57 := by
  induction u using Nat.strongRecOn with
  | _ u ih =>
    by_cases h : u < 10
    · rw [Lib.decDigits, dif_pos h]
      intro b hb
      rw [List.mem_singleton.1 hb, UInt8.toNat_ofNat']
      omega
    · rw [Lib.decDigits, dif_neg h]
      intro b hb
      rcases List.mem_append.1 hb with hb | hb
      · exact ih (u / 10) (by omega) b hb
      · rw [List.mem_singleton.1 hb, UInt8.toNat_ofNat']
        omega
theorem digits_len : ∀ (n u : Nat), u < 10 ^ (n + 1) → (Lib.decDigits u).length ≤ n + 1
  | 0, u, h => by
    rw [Lib.decDigits, dif_pos (by omega)]; simp
  | n + 1, u, h => by
    by_cases h1 : u < 10
    · rw [Lib.decDigits, dif_pos h1]; simp
    · have := digits_len n (u / 10) (by rw [Nat.pow_succ] at h; omega)
      rw [Lib.decDigits, dif_neg h1, List.length_append, List.length_singleton]
      omega
theorem nameB_mk {c : UInt8} {l : List UInt8} (hc : 97 ≤ c.toNat ∧ c.toNat ≤ 122) (hl : ∀ b ∈ l, 48 ≤ b.toNat ∧ b.toNat ≤ 57) (h7 : l.length ≤ 7) : nameB ⟨(c :: l).toArray⟩ = true := by
  have hs : (⟨(c :: l).toArray⟩ : ByteArray).size = l.length + 1 := by simp [ByteArray.size]
  unfold nameB
  rw [Bool.and_eq_true, List.all_eq_true, Bool.and_eq_true, decide_eq_true_eq, decide_eq_true_eq, hs]
  refine ⟨fun j hj => ?_, by omega, by omega⟩
  have hg : (⟨(c :: l).toArray⟩ : ByteArray)[j]? = (c :: l)[j]? := by
    by_cases hj2 : j < l.length + 1
    · rw [getElem?_pos _ _ (by rw [hs]; exact hj2), List.getElem?_eq_getElem (by simpa using hj2)]
      rfl
    · rw [getElem?_neg _ _ (by rw [hs]; exact hj2), List.getElem?_eq_none (by simp; omega)]
  rw [hg]
  rcases j with _ | j
  · simp only [List.getElem?_cons_zero]
    unfold chOk
    simp
    omega
  · rw [List.getElem?_cons_succ]
    cases hq : l[j]? with
    | none => rfl
    | some b =>
      have := hl b (List.mem_of_getElem? hq)
      simp only
      unfold chOk
      simp
      omega
theorem itoa_small {i : Int} (h : 0 ≤ i) (h2 : i ≤ 9999999) : (∀ b ∈ Lib.itoa i, 48 ≤ b.toNat ∧ b.toNat ≤ 57) ∧ (Lib.itoa i).length ≤ 7 := by
  unfold Lib.itoa
  rw [if_neg (by omega)]
  exact ⟨digit_byte _, digits_len 6 _ (by omega)⟩
theorem vNm_mk (i : Int) : vNm i = ⟨(118 :: Lib.itoa i).toArray⟩ := by
  unfold vNm itoaB
  apply ByteArray.ext
  rw [ByteArray.data_append]
  simp
theorem wNm_mk (i : Int) : wNm i = ⟨(119 :: Lib.itoa i).toArray⟩ := by
  unfold wNm itoaB
  apply ByteArray.ext
  rw [ByteArray.data_append]
  simp
theorem vNm_name {i : Int} (h : 0 ≤ i) (h2 : i ≤ 9999999) : nameB (vNm i) = true := by
  rw [vNm_mk]
  exact nameB_mk (by decide) (itoa_small h h2).1 (itoa_small h h2).2
theorem wNm_name {i : Int} (h : 0 ≤ i) (h2 : i ≤ 9999999) : nameB (wNm i) = true := by
  rw [wNm_mk]
  exact nameB_mk (by decide) (itoa_small h h2).1 (itoa_small h h2).2
theorem vNm_ne_wNm (i j : Int) : vNm i ≠ wNm j := by
  rw [vNm_mk, wNm_mk]
  intro h
  have := congrArg (fun x : ByteArray => x.data.toList) h
  simp at this
theorem wNm_inj {a b : Int} (ha : 0 ≤ a) (hb : 0 ≤ b) (h : wNm a = wNm b) : a = b := itoaB_inj ha hb (append_left_inj h)
theorem twB_of {l : List ByteArray} (h : l.Nodup) : twB l = false := by
  refine twB_no fun j hj x hx => ?_
  cases hq : hasB (l.take j) x with
  | false => rfl
  | true =>
    exfalso
    have h1 := hasB_iff.1 hq
    obtain ⟨i, hi, e⟩ := List.mem_take_iff_getElem.1 h1
    have h2 := List.getElem?_eq_some_iff.1 hx
    obtain ⟨h3, h4⟩ := h2
    have := (List.getElem_inj h).1 (e.trans h4.symm)
    omega
theorem seqV_bad {c : Int} {n : Nat} (h : 0 ≤ c) (h2 : c + n ≤ 9999999) : badB (seqV c n) = false := by
  unfold badB
  rw [List.any_eq_false]
  intro s hs
  unfold seqV at hs
  obtain ⟨i, hi, rfl⟩ := List.mem_map.1 hs
  have := List.mem_range.1 hi
  rw [vNm_name (by omega) (by omega)]
  simp
theorem wrong_mk {f : Arity} {k n : Int} {a b : ByteArray} {vs names : List ByteArray} {xs : List Tm} {cs : List Cs} {deep : Int} (h1 : deep ≤ 24) (h2 : 1 ≤ k) (h3 : k ≤ 7) (h4 : manyB k xs.length cs.length = false) (h5 : headE f k n a names xs.length = 0)
    (h6 : Tm.wrongs f k a names deep 0 xs = 0) (h7 : k = 7 → cs.length ≠ 0 ∧ cs.length ≤ 5 ∧ Cs.wrongs f names deep [] cs = 0) : (Tm.mk k n a b vs xs cs).wrong f names deep = 0 := by
  rw [Tm.wrong, if_neg (by omega), if_neg (by omega), h4, if_neg (by simp), if_neg (by rw [h5]; simp), if_neg (by rw [h6]; simp)]
  by_cases hk : k = 7
  · obtain ⟨g1, g2, g3⟩ := h7 hk
    rw [if_neg (by omega), if_neg (by omega), g3]
  · rw [if_pos hk]
theorem wrongs_cons {f : Arity} {k : Int} {a : ByteArray} {names : List ByteArray} {deep : Int} {i : Nat} {x : Tm} {r : List Tm} : Tm.wrongs f k a names deep i (x :: r) = 0 ↔ x.wrong f (if k = 6 ∧ i = 1 then names ++ [a] else names) (deep + 1) = 0 ∧ Tm.wrongs f k a names deep (i + 1) r = 0 := by
  rw [Tm.wrongs]
  by_cases h : x.wrong f (if k = 6 ∧ i = 1 then names ++ [a] else names) (deep + 1) = 0
  · rw [if_neg (fun e => e h)]
    exact ⟨fun e => ⟨h, e⟩, fun e => e.2⟩
  · rw [if_pos h]
    exact ⟨fun e => absurd e h, fun e => absurd e.1 h⟩
theorem cwrongs_cons {f : Arity} {names : List ByteArray} {deep : Int} {had : List Int} {t : Int} {ws : List ByteArray} {y : Tm} {r : List Cs} : Cs.wrongs f names deep had (.mk t ws y :: r) = 0 ↔
    ((¬ (t < 0 ∨ 9 < t)) ∧ had.contains t = false ∧ twB ws = false ∧ badB ws = false ∧ ws.length ≤ 6 ∧ y.wrong f (names ++ ws) (deep + 1) = 0) ∧ Cs.wrongs f names deep (t :: had) r = 0 := by
  have key : Cs.wrongC f names deep had (.mk t ws y) = 0 ↔ ((¬ (t < 0 ∨ 9 < t)) ∧ had.contains t = false ∧ twB ws = false ∧ badB ws = false ∧ ws.length ≤ 6 ∧ y.wrong f (names ++ ws) (deep + 1) = 0) := by
    rw [Cs.wrongC]
    by_cases g1 : t < 0 ∨ 9 < t
    · rw [if_pos g1]; exact ⟨fun e => by omega, fun e => absurd g1 e.1⟩
    rw [if_neg g1]
    by_cases g2 : (had.contains t || twB ws || badB ws) = true
    · rw [if_pos g2]
      refine ⟨fun e => by omega, fun e => ?_⟩
      rw [e.2.1, e.2.2.1, e.2.2.2.1] at g2
      simp at g2
    rw [if_neg g2]
    simp only [Bool.or_eq_true, not_or, Bool.not_eq_true] at g2
    by_cases g3 : 6 < ws.length
    · rw [if_pos g3]; exact ⟨fun e => by omega, fun e => absurd e.2.2.2.2.1 (by omega)⟩
    rw [if_neg g3]
    exact ⟨fun e => ⟨g1, g2.1.1, g2.1.2, g2.2, by omega, e⟩, fun e => e.2.2.2.2.2⟩
  rw [Cs.wrongs]
  by_cases h : Cs.wrongC f names deep had (.mk t ws y) = 0
  · rw [if_neg (fun e => e h)]
    exact ⟨fun e => ⟨key.1 h, e⟩, fun e => e.2⟩
  · rw [if_pos h]
    exact ⟨fun e => absurd e h, fun e => absurd (key.2 e.1) h⟩
theorem nowP_add (ps : Ps) (p : ByteArray × ByteArray) (s : ByteArray) : nowP (ps ++ [p]) s = if p.1 = s then p.2 else nowP ps s := by
  unfold nowP
  rw [List.foldl_append]
  rfl
def RnR (names names' : List ByteArray) (ps : Ps) : Prop := ∀ s ∈ names, nowP ps s ∈ names'
theorem RnR.one {names names' : List ByteArray} {ps : Ps} (h : RnR names names' ps) (a v : ByteArray) : RnR (names ++ [a]) (names' ++ [v]) (ps ++ [(a, v)]) := fun s hs => by
  rw [nowP_add]
  split
  · exact List.mem_append_right _ (List.mem_singleton.2 rfl)
  · rename_i hne
    rcases List.mem_append.1 hs with hs | hs
    · exact List.mem_append_left _ (h s hs)
    · exact absurd (List.mem_singleton.1 hs).symm hne
theorem RnR.more {names names' : List ByteArray} {ps : Ps} (h : RnR names names' ps) : ∀ (ws vs : List ByteArray), ws.length = vs.length → RnR (names ++ ws) (names' ++ vs) (ps ++ ws.zip vs) := by
  intro ws
  induction ws generalizing names names' ps with
  | nil =>
    intro vs hl
    rcases vs with _ | ⟨v, vs⟩
    · simpa using h
    · simp at hl
  | cons w ws ih =>
    intro vs hl
    rcases vs with _ | ⟨v, vs⟩
    · simp at hl
    · have := ih (h.one w v) vs (by simpa using hl)
      simpa [List.append_assoc] using this
theorem rn_wrong (A : Arity) : ∀ (d : Nat) (t : Tm) (names names' : List ByteArray) (ps : Ps) (c deep : Int), t.Rt d → t.wrong A names deep = 0 → 0 ≤ c → c + t.bd.length ≤ 9999999 → RnR names names' ps → (t.rn ps c).1.wrong A names' deep = 0 := by
  intro d
  induction d with
  | zero => intro t _ _ _ _ _ h; exact h.elim
  | succ d ih =>
  intro t names names' ps c deep hR hw h0 hb hr
  have hbd := bd_rn (d + 1) t ps c hR h0 (by omega)
  obtain ⟨k, n, a, b, vs, xs, cs⟩ := t
  have hR' := hR
  obtain ⟨hk, hmany, _, hx, hc⟩ := hR'
  obtain ⟨h1, h2, h3, h4, h5, h6, h7⟩ := wrong_zero hw
  rw [Tm.rn]
  by_cases hk1 : k = 1
  · subst hk1
    rw [if_pos rfl]
    unfold manyB at hmany
    simp at hmany
    obtain ⟨rfl, rfl⟩ := hmany
    refine wrong_mk h1 h2 h3 h4 ?_ rfl (fun h => by omega)
    unfold headE at h5 ⊢
    rw [if_pos rfl] at h5 ⊢
    split at h5
    · rename_i hh
      rw [if_pos (hasB_iff.2 (hr a (hasB_iff.1 hh)))]
    · cases h5
  rw [if_neg hk1]
  by_cases hk6 : k = 6
  · obtain ⟨x, y, rfl, rfl⟩ := rt_let hR hk6
    subst hk6
    have hl : (Tm.mk 6 n a b vs [x, y] []).bd.length = x.bd.length + (1 + y.bd.length) := by simp [Tm.bd, Tm.bdL, Cs.bdL]; omega
    rw [hl] at hb
    push_cast at hb
    rw [wrongs_cons, wrongs_cons, if_neg (by omega), if_pos (by omega)] at h6
    obtain ⟨_, e2⟩ := bd_rn d x ps c (hx x (by simp)) h0 (by omega)
    have hw1 : wr (c + x.bd.length + 1) = c + x.bd.length + 1 := wr_of (by omega) (by omega)
    have g1 := ih x names names' ps c (deep + 1) (hx x (by simp)) h6.1 h0 (by omega) hr
    have g2 := ih y (names ++ [a]) (names' ++ [vNm (c + x.bd.length + 1)]) (ps ++ [(a, vNm (c + x.bd.length + 1))]) (c + x.bd.length + 1) (deep + 1) (hx y (by simp)) h6.2.1 (by omega) (by omega) (hr.one a _)
    have hE : Tm.rns 6 a ps 0 [x, y] a c = ([(x.rn ps c).1, (y.rn (ps ++ [(a, vNm (c + x.bd.length + 1))]) (c + x.bd.length + 1)).1], vNm (c + x.bd.length + 1), (y.rn (ps ++ [(a, vNm (c + x.bd.length + 1))]) (c + x.bd.length + 1)).2) := by simp [Tm.rns, e2, hw1]
    rw [hE, Cs.rnL]
    dsimp only
    refine wrong_mk h1 h2 h3 rfl ?_ ?_ (fun h => by omega)
    · unfold headE
      rw [if_neg (by omega), if_neg (by omega), if_neg (by omega), if_neg (by omega), if_pos rfl, vNm_name (by omega) (by omega)]
      rfl
    · rw [wrongs_cons, wrongs_cons, if_neg (by omega), if_pos (by omega)]
      exact ⟨g1, g2, rfl⟩
  · have hL : ∀ (ys : List Tm) (i : Nat) (nm : ByteArray) (c : Int), (∀ y ∈ ys, y ∈ xs) → Tm.wrongs A k a names deep i ys = 0 → 0 ≤ c → c + (Tm.bdL ys).length ≤ 9999999 → (∀ a', Tm.wrongs A k a' names' deep i (Tm.rns k a ps i ys nm c).1 = 0) ∧ (Tm.rns k a ps i ys nm c).1.length = ys.length ∧ (Tm.rns k a ps i ys nm c).2.2 = c + (Tm.bdL ys).length := by
      intro ys
      induction ys with
      | nil => intro i nm c _ _ _ _; exact ⟨fun _ => rfl, rfl, by simp [Tm.rns, Tm.bdL]⟩
      | cons y r ih2 =>
        intro i nm c hm hwr h0 hb
        rw [Tm.bdL, List.length_append] at hb ⊢
        push_cast at hb ⊢
        rw [wrongs_cons, if_neg (fun h => hk6 h.1)] at hwr
        have hy := hx y (hm y (List.mem_cons_self ..))
        obtain ⟨_, e2⟩ := bd_rn d y ps c hy h0 (by omega)
        obtain ⟨g1, g2, g3⟩ := ih2 (i + 1) nm (c + y.bd.length) (fun z hz => hm z (List.mem_cons_of_mem _ hz)) hwr.2 (by omega) (by omega)
        rw [Tm.rns, if_neg fun h => hk6 h.1, e2]
        refine ⟨fun a' => ?_, by simp [g2], by dsimp only; rw [g3]; omega⟩
        rw [wrongs_cons, if_neg (fun h => hk6 h.1)]
        exact ⟨ih y names names' ps c (deep + 1) hy hwr.1 h0 (by omega) hr, g1 a'⟩
    have hC : k = 7 → ∀ (ys : List Cs) (had : List Int) (c : Int), (∀ y ∈ ys, y ∈ cs) → Cs.wrongs A names deep had ys = 0 → 0 ≤ c → c + (Cs.bdL ys).length ≤ 9999999 → Cs.wrongs A names' deep had (Cs.rnL ys ps c).1 = 0 ∧ (Cs.rnL ys ps c).1.length = ys.length := by
      intro hk7 ys
      induction ys with
      | nil => intro had c _ _ _ _; exact ⟨rfl, rfl⟩
      | cons y r ih2 =>
        intro had c hm hwr h0 hb
        have hy := hm y (List.mem_cons_self ..)
        obtain ⟨t, ws, y⟩ := y
        rw [Cs.bdL, Cs.bd, List.length_append, List.length_append] at hb
        push_cast at hb
        rw [cwrongs_cons] at hwr
        obtain ⟨⟨w1, w2, w3, w4, w5, w6⟩, w7⟩ := hwr
        obtain ⟨e1, e2⟩ := freshL_seq ws c h0 (by omega)
        obtain ⟨_, e3⟩ := bd_rn d y (ps ++ ws.zip (freshL ws c)) (c + ws.length) (hc _ hy).2 (by omega) (by omega)
        obtain ⟨g1, g2⟩ := ih2 (t :: had) (c + ws.length + y.bd.length) (fun z hz => hm z (List.mem_cons_of_mem _ hz)) w7 (by omega) (by omega)
        have g3 := ih y (names ++ ws) (names' ++ freshL ws c) (ps ++ ws.zip (freshL ws c)) (c + ws.length) (deep + 1) (hc _ hy).2 w6 (by omega) (by omega) (hr.more ws _ (freshL_len ws c).symm)
        rw [Cs.rnL, Cs.rn, e2, e3]
        refine ⟨?_, by simp [g2]⟩
        dsimp only
        rw [cwrongs_cons]
        exact ⟨⟨w1, w2, by rw [e1]; exact twB_of (seqV_nodup h0 _), by rw [e1]; exact seqV_bad h0 (by omega), by rw [freshL_len]; exact w5, g3⟩, g1⟩
    have hl : (Tm.mk k n a b vs xs cs).bd.length = (Tm.bdL xs).length + (Cs.bdL cs).length := by simp [Tm.bd, hk6]
    rw [hl] at hb
    push_cast at hb
    obtain ⟨g1, g2, g3⟩ := hL xs 0 a c (fun _ h => h) h6 h0 (by omega)
    have hno := rns_no hk6 a ps xs 0 a c
    rw [hno, g3]
    by_cases hk7 : k = 7
    · obtain ⟨q1, q2, q3⟩ := h7 hk7
      obtain ⟨g4, g5⟩ := hC hk7 cs [] (c + (Tm.bdL xs).length) (fun _ h => h) q3 (by omega) (by omega)
      refine wrong_mk h1 h2 h3 (by rw [g2, g5]; exact h4) ?_ (g1 a) (fun _ => ⟨by rw [g5]; exact q1, by rw [g5]; exact q2, g4⟩)
      subst hk7
      rfl
    · have hcs : cs = [] := by
        unfold manyB at hmany
        simp only [Bool.or_eq_false_iff, Bool.and_eq_false_iff, decide_eq_false_iff_not] at hmany
        rcases hmany.2 with h | h
        · exact absurd hk7 h
        · exact List.eq_nil_of_length_eq_zero (by omega)
      subst hcs
      refine wrong_mk h1 h2 h3 (by rw [g2]; exact h4) ?_ (g1 a) (fun h => absurd h hk7)
      rw [g2]
      unfold headE at h5 ⊢
      rw [if_neg hk1] at h5 ⊢
      exact h5
theorem var_wrong {A : Arity} {names names' : List ByteArray} {deep deep' : Int} {t : Tm} {d : Nat} (hR : t.Rt d) (h1 : t.tk = 1) (hw : t.wrong A names deep = 0) (hn : ∀ s ∈ names, s ∈ names') (hd : deep' ≤ 24) : t.wrong A names' deep' = 0 := by
  obtain ⟨k, n, a, b, vs, xs, cs⟩ := t
  simp only [Tm.tk] at h1
  subst h1
  rcases d with _ | d
  · exact hR.elim
  obtain ⟨_, hmany, _⟩ := hR
  obtain ⟨_, h2, h3, h4, h5, _⟩ := wrong_zero hw
  unfold manyB at hmany
  simp at hmany
  obtain ⟨rfl, rfl⟩ := hmany
  refine wrong_mk hd h2 h3 h4 ?_ rfl (fun h => by omega)
  unfold headE at h5 ⊢
  rw [if_pos rfl] at h5 ⊢
  split at h5
  · rename_i hh
    rw [if_pos (hasB_iff.2 (hn a (hasB_iff.1 hh)))]
  · cases h5
theorem varT_wrong {A : Arity} {names : List ByteArray} {deep : Int} {s : ByteArray} (h : s ∈ names) (hd : deep ≤ 24) : (varT s).wrong A names deep = 0 := by
  refine wrong_mk hd (by omega) (by omega) rfl ?_ rfl (fun h => by omega)
  unfold headE
  rw [if_pos rfl, if_pos (hasB_iff.2 h)]
theorem pl_cnt : ∀ (d : Nat) (t : Tm) (c : Int), t.Rt d → 0 ≤ c → c + t.sz < 9223372036854775807 → c ≤ (t.pl c).2 ∧ (t.pl c).2 + 1 ≤ c + t.sz := by
  intro d
  induction d with
  | zero => intro t _ h; exact h.elim
  | succ d ih =>
  intro t c hR h0 hb
  obtain ⟨k, n, a, b, vs, xs, cs⟩ := t
  obtain ⟨_, _, _, hx, hc⟩ := hR
  simp only [Tm.sz] at hb ⊢
  push_cast at hb ⊢
  have hA : ∀ (ys : List Tm) (c : Int), (∀ y ∈ ys, y ∈ xs) → 0 ≤ c → c + 1 + (Tm.szs ys : Nat) < 9223372036854775807 → c ≤ (Tm.ats ys c).2.2 ∧ (Tm.ats ys c).2.2 ≤ c + (Tm.szs ys : Nat) := by
    intro ys
    induction ys with
    | nil => intro c _ _ _; simp [Tm.ats, Tm.szs]
    | cons y r ih2 =>
      intro c hm h0 hb
      simp only [Tm.szs] at hb ⊢
      push_cast at hb ⊢
      have hsz := sz_pos y
      have hw : wr (c + 1) = c + 1 := wr_of (by omega) (by omega)
      rw [Tm.ats]
      split
      · have := ih2 c (fun z hz => hm z (List.mem_cons_of_mem _ hz)) h0 (by omega)
        dsimp only; omega
      · have h2 := ih y (c + 1) (hx y (hm y (List.mem_cons_self ..))) (by omega) (by omega)
        rw [hw]
        have := ih2 (y.pl (c + 1)).2 (fun z hz => hm z (List.mem_cons_of_mem _ hz)) (by omega) (by omega)
        dsimp only; omega
  have hL : ∀ (ys : List Tm) (c : Int), (∀ y ∈ ys, y ∈ xs) → 0 ≤ c → c + (Tm.szs ys : Nat) < 9223372036854775807 → c ≤ (Tm.plL ys c).2 ∧ (Tm.plL ys c).2 ≤ c + (Tm.szs ys : Nat) := by
    intro ys
    induction ys with
    | nil => intro c _ _ _; simp [Tm.plL, Tm.szs]
    | cons y r ih2 =>
      intro c hm h0 hb
      simp only [Tm.szs] at hb ⊢
      push_cast at hb ⊢
      have h1 := ih y c (hx y (hm y (List.mem_cons_self ..))) h0 (by omega)
      have := ih2 (y.pl c).2 (fun z hz => hm z (List.mem_cons_of_mem _ hz)) (by omega) (by omega)
      rw [Tm.plL]
      dsimp only; omega
  have hC : ∀ (ys : List Cs) (c : Int), (∀ y ∈ ys, y ∈ cs) → 0 ≤ c → c + (Cs.szs ys : Nat) < 9223372036854775807 → c ≤ (Cs.plL ys c).2 ∧ (Cs.plL ys c).2 ≤ c + (Cs.szs ys : Nat) := by
    intro ys
    induction ys with
    | nil => intro c _ _ _; simp [Cs.plL, Cs.szs]
    | cons y r ih2 =>
      intro c hm h0 hb
      have hy := hc y (hm y (List.mem_cons_self ..))
      obtain ⟨t, ws, y⟩ := y
      simp only [Cs.szs, Cs.sz] at hb ⊢
      push_cast at hb ⊢
      have h1 := ih y c hy.2 h0 (by omega)
      have := ih2 (y.pl c).2 (fun z hz => hm z (List.mem_cons_of_mem _ hz)) (by omega) (by omega)
      rw [Cs.plL, Cs.pl]
      dsimp only; omega
  rw [Tm.pl]
  split
  · have := hA xs c (fun _ h => h) h0 (by omega)
    dsimp only; omega
  split
  · have := hL xs c (fun _ h => h) h0 (by omega)
    dsimp only; omega
  split
  · have h1 := hA xs c (fun _ h => h) h0 (by omega)
    have := hC cs (Tm.ats xs c).2.2 (fun _ h => h) (by omega) (by omega)
    dsimp only; omega
  · dsimp only; omega
theorem pl_wrong (A : Arity) : ∀ (d : Nat) (t : Tm) (names names' : List ByteArray) (c deep deep' : Int), t.Rt d → t.wrong A names deep = 0 → (∀ s ∈ names, s ∈ names') → 0 ≤ c → c + t.sz ≤ 9999999 → deep' ≤ 24 - 7 * (d : Int) → (t.pl c).1.wrong A names' deep' = 0 := by
  intro d
  induction d with
  | zero => intro t _ _ _ _ _ h; exact h.elim
  | succ d ih =>
  intro t names names' c deep deep' hR hw hn h0 hb hd
  have hR2 := hR
  obtain ⟨k, n, a, b, vs, xs, cs⟩ := t
  obtain ⟨hk, hmany, h6c, hx, hc⟩ := hR
  obtain ⟨h1, h2, h3, h4, h5, h6, h7⟩ := wrong_zero hw
  simp only [Tm.sz] at hb
  push_cast at hb hd
  -- what lies around
  have hA : ∀ (ys : List Tm) (i : Nat) (c : Int) (names' : List ByteArray) (deep' : Int), (∀ y ∈ ys, y ∈ xs) → k ≠ 6 → Tm.wrongs A k a names deep i ys = 0 → (∀ s ∈ names, s ∈ names') → 0 ≤ c → c + 1 + (Tm.szs ys : Nat) ≤ 9999999 → deep' + ys.length ≤ 24 - 7 * (d : Int) →
      ∀ inner : Tm, (∀ (names'' : List ByteArray) (deep'' : Int), (∀ s ∈ names', s ∈ names'') → deep'' ≤ deep' + ys.length → (∀ (x : Tm), x ∈ (Tm.ats ys c).1 → ∀ deep ≤ 24, x.wrong A names'' deep = 0) → inner.wrong A names'' deep'' = 0) → (around (Tm.ats ys c).2.1 inner).wrong A names' deep' = 0 := by
    intro ys
    induction ys with
    | nil => intro i c names' deep' _ _ _ _ _ _ _ inner hi; exact hi names' deep' (fun _ h => h) (by simp) (fun x h => by simp [Tm.ats] at h)
    | cons y r ih2 =>
      intro i c names' deep' hm hk6 hwr hn h0 hb hd inner hi
      simp only [Tm.szs] at hb
      rw [List.length_cons] at hd hi
      push_cast at hb hd hi
      rw [wrongs_cons, if_neg (fun h => hk6 h.1)] at hwr
      have hy := hx y (hm y (List.mem_cons_self ..))
      have hsz := sz_pos y
      rw [Tm.ats] at hi ⊢
      by_cases hv : y.tk = 1
      · rw [if_pos hv] at hi ⊢
        dsimp only at hi ⊢
        refine ih2 (i + 1) c names' deep' (fun z hz => hm z (List.mem_cons_of_mem _ hz)) hk6 hwr.2 hn h0 (by omega) (by omega) inner fun names'' deep'' g1 g2 g3 => ?_
        refine hi names'' deep'' g1 (by omega) fun x hx' e he => ?_
        rcases List.mem_cons.1 hx' with rfl | hx'
        · exact var_wrong hy hv hwr.1 (fun s hs => g1 s (hn s hs)) he
        · exact g3 x hx' e he
      · rw [if_neg hv] at hi ⊢
        have hw1 : wr (c + 1) = c + 1 := wr_of (by omega) (by omega)
        rw [hw1] at hi ⊢
        have hcn := pl_cnt d y (c + 1) hy (by omega) (by omega)
        dsimp only at hi ⊢
        rw [around]
        have hy1 := ih y names names' (c + 1) (deep + 1) (deep' + 1) hy hwr.1 hn (by omega) (by omega) (by omega)
        refine wrong_mk (by omega) (by omega) (by omega) rfl ?_ ?_ (fun h => by omega)
        · unfold headE
          rw [if_neg (by omega), if_neg (by omega), if_neg (by omega), if_neg (by omega), if_pos rfl, wNm_name (by omega) (by omega)]
          rfl
        · rw [wrongs_cons, wrongs_cons, if_neg (by omega), if_pos (by omega)]
          refine ⟨hy1, ?_, rfl⟩
          refine ih2 (i + 1) (y.pl (c + 1)).2 (names' ++ [wNm (c + 1)]) (deep' + 1) (fun z hz => hm z (List.mem_cons_of_mem _ hz)) hk6 hwr.2 (fun s hs => List.mem_append_left _ (hn s hs)) (by omega) (by omega) (by omega) inner fun names'' deep'' g1 g2 g3 => ?_
          refine hi names'' deep'' (fun s hs => g1 s (List.mem_append_left _ hs)) (by omega) fun x hx' e he => ?_
          rcases List.mem_cons.1 hx' with rfl | hx'
          · exact varT_wrong (g1 _ (List.mem_append_right _ (List.mem_singleton.2 rfl))) he
          · exact g3 x hx' e he
  have hall : ∀ (names'' : List ByteArray) (a' : ByteArray) (deep : Int) (l : List Tm) (i : Nat), k ≠ 6 → (∀ x ∈ l, ∀ deep ≤ 24, x.wrong A names'' deep = 0) → deep + 1 ≤ 24 → Tm.wrongs A k a' names'' deep i l = 0 := by
    intro names'' a' deep l
    induction l with
    | nil => intro _ _ _ _; rfl
    | cons x r ih2 =>
      intro i hk6 hl hd
      rw [wrongs_cons, if_neg (fun h => hk6 h.1)]
      exact ⟨hl x (List.mem_cons_self ..) _ hd, ih2 (i + 1) hk6 (fun z hz => hl z (List.mem_cons_of_mem _ hz)) hd⟩
  have hlen := ats_len xs c
  have hxl : (xs.length : Int) ≤ 6 := by omega
  rw [Tm.pl]
  by_cases k3 : k = 3 ∨ k = 4 ∨ k = 5
  · rw [if_pos k3]
    have hcs : cs = [] := by
      unfold manyB at hmany
      simp only [Bool.or_eq_false_iff, Bool.and_eq_false_iff, decide_eq_false_iff_not] at hmany
      rcases hmany.2 with h | h
      · exact absurd (show k ≠ 7 by omega) h
      · exact List.eq_nil_of_length_eq_zero (by omega)
    subst hcs
    refine hA xs 0 c names' deep' (fun _ h => h) (by omega) h6 hn h0 (by omega) (by omega) _ fun names'' deep'' g1 g2 g3 => ?_
    refine wrong_mk (by omega) h2 h3 (by rw [hlen]; exact h4) ?_ (hall names'' a deep'' _ 0 (by omega) g3 (by omega)) (fun h => by omega)
    rw [hlen]
    unfold headE at h5 ⊢
    rw [if_neg (by omega)] at h5 ⊢
    exact h5
  rw [if_neg k3]
  by_cases k6 : k = 6
  · rw [if_pos k6]
    obtain ⟨x, y, rfl, rfl⟩ := rt_let hR2 k6
    subst k6
    rw [wrongs_cons, wrongs_cons, if_neg (by omega), if_pos (by omega)] at h6
    simp only [Tm.szs] at hb
    push_cast at hb
    have hcn := pl_cnt d x c (hx x (by simp)) h0 (by omega)
    have g1 := ih x names names' c (deep + 1) (deep' + 1) (hx x (by simp)) h6.1 hn h0 (by omega) (by omega)
    have g2 := ih y (names ++ [a]) (names' ++ [a]) (x.pl c).2 (deep + 1) (deep' + 1) (hx y (by simp)) h6.2.1 (fun s hs => by
      rcases List.mem_append.1 hs with h | h
      · exact List.mem_append_left _ (hn s h)
      · exact List.mem_append_right _ h) (by omega) (by omega) (by omega)
    rw [Tm.plL, Tm.plL, Tm.plL]
    dsimp only
    refine wrong_mk (by omega) (by omega) (by omega) rfl ?_ ?_ (fun h => by omega)
    · unfold headE at h5 ⊢
      rw [if_neg (by omega), if_neg (by omega), if_neg (by omega), if_neg (by omega), if_pos rfl] at h5 ⊢
      exact h5
    · rw [wrongs_cons, wrongs_cons, if_neg (by omega), if_pos (by omega)]
      exact ⟨g1, g2, rfl⟩
  rw [if_neg k6]
  by_cases k7 : k = 7
  · rw [if_pos k7]
    obtain ⟨q1, q2, q3⟩ := h7 k7
    have hxl1 : xs.length = 1 := by
      subst k7
      unfold manyB at hmany
      simp at hmany
      exact hmany
    have hcn : 0 ≤ (Tm.ats xs c).2.2 ∧ (Tm.ats xs c).2.2 ≤ c + (Tm.szs xs : Nat) := by
      match xs, hxl1, hx with
      | [x], _, hx =>
        have hsz := sz_pos x
        simp only [Tm.szs] at hb ⊢
        push_cast at hb ⊢
        rw [Tm.ats]
        split
        · dsimp only; rw [Tm.ats]; dsimp only; omega
        · have hw1 : wr (c + 1) = c + 1 := wr_of (by omega) (by omega)
          have := pl_cnt d x (c + 1) (hx x (by simp)) (by omega) (by omega)
          rw [hw1]
          dsimp only; rw [Tm.ats]; dsimp only; omega
    have hC : ∀ (ys : List Cs) (had : List Int) (c : Int) (names'' : List ByteArray) (deep'' : Int), (∀ y ∈ ys, y ∈ cs) → Cs.wrongs A names deep had ys = 0 → (∀ s ∈ names, s ∈ names'') → 0 ≤ c → c + (Cs.szs ys : Nat) ≤ 9999999 → deep'' + 1 ≤ 24 - 7 * (d : Int) → Cs.wrongs A names'' deep'' had (Cs.plL ys c).1 = 0 ∧ (Cs.plL ys c).1.length = ys.length := by
      intro ys
      induction ys with
      | nil => intro had c _ _ _ _ _ _ _; exact fun _ => ⟨rfl, rfl⟩
      | cons y r ih2 =>
        intro had c names'' deep'' hm hwr hn h0 hb hd
        have hy := hc y (hm y (List.mem_cons_self ..))
        obtain ⟨t, ws, y⟩ := y
        simp only [Cs.szs, Cs.sz] at hb
        push_cast at hb
        rw [cwrongs_cons] at hwr
        obtain ⟨⟨w1, w2, w3, w4, w5, w6⟩, w7⟩ := hwr
        have hcn := pl_cnt d y c hy.2 h0 (by omega)
        obtain ⟨g1, g2⟩ := ih2 (t :: had) (y.pl c).2 names'' deep'' (fun z hz => hm z (List.mem_cons_of_mem _ hz)) w7 hn (by omega) (by omega) hd
        have g3 := ih y (names ++ ws) (names'' ++ ws) c (deep + 1) (deep'' + 1) hy.2 w6 (fun s hs => by
          rcases List.mem_append.1 hs with h | h
          · exact List.mem_append_left _ (hn s h)
          · exact List.mem_append_right _ h) h0 (by omega) hd
        rw [Cs.plL, Cs.pl]
        refine ⟨?_, by simp [g2]⟩
        dsimp only
        rw [cwrongs_cons]
        exact ⟨⟨w1, w2, w3, w4, w5, g3⟩, g1⟩
    refine hA xs 0 c names' deep' (fun _ h => h) (by omega) h6 hn h0 (by omega) (by omega) _ fun names'' deep'' g1 g2 g3 => ?_
    obtain ⟨g4, g5⟩ := hC cs [] (Tm.ats xs c).2.2 names'' deep'' (fun _ h => h) q3 (fun s hs => g1 s (hn s hs)) (by omega) (by omega) (by omega)
    have h8 := hall names'' .empty deep'' (Tm.ats xs c).1 0 (by omega) g3 (by omega)
    subst k7
    exact wrong_mk (by omega) (by omega) (by omega) (by rw [hlen, g5]; exact h4) rfl h8 (fun _ => ⟨by rw [g5]; exact q1, by rw [g5]; exact q2, g4⟩)
  · rw [if_neg k7]
    have hk12 : k = 1 ∨ k = 2 := by omega
    rcases hk12 with rfl | rfl
    · exact var_wrong (d := d + 1) hR2 rfl hw hn (by omega)
    · have hnil : xs = [] ∧ cs = [] := by
        unfold manyB at hmany
        simp at hmany
        exact hmany
      obtain ⟨rfl, rfl⟩ := hnil
      exact wrong_mk (by omega) h2 h3 h4 h5 rfl (fun h => by omega)
end Go.Proofs.YtapiiklnnkkdlaaDoor

namespace Go.Proofs.YtapiiklnnkkdlaaDoor
open Go.RowKit
attribute [local simp] runD mkRc ldOf stOf stOk ldArg noAny dstOk guardOk opEff opEff0 effOp pureOp callOp zEff evA constAV scalAV Value.oneCell' frGet memGet startAS frOf isGoCall idIn AS.after nextR opnIds objIds AV.ids idsL AObj.ids frNo memNo opnAny isAny mkVal rdCells wrCells fldAddr idxAddr srcRows litRows toD1 toDs setAt sliceAV optI partAV bldAV fillAV binAV binI AV.cells callEff calleeOf frKill memKill AV.kill AObj.kill AV.has AV.hasL Op.operands Call.operands keepF keepM viewIds cChk renOf moGet moWs moQ cEff moLike moHave AV.ren renL AObj.ren AObj.like kept startC moMem AV.frz frz1 frzL frSub memSub frzs AS.frz frFrz memFrz AObj.frz takeMap takeLen bleF Nat.ble_eq memAny objAny mapOp D.keyOk rowAV valRow extOp wrapOp phO
set_option linter.unusedVariables false
set_option linter.unusedSimpArgs false
end Go.Proofs.YtapiiklnnkkdlaaDoor
