import Derived.Test.YtapiiklnnkkdlaaDoorCheckA
import Derived.Test.YtapiiklnnkkdlaaDoorNameA
import Derived.Test.YtapiiklnnkkdlaaDoorOpen
import Derived.Test.YtapiiklnnkkdlaaDoorNamesA
/- own.in, out, more; xcref4.pick, count. Printed by a small program. -/
namespace Go.Proofs.YtapiiklnnkkdlaaDoor
open Go.RowKit
attribute [local simp] runD mkRc ldOf stOf stOk ldArg noAny dstOk guardOk opEff opEff0 effOp pureOp callOp zEff evA constAV scalAV Value.oneCell' frGet memGet startAS frOf isGoCall idIn AS.after nextR opnIds objIds AV.ids idsL AObj.ids frNo memNo opnAny isAny mkVal rdCells wrCells fldAddr idxAddr srcRows litRows toD1 toDs setAt sliceAV optI partAV bldAV fillAV binAV binI AV.cells callEff calleeOf frKill memKill AV.kill AObj.kill AV.has AV.hasL Op.operands Call.operands keepF keepM viewIds cChk renOf moGet moWs moQ cEff moLike moHave AV.ren renL AObj.ren AObj.like kept startC moMem AV.frz frz1 frzL frSub memSub frzs AS.frz frFrz memFrz AObj.frz takeMap takeLen bleF Nat.ble_eq memAny objAny mapOp D.keyOk rowAV valRow extOp wrapOp phO frLow memLow memLow1 objLow memEmpty Low LowL
set_option linter.unusedVariables false
set_option linter.unusedSimpArgs false
set_option maxRecDepth 20000 in
set_option maxHeartbeats 16000000 in
theorem sp_pickI (l o : List ByteArray) (hl : l.length ≤ 8796093022207) (ho : o.length ≤ 8796093022208) : PSpec Tryd.prog 143 [strsAV l, strsAV o, .d (.bool true)] (fun _ => strsAV (inN l o)) none := by
  refine PSpec.of Tryd.func143 rfl rfl rfl (Nat.le_of_ble_eq_true rfl) ?_
  show AWp _ _ (endQ _ Tryd.f143 _ _ _) (startAS 27 _)
  refine AWp.rg [] [] ?_
  refine AWp.rg [] [] ?_
  refine AWp.rg [] [] ?_
  repeat (first | refine AWp.seq ?_ | refine AWp.block ?_)
  refine AWp.le (Le.low [400] [] (fr := [(1, .d (strsD o)), (2, .d (.bool true)), (7, .arr 400 0 ([] : List ByteArray).length), (10, .d (strsD l)), (11, .d (.int (l.length : Int))), (12, .d (.int (0 : Int)))]) (mem := [(400, some (.arr 9 1 (([] : List ByteArray).map strR)))]) rfl (by simp) (by simp)) ?_
  refine AWp.loop (σ := fun u : {u : Nat × List ByteArray // u.1 ≤ l.length ∧ u.2 = inN (l.take u.1) o} => ⟨27, [(1, .d (strsD o)), (2, .d (.bool true)), (7, .arr 400 0 u.1.2.length), (10, .d (strsD l)), (11, .d (.int (l.length : Int))), (12, .d (.int (u.1.1 : Int)))], [(400, some (.arr 9 1 (u.1.2.map strR)))]⟩)
    (μ := fun u => l.length - u.1.1) ⟨(0, []), ⟨Nat.zero_le _, by simp [inN]⟩⟩ (Le.sub (by simp) (by simp)) (fun ⟨(i, us), ⟨hi3, hw⟩⟩ => ?_)
  dsimp only at hi3 hw ⊢
  refine AWp.rg [] [] ?_
  repeat (first | refine AWp.seq ?_ | refine AWp.block ?_)
  refine AWp.cond rfl (fun hc => ?_) (fun hc => ?_)
  · have hi1 : i < l.length := by have := of_decide_eq_true hc; omega
    clear hc
    have h1x : l[i]? = some l[i] := List.getElem?_eq_getElem hi1
    have hmx : l[i] ∈ l := List.getElem_mem hi1
    have hdx : l.drop i = l[i] :: l.drop (i + 1) := List.drop_eq_getElem_cons hi1
    generalize l[i] = x at h1x hmx hdx
    have hul : us.length ≤ i := by have := inN_len (l.take i) o; rw [hw]; rw [List.length_take] at this; omega
    have hsn := inN_snoc o h1x
    rw [← hw] at hsn
    have hc := sp_Has o x ho
    generalize hasB o x = q at hc hsn
    refine AWp.skip ?_
    refine AWp.rg [] [] ?_ (hr := by conv => lhs; simp [h1x])
    cases q with
    | true =>
      refine AWp.rg [] [.p (fun _ => .d (.bool true)) none] ?_ (hr := by conv => lhs; simp [h1x])
      refine AWp.cy ?_
      refine AWp.rg [] [] ?_ (hr := by conv => lhs; simp [h1x])
      refine AWp.rg [] [] ?_ (hr := by conv => lhs; simp [h1x])
      refine ⟨⟨(i + 1, us ++ [x]), hi1, by rw [hsn]; rfl⟩, by simp; omega, ?_⟩
      dsimp only
      exact Le.sub (by simp) (by simp)
    | false =>
      refine AWp.rg [] [.p (fun _ => .d (.bool false)) none] ?_ (hr := by conv => lhs; simp [h1x])
      refine AWp.cn ?_
      refine AWp.skip ?_
      refine AWp.rg [] [] ?_ (hr := by conv => lhs; simp [h1x])
      refine ⟨⟨(i + 1, us), hi1, by rw [hsn]; rfl⟩, by simp; omega, ?_⟩
      dsimp only
      exact Le.sub (by simp) (by simp)
  have hi1 : i = l.length := by have := of_decide_eq_false hc; omega
  subst hi1
  clear hc
  rw [List.take_length] at hw
  subst hw
  refine AWp.exit ?_
  refine AWp.rg [] [] ?_
  refine AWp.ret ?_
  try dsimp only [thenQ, blockQ]
  apply endQ.retF [400]
  · rfl
  · conv => lhs; simp
  · conv => lhs; simp [resAV, Tryd.results143]
  rfl
set_option maxRecDepth 20000 in
set_option maxHeartbeats 16000000 in
theorem sp_pickO (l o : List ByteArray) (hl : l.length ≤ 8796093022207) (ho : o.length ≤ 8796093022208) : PSpec Tryd.prog 143 [strsAV l, strsAV o, .d (.bool false)] (fun _ => strsAV (woN l o)) none := by
  refine PSpec.of Tryd.func143 rfl rfl rfl (Nat.le_of_ble_eq_true rfl) ?_
  show AWp _ _ (endQ _ Tryd.f143 _ _ _) (startAS 27 _)
  refine AWp.rg [] [] ?_
  refine AWp.rg [] [] ?_
  refine AWp.rg [] [] ?_
  repeat (first | refine AWp.seq ?_ | refine AWp.block ?_)
  refine AWp.le (Le.low [400] [] (fr := [(1, .d (strsD o)), (2, .d (.bool false)), (7, .arr 400 0 ([] : List ByteArray).length), (10, .d (strsD l)), (11, .d (.int (l.length : Int))), (12, .d (.int (0 : Int)))]) (mem := [(400, some (.arr 9 1 (([] : List ByteArray).map strR)))]) rfl (by simp) (by simp)) ?_
  refine AWp.loop (σ := fun u : {u : Nat × List ByteArray // u.1 ≤ l.length ∧ u.2 = woN (l.take u.1) o} => ⟨27, [(1, .d (strsD o)), (2, .d (.bool false)), (7, .arr 400 0 u.1.2.length), (10, .d (strsD l)), (11, .d (.int (l.length : Int))), (12, .d (.int (u.1.1 : Int)))], [(400, some (.arr 9 1 (u.1.2.map strR)))]⟩)
    (μ := fun u => l.length - u.1.1) ⟨(0, []), ⟨Nat.zero_le _, by simp [woN]⟩⟩ (Le.sub (by simp) (by simp)) (fun ⟨(i, us), ⟨hi3, hw⟩⟩ => ?_)
  dsimp only at hi3 hw ⊢
  refine AWp.rg [] [] ?_
  repeat (first | refine AWp.seq ?_ | refine AWp.block ?_)
  refine AWp.cond rfl (fun hc => ?_) (fun hc => ?_)
  · have hi1 : i < l.length := by have := of_decide_eq_true hc; omega
    clear hc
    have h1x : l[i]? = some l[i] := List.getElem?_eq_getElem hi1
    have hmx : l[i] ∈ l := List.getElem_mem hi1
    have hdx : l.drop i = l[i] :: l.drop (i + 1) := List.drop_eq_getElem_cons hi1
    generalize l[i] = x at h1x hmx hdx
    have hul : us.length ≤ i := by have := woN_len (l.take i) o; rw [hw]; rw [List.length_take] at this; omega
    have hsn := woN_snoc o h1x
    rw [← hw] at hsn
    have hc := sp_Has o x ho
    generalize hasB o x = q at hc hsn
    refine AWp.skip ?_
    refine AWp.rg [] [] ?_ (hr := by conv => lhs; simp [h1x])
    cases q with
    | true =>
      refine AWp.rg [] [.p (fun _ => .d (.bool true)) none] ?_ (hr := by conv => lhs; simp [h1x])
      refine AWp.cn ?_
      refine AWp.skip ?_
      refine AWp.rg [] [] ?_ (hr := by conv => lhs; simp [h1x])
      refine ⟨⟨(i + 1, us), hi1, by rw [hsn]; rfl⟩, by simp; omega, ?_⟩
      dsimp only
      exact Le.sub (by simp) (by simp)
    | false =>
      refine AWp.rg [] [.p (fun _ => .d (.bool false)) none] ?_ (hr := by conv => lhs; simp [h1x])
      refine AWp.cy ?_
      refine AWp.rg [] [] ?_ (hr := by conv => lhs; simp [h1x])
      refine AWp.rg [] [] ?_ (hr := by conv => lhs; simp [h1x])
      refine ⟨⟨(i + 1, us ++ [x]), hi1, by rw [hsn]; rfl⟩, by simp; omega, ?_⟩
      dsimp only
      exact Le.sub (by simp) (by simp)
  have hi1 : i = l.length := by have := of_decide_eq_false hc; omega
  subst hi1
  clear hc
  rw [List.take_length] at hw
  subst hw
  refine AWp.exit ?_
  refine AWp.rg [] [] ?_
  refine AWp.ret ?_
  try dsimp only [thenQ, blockQ]
  apply endQ.retF [400]
  · rfl
  · conv => lhs; simp
  · conv => lhs; simp [resAV, Tryd.results143]
  rfl
theorem cnt_append (k : Int) : ∀ (x y : List ByteArray) (t : Tm), cnt k (x ++ y) t = cnt k x (cnt k y t)
  | [], _, _ => rfl
  | b :: r, y, t => by simp only [List.cons_append, cnt, cnt_append k r y t]
set_option maxRecDepth 20000 in
set_option maxHeartbeats 16000000 in
theorem sp_count (kd : Int) (l : List ByteArray) (tk tn : Int) (ta tb : ByteArray) (tvs : List ByteArray) (txs : List Tm) (tcs : List Cs) (hl : l.length ≤ 8796093022207) : PSpec Tryd.prog 144 [.d (.int kd), strsAV l, tmAV (.mk tk tn ta tb tvs txs tcs)] (fun _ => tmAV (cnt kd l (.mk tk tn ta tb tvs txs tcs))) none := by
  obtain ⟨R, hR⟩ : ∃ R, R = cnt kd l (.mk tk tn ta tb tvs txs tcs) := ⟨_, rfl⟩
  rw [← hR]
  obtain ⟨rk, rn, ra, rb, rvs, rxs, rcs⟩ := R
  refine PSpec.of Tryd.func144 rfl rfl rfl (Nat.le_of_ble_eq_true rfl) ?_
  show AWp _ _ (endQ _ Tryd.f144 _ _ _) (startAS 24 _)
  refine AWp.rg [] [] ?_ (hr := by conv => lhs; simp [Tm.row, Tm.rows_eq, Cs.rows_eq])
  refine AWp.rg [] [] ?_ (hr := by conv => lhs; simp [Tm.row, Tm.rows_eq, Cs.rows_eq])
  repeat (first | refine AWp.seq ?_ | refine AWp.block ?_)
  refine AWp.loop (σ := fun u : {u : Nat × Int × Int × ByteArray × ByteArray × List ByteArray × List Tm × List Cs // (cnt kd l (.mk tk tn ta tb tvs txs tcs) = cnt kd (l.take u.1) (.mk u.2.1 u.2.2.1 u.2.2.2.1 u.2.2.2.2.1 u.2.2.2.2.2.1 u.2.2.2.2.2.2.1 u.2.2.2.2.2.2.2) ∧ u.1 ≤ l.length)} => ⟨24, [(0, .d (.int kd)), (1, .d (strsD l)), (5, .ptr 5 0), (6, .ptr 6 0), (7, .d (.int ((u.1.1 : Int) - 1)))], [(5, some (.blk 34 [.d (.int u.1.2.1), .d (.int u.1.2.2.1), .d (.str u.1.2.2.2.1), .d (.str u.1.2.2.2.2.1), .d (strsD u.1.2.2.2.2.2.1), .d (.sl (u.1.2.2.2.2.2.2.1.map Tm.row)), .d (.sl (u.1.2.2.2.2.2.2.2.map Cs.row))])), (6, some (.blk 34 [.d (.int 0), .d (.int 0), .d (.str ByteArray.empty), .d (.str ByteArray.empty), .lit (.slice none 0 0), .lit (.slice none 0 0), .lit (.slice none 0 0)]))]⟩)
    (μ := fun u => u.1.1) ⟨(l.length, tk, tn, ta, tb, tvs, txs, tcs), ⟨by rw [List.take_length], Nat.le_refl _⟩⟩ (Le.sub (by simp) (by simp)) (fun ⟨(j0, zk, zn, za, zb, zvs, zxs, zcs), hw⟩ => ?_)
  dsimp only at hw ⊢
  obtain ⟨hw, hj⟩ := hw
  rcases j0 with _ | j
  · rw [show ((0 : Nat) : Int) - 1 = -1 from rfl]
    refine AWp.rg [] [] ?_ (hr := by conv => lhs; simp [Tm.row, Tm.rows_eq, Cs.rows_eq])
    refine AWp.cn ?_
    refine AWp.exit ?_
    rw [List.take_zero] at hw
    obtain ⟨rfl, rfl, rfl, rfl, rfl, rfl, rfl⟩ : zk = rk ∧ zn = rn ∧ za = ra ∧ zb = rb ∧ zvs = rvs ∧ zxs = rxs ∧ zcs = rcs := by simpa [cnt] using (hR.trans hw).symm
    refine AWp.rg [] [] ?_ (hr := by conv => lhs; simp [Tm.row, Tm.rows_eq, Cs.rows_eq])
    refine AWp.ret ?_
    try dsimp only [thenQ, blockQ]
    apply endQ.ret
    · rfl
    · conv => lhs; simp [resAV, Tryd.results144]
    first | rfl | simp [resVal, tmAV]
  rw [show ((j + 1 : Nat) : Int) - 1 = (j : Int) by omega]
  have hk0 := eq_true (Int.natCast_nonneg j)
  have hk1 : j < l.length := by omega
  have h1p : l[j]? = some l[j] := List.getElem?_eq_getElem hk1
  have htk : l.take (j + 1) = l.take j ++ [l[j]] := by rw [List.take_add_one, h1p]; rfl
  generalize l[j] = s at h1p htk
  rw [htk, cnt_append] at hw
  dsimp only [cnt] at hw
  refine AWp.rg [] [] ?_ (hr := by conv => lhs; simp [Tm.row, Tm.rows_eq, Cs.rows_eq, h1p, hk0])
  refine AWp.cy ?_
  refine AWp.skip ?_
  refine AWp.dw [6] [] mixed ?_ (hr := by conv => lhs; simp [Tm.row, Tm.rows_eq, Cs.rows_eq, h1p, hk0])
  repeat (first | refine AWp.seq ?_ | refine AWp.block ?_)
  refine AWp.le (Le.low [] [] (fr := [(0, .d (.int kd)), (1, .d (strsD l)), (5, .ptr 5 0), (6, .ptr 6 0), (7, .d (.int (j : Int)))]) (mem := [(5, some (.blk 34 [.d (.int kd), .d (.int 0), .d (.str s), .d (.str ByteArray.empty), .d (.sl []), .d (.sl [[.int zk, .int zn, .str za, .str zb, strsD zvs, .sl (zxs.map Tm.row), .sl (zcs.map Cs.row)]]), .d (.sl [])])), (6, some (.blk 34 [.d (.int 0), .d (.int 0), .d (.str ByteArray.empty), .d (.str ByteArray.empty), .lit (.slice none 0 0), .lit (.slice none 0 0), .lit (.slice none 0 0)]))]) rfl (by simp) (by simp)) ?_
  refine AWp.rg [] [] ?_ (hr := by conv => lhs; simp [Tm.row, Tm.rows_eq, Cs.rows_eq, h1p, hk0])
  refine ⟨⟨(j, kd, 0, s, .empty, [], [.mk zk zn za zb zvs zxs zcs], []), ⟨hw, by omega⟩⟩, by simp only []; omega, ?_⟩
  dsimp only
  exact Le.sub (by simp [Tm.row, Tm.rows_eq, Cs.rows_eq, strsD]) (by simp [Tm.row, Tm.rows_eq, Cs.rows_eq, strsD])
end Go.Proofs.YtapiiklnnkkdlaaDoor

namespace Go.Proofs.YtapiiklnnkkdlaaDoor
open Go.RowKit
set_option linter.unusedVariables false
mutual
def AV.inK (o k : Nat) : AV → Prop
  | .arr o' lo n => o' = o → lo + n ≤ k
  | .agg cs => AV.inKL o k cs
  | .tuple cs => AV.inKL o k cs
  | .clo _ cs => AV.inKL o k cs
  | _ => True
def AV.inKL (o k : Nat) : List AV → Prop
  | [] => True
  | x :: r => AV.inK o k x ∧ AV.inKL o k r
end
theorem AV.inKL_get {o k : Nat} {l : List AV} (h : AV.inKL o k l) (i : Nat) (c : AV) (hi : l[i]? = some c) : c.inK o k := by
  induction l generalizing i with
  | nil => simp at hi
  | cons x r ih =>
    rcases i with _ | i
    · simp at hi; subst hi; exact h.1
    · simp at hi; exact ih h.2 i hi
def frInK (o k : Nat) : List (Nat × AV) → Prop
  | [] => True
  | x :: r => x.2.inK o k ∧ frInK o k r
def memInK (o k : Nat) : List (Nat × Option AObj) → Prop
  | [] => True
  | x :: r => (match x.2 with | some (.blk _ cs) => AV.inKL o k cs | _ => True) ∧ memInK o k r
theorem frInK_get {o k : Nat} : ∀ {f : List (Nat × AV)} (h : frInK o k f) (t : Nat), (frGet f t).inK o k
  | [], _, t => by simp [frGet, AV.inK]
  | x :: r, h, t => by
    simp only [frGet]
    split
    · exact h.1
    · exact frInK_get h.2 t
theorem memInK_get {o k : Nat} : ∀ {f : List (Nat × Option AObj)} (h : memInK o k f) (i : Nat) (t : TypeId) (cs : List AV), memGet f i = some (.blk t cs) → AV.inKL o k cs
  | [], _, i, t, cs, hi => by simp [memGet] at hi
  | x :: r, h, i, t, cs, hi => by
    simp only [memGet] at hi
    split at hi
    · have := h.1
      rw [hi] at this
      exact this
    · exact memInK_get h.2 i t cs hi
section
variable {w : World} {ok : Nat → Prop} {g : Gh} {m m' : Me}
theorem VR.cut {o k : Nat} {e : TypeId} {sz : Nat} {rows : List (List D)} {c : AV} {v : Value} (h : VR w ok g m c v) (hx : m o = some (.arr e sz rows)) (hk : k ≤ rows.length)
    (hm : ∀ i, m' i = if i = o then some (.arr e sz (rows.take k)) else m i) : c.inK o k → VR w ok g m' c v := by
  induction h with
  | any v => exact fun _ => .any v
  | d d v h => exact fun _ => .d d v h
  | lit v h => exact fun _ => .lit v h
  | fl rows v h hr => exact fun _ => .fl rows v h hr
  | ptr o1 off v hv h =>
    refine fun _ => .ptr o1 off v hv fun x hx' => ?_
    rw [hm] at hx'
    split at hx'
    · rename_i h1; rw [h1] at h ⊢; exact h _ hx
    · exact h x hx'
  | arr o1 lo n v hv h =>
    refine fun hc => .arr o1 lo n v hv fun e' sz' rows' hx' => ?_
    rw [hm] at hx'
    split at hx'
    · rename_i h1
      simp only [Option.some.injEq, AObj.arr.injEq] at hx'
      obtain ⟨rfl, rfl, rfl⟩ := hx'
      have := hc h1
      rw [h1] at h ⊢
      refine ⟨by rw [List.length_take]; omega, (h _ _ _ hx).2⟩
    · exact h _ _ _ hx'
  | eptr o1 i j v hv h =>
    refine fun _ => .eptr o1 i j v hv fun e' sz' rows' hx' => ?_
    rw [hm] at hx'
    split at hx'
    · rename_i h1
      simp only [Option.some.injEq, AObj.arr.injEq] at hx'
      obtain ⟨rfl, rfl, rfl⟩ := hx'
      rw [h1] at h ⊢
      exact h _ _ _ hx
    · exact h _ _ _ hx'
  | mp o1 v hv h =>
    refine fun _ => .mp o1 v hv fun x hx' => ?_
    rw [hm] at hx'
    split at hx'
    · rename_i h1; rw [h1] at h ⊢; exact h _ hx
    · exact h x hx'
  | agg cs vs hl h h1 ih => exact fun hc => .agg cs vs hl (fun i c v hi hv => ih i c v hi hv (AV.inKL_get hc i c hi)) h1
  | tuple cs vs hl h ih => exact fun hc => .tuple cs vs hl (fun i c v hi hv => ih i c v hi hv (AV.inKL_get hc i c hi))
  | clo f cs vs hl h ih => exact fun hc => .clo f cs vs hl (fun i c v hi hv => ih i c v hi hv (AV.inKL_get hc i c hi))
end
theorem Le.cut {s : AS} (o k : Nat) {e : TypeId} {sz : Nat} {rows rows' : List (List D)} (hx : memGet s.mem o = some (.arr e sz rows)) (hr : rows.take k = rows') (hk : k ≤ rows.length)
    (hf : frInK o k s.fr) (hmm : memInK o k s.mem) : Le s ⟨s.n, s.fr, (o, some (.arr e sz rows')) :: s.mem⟩ := by
  subst hr
  rintro C a w ⟨ok, g, hM, h1, h2, h3⟩
  have em : ∀ i, memGet ((o, some (.arr e sz (rows.take k))) :: s.mem) i = if i = o then some (.arr e sz (rows.take k)) else memGet s.mem i := fun i => by
    simp only [memGet]
    by_cases h : i = o
    · rw [if_pos h, h]; simp
    · rw [if_neg h, if_neg (by simpa using fun h' => h h'.symm)]
  have vr : ∀ {c v}, VR w ok g (memGet s.mem) c v → c.inK o k → VR w ok g (memGet ((o, some (.arr e sz (rows.take k))) :: s.mem)) c v := fun h => h.cut hx hk em
  have inv : ∀ {i x}, memGet ((o, some (.arr e sz (rows.take k))) :: s.mem) i = some x → ∃ y, memGet s.mem i = some y := fun {i x} h => by
    rw [em] at h
    split at h
    · rename_i h1; exact ⟨_, h1 ▸ hx⟩
    · exact ⟨x, h⟩
  refine ⟨ok, g, ⟨fun i x hi => ?_, fun i j xi xj b hi hj hbi hbj => ?_, fun i x b hi hb => ?_, hM.okb, hM.okk, hM.size, hM.heap, hM.keep, hM.os, hM.tape, hM.output, hM.gi, hM.gb⟩, h1, h2, fun t => ?_⟩
  · rw [em] at hi
    split at hi
    · rename_i h1
      subst h1
      cases hi
      obtain ⟨k1, k2, k3⟩ := hM.obj _ _ hx
      have hlt : ∀ (j : Nat) (r : List D), (rows.take k)[j]? = some r → rows[j]? = some r := fun j r h => by
        rw [List.getElem?_take] at h
        split at h
        · exact h
        · cases h
      refine ⟨k1, fun j r hj => k2 j r (hlt j r hj), ?_⟩
      rcases k3 with ⟨k3, rfl⟩ | ⟨b, cur, k3, k4, k5, k6, k7, k8⟩
      · exact .inl ⟨k3, by simp⟩
      · exact .inr ⟨b, cur, k3, k4, by rw [List.length_take]; omega, k6, k7, fun i j r c v hi => k8 i j r c v (hlt i r hi)⟩
    · rename_i h1
      have hO := hM.obj _ _ hi
      cases x with
      | blk t cs =>
        obtain ⟨b, vs, k1, k2, k3, k4, k5⟩ := hO
        exact ⟨b, vs, k1, k2, k3, fun j c v hc hv => vr (k4 j c v hc hv) (AV.inKL_get (memInK_get hmm i t cs hi) j c hc), k5⟩
      | arr e sz rows => exact hO
      | map ks ag n ents => exact hO
      | raw r => exact hO
  · obtain ⟨_, hi⟩ := inv hi
    obtain ⟨_, hj⟩ := inv hj
    exact hM.inj _ _ _ _ b hi hj hbi hbj
  · obtain ⟨_, hi⟩ := inv hi
    exact hM.own _ _ b hi hb
  · exact vr (h3 t) (frInK_get hf t)
theorem endC.le {P : Program} {fn : Func} {r : AV} {m' : Mo} {x : Exit} {s s' : AS} (hl : Le s s') (h : endC P fn r m' x s') : endC P fn r m' x s := by
  obtain ⟨h1, s2, h2, h3⟩ := h
  exact ⟨h1, s2, hl.trans h2, h3⟩
end Go.Proofs.YtapiiklnnkkdlaaDoor

namespace Go.Proofs.YtapiiklnnkkdlaaDoor
open Go.RowKit
attribute [local simp] runD mkRc ldOf stOf stOk ldArg noAny dstOk guardOk opEff opEff0 effOp pureOp callOp zEff evA constAV scalAV Value.oneCell' frGet memGet startAS frOf isGoCall idIn AS.after nextR opnIds objIds AV.ids idsL AObj.ids frNo memNo opnAny isAny mkVal rdCells wrCells fldAddr idxAddr srcRows litRows toD1 toDs setAt sliceAV optI partAV bldAV fillAV binAV binI AV.cells callEff calleeOf frKill memKill AV.kill AObj.kill AV.has AV.hasL Op.operands Call.operands keepF keepM viewIds cChk renOf moGet moWs moQ cEff moLike moHave AV.ren renL AObj.ren AObj.like kept startC moMem AV.frz frz1 frzL frSub memSub frzs AS.frz frFrz memFrz AObj.frz takeMap takeLen bleF Nat.ble_eq memAny objAny mapOp D.keyOk rowAV valRow extOp wrapOp phO frLow memLow memLow1 objLow memEmpty Low LowL
set_option linter.unusedVariables false
set_option linter.unusedSimpArgs false
set_option maxRecDepth 20000 in
set_option maxHeartbeats 16000000 in
theorem cs_Own (t : Tm) (hO : t.Ok) : CSpec Tryd.prog 76 [tmAV t] [(500, .arr 0 1 []), (501, .arr 0 1 [])] (match t with | .mk k n a b vs xs cs => .agg [.d (.int k), .d (.int n), .d (.str a), .d (.str b), .d (strsD vs), .arr 500 0 xs.length, .arr 501 0 cs.length])
    (match t with | .mk k n a b vs xs cs => [(500, .arr 34 7 (xs.map Tm.row)), (501, .arr 40 9 (cs.map Cs.row))]) := by
  obtain ⟨tk, tn, ta, tb, tvs, txs, tcs⟩ := t
  dsimp only
  obtain ⟨o1, o2, o3, o4, o5⟩ := hO.vars
  have hxO : ∀ x ∈ txs, x.Ok := Tm.Oks_iff.1 hO.2.2.1
  have hcO := Cs.Oks_iff.1 hO.2.2.2
  have hcl := sp_Clone tvs (by omega)
  refine CSpec.of Tryd.func76 rfl rfl (Nat.le_of_ble_eq_true rfl) ?_
  show AWp _ _ (endC _ Tryd.f76 _ _) (startC 51 _ _)
  refine AWp.rg [] [] ?_ (hr := by conv => lhs; simp [Tm.row, Tm.rows_eq, Cs.row, Cs.rows_eq])
  refine AWp.rg [2] [.p (fun d => .arr d 0 tvs.length) (some (.arr 9 1 (tvs.map strR)))] ?_ (hr := by conv => lhs; simp [Tm.row, Tm.rows_eq, Cs.row, Cs.rows_eq])
  refine AWp.rg [] [] ?_ (hr := by conv => lhs; simp [Tm.row, Tm.rows_eq, Cs.row, Cs.rows_eq])
  refine AWp.rg [] [] ?_ (hr := by conv => lhs; simp [Tm.row, Tm.rows_eq, Cs.row, Cs.rows_eq])
  repeat (first | refine AWp.seq ?_ | refine AWp.block ?_)
  refine AWp.le (Le.low [400] [] (fr := [(1, .ptr 1 0), (2, .ptr 2 0), (3, .arr 400 0 ([] : List Tm).length), (14, .d (.sl (txs.map Tm.row))), (15, .d (.int (txs.length : Int))), (16, .d (.int (0 : Int)))]) (mem := [(1, some (.blk 34 [.d (.int tk), .d (.int tn), .d (.str ta), .d (.str tb), .d (strsD tvs), .d (.sl (txs.map Tm.row)), .d (.sl (tcs.map Cs.row))])), (2, some (.blk 34 [.d (.int 0), .d (.int 0), .d (.str ByteArray.empty), .d (.str ByteArray.empty), .lit (.slice none 0 0), .lit (.slice none 0 0), .lit (.slice none 0 0)])), (400, some (.arr 34 7 (([] : List Tm).map Tm.row)))]) rfl (by simp) (by simp)) ?_
  refine AWp.loop (σ := fun u : {u : Nat × List Tm // u.1 ≤ txs.length ∧ u.2 = txs.take u.1} => ⟨51, [(1, .ptr 1 0), (2, .ptr 2 0), (3, .arr 400 0 u.1.2.length), (14, .d (.sl (txs.map Tm.row))), (15, .d (.int (txs.length : Int))), (16, .d (.int (u.1.1 : Int)))], [(1, some (.blk 34 [.d (.int tk), .d (.int tn), .d (.str ta), .d (.str tb), .d (strsD tvs), .d (.sl (txs.map Tm.row)), .d (.sl (tcs.map Cs.row))])), (2, some (.blk 34 [.d (.int 0), .d (.int 0), .d (.str ByteArray.empty), .d (.str ByteArray.empty), .lit (.slice none 0 0), .lit (.slice none 0 0), .lit (.slice none 0 0)])), (400, some (.arr 34 7 (u.1.2.map Tm.row)))]⟩)
    (μ := fun u => txs.length - u.1.1) ⟨(0, []), ⟨Nat.zero_le _, by simp⟩⟩ (Le.sub (by simp) (by simp)) (fun ⟨(i, ys), ⟨hi4, hw⟩⟩ => ?_)
  dsimp only at hi4 hw ⊢
  refine AWp.rg [] [] ?_ (hr := by conv => lhs; simp [Tm.row, Tm.rows_eq, Cs.row, Cs.rows_eq])
  repeat (first | refine AWp.seq ?_ | refine AWp.block ?_)
  refine AWp.cond rfl (fun hc => ?_) (fun hc => ?_)
  · have hi1 : i < txs.length := by have := of_decide_eq_true hc; omega
    clear hc
    have h1y : txs[i]? = some txs[i] := List.getElem?_eq_getElem hi1
    have hmy : txs[i] ∈ txs := List.getElem_mem hi1
    have hdy : txs.drop i = txs[i] :: txs.drop (i + 1) := List.drop_eq_getElem_cons hi1
    generalize txs[i] = y at h1y hmy hdy
    have hyl : ys.length = i := by rw [hw, List.length_take]; omega
    have hx := sp_Own y (hxO y hmy)
    obtain ⟨yk, yn, ya, yb, yvs, yxs, ycs⟩ := y
    refine AWp.skip ?_
    refine AWp.rg [] [] ?_ (hr := by conv => lhs; simp [Tm.row, Tm.rows_eq, Cs.row, Cs.rows_eq, h1y])
    refine AWp.rg [] [.p (fun _ => .agg [.d (.int yk), .d (.int yn), .d (.str ya), .d (.str yb), .d (strsD yvs), .d (.sl (yxs.map Tm.row)), .d (.sl (ycs.map Cs.row))]) none] ?_ (hr := by conv => lhs; simp [Tm.row, Tm.rows_eq, Cs.row, Cs.rows_eq, h1y])
    refine AWp.rg [] [] ?_ (hr := by conv => lhs; simp [Tm.row, Tm.rows_eq, Cs.row, Cs.rows_eq, h1y])
    refine ⟨⟨(i + 1, ys ++ [.mk yk yn ya yb yvs yxs ycs]), hi1, by rw [hw, List.take_add_one, h1y]; rfl⟩, by simp; omega, ?_⟩
    dsimp only
    exact Le.sub (by simp [Tm.row, Tm.rows_eq, Cs.rows_eq, hyl]) (by simp [Tm.row, Tm.rows_eq, Cs.rows_eq, hyl])
  have hi1 : i = txs.length := by have := of_decide_eq_false hc; omega
  subst hi1
  clear hc
  rw [List.take_length] at hw
  subst ys
  refine AWp.exit ?_
  refine AWp.rg [] [] ?_ (hr := by conv => lhs; simp [Tm.row, Tm.rows_eq, Cs.row, Cs.rows_eq])
  refine AWp.rg [] [] ?_ (hr := by conv => lhs; simp [Tm.row, Tm.rows_eq, Cs.row, Cs.rows_eq])
  repeat (first | refine AWp.seq ?_ | refine AWp.block ?_)
  refine AWp.le (Le.low [401] [] (fr := [(1, .ptr 1 0), (2, .ptr 2 0), (3, .arr 400 0 txs.length), (6, .arr 401 0 ([] : List Cs).length), (27, .d (.sl (tcs.map Cs.row))), (28, .d (.int (tcs.length : Int))), (29, .d (.int (0 : Int)))]) (mem := [(1, some (.blk 34 [.d (.int tk), .d (.int tn), .d (.str ta), .d (.str tb), .d (strsD tvs), .d (.sl (txs.map Tm.row)), .d (.sl (tcs.map Cs.row))])), (2, some (.blk 34 [.d (.int 0), .d (.int 0), .d (.str ByteArray.empty), .d (.str ByteArray.empty), .lit (.slice none 0 0), .lit (.slice none 0 0), .lit (.slice none 0 0)])), (400, some (.arr 34 7 (txs.map Tm.row))), (401, some (.arr 40 9 (([] : List Cs).map Cs.row)))]) rfl (by simp) (by simp)) ?_
  refine AWp.loop (σ := fun u : {u : Nat × List Cs // u.1 ≤ tcs.length ∧ u.2 = tcs.take u.1} => ⟨51, [(1, .ptr 1 0), (2, .ptr 2 0), (3, .arr 400 0 txs.length), (6, .arr 401 0 u.1.2.length), (27, .d (.sl (tcs.map Cs.row))), (28, .d (.int (tcs.length : Int))), (29, .d (.int (u.1.1 : Int)))], [(1, some (.blk 34 [.d (.int tk), .d (.int tn), .d (.str ta), .d (.str tb), .d (strsD tvs), .d (.sl (txs.map Tm.row)), .d (.sl (tcs.map Cs.row))])), (2, some (.blk 34 [.d (.int 0), .d (.int 0), .d (.str ByteArray.empty), .d (.str ByteArray.empty), .lit (.slice none 0 0), .lit (.slice none 0 0), .lit (.slice none 0 0)])), (400, some (.arr 34 7 (txs.map Tm.row))), (401, some (.arr 40 9 (u.1.2.map Cs.row)))]⟩)
    (μ := fun u => tcs.length - u.1.1) ⟨(0, []), ⟨Nat.zero_le _, by simp⟩⟩ (Le.sub (by simp) (by simp)) (fun ⟨(i, ds), ⟨hi10, hw2⟩⟩ => ?_)
  dsimp only at hi10 hw2 ⊢
  refine AWp.rg [] [] ?_ (hr := by conv => lhs; simp [Tm.row, Tm.rows_eq, Cs.row, Cs.rows_eq])
  repeat (first | refine AWp.seq ?_ | refine AWp.block ?_)
  refine AWp.cond rfl (fun hc => ?_) (fun hc => ?_)
  · have hi1 : i < tcs.length := by have := of_decide_eq_true hc; omega
    clear hc
    have h1d : tcs[i]? = some tcs[i] := List.getElem?_eq_getElem hi1
    have hmd : tcs[i] ∈ tcs := List.getElem_mem hi1
    have hdd : tcs.drop i = tcs[i] :: tcs.drop (i + 1) := List.drop_eq_getElem_cons hi1
    generalize tcs[i] = d at h1d hmd hdd
    obtain ⟨dt, dws, ⟨dk, dn, da, db, dvs, dxs, dcs⟩⟩ := d
    have hyl : ds.length = i := by rw [hw2, List.length_take]; omega
    obtain ⟨hc1, hc2, hc3⟩ := hcO _ hmd
    have hx := sp_Own (.mk dk dn da db dvs dxs dcs) hc3
    have hcw := sp_Clone dws (by omega)
    refine AWp.skip ?_
    refine AWp.rg [] [] ?_ (hr := by conv => lhs; simp [Tm.row, Tm.rows_eq, Cs.row, Cs.rows_eq, h1d])
    refine AWp.dw [5] [.p (fun d => .arr d 0 dws.length) (some (.arr 9 1 (dws.map strR))), .p (fun _ => .agg [.d (.int dk), .d (.int dn), .d (.str da), .d (.str db), .d (strsD dvs), .d (.sl (dxs.map Tm.row)), .d (.sl (dcs.map Cs.row))]) none] mixed ?_ (hr := by conv => lhs; simp [Tm.row, Tm.rows_eq, Cs.row, Cs.rows_eq, h1d])
    refine AWp.rg [] [] ?_ (hr := by conv => lhs; simp [Tm.row, Tm.rows_eq, Cs.row, Cs.rows_eq, h1d])
    refine ⟨⟨(i + 1, ds ++ [.mk dt dws (.mk dk dn da db dvs dxs dcs)]), hi1, by rw [hw2, List.take_add_one, h1d]; rfl⟩, by simp; omega, ?_⟩
    dsimp only
    exact Le.sub (by simp [Cs.row, Tm.row, Tm.rows_eq, Cs.rows_eq, hyl]) (by simp [Cs.row, Tm.row, Tm.rows_eq, Cs.rows_eq, hyl])
  have hi1 : i = tcs.length := by have := of_decide_eq_false hc; omega
  subst hi1
  clear hc
  rw [List.take_length] at hw2
  subst ds
  refine AWp.exit ?_
  refine AWp.rg [] [] ?_ (hr := by conv => lhs; simp [Tm.row, Tm.rows_eq, Cs.row, Cs.rows_eq])
  refine AWp.rg [] [] ?_ (hr := by conv => lhs; simp [Tm.row, Tm.rows_eq, Cs.row, Cs.rows_eq])
  refine AWp.ret ?_
  try dsimp only [thenQ, blockQ]
  apply endC.le (Le.give _ 400 500 rfl rfl rfl)
  apply endC.le (Le.give _ 401 501 rfl rfl rfl)
  try dsimp only [thenQ, blockQ]
  apply endC.ret
  · rfl
  · conv => lhs; simp [resAV, Tryd.results76, AS.swap, swN]
  · rfl
  · simp [moEnd, memGet, AS.swap, swN]
def Fn.rn (f : Fn) : Fn := ⟨f.name, freshL f.params 0, (f.body.rn (f.params.zip (freshL f.params 0)) (freshC f.params 0)).1⟩
abbrev fnAV : Fn → AV
  | ⟨g, ps, .mk k n a b vs xs cs⟩ => .agg [.d (.str g), .d (strsD ps), .d (.int k), .d (.int n), .d (.str a), .d (.str b), .d (strsD vs), .d (.sl (xs.map Tm.row)), .d (.sl (cs.map Cs.row))]
set_option maxRecDepth 20000 in
set_option maxHeartbeats 16000000 in
theorem sp_Named (f : Fn) (hb : f.body.Ok) (hr : f.body.Rt 25) (hp : f.params.length ≤ 6) : PSpec Tryd.prog 74 [fnAV f] (fun _ => fnAV f.rn) none := by
  have hfr := cs_fresh f.params 0 hp
  have hl := freshL_len f.params 0
  have hx := rn_all 25 f.body (f.params.zip (freshL f.params 0)) (freshC f.params 0) hr hb (by rw [List.length_zip]; omega)
  unfold Fn.rn
  obtain ⟨fg, fps, fy⟩ := f
  dsimp only at *
  generalize freshC fps 0 = e at hfr hx ⊢
  generalize freshL fps 0 = us at hfr hx hl ⊢
  generalize fps.zip us = px at hfr hx ⊢
  generalize fy.rn px e = o at hx ⊢
  obtain ⟨z, c2⟩ := o
  dsimp only at *
  obtain ⟨fk, fn, fa, fb, fvs, fxs, fcs⟩ := fy
  obtain ⟨zk, zn, za, zb, zvs, zxs, zcs⟩ := z
  refine PSpec.of Tryd.func74 rfl rfl rfl (Nat.le_of_ble_eq_true rfl) ?_
  show AWp _ _ (endQ _ Tryd.f74 _ _ _) (startAS 24 _)
  refine AWp.rg [] [] ?_ (hr := by conv => lhs; simp [fnAV, Fn.row, Tm.row, Tm.rows_eq, Cs.rows_eq, psR])
  refine AWp.rg [] [] ?_ (hr := by conv => lhs; simp [fnAV, Fn.row, Tm.row, Tm.rows_eq, Cs.rows_eq, psR])
  refine AWp.rg [] [.c [(1000, 7)] [.ptr 1000 0, .d (strsD fps)] [(1000, .blk 129 [.d (.int 0)])] (.tuple [.d (strsD us), .d (.sl (px.map psR))]) [(1000, .blk 129 [.d (.int e)])]] ?_ (hr := by conv => lhs; simp [fnAV, Fn.row, Tm.row, Tm.rows_eq, Cs.rows_eq, psR])
  refine AWp.dw [] [.c [(1000, 7)] [.ptr 1000 0, .agg [.d (.int fk), .d (.int fn), .d (.str fa), .d (.str fb), .d (strsD fvs), .d (.sl (fxs.map Tm.row)), .d (.sl (fcs.map Cs.row))], .d (.sl (px.map psR))] [(1000, .blk 129 [.d (.int e)])] (.agg [.d (.int zk), .d (.int zn), .d (.str za), .d (.str zb), .d (strsD zvs), .d (.sl (zxs.map Tm.row)), .d (.sl (zcs.map Cs.row))]) [(1000, .blk 129 [.d (.int c2)])]] mixed ?_ (hr := by conv => lhs; simp [fnAV, Fn.row, Tm.row, Tm.rows_eq, Cs.rows_eq, psR])
  refine AWp.ret ?_
  try dsimp only [thenQ, blockQ]
  apply endQ.ret
  · rfl
  · conv => lhs; simp [resAV, Tryd.results74]
  rfl

theorem maxLen_ge {s : ByteArray} (h : s.size ≤ 140737488355328) : s.size ≤ maxLen := by unfold maxLen; omega

theorem moreN_mem {s : ByteArray} : ∀ {l : List Tm} {had : List ByteArray}, s ∈ moreN had l → ∃ x ∈ l, s = x.nm
  | [], had, h => by simp [moreN] at h
  | x :: r, had, h => by
    rw [moreN] at h
    split at h
    · rcases List.mem_cons.1 h with h | h
      · exact ⟨x, List.mem_cons_self .., h⟩
      · obtain ⟨y, hy, e⟩ := moreN_mem h
        exact ⟨y, List.mem_cons_of_mem _ hy, e⟩
    · obtain ⟨y, hy, e⟩ := moreN_mem h
      exact ⟨y, List.mem_cons_of_mem _ hy, e⟩
theorem Tm.Ok.nm {x : Tm} (h : x.Ok) : x.nm.size ≤ 140737488355328 := by
  obtain ⟨k, n, a, b, vs, xs, cs⟩ := x
  exact h.1.1
theorem Tm.Fit.cs {k n : Int} {a b : ByteArray} {vs : List ByteArray} {xs : List Tm} {cs : List Cs} (h : (Tm.mk k n a b vs xs cs).Fit) : ∀ c ∈ cs, (∀ s ∈ c.2, s.size ≤ 140737488355328) ∧ c.3.Fit := fun c hc => by
  obtain ⟨t, ws, x⟩ := c
  have h1 := Cs.Oks_iff.1 h.ok.2.2.2 _ hc
  exact ⟨h1.1, (h.case hc).1⟩
structure Fn.Pt (f : Fn) : Prop where
  rt : f.body.Rt 175
  fit : f.body.Fit
  par : f.params.length ≤ 6
  pars : ∀ s ∈ f.params, s.size ≤ 140737488355328
end Go.Proofs.YtapiiklnnkkdlaaDoor

namespace Go.Proofs.YtapiiklnnkkdlaaDoor
open Go.RowKit
set_option linter.unusedVariables false
set_option linter.unusedSimpArgs false
theorem vNm_le (c : Int) : (vNm (wr c)).size ≤ 140737488355328 := by
  have := vsz (wr c) (wr_in c)
  omega
theorem nowP_le : ∀ (ps : Ps) (s : ByteArray), s.size ≤ 140737488355328 → (∀ p ∈ ps, p.2.size ≤ 140737488355328) → (nowP ps s).size ≤ 140737488355328 := by
  intro ps s hs hp
  unfold nowP
  have : ∀ (ps : Ps) (o : ByteArray), o.size ≤ 140737488355328 → (∀ p ∈ ps, p.2.size ≤ 140737488355328) → (ps.foldl (fun o p => if p.1 = s then p.2 else o) o).size ≤ 140737488355328 := by
    intro ps
    induction ps with
    | nil => intro o ho _; exact ho
    | cons p r ih =>
      intro o ho h
      simp only [List.foldl_cons]
      refine ih _ ?_ fun q hq => h q (List.mem_cons_of_mem _ hq)
      split
      · exact h p (List.mem_cons_self ..)
      · exact ho
  exact this ps s hs hp
theorem freshL_le : ∀ (l : List ByteArray) (c : Int), ∀ s ∈ freshL l c, s.size ≤ 140737488355328
  | [], _, s, h => by cases h
  | _ :: r, c, s, h => by
    rw [freshL] at h
    rcases List.mem_cons.1 h with rfl | h
    · exact vNm_le _
    · exact freshL_le r _ s h
theorem rn_ok : ∀ (d : Nat) (t : Tm) (ps : Ps) (c : Int), t.Rt d → t.Ok → (∀ p ∈ ps, p.2.size ≤ 140737488355328) → (t.rn ps c).1.Ok := by
  intro d
  induction d with
  | zero => intro t _ _ h; exact h.elim
  | succ d ih =>
  intro t ps c hR hO hps
  obtain ⟨k, n, a, b, vs, xs, cs⟩ := t
  obtain ⟨_, _, _, hx, hc⟩ := hR
  obtain ⟨⟨o1, o2, o3⟩, ⟨o4, o5, o6⟩, o7, o8⟩ := hO
  rw [Tm.Oks_iff] at o7
  rw [Cs.Oks_iff] at o8
  have hL : ∀ (ys : List Tm) (i : Nat) (nm : ByteArray) (c : Int), (∀ y ∈ ys, y ∈ xs) → nm.size ≤ 140737488355328 → Tm.Oks (Tm.rns k a ps i ys nm c).1 ∧ (Tm.rns k a ps i ys nm c).2.1.size ≤ 140737488355328 ∧ (Tm.rns k a ps i ys nm c).1.length = ys.length := by
    intro ys
    induction ys with
    | nil => intro i nm c _ h; exact ⟨trivial, h, rfl⟩
    | cons y r ih2 =>
      intro i nm c hm hn
      have hy := hm y (List.mem_cons_self ..)
      rw [Tm.rns]
      split
      · have h1 := ih y (ps ++ [(a, vNm (wr (c + 1)))]) (wr (c + 1)) (hx y hy) (o7 y hy) (fun p hp => (List.mem_append.1 hp).elim (hps p) fun hp => by rw [List.mem_singleton.1 hp]; exact vNm_le _)
        obtain ⟨h2, h3, h4⟩ := ih2 (i + 1) (vNm (wr (c + 1))) (y.rn (ps ++ [(a, vNm (wr (c + 1)))]) (wr (c + 1))).2 (fun z hz => hm z (List.mem_cons_of_mem _ hz)) (vNm_le _)
        exact ⟨⟨h1, h2⟩, h3, by simp [h4]⟩
      · have h1 := ih y ps c (hx y hy) (o7 y hy) hps
        obtain ⟨h2, h3, h4⟩ := ih2 (i + 1) nm (y.rn ps c).2 (fun z hz => hm z (List.mem_cons_of_mem _ hz)) hn
        exact ⟨⟨h1, h2⟩, h3, by simp [h4]⟩
  have hC : ∀ (ys : List Cs) (c : Int), (∀ y ∈ ys, y ∈ cs) → Cs.Oks (Cs.rnL ys ps c).1 ∧ (Cs.rnL ys ps c).1.length = ys.length := by
    intro ys
    induction ys with
    | nil => intro c _; exact ⟨trivial, rfl⟩
    | cons y r ih2 =>
      intro c hm
      have hy := hm y (List.mem_cons_self ..)
      obtain ⟨t, ws, y⟩ := y
      obtain ⟨hw, hyR⟩ := hc _ hy
      obtain ⟨p1, p2, p3⟩ := o8 _ hy
      rw [Cs.rnL, Cs.rn]
      have h1 := ih y (ps ++ ws.zip (freshL ws c)) (freshC ws c) hyR p3 (fun p hp => (List.mem_append.1 hp).elim (hps p) fun hp => freshL_le ws c _ (List.of_mem_zip hp).2)
      obtain ⟨h2, h4⟩ := ih2 (y.rn (ps ++ ws.zip (freshL ws c)) (freshC ws c)).2 fun z hz => hm z (List.mem_cons_of_mem _ hz)
      exact ⟨⟨⟨freshL_le ws c, by rw [freshL_len]; exact p2, h1⟩, h2⟩, by simp [h4]⟩
  rw [Tm.rn]
  split
  · exact ⟨⟨nowP_le ps a o1 hps, o2, o3⟩, ⟨o4, by simp, by simp⟩, trivial, trivial⟩
  · obtain ⟨h1, h2, h3⟩ := hL xs 0 a c (fun y hy => hy) o1
    obtain ⟨h4, h5⟩ := hC cs (Tm.rns k a ps 0 xs a c).2.2 fun y hy => hy
    exact ⟨⟨h2, o2, o3⟩, ⟨o4, by rw [h3]; exact o5, by rw [h5]; exact o6⟩, h1, h4⟩
theorem Fn.rn_ok (f : Fn) (hb : f.body.Ok) (hr : f.body.Rt 25) : f.rn.body.Ok :=
  Go.Proofs.YtapiiklnnkkdlaaDoor.rn_ok 25 f.body _ _ hr hb fun p hp => freshL_le _ _ _ (List.of_mem_zip hp).2
theorem right_all {l : List Fn} (hl : FnsOk l) (h : checkE l = 0) : ∀ f ∈ l, f.body.Ok ∧ f.body.Rt 25 ∧ f.params.length ≤ 6 := fun f hf => by
  have hr := (check_zero h).2.2.2 f hf
  exact ⟨(hl.all f hf).body, wrong_rt _ 25 _ _ 0 (by omega) hr.wrong, hr.params⟩

def wNm (c : Int) : ByteArray := ⟨#[119]⟩ ++ itoaB c
theorem lit119 : ((⟨#[119]⟩ : ByteArray).size ≤ maxLen) = True := eq_true (by show 1 ≤ 9223372036854775807; omega)
theorem wsz (e : Int) (h : inI e) : (wNm e).size ≤ 22 := by
  have := itoaB_size h
  show (⟨#[119]⟩ ++ itoaB e : ByteArray).size ≤ 22
  rw [ByteArray.size_append]
  have h1 : (⟨#[119]⟩ : ByteArray).size = 1 := rfl
  omega
theorem wNm_le (c : Int) : (wNm (wr c)).size ≤ 140737488355328 := by
  have := wsz (wr c) (wr_in c)
  omega
abbrev Bs := List (ByteArray × Tm)
def Tm.tk : Tm → Int
  | .mk k _ _ _ _ _ _ => k
def varT (s : ByteArray) : Tm := .mk 1 0 s .empty [] [] []
def around : Bs → Tm → Tm
  | [], t => t
  | b :: r, t => .mk 6 0 b.1 .empty [] [b.2, around r t] []
theorem around_append : ∀ (x y : Bs) (t : Tm), around (x ++ y) t = around x (around y t)
  | [], _, _ => rfl
  | b :: r, y, t => by simp only [List.cons_append, around, around_append r y t]
mutual
def Tm.pl : Tm → Int → Tm × Int
  | .mk k n a b vs xs cs, c =>
    if k = 3 ∨ k = 4 ∨ k = 5 then (around (Tm.ats xs c).2.1 (.mk k n a .empty [] (Tm.ats xs c).1 []), (Tm.ats xs c).2.2)
    else if k = 6 then (.mk 6 0 a .empty [] (Tm.plL xs c).1 [], (Tm.plL xs c).2)
    else if k = 7 then (around (Tm.ats xs c).2.1 (.mk 7 0 .empty .empty [] (Tm.ats xs c).1 (Cs.plL cs (Tm.ats xs c).2.2).1), (Cs.plL cs (Tm.ats xs c).2.2).2)
    else (.mk k n a b vs xs cs, c)
def Tm.ats : List Tm → Int → List Tm × Bs × Int
  | [], c => ([], [], c)
  | x :: r, c => if x.tk = 1 then (x :: (Tm.ats r c).1, (Tm.ats r c).2.1, (Tm.ats r c).2.2)
    else (varT (wNm (wr (c + 1))) :: (Tm.ats r (x.pl (wr (c + 1))).2).1, (wNm (wr (c + 1)), (x.pl (wr (c + 1))).1) :: (Tm.ats r (x.pl (wr (c + 1))).2).2.1, (Tm.ats r (x.pl (wr (c + 1))).2).2.2)
def Tm.plL : List Tm → Int → List Tm × Int
  | [], c => ([], c)
  | x :: r, c => ((x.pl c).1 :: (Tm.plL r (x.pl c).2).1, (Tm.plL r (x.pl c).2).2)
def Cs.plL : List Cs → Int → List Cs × Int
  | [], c => ([], c)
  | d :: r, c => ((d.pl c).1 :: (Cs.plL r (d.pl c).2).1, (Cs.plL r (d.pl c).2).2)
def Cs.pl : Cs → Int → Cs × Int
  | .mk t ws y, c => (.mk t ws (y.pl c).1, (y.pl c).2)
end
theorem ats_len : ∀ (l : List Tm) (c : Int), (Tm.ats l c).1.length = l.length
  | [], _ => rfl
  | x :: r, c => by
    rw [Tm.ats]
    split <;> simp [ats_len r]
def Fn.pl (f : Fn) : Fn := ⟨f.rn.name, f.rn.params, (f.rn.body.pl 0).1⟩
theorem rn_rt : ∀ (d : Nat) (t : Tm) (ps : Ps) (c : Int), t.Rt d → (t.rn ps c).1.Rt d := by
  intro d
  induction d with
  | zero => intro t _ _ h; exact h.elim
  | succ d ih =>
  intro t ps c hR
  obtain ⟨k, n, a, b, vs, xs, cs⟩ := t
  obtain ⟨h1, h2, h3, hx, hc⟩ := hR
  have hL : ∀ (ys : List Tm) (i : Nat) (nm : ByteArray) (c : Int), (∀ y ∈ ys, y ∈ xs) → (∀ y ∈ (Tm.rns k a ps i ys nm c).1, y.Rt d) ∧ (Tm.rns k a ps i ys nm c).1.length = ys.length := by
    intro ys
    induction ys with
    | nil => intro i nm c _; exact ⟨fun y h => by simp [Tm.rns] at h, rfl⟩
    | cons y r ih2 =>
      intro i nm c hm
      have hy := hm y (List.mem_cons_self ..)
      rw [Tm.rns]
      split
      · obtain ⟨h2, h4⟩ := ih2 (i + 1) (vNm (wr (c + 1))) (y.rn (ps ++ [(a, vNm (wr (c + 1)))]) (wr (c + 1))).2 (fun z hz => hm z (List.mem_cons_of_mem _ hz))
        exact ⟨fun z hz => (List.mem_cons.1 hz).elim (fun e => e ▸ ih y _ _ (hx y hy)) (h2 z), by simp [h4]⟩
      · obtain ⟨h2, h4⟩ := ih2 (i + 1) nm (y.rn ps c).2 (fun z hz => hm z (List.mem_cons_of_mem _ hz))
        exact ⟨fun z hz => (List.mem_cons.1 hz).elim (fun e => e ▸ ih y _ _ (hx y hy)) (h2 z), by simp [h4]⟩
  have hC : ∀ (ys : List Cs) (c : Int), (∀ y ∈ ys, y ∈ cs) → (∀ y ∈ (Cs.rnL ys ps c).1, y.2.length ≤ 6 ∧ y.3.Rt d) ∧ (Cs.rnL ys ps c).1.length = ys.length := by
    intro ys
    induction ys with
    | nil => intro c _; exact ⟨fun y h => by simp [Cs.rnL] at h, rfl⟩
    | cons y r ih2 =>
      intro c hm
      have hy := hc y (hm y (List.mem_cons_self ..))
      rw [Cs.rnL]
      obtain ⟨h2, h4⟩ := ih2 (y.rn ps c).2 (fun z hz => hm z (List.mem_cons_of_mem _ hz))
      obtain ⟨t, ws, z⟩ := y
      refine ⟨fun z hz => (List.mem_cons.1 hz).elim (fun e => ?_) (h2 z), by simp [h4]⟩
      rw [e, Cs.rn]
      exact ⟨by dsimp only; rw [freshL_len]; exact hy.1, ih _ _ _ hy.2⟩
  rw [Tm.rn]
  split
  · rename_i hk
    subst hk
    have h2' := h2
    unfold manyB at h2'
    simp at h2'
    obtain ⟨e1, e2⟩ := h2'
    subst e1 e2
    have h0 : Tm.Rt (d + 1) (.mk 1 n (nowP ps a) b vs [] []) := by
      rw [Tm.Rt]
      exact ⟨h1, h2, h3, by simp, by simp⟩
    exact h0
  · obtain ⟨q1, q2⟩ := hL xs 0 a c (fun _ h => h)
    obtain ⟨q3, q4⟩ := hC cs (Tm.rns k a ps 0 xs a c).2.2 (fun _ h => h)
    refine ⟨h1, ?_, ?_, q1, q3⟩
    · rw [q2, q4]; exact h2
    · rw [q2, q4]; exact h3
end Go.Proofs.YtapiiklnnkkdlaaDoor

namespace Go.Proofs.YtapiiklnnkkdlaaDoor
open Go.RowKit
attribute [local simp] runD mkRc ldOf stOf stOk ldArg noAny dstOk guardOk opEff opEff0 effOp pureOp callOp zEff evA constAV scalAV Value.oneCell' frGet memGet startAS frOf isGoCall idIn AS.after nextR opnIds objIds AV.ids idsL AObj.ids frNo memNo opnAny isAny mkVal rdCells wrCells fldAddr idxAddr srcRows litRows toD1 toDs setAt sliceAV optI partAV bldAV fillAV binAV binI AV.cells callEff calleeOf frKill memKill AV.kill AObj.kill AV.has AV.hasL Op.operands Call.operands keepF keepM viewIds cChk renOf moGet moWs moQ cEff moLike moHave AV.ren renL AObj.ren AObj.like kept startC moMem AV.frz frz1 frzL frSub memSub frzs AS.frz frFrz memFrz AObj.frz takeMap takeLen bleF Nat.ble_eq memAny objAny mapOp D.keyOk rowAV valRow extOp wrapOp phO frLow memLow memLow1 objLow memEmpty Low LowL
set_option linter.unusedVariables false
set_option linter.unusedSimpArgs false


abbrev wkO (c : Int) : AObj := .blk 88 [.d (.int c)]
def bsR (b : ByteArray × Tm) : List D := .str b.1 :: b.2.row
def WtN (N : Nat) : Prop := ∀ (t : Tm) (c : Int), t.Rt N → t.Ok →
  CSpec Tryd.prog 75 [.ptr 1000 0, tmAV t] [(1000, wkO c)] (tmAV (t.pl c).1) [(1000, wkO (t.pl c).2)]
set_option maxRecDepth 20000 in
set_option maxHeartbeats 16000000 in
theorem cs_atoms (N : Nat) (ih : WtN N) (l : List Tm) (c : Int) (hn : l.length ≤ 6) (hl : ∀ x ∈ l, x.Rt N ∧ x.Ok) : CSpec Tryd.prog 119 [.ptr 1000 0, .d (.sl (l.map Tm.row))] [(1000, wkO c)] (.tuple [.d (.sl ((Tm.ats l c).1.map Tm.row)), .d (.sl ((Tm.ats l c).2.1.map bsR))]) [(1000, wkO (Tm.ats l c).2.2)] := by
  obtain ⟨R, hR⟩ : ∃ R, R = Tm.ats l c := ⟨_, rfl⟩
  rw [← hR]
  refine CSpec.of Tryd.func119 rfl rfl (Nat.le_of_ble_eq_true rfl) ?_
  show AWp _ _ (endC _ Tryd.f119 _ _) (startC 53 _ _)
  refine AWp.rg [] [] ?_ (hr := by conv => lhs; simp [Tm.row, Tm.rows_eq, Cs.rows_eq, lit119, bsR])
  refine AWp.rg [] [] ?_ (hr := by conv => lhs; simp [Tm.row, Tm.rows_eq, Cs.rows_eq, lit119, bsR])
  refine AWp.rg [] [] ?_ (hr := by conv => lhs; simp [Tm.row, Tm.rows_eq, Cs.rows_eq, lit119, bsR])
  refine AWp.rg [] [] ?_ (hr := by conv => lhs; simp [Tm.row, Tm.rows_eq, Cs.rows_eq, lit119, bsR])
  repeat (first | refine AWp.seq ?_ | refine AWp.block ?_)
  refine AWp.le (Le.low [400, 401] [] (fr := [(0, .ptr 1000 0), (6, .arr 400 0 ([] : List Tm).length), (7, .arr 401 0 ([] : Bs).length), (11, .d (.sl (l.map Tm.row))), (12, .d (.int (l.length : Int))), (13, .d (.int (0 : Int)))]) (mem := [(400, some (.arr 34 7 (([] : List Tm).map Tm.row))), (401, some (.arr 167 8 (([] : Bs).map bsR))), (1000, some (.blk 88 [.d (.int (c : Int))]))]) rfl (by simp) (by simp)) ?_
  refine AWp.loop (σ := fun u : {u : Nat × List Tm × Bs × Int // u.1 ≤ l.length ∧ (Tm.ats l c = (u.2.1 ++ (Tm.ats (l.drop u.1) u.2.2.2).1, u.2.2.1 ++ (Tm.ats (l.drop u.1) u.2.2.2).2.1, (Tm.ats (l.drop u.1) u.2.2.2).2.2) ∧ u.2.1.length = u.1 ∧ u.2.2.1.length ≤ u.1)} => ⟨53, [(0, .ptr 1000 0), (6, .arr 400 0 u.1.2.1.length), (7, .arr 401 0 u.1.2.2.1.length), (11, .d (.sl (l.map Tm.row))), (12, .d (.int (l.length : Int))), (13, .d (.int (u.1.1 : Int)))], [(400, some (.arr 34 7 (u.1.2.1.map Tm.row))), (401, some (.arr 167 8 (u.1.2.2.1.map bsR))), (1000, some (.blk 88 [.d (.int u.1.2.2.2)]))]⟩)
    (μ := fun u => l.length - u.1.1) ⟨(0, [], [], c), ⟨Nat.zero_le _, ⟨by simp, rfl, Nat.le_refl _⟩⟩⟩ (Le.sub (by simp) (by simp)) (fun ⟨(i, vs, bs, k), ⟨hi4, hw⟩⟩ => ?_)
  dsimp only at hi4 hw ⊢
  refine AWp.rg [] [] ?_ (hr := by conv => lhs; simp [Tm.row, Tm.rows_eq, Cs.rows_eq, lit119, bsR])
  repeat (first | refine AWp.seq ?_ | refine AWp.block ?_)
  refine AWp.cond rfl (fun hc => ?_) (fun hc => ?_)
  · have hi1 : i < l.length := by have := of_decide_eq_true hc; omega
    clear hc
    have h1y : l[i]? = some l[i] := List.getElem?_eq_getElem hi1
    have hmy : l[i] ∈ l := List.getElem_mem hi1
    have hdy : l.drop i = l[i] :: l.drop (i + 1) := List.drop_eq_getElem_cons hi1
    generalize l[i] = y at h1y hmy hdy
    obtain ⟨hap, hvl, hbl⟩ := hw
    rw [hdy, Tm.ats] at hap
    obtain ⟨hyR, hyO⟩ := hl y hmy
    obtain ⟨yk, yn, ya, yb, yvs, yxs, ycs⟩ := y
    rw [Tm.tk] at hap
    refine AWp.skip ?_
    refine AWp.rg [] [] ?_ (hr := by conv => lhs; simp [Tm.row, Tm.rows_eq, Cs.rows_eq, lit119, bsR, h1y])
    by_cases q1 : yk = 1
    · refine AWp.rg [] [] ?_ (hr := by conv => lhs; simp [Tm.row, Tm.rows_eq, Cs.rows_eq, lit119, bsR, h1y, q1])
      refine AWp.cy ?_
      subst q1
      rw [if_pos rfl] at hap
      refine AWp.rg [] [] ?_ (hr := by conv => lhs; simp [Tm.row, Tm.rows_eq, Cs.rows_eq, lit119, bsR, h1y])
      refine AWp.exit ?_
      refine AWp.rg [] [] ?_ (hr := by conv => lhs; simp [Tm.row, Tm.rows_eq, Cs.rows_eq, lit119, bsR, h1y])
      refine ⟨⟨(i + 1, vs ++ [.mk 1 yn ya yb yvs yxs ycs], bs, k), hi1, ⟨by rw [hap]; simp, by simp [hvl], by dsimp only; omega⟩⟩, by simp; omega, ?_⟩
      dsimp only
      exact Le.sub (by simp [bsR, Tm.row, Tm.rows_eq, Cs.rows_eq, hvl]) (by simp [bsR, Tm.row, Tm.rows_eq, Cs.rows_eq, hvl])
    refine AWp.rg [] [] ?_ (hr := by conv => lhs; simp [Tm.row, Tm.rows_eq, Cs.rows_eq, lit119, bsR, h1y, q1])
    refine AWp.cn ?_
    refine AWp.skip ?_
    rw [if_neg q1] at hap
    obtain ⟨e, he⟩ : ∃ e : Int, wr (k + 1) = e := ⟨_, rfl⟩
    rw [he] at hap
    have heI : inI e := by rw [← he]; exact wr_in _
    have hit := sp_Itoa e heI
    have hsz := itoaB_size heI
    have h1s : (⟨#[119]⟩ : ByteArray).size = 1 := rfl
    have hx := ih (.mk yk yn ya yb yvs yxs ycs) e hyR hyO
    generalize (Tm.mk yk yn ya yb yvs yxs ycs).pl e = o at hx hap
    obtain ⟨z, c2⟩ := o
    dsimp only at hx hap
    obtain ⟨zk, zn, za, zb, zvs, zxs, zcs⟩ := z
    refine AWp.rg [4] [] ?_ (hr := by conv => lhs; simp [Tm.row, Tm.rows_eq, Cs.rows_eq, lit119, bsR, h1y, he, q1])
    refine AWp.rg [] [.p (fun _ => .d (.str (itoaB e))) none] ?_ (hr := by conv => lhs; simp [Tm.row, Tm.rows_eq, Cs.rows_eq, lit119, bsR, h1y, he, q1])
    obtain ⟨s, hs⟩ : ∃ s, s = ⟨#[119]⟩ ++ itoaB e := ⟨_, rfl⟩
    rw [← hs]
    rw [wNm, ← hs] at hap
    refine AWp.rg [] [.c [] [.ptr 1000 0, .agg [.d (.int yk), .d (.int yn), .d (.str ya), .d (.str yb), .d (strsD yvs), .d (.sl (yxs.map Tm.row)), .d (.sl (ycs.map Cs.row))]] [(1000, .blk 88 [.d (.int e)])] (.agg [.d (.int zk), .d (.int zn), .d (.str za), .d (.str zb), .d (strsD zvs), .d (.sl (zxs.map Tm.row)), .d (.sl (zcs.map Cs.row))]) [(1000, .blk 88 [.d (.int c2)])]] ?_ (hr := by conv => lhs; simp [Tm.row, Tm.rows_eq, Cs.rows_eq, lit119, bsR, h1y, q1])
    refine AWp.rg [] [] ?_ (hr := by conv => lhs; simp [Tm.row, Tm.rows_eq, Cs.rows_eq, lit119, bsR, h1y, q1])
    refine AWp.rg [] [] ?_ (hr := by conv => lhs; simp [Tm.row, Tm.rows_eq, Cs.rows_eq, lit119, bsR, h1y, q1])
    refine ⟨⟨(i + 1, vs ++ [.mk 1 0 s .empty [] [] []], bs ++ [(s, .mk zk zn za zb zvs zxs zcs)], c2), hi1, ⟨by rw [hap]; simp [varT], by simp [hvl], by dsimp only; simp; omega⟩⟩, by simp; omega, ?_⟩
    dsimp only
    exact Le.sub (by simp [bsR, Tm.row, Tm.rows_eq, Cs.rows_eq, hvl]) (by simp [bsR, Tm.row, Tm.rows_eq, Cs.rows_eq, hvl])
  have hi1 : i = l.length := by have := of_decide_eq_false hc; omega
  subst hi1
  clear hc
  obtain ⟨hap, hvl, hbl⟩ := hw
  rw [List.drop_length, Tm.ats] at hap
  simp only [List.append_nil] at hap
  rw [hap] at hR
  try dsimp only at hR
  subst hR
  refine AWp.exit ?_
  refine AWp.rg [] [] ?_ (hr := by conv => lhs; simp [Tm.row, Tm.rows_eq, Cs.rows_eq, lit119, bsR])
  refine AWp.ret ?_
  try dsimp only [thenQ, blockQ]
  apply endC.retF [400, 401]
  · rfl
  · conv => lhs; simp
  · conv => lhs; simp [resAV, Tryd.results119]
  · rfl
  · simp [moEnd, memGet]
set_option maxRecDepth 20000 in
set_option maxHeartbeats 16000000 in
theorem sp_around (bs : Bs) (tk tn : Int) (ta tb : ByteArray) (tvs : List ByteArray) (txs : List Tm) (tcs : List Cs) (hn : bs.length ≤ 6) : PSpec Tryd.prog 120 [.d (.sl (bs.map bsR)), tmAV (.mk tk tn ta tb tvs txs tcs)] (fun _ => tmAV (around bs (.mk tk tn ta tb tvs txs tcs))) none := by
  obtain ⟨R, hR⟩ : ∃ R, R = around bs (.mk tk tn ta tb tvs txs tcs) := ⟨_, rfl⟩
  rw [← hR]
  obtain ⟨rk, rn, ra, rb, rvs, rxs, rcs⟩ := R
  refine PSpec.of Tryd.func120 rfl rfl rfl (Nat.le_of_ble_eq_true rfl) ?_
  show AWp _ _ (endQ _ Tryd.f120 _ _ _) (startAS 27 _)
  refine AWp.rg [] [] ?_ (hr := by conv => lhs; simp [Tm.row, Tm.rows_eq, Cs.rows_eq, bsR])
  refine AWp.rg [] [] ?_ (hr := by conv => lhs; simp [Tm.row, Tm.rows_eq, Cs.rows_eq, bsR])
  repeat (first | refine AWp.seq ?_ | refine AWp.block ?_)
  refine AWp.loop (σ := fun u : {u : Nat × Int × Int × ByteArray × ByteArray × List ByteArray × List Tm × List Cs // (around bs (.mk tk tn ta tb tvs txs tcs) = around (bs.take u.1) (.mk u.2.1 u.2.2.1 u.2.2.2.1 u.2.2.2.2.1 u.2.2.2.2.2.1 u.2.2.2.2.2.2.1 u.2.2.2.2.2.2.2) ∧ u.1 ≤ bs.length)} => ⟨27, [(0, .d (.sl (bs.map bsR))), (3, .ptr 3 0), (4, .ptr 4 0), (5, .d (.int ((u.1.1 : Int) - 1)))], [(3, some (.blk 34 [.d (.int u.1.2.1), .d (.int u.1.2.2.1), .d (.str u.1.2.2.2.1), .d (.str u.1.2.2.2.2.1), .d (strsD u.1.2.2.2.2.2.1), .d (.sl (u.1.2.2.2.2.2.2.1.map Tm.row)), .d (.sl (u.1.2.2.2.2.2.2.2.map Cs.row))])), (4, some (.blk 34 [.d (.int 0), .d (.int 0), .d (.str ByteArray.empty), .d (.str ByteArray.empty), .lit (.slice none 0 0), .lit (.slice none 0 0), .lit (.slice none 0 0)]))]⟩)
    (μ := fun u => u.1.1) ⟨(bs.length, tk, tn, ta, tb, tvs, txs, tcs), ⟨by rw [List.take_length], Nat.le_refl _⟩⟩ (Le.sub (by simp) (by simp)) (fun ⟨(j0, zk, zn, za, zb, zvs, zxs, zcs), hw⟩ => ?_)
  dsimp only at hw ⊢
  obtain ⟨hw, hj⟩ := hw
  rcases j0 with _ | j
  · rw [show ((0 : Nat) : Int) - 1 = -1 from rfl]
    refine AWp.rg [] [] ?_ (hr := by conv => lhs; simp [Tm.row, Tm.rows_eq, Cs.rows_eq, bsR])
    refine AWp.cn ?_
    refine AWp.exit ?_
    rw [List.take_zero] at hw
    obtain ⟨rfl, rfl, rfl, rfl, rfl, rfl, rfl⟩ : zk = rk ∧ zn = rn ∧ za = ra ∧ zb = rb ∧ zvs = rvs ∧ zxs = rxs ∧ zcs = rcs := by simpa [around] using (hR.trans hw).symm
    refine AWp.rg [] [] ?_ (hr := by conv => lhs; simp [Tm.row, Tm.rows_eq, Cs.rows_eq, bsR])
    refine AWp.ret ?_
    try dsimp only [thenQ, blockQ]
    apply endQ.ret
    · rfl
    · conv => lhs; simp [resAV, Tryd.results120]
    first | rfl | simp [resVal, tmAV]
  rw [show ((j + 1 : Nat) : Int) - 1 = (j : Int) by omega]
  have hk0 := eq_true (Int.natCast_nonneg j)
  have hk1 : j < bs.length := by omega
  have h1p : bs[j]? = some bs[j] := List.getElem?_eq_getElem hk1
  have htk : bs.take (j + 1) = bs.take j ++ [bs[j]] := by rw [List.take_add_one, h1p]; rfl
  generalize bs[j] = p at h1p htk
  obtain ⟨bn, xk, xn, xa, xb, xvs, xxs, xcs⟩ := p
  rw [htk, around_append] at hw
  dsimp only [around] at hw
  refine AWp.rg [] [] ?_ (hr := by conv => lhs; simp [Tm.row, Tm.rows_eq, Cs.rows_eq, bsR, h1p, hk0])
  refine AWp.cy ?_
  refine AWp.skip ?_
  refine AWp.dw [11] [] mixed ?_ (hr := by conv => lhs; simp [Tm.row, Tm.rows_eq, Cs.rows_eq, bsR, h1p, hk0])
  repeat (first | refine AWp.seq ?_ | refine AWp.block ?_)
  refine AWp.le (Le.low [] [] (fr := [(0, .d (.sl (bs.map bsR))), (3, .ptr 3 0), (4, .ptr 4 0), (5, .d (.int (j : Int)))]) (mem := [(3, some (.blk 34 [.d (.int 6), .d (.int 0), .d (.str bn), .d (.str ByteArray.empty), .d (.sl []), .d (.sl [[.int xk, .int xn, .str xa, .str xb, strsD xvs, .sl (xxs.map Tm.row), .sl (xcs.map Cs.row)], [.int zk, .int zn, .str za, .str zb, strsD zvs, .sl (zxs.map Tm.row), .sl (zcs.map Cs.row)]]), .d (.sl [])])), (4, some (.blk 34 [.d (.int 0), .d (.int 0), .d (.str ByteArray.empty), .d (.str ByteArray.empty), .lit (.slice none 0 0), .lit (.slice none 0 0), .lit (.slice none 0 0)]))]) rfl (by simp) (by simp)) ?_
  refine AWp.rg [] [] ?_ (hr := by conv => lhs; simp [Tm.row, Tm.rows_eq, Cs.rows_eq, bsR, h1p, hk0])
  refine ⟨⟨(j, 6, 0, bn, .empty, [], [.mk xk xn xa xb xvs xxs xcs, .mk zk zn za zb zvs zxs zcs], []), ⟨hw, by omega⟩⟩, by simp only []; omega, ?_⟩
  dsimp only
  exact Le.sub (by simp [Tm.row, Tm.rows_eq, Cs.rows_eq, strsD]) (by simp [Tm.row, Tm.rows_eq, Cs.rows_eq, strsD])
end Go.Proofs.YtapiiklnnkkdlaaDoor
