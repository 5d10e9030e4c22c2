import Derived.Test.YtapiiklnnkkdlaaDoorNameB
import Derived.Test.YtapiiklnnkkdlaaDoorNamesC
/- own.let, match, Term. Printed by a small program. -/
namespace Go.Proofs.YtapiiklnnkkdlaaDoor
open Go.RowKit
attribute [local simp] runD mkRc ldOf stOf stOk ldArg noAny dstOk guardOk opEff opEff0 effOp pureOp callOp zEff evA constAV scalAV Value.oneCell' frGet memGet startAS frOf isGoCall idIn AS.after nextR opnIds objIds AV.ids idsL AObj.ids frNo memNo opnAny isAny mkVal rdCells wrCells fldAddr idxAddr srcRows litRows toD1 toDs setAt sliceAV optI partAV bldAV fillAV binAV binI AV.cells callEff calleeOf frKill memKill AV.kill AObj.kill AV.has AV.hasL Op.operands Call.operands keepF keepM viewIds cChk renOf moGet moWs moQ cEff moLike moHave AV.ren renL AObj.ren AObj.like kept startC moMem AV.frz frz1 frzL frSub memSub frzs AS.frz frFrz memFrz AObj.frz takeMap takeLen bleF Nat.ble_eq memAny objAny mapOp D.keyOk rowAV valRow extOp wrapOp phO frLow memLow memLow1 objLow memEmpty Low LowL
set_option linter.unusedVariables false
set_option linter.unusedSimpArgs false
theorem maxLen_ge {s : ByteArray} (h : s.size ≤ 140737488355328) : s.size ≤ maxLen := by unfold maxLen; omega
def OwN (N : Nat) : Prop := ∀ (t : Tm) (has : List ByteArray), t.Rt N → t.Fit → has.length + 6 * N ≤ 100000 → (∀ s ∈ has, s.size ≤ 140737488355328) →
  PSpec Tryd.prog 40 [tmAV t, strsAV has] (fun _ => tmAV (t.ow has)) none
set_option maxRecDepth 20000 in
set_option maxHeartbeats 16000000 in
theorem sp_let (N : Nat) (ih : OwN N) (own : List ByteArray) (x y : Tm) (tn : Int) (ta tb : ByteArray) (tvs : List ByteArray) (hxR : x.Rt N) (hyR : y.Rt N) (hxF : x.Fit) (hyF : y.Fit) (hta : ta.size ≤ 140737488355328) (hol : own.length + 6 * (N + 1) ≤ 100000) (hos : ∀ s ∈ own, s.size ≤ 140737488355328) :
    PSpec Tryd.prog 82 [tmAV (.mk 6 tn ta tb tvs [x, y] []), strsAV own] (fun _ => tmAV (cnt 8 (letD ta own [x, y]) (.mk 6 0 ta .empty [] (Tm.owZ [x, y] (letH ta own [x, y])) []))) none := by
  rw [letD, letH, Tm.owZ, List.headD_cons, List.tail_cons, Tm.owZ, List.headD_cons, List.tail_cons, Tm.owZ]
  have hfx := sp_Free x hxF
  have hfy := sp_Free y hyF
  have hxl : x.free.length ≤ 1048576 := Nat.le_trans (Tm.free_len x) hxF.sz
  have hyl : y.free.length ≤ 1048576 := Nat.le_trans (Tm.free_len y) hyF.sz
  have hzx := ih x (inN own x.free) hxR hxF (by have := inN_len own x.free; omega) (fun s hs => hos s (List.mem_filter.1 hs).1)
  have hzy := ih y (inN own (woN y.free [ta]) ++ [ta]) hyR hyF (by have := inN_len own (woN y.free [ta]); simp; omega) (fun s hs => (List.mem_append.1 hs).elim (fun h => hos s (List.mem_filter.1 h).1) fun h => by rw [List.mem_singleton.1 h]; exact hta)
  generalize x.free = xf at hfx hxl hzx ⊢
  generalize y.free = yf at hfy hyl hzy ⊢
  have hout : PSpec Tryd.prog 78 [strsAV yf, .d (.sl [[.str ta]])] (fun _ => strsAV (woN yf [ta])) none := sp_out yf [ta] (by omega) (by simp)
  have hRl := woN_len yf [ta]
  generalize woN yf [ta] = R at hout hRl hzy ⊢
  have hi1 := sp_in own xf (by omega) (by omega)
  have hi2 := sp_in own R (by omega) (by omega)
  have hI1 := inN_len own xf
  have hI2 := inN_len own R
  have hi3 := sp_in (inN own xf) R (by omega) (by omega)
  have hI3 := inN_len (inN own xf) R
  have hI3s : ∀ s ∈ inN (inN own xf) R, s.size ≤ maxLen := fun s hs => maxLen_ge (hos s (List.mem_filter.1 (List.mem_filter.1 hs).1).1)
  generalize inN (inN own xf) R = I3 at hi3 hI3 hI3s ⊢
  generalize inN own xf = I1 at hi1 hi3 hI1 hI3 hzx ⊢
  generalize inN own R = I2 at hi2 hI2 hzy ⊢
  obtain ⟨A2, hA⟩ : ∃ A, A = I2 ++ [ta] := ⟨_, rfl⟩
  rw [← hA] at hzy ⊢
  have hA2 : List.take (I2.length + 1) (List.map strR I2 ++ [[D.str ta]]) = List.map strR A2 := by rw [hA, List.map_append, List.take_of_length_le (by simp)]; rfl
  have hA2l : A2.length = I2.length + 1 := by rw [hA]; simp
  generalize x.ow I1 = z at hzx ⊢
  generalize y.ow A2 = u at hzy ⊢
  have hdu := sp_dups I3 (.mk 6 0 ta .empty [] [z, u] []) (by omega) hI3s
  generalize cnt 8 I3 (.mk 6 0 ta .empty [] [z, u] []) = e at hdu ⊢
  obtain ⟨xk, xn, xa, xb, xvs, xxs, xcs⟩ := x
  obtain ⟨yk, yn, ya, yb, yvs, yxs, ycs⟩ := y
  obtain ⟨zk, zn, za, zb, zvs, zxs, zcs⟩ := z
  obtain ⟨uk, un, ua, ub, uvs, uxs, ucs⟩ := u
  obtain ⟨ek, en, ea, eb, evs, exs, ecs⟩ := e
  replace hdu : PSpec Tryd.prog 80 [strsAV I3, .agg [.d (.int 6), .d (.int 0), .d (.str ta), .d (.str .empty), .d (.sl []), .d (.sl [[.int zk, .int zn, .str za, .str zb, strsD zvs, .sl (zxs.map Tm.row), .sl (zcs.map Cs.row)], [.int uk, .int un, .str ua, .str ub, strsD uvs, .sl (uxs.map Tm.row), .sl (ucs.map Cs.row)]]), .d (.sl [])]] (fun _ => tmAV (.mk ek en ea eb evs exs ecs)) none := by
    simpa only [tmAV, strsD, List.map_cons, List.map_nil, Tm.row, Tm.rows_eq, Cs.rows_eq] using hdu
  refine PSpec.of Tryd.func82 rfl rfl rfl (Nat.le_of_ble_eq_true rfl) ?_
  show AWp _ _ (endQ _ Tryd.f82 _ _ _) (startAS 53 _)
  refine AWp.rg [] [] ?_ (hr := by conv => lhs; simp [Tm.row, Tm.rows_eq, Cs.rows_eq])
  refine AWp.dw [4, 9, 12] [.p (fun d => .arr d 0 xf.length) (some (.arr 9 1 (xf.map strR))), .p (fun d => .arr d 0 yf.length) (some (.arr 9 1 (yf.map strR))), .p (fun _ => .d (strsD R)) none] mixed ?_ (hr := by conv => lhs; simp [Tm.row, Tm.rows_eq, Cs.rows_eq])
  refine AWp.dw [8, 20, 22] [.p (fun d => .arr d 0 I1.length) (some (.arr 9 1 (I1.map strR))), .p (fun _ => .agg [.d (.int zk), .d (.int zn), .d (.str za), .d (.str zb), .d (strsD zvs), .d (.sl (zxs.map Tm.row)), .d (.sl (zcs.map Cs.row))]) none, .p (fun d => .arr d 0 I2.length) (some (.arr 9 1 (I2.map strR))), .p (fun _ => .agg [.d (.int uk), .d (.int un), .d (.str ua), .d (.str ub), .d (strsD uvs), .d (.sl (uxs.map Tm.row)), .d (.sl (ucs.map Cs.row))]) none] mixed ?_ (hr := by conv => lhs; simp [Tm.row, Tm.rows_eq, Cs.rows_eq, hA2])
  repeat (first | refine AWp.seq ?_ | refine AWp.block ?_)
  refine AWp.le (Le.low [] [] (fr := [(1, .d (strsD own)), (4, .ptr 4 0), (5, .d (strsD xf)), (6, .d (strsD R)), (7, .ptr 7 0)]) (mem := [(4, some (.blk 34 [.d (.int 0), .d (.int 0), .d (.str ByteArray.empty), .d (.str ByteArray.empty), .lit (.slice none 0 0), .lit (.slice none 0 0), .lit (.slice none 0 0)])), (7, some (.blk 34 [.d (.int 6), .d (.int 0), .d (.str ta), .d (.str ByteArray.empty), .d (.sl []), .d (.sl [[.int zk, .int zn, .str za, .str zb, strsD zvs, .sl (zxs.map Tm.row), .sl (zcs.map Cs.row)], [.int uk, .int un, .str ua, .str ub, strsD uvs, .sl (uxs.map Tm.row), .sl (ucs.map Cs.row)]]), .d (.sl [])]))]) rfl (by simp) (by simp)) ?_
  refine AWp.dw [2, 4] [.p (fun d => .arr d 0 I1.length) (some (.arr 9 1 (I1.map strR))), .p (fun d => .arr d 0 I3.length) (some (.arr 9 1 (I3.map strR))), .p (fun _ => .agg [.d (.int ek), .d (.int en), .d (.str ea), .d (.str eb), .d (strsD evs), .d (.sl (exs.map Tm.row)), .d (.sl (ecs.map Cs.row))]) none] mixed ?_ (hr := by conv => lhs; simp [Tm.row, Tm.rows_eq, Cs.rows_eq])
  refine AWp.ret ?_
  try dsimp only [thenQ, blockQ]
  apply endQ.ret
  · rfl
  · conv => lhs; simp [resAV, Tryd.results82]
  first | rfl | simp [resVal, tmAV, Tm.row, Tm.rows_eq, Cs.rows_eq, AV.nilD, nilDL, strsD]
set_option maxRecDepth 20000 in
set_option maxHeartbeats 16000000 in
theorem sp_match (N : Nat) (ih : OwN N) (own : List ByteArray) (xk xn : Int) (xa xb : ByteArray) (xvs : List ByteArray) (xxs : List Tm) (xcs : List Cs) (tn : Int) (ta tb : ByteArray) (tvs : List ByteArray) (tcs : List Cs) (hcR : ∀ c ∈ tcs, c.2.length ≤ 6 ∧ c.3.Rt N) (hcF : ∀ c ∈ tcs, (∀ s ∈ c.2, s.size ≤ 140737488355328) ∧ c.3.Fit) (hcl6 : tcs.length ≤ 6) (hxa : xa.size ≤ 140737488355328) (hol : own.length + 6 * (N + 1) ≤ 100000) (hos : ∀ s ∈ own, s.size ≤ 140737488355328) :
    PSpec Tryd.prog 83 [tmAV (.mk 7 tn ta tb tvs [.mk xk xn xa xb xvs xxs xcs] tcs), strsAV own] (fun _ => tmAV (.mk 7 0 .empty .empty [] [.mk xk xn xa xb xvs xxs xcs] (Cs.owL tcs own xa))) none := by
  refine PSpec.of Tryd.func83 rfl rfl rfl (Nat.le_of_ble_eq_true rfl) ?_
  show AWp _ _ (endQ _ Tryd.f83 _ _ _) (startAS 74 _)
  refine AWp.rg [] [] ?_ (hr := by conv => lhs; simp [Tm.row, Tm.rows_eq, Cs.rows_eq])
  refine AWp.rg [] [] ?_ (hr := by conv => lhs; simp [Tm.row, Tm.rows_eq, Cs.rows_eq])
  refine AWp.rg [4] [] ?_ (hr := by conv => lhs; simp [Tm.row, Tm.rows_eq, Cs.rows_eq])
  refine AWp.rg [] [] ?_ (hr := by conv => lhs; simp [Tm.row, Tm.rows_eq, Cs.rows_eq])
  repeat (first | refine AWp.seq ?_ | refine AWp.block ?_)
  refine AWp.le (Le.low [400] [] (fr := [(1, .d (strsD own)), (4, .ptr 4 0), (5, .d (.str xa)), (6, .ptr 6 0), (26, .d (.sl (tcs.map Cs.row))), (27, .d (.int (tcs.length : Int))), (28, .d (.int (0 : Int)))]) (mem := [(4, some (.blk 34 [.d (.int 0), .d (.int 0), .d (.str ByteArray.empty), .d (.str ByteArray.empty), .lit (.slice none 0 0), .lit (.slice none 0 0), .lit (.slice none 0 0)])), (6, some (.blk 34 [.d (.int 7), .d (.int 0), .d (.str ByteArray.empty), .d (.str ByteArray.empty), .lit (.slice none 0 0), .d (.sl [[.int xk, .int xn, .str xa, .str xb, strsD xvs, .sl (xxs.map Tm.row), .sl (xcs.map Cs.row)]]), .arr 400 0 ([] : List Cs).length])), (400, some (.arr 40 9 (([] : List Cs).map Cs.row)))]) rfl (by simp) (by simp)) ?_
  refine AWp.loop (σ := fun u : {u : Nat × List Cs // u.1 ≤ tcs.length ∧ u.2 = Cs.owL (tcs.take u.1) own xa} => ⟨74, [(1, .d (strsD own)), (4, .ptr 4 0), (5, .d (.str xa)), (6, .ptr 6 0), (26, .d (.sl (tcs.map Cs.row))), (27, .d (.int (tcs.length : Int))), (28, .d (.int (u.1.1 : Int)))], [(4, some (.blk 34 [.d (.int 0), .d (.int 0), .d (.str ByteArray.empty), .d (.str ByteArray.empty), .lit (.slice none 0 0), .lit (.slice none 0 0), .lit (.slice none 0 0)])), (6, some (.blk 34 [.d (.int 7), .d (.int 0), .d (.str ByteArray.empty), .d (.str ByteArray.empty), .lit (.slice none 0 0), .d (.sl [[.int xk, .int xn, .str xa, .str xb, strsD xvs, .sl (xxs.map Tm.row), .sl (xcs.map Cs.row)]]), .arr 400 0 u.1.2.length])), (400, some (.arr 40 9 (u.1.2.map Cs.row)))]⟩)
    (μ := fun u => tcs.length - u.1.1) ⟨(0, []), ⟨Nat.zero_le _, by simp [Cs.owL]⟩⟩ (Le.sub (by simp) (by simp)) (fun ⟨(i, ds), ⟨hi4, hw⟩⟩ => ?_)
  dsimp only at hi4 hw ⊢
  refine AWp.rg [] [] ?_ (hr := by conv => lhs; simp [Tm.row, Tm.rows_eq, Cs.rows_eq])
  repeat (first | refine AWp.seq ?_ | refine AWp.block ?_)
  refine AWp.cond rfl (fun hc => ?_) (fun hc => ?_)
  · have hi1 : i < tcs.length := by have := of_decide_eq_true hc; omega
    clear hc
    have h1d : tcs[i]? = some tcs[i] := List.getElem?_eq_getElem hi1
    have hmd : tcs[i] ∈ tcs := List.getElem_mem hi1
    have hdd : tcs.drop i = tcs[i] :: tcs.drop (i + 1) := List.drop_eq_getElem_cons hi1
    generalize tcs[i] = d at h1d hmd hdd
    have hdl : ds.length = i := by rw [hw, Cs.owL_len, List.length_take]; omega
    have hsn := Cs.owL_snoc h1d own xa
    rw [← hw] at hsn
    obtain ⟨hws, hyR⟩ := hcR d hmd
    obtain ⟨hwz, hyF⟩ := hcF d hmd
    obtain ⟨dt, dws, y⟩ := d
    try dsimp only at hws hyR hwz hyF
    rw [Cs.ow] at hsn
    have hfy := sp_Free y hyF
    have hfl : y.free.length ≤ 1048576 := Nat.le_trans (Tm.free_len y) hyF.sz
    generalize y.free = yf at hsn hfy hfl
    have hin := sp_in dws yf (by omega) (by omega)
    have hUl := inN_len dws yf
    have hUz : ∀ s ∈ inN dws yf, s.size ≤ 140737488355328 := fun s hs => hwz s (List.mem_filter.1 hs).1
    generalize inN dws yf = U at hin hUl hUz hsn
    obtain ⟨H, hH⟩ : ∃ H, H = own ++ U := ⟨_, rfl⟩
    rw [← hH] at hsn
    have hHt : List.take (own.length + U.length) (List.map strR own ++ List.map strR U) = List.map strR H := by rw [hH, List.map_append, List.take_of_length_le (by simp)]
    have hHl : H.length = own.length + U.length := by rw [hH]; simp
    have hHz : ∀ s ∈ H, s.size ≤ 140737488355328 := fun s hs => by
      rw [hH] at hs
      exact (List.mem_append.1 hs).elim (hos s) (hUz s)
    have hcl := sp_Clone own (by omega)
    have hcw := sp_Clone dws (by omega)
    have hct := sp_Contains yf xa (by omega)
    generalize hasB yf xa = q at hsn hct
    obtain ⟨yk, yn, ya, yb, yvs, yxs, ycs⟩ := y
    refine AWp.skip ?_
    refine AWp.rg [] [] ?_ (hr := by conv => lhs; simp [Tm.row, Tm.rows_eq, Cs.rows_eq, h1d, Cs.row])
    cases q with
    | true =>
      simp only [if_true] at hsn
      have hz := ih (.mk yk yn ya yb yvs yxs ycs) H hyR hyF (by omega) hHz
      generalize (Tm.mk yk yn ya yb yvs yxs ycs).ow H = z at hz hsn
      obtain ⟨zk, zn, za, zb, zvs, zxs, zcs⟩ := z
      have hd := PSpec.nilArgs (args := [.lit (.slice none 0 0), tmAV (.mk zk zn za zb zvs zxs zcs)]) (sp_drops [] (.mk zk zn za zb zvs zxs zcs) (by simp) (by simp))
      generalize cnt 9 [] (Tm.mk zk zn za zb zvs zxs zcs) = e at hd hsn
      have hu := sp_dups U e (by omega) (fun s hs => maxLen_ge (hUz s hs))
      generalize cnt 8 U e = u at hu hsn
      obtain ⟨ek, en, ea, eb, evs, exs, ecs⟩ := e
      obtain ⟨uk, un, ua, ub, uvs, uxs, ucs⟩ := u
      refine AWp.rg [2] [.p (fun d => .arr d 0 yf.length) (some (.arr 9 1 (yf.map strR)))] ?_ (hr := by conv => lhs; simp [Tm.row, Tm.rows_eq, Cs.rows_eq, h1d, Cs.row])
      refine AWp.rg [3] [.p (fun d => .arr d 0 U.length) (some (.arr 9 1 (U.map strR)))] ?_ (hr := by conv => lhs; simp [Tm.row, Tm.rows_eq, Cs.rows_eq, h1d, Cs.row])
      refine AWp.rg [3] [.p (fun d => .arr d 0 own.length) (some (.arr 9 1 (own.map strR)))] ?_ (hr := by conv => lhs; simp [Tm.row, Tm.rows_eq, Cs.rows_eq, h1d, Cs.row, hHt])
      refine AWp.rg [] [] ?_ (hr := by conv => lhs; simp [Tm.row, Tm.rows_eq, Cs.rows_eq, h1d, Cs.row])
      refine AWp.rg [] [.p (fun _ => .d (.bool true)) none] ?_ (hr := by conv => lhs; simp [Tm.row, Tm.rows_eq, Cs.rows_eq, h1d, Cs.row])
      refine AWp.cn ?_
      refine AWp.skip ?_
      refine AWp.rg [] [.p (fun _ => .agg [.d (.int zk), .d (.int zn), .d (.str za), .d (.str zb), .d (strsD zvs), .d (.sl (zxs.map Tm.row)), .d (.sl (zcs.map Cs.row))]) none, .p (fun _ => .agg [.d (.int ek), .d (.int en), .d (.str ea), .d (.str eb), .d (strsD evs), .d (.sl (exs.map Tm.row)), .d (.sl (ecs.map Cs.row))]) none, .p (fun _ => .agg [.d (.int uk), .d (.int un), .d (.str ua), .d (.str ub), .d (strsD uvs), .d (.sl (uxs.map Tm.row)), .d (.sl (ucs.map Cs.row))]) none] ?_ (hr := by conv => lhs; simp [Tm.row, Tm.rows_eq, Cs.rows_eq, h1d, Cs.row])
      refine AWp.dw [6] [.p (fun d => .arr d 0 dws.length) (some (.arr 9 1 (dws.map strR)))] mixed ?_ (hr := by conv => lhs; simp [Tm.row, Tm.rows_eq, Cs.rows_eq, h1d, Cs.row])
      refine AWp.rg [] [] ?_ (hr := by conv => lhs; simp [Tm.row, Tm.rows_eq, Cs.rows_eq, h1d, Cs.row])
      refine ⟨⟨(i + 1, ds ++ [.mk dt dws (.mk uk un ua ub uvs uxs ucs)]), hi1, by rw [hsn]⟩, by simp; omega, ?_⟩
      dsimp only
      exact Le.sub (by simp [Cs.row, Tm.row, Tm.rows_eq, Cs.rows_eq, hdl]) (by simp [Cs.row, Tm.row, Tm.rows_eq, Cs.rows_eq, hdl])
    | false =>
      simp only [Bool.false_eq_true, if_false] at hsn
      have hou : PSpec Tryd.prog 78 [strsAV H, .d (.sl [[.str xa]])] (fun _ => strsAV (woN H [xa])) none := sp_out H [xa] (by omega) (by simp)
      have hWl := woN_len H [xa]
      have hWz : ∀ s ∈ woN H [xa], s.size ≤ 140737488355328 := fun s hs => hHz s (List.mem_filter.1 hs).1
      generalize woN H [xa] = W at hou hWl hWz hsn
      have hz := ih (.mk yk yn ya yb yvs yxs ycs) W hyR hyF (by omega) hWz
      generalize (Tm.mk yk yn ya yb yvs yxs ycs).ow W = z at hz hsn
      have hd : PSpec Tryd.prog 84 [.d (.sl [[.str xa]]), tmAV z] (fun _ => tmAV (cnt 9 [xa] z)) none := sp_drops [xa] z (by simp) (fun s hs => by rw [List.mem_singleton.1 hs]; exact maxLen_ge hxa)
      generalize cnt 9 [xa] z = e at hd hsn
      obtain ⟨zk, zn, za, zb, zvs, zxs, zcs⟩ := z
      have hu := sp_dups U e (by omega) (fun s hs => maxLen_ge (hUz s hs))
      generalize cnt 8 U e = u at hu hsn
      obtain ⟨ek, en, ea, eb, evs, exs, ecs⟩ := e
      obtain ⟨uk, un, ua, ub, uvs, uxs, ucs⟩ := u
      refine AWp.rg [2] [.p (fun d => .arr d 0 yf.length) (some (.arr 9 1 (yf.map strR)))] ?_ (hr := by conv => lhs; simp [Tm.row, Tm.rows_eq, Cs.rows_eq, h1d, Cs.row])
      refine AWp.rg [3] [.p (fun d => .arr d 0 U.length) (some (.arr 9 1 (U.map strR)))] ?_ (hr := by conv => lhs; simp [Tm.row, Tm.rows_eq, Cs.rows_eq, h1d, Cs.row])
      refine AWp.rg [3] [.p (fun d => .arr d 0 own.length) (some (.arr 9 1 (own.map strR)))] ?_ (hr := by conv => lhs; simp [Tm.row, Tm.rows_eq, Cs.rows_eq, h1d, Cs.row, hHt])
      refine AWp.rg [] [] ?_ (hr := by conv => lhs; simp [Tm.row, Tm.rows_eq, Cs.rows_eq, h1d, Cs.row])
      refine AWp.rg [] [.p (fun _ => .d (.bool false)) none] ?_ (hr := by conv => lhs; simp [Tm.row, Tm.rows_eq, Cs.rows_eq, h1d, Cs.row])
      refine AWp.cy ?_
      refine AWp.rg [1] [] ?_ (hr := by conv => lhs; simp [Tm.row, Tm.rows_eq, Cs.rows_eq, h1d, Cs.row])
      refine AWp.rg [] [.p (fun _ => .d (strsD W)) none] ?_ (hr := by conv => lhs; simp [Tm.row, Tm.rows_eq, Cs.rows_eq, h1d, Cs.row])
      refine AWp.rg [] [.p (fun _ => .agg [.d (.int zk), .d (.int zn), .d (.str za), .d (.str zb), .d (strsD zvs), .d (.sl (zxs.map Tm.row)), .d (.sl (zcs.map Cs.row))]) none, .p (fun _ => .agg [.d (.int ek), .d (.int en), .d (.str ea), .d (.str eb), .d (strsD evs), .d (.sl (exs.map Tm.row)), .d (.sl (ecs.map Cs.row))]) none, .p (fun _ => .agg [.d (.int uk), .d (.int un), .d (.str ua), .d (.str ub), .d (strsD uvs), .d (.sl (uxs.map Tm.row)), .d (.sl (ucs.map Cs.row))]) none] ?_ (hr := by conv => lhs; simp [Tm.row, Tm.rows_eq, Cs.rows_eq, h1d, Cs.row])
      refine AWp.dw [6] [.p (fun d => .arr d 0 dws.length) (some (.arr 9 1 (dws.map strR)))] mixed ?_ (hr := by conv => lhs; simp [Tm.row, Tm.rows_eq, Cs.rows_eq, h1d, Cs.row])
      refine AWp.rg [] [] ?_ (hr := by conv => lhs; simp [Tm.row, Tm.rows_eq, Cs.rows_eq, h1d, Cs.row])
      refine ⟨⟨(i + 1, ds ++ [.mk dt dws (.mk uk un ua ub uvs uxs ucs)]), hi1, by rw [hsn]⟩, by simp; omega, ?_⟩
      dsimp only
      exact Le.sub (by simp [Cs.row, Tm.row, Tm.rows_eq, Cs.rows_eq, hdl]) (by simp [Cs.row, Tm.row, Tm.rows_eq, Cs.rows_eq, hdl])
  have hi1 : i = tcs.length := by have := of_decide_eq_false hc; omega
  subst hi1
  clear hc
  rw [List.take_length] at hw
  subst hw
  refine AWp.exit ?_
  refine AWp.rg [] [] ?_ (hr := by conv => lhs; simp [Tm.row, Tm.rows_eq, Cs.rows_eq])
  refine AWp.ret ?_
  try dsimp only [thenQ, blockQ]
  apply endQ.retF [400]
  · rfl
  · conv => lhs; simp
  · conv => lhs; simp [resAV, Tryd.results83]
  first | rfl | simp [resVal, tmAV, Tm.row, Tm.rows_eq, Cs.rows_eq, AV.nilD, nilDL, strsD]

theorem moreN_mem {s : ByteArray} : ∀ {l : List Tm} {had : List ByteArray}, s ∈ moreN had l → ∃ x ∈ l, s = x.nm
  | [], had, h => by simp [moreN] at h
  | x :: r, had, h => by
    rw [moreN] at h
    split at h
    · rcases List.mem_cons.1 h with h | h
      · exact ⟨x, List.mem_cons_self .., h⟩
      · obtain ⟨y, hy, e⟩ := moreN_mem h
        exact ⟨y, List.mem_cons_of_mem _ hy, e⟩
    · obtain ⟨y, hy, e⟩ := moreN_mem h
      exact ⟨y, List.mem_cons_of_mem _ hy, e⟩
theorem Tm.Ok.nm {x : Tm} (h : x.Ok) : x.nm.size ≤ 140737488355328 := by
  obtain ⟨k, n, a, b, vs, xs, cs⟩ := x
  exact h.1.1
theorem Tm.Fit.cs {k n : Int} {a b : ByteArray} {vs : List ByteArray} {xs : List Tm} {cs : List Cs} (h : (Tm.mk k n a b vs xs cs).Fit) : ∀ c ∈ cs, (∀ s ∈ c.2, s.size ≤ 140737488355328) ∧ c.3.Fit := fun c hc => by
  obtain ⟨t, ws, x⟩ := c
  have h1 := Cs.Oks_iff.1 h.ok.2.2.2 _ hc
  exact ⟨h1.1, (h.case hc).1⟩
set_option maxRecDepth 20000 in
set_option maxHeartbeats 16000000 in
theorem ow_step (N : Nat) (ih : OwN N) : OwN (N + 1) := by
  intro t has hRt hF hhl hhs
  obtain ⟨R, hR⟩ : ∃ R, R = t.ow has := ⟨_, rfl⟩
  rw [← hR]
  obtain ⟨rk, rn, ra, rb, rvs, rxs, rcs⟩ := R
  have hfr := sp_Free t hF
  have hfl : t.free.length ≤ 1048576 := Nat.le_trans (Tm.free_len t) hF.sz
  obtain ⟨tk, tn, ta, tb, tvs, txs, tcs⟩ := t
  obtain ⟨hkk, hmany, h6, hxR, hcR⟩ := hRt
  have hxF : ∀ x ∈ txs, x.Fit := fun x hx => hF.arg hx
  rw [Tm.ow] at hR
  generalize (Tm.mk tk tn ta tb tvs txs tcs).free = fr at hfr hfl hR
  have hou := sp_out has fr (by omega) (by omega)
  have hin := sp_in has fr (by omega) (by omega)
  have hGl := woN_len has fr
  have hGs : ∀ s ∈ woN has fr, s.size ≤ 140737488355328 := fun s hs => hhs s (List.mem_filter.1 hs).1
  have hol := inN_len has fr
  have hos : ∀ s ∈ inN has fr, s.size ≤ 140737488355328 := fun s hs => hhs s (List.mem_filter.1 hs).1
  generalize woN has fr = G at hou hGl hGs hR
  generalize inN has fr = own at hin hol hos hR
  refine PSpec.of Tryd.func40 rfl rfl rfl (Nat.le_of_ble_eq_true rfl) ?_
  show AWp _ _ (endQ _ Tryd.f40 _ _ _) (startAS 42 _)
  refine AWp.rg [] [] ?_ (hr := by conv => lhs; simp [Tm.row, Tm.rows_eq, Cs.rows_eq])
  refine AWp.rg [1] [.p (fun d => .arr d 0 fr.length) (some (.arr 9 1 (fr.map strR)))] ?_ (hr := by conv => lhs; simp [Tm.row, Tm.rows_eq, Cs.rows_eq])
  refine AWp.rg [] [.p (fun _ => .d (strsD G)) none] ?_ (hr := by conv => lhs; simp [Tm.row, Tm.rows_eq, Cs.rows_eq])
  refine AWp.rg [2] [.p (fun d => .arr d 0 own.length) (some (.arr 9 1 (own.map strR)))] ?_ (hr := by conv => lhs; simp [Tm.row, Tm.rows_eq, Cs.rows_eq])
  refine AWp.rg [] [] ?_ (hr := by conv => lhs; simp [Tm.row, Tm.rows_eq, Cs.rows_eq])
  refine AWp.rg [] [] ?_ (hr := by conv => lhs; simp [Tm.row, Tm.rows_eq, Cs.rows_eq])
  by_cases q1 : tk = 3
  · refine AWp.rg [] [] ?_ (hr := by conv => lhs; simp [Tm.row, Tm.rows_eq, Cs.rows_eq, q1])
    refine AWp.cy ?_
    refine AWp.skip ?_
    refine AWp.cy ?_
    subst q1
    rw [if_pos (by omega)] at hR
    have hm := sp_more txs (by omega)
    have hml := moreN_len txs []
    have hms : ∀ s ∈ moreN [] txs, s.size ≤ maxLen := fun s hs => by
      obtain ⟨x, hx, e⟩ := moreN_mem hs
      rw [e]
      exact maxLen_ge (hxF x hx).ok.nm
    generalize moreN [] txs = M at hm hml hms hR
    have ho := sp_Own (.mk 3 tn ta tb tvs txs tcs) hF.ok
    have hd := sp_dups M (.mk 3 tn ta tb tvs txs tcs) (by omega) hms
    generalize cnt 8 M (.mk 3 tn ta tb tvs txs tcs) = e at hd hR
    have hg := sp_drops G e (by omega) (fun s hs => maxLen_ge (hGs s hs))
    generalize cnt 9 G e = r at hg hR
    subst hR
    obtain ⟨ek, en, ea, eb, evs, exs, ecs⟩ := e
    refine AWp.dw [] [.p (fun _ => .d (strsD M)) none, .p (fun _ => .agg [.d (.int 3), .d (.int tn), .d (.str ta), .d (.str tb), .d (strsD tvs), .d (.sl (txs.map Tm.row)), .d (.sl (tcs.map Cs.row))]) none, .p (fun _ => .agg [.d (.int ek), .d (.int en), .d (.str ea), .d (.str eb), .d (strsD evs), .d (.sl (exs.map Tm.row)), .d (.sl (ecs.map Cs.row))]) none] mixed ?_ (hr := by conv => lhs; simp [Tm.row, Tm.rows_eq, Cs.rows_eq])
    refine AWp.rg [] [.p (fun _ => .agg [.d (.int rk), .d (.int rn), .d (.str ra), .d (.str rb), .d (strsD rvs), .d (.sl (rxs.map Tm.row)), .d (.sl (rcs.map Cs.row))]) none] ?_ (hr := by conv => lhs; simp [Tm.row, Tm.rows_eq, Cs.rows_eq])
    refine AWp.ret ?_
    try dsimp only [thenQ, blockQ]
    apply endQ.ret
    · rfl
    · conv => lhs; simp [resAV, Tryd.results40]
    first | rfl | simp [resVal, tmAV, Tm.row, Tm.rows_eq, Cs.rows_eq, AV.nilD, nilDL, strsD]
  refine AWp.rg [] [] ?_ (hr := by conv => lhs; simp [Tm.row, Tm.rows_eq, Cs.rows_eq, q1])
  refine AWp.cn ?_
  by_cases q2 : tk = 4
  · refine AWp.rg [] [] ?_ (hr := by conv => lhs; simp [Tm.row, Tm.rows_eq, Cs.rows_eq, q1, q2])
    refine AWp.cy ?_
    refine AWp.skip ?_
    refine AWp.cy ?_
    subst q2
    rw [if_pos (by omega)] at hR
    have hm := sp_more txs (by omega)
    have hml := moreN_len txs []
    have hms : ∀ s ∈ moreN [] txs, s.size ≤ maxLen := fun s hs => by
      obtain ⟨x, hx, e⟩ := moreN_mem hs
      rw [e]
      exact maxLen_ge (hxF x hx).ok.nm
    generalize moreN [] txs = M at hm hml hms hR
    have ho := sp_Own (.mk 4 tn ta tb tvs txs tcs) hF.ok
    have hd := sp_dups M (.mk 4 tn ta tb tvs txs tcs) (by omega) hms
    generalize cnt 8 M (.mk 4 tn ta tb tvs txs tcs) = e at hd hR
    have hg := sp_drops G e (by omega) (fun s hs => maxLen_ge (hGs s hs))
    generalize cnt 9 G e = r at hg hR
    subst hR
    obtain ⟨ek, en, ea, eb, evs, exs, ecs⟩ := e
    refine AWp.dw [] [.p (fun _ => .d (strsD M)) none, .p (fun _ => .agg [.d (.int 4), .d (.int tn), .d (.str ta), .d (.str tb), .d (strsD tvs), .d (.sl (txs.map Tm.row)), .d (.sl (tcs.map Cs.row))]) none, .p (fun _ => .agg [.d (.int ek), .d (.int en), .d (.str ea), .d (.str eb), .d (strsD evs), .d (.sl (exs.map Tm.row)), .d (.sl (ecs.map Cs.row))]) none] mixed ?_ (hr := by conv => lhs; simp [Tm.row, Tm.rows_eq, Cs.rows_eq, q1])
    refine AWp.rg [] [.p (fun _ => .agg [.d (.int rk), .d (.int rn), .d (.str ra), .d (.str rb), .d (strsD rvs), .d (.sl (rxs.map Tm.row)), .d (.sl (rcs.map Cs.row))]) none] ?_ (hr := by conv => lhs; simp [Tm.row, Tm.rows_eq, Cs.rows_eq, q1])
    refine AWp.ret ?_
    try dsimp only [thenQ, blockQ]
    apply endQ.ret
    · rfl
    · conv => lhs; simp [resAV, Tryd.results40]
    first | rfl | simp [resVal, tmAV, Tm.row, Tm.rows_eq, Cs.rows_eq, AV.nilD, nilDL, strsD]
  refine AWp.rg [] [] ?_ (hr := by conv => lhs; simp [Tm.row, Tm.rows_eq, Cs.rows_eq, q1, q2])
  refine AWp.cn ?_
  by_cases q3 : tk = 5
  · refine AWp.rg [] [] ?_ (hr := by conv => lhs; simp [Tm.row, Tm.rows_eq, Cs.rows_eq, q1, q2, q3])
    refine AWp.cy ?_
    subst q3
    rw [if_pos (by omega)] at hR
    have hm := sp_more txs (by omega)
    have hml := moreN_len txs []
    have hms : ∀ s ∈ moreN [] txs, s.size ≤ maxLen := fun s hs => by
      obtain ⟨x, hx, e⟩ := moreN_mem hs
      rw [e]
      exact maxLen_ge (hxF x hx).ok.nm
    generalize moreN [] txs = M at hm hml hms hR
    have ho := sp_Own (.mk 5 tn ta tb tvs txs tcs) hF.ok
    have hd := sp_dups M (.mk 5 tn ta tb tvs txs tcs) (by omega) hms
    generalize cnt 8 M (.mk 5 tn ta tb tvs txs tcs) = e at hd hR
    have hg := sp_drops G e (by omega) (fun s hs => maxLen_ge (hGs s hs))
    generalize cnt 9 G e = r at hg hR
    subst hR
    obtain ⟨ek, en, ea, eb, evs, exs, ecs⟩ := e
    refine AWp.dw [] [.p (fun _ => .d (strsD M)) none, .p (fun _ => .agg [.d (.int 5), .d (.int tn), .d (.str ta), .d (.str tb), .d (strsD tvs), .d (.sl (txs.map Tm.row)), .d (.sl (tcs.map Cs.row))]) none, .p (fun _ => .agg [.d (.int ek), .d (.int en), .d (.str ea), .d (.str eb), .d (strsD evs), .d (.sl (exs.map Tm.row)), .d (.sl (ecs.map Cs.row))]) none] mixed ?_ (hr := by conv => lhs; simp [Tm.row, Tm.rows_eq, Cs.rows_eq, q1, q2])
    refine AWp.rg [] [.p (fun _ => .agg [.d (.int rk), .d (.int rn), .d (.str ra), .d (.str rb), .d (strsD rvs), .d (.sl (rxs.map Tm.row)), .d (.sl (rcs.map Cs.row))]) none] ?_ (hr := by conv => lhs; simp [Tm.row, Tm.rows_eq, Cs.rows_eq, q1, q2])
    refine AWp.ret ?_
    try dsimp only [thenQ, blockQ]
    apply endQ.ret
    · rfl
    · conv => lhs; simp [resAV, Tryd.results40]
    first | rfl | simp [resVal, tmAV, Tm.row, Tm.rows_eq, Cs.rows_eq, AV.nilD, nilDL, strsD]
  refine AWp.rg [] [] ?_ (hr := by conv => lhs; simp [Tm.row, Tm.rows_eq, Cs.rows_eq, q1, q2, q3])
  refine AWp.cn ?_
  by_cases q4 : tk = 6
  · refine AWp.rg [] [] ?_ (hr := by conv => lhs; simp [Tm.row, Tm.rows_eq, Cs.rows_eq, q1, q2, q3, q4])
    refine AWp.cy ?_
    subst q4
    have hx2 : txs.length = 2 ∧ tcs = [] := by
      unfold manyB at hmany
      simp at hmany
      exact hmany
    obtain ⟨hx2, rfl⟩ := hx2
    obtain ⟨x, y, rfl⟩ : ∃ x y, txs = [x, y] := by
      rcases txs with _ | ⟨x, _ | ⟨y, _ | ⟨z, l⟩⟩⟩
      · cases hx2
      · cases hx2
      · exact ⟨x, y, rfl⟩
      · simp at hx2
    rw [if_neg (by omega), if_pos rfl] at hR
    have hlt := sp_let N ih own x y tn ta tb tvs (hxR x (by simp)) (hxR y (by simp)) (hxF x (by simp)) (hxF y (by simp)) hF.ok.1.1 (by omega) hos
    generalize cnt 8 (letD ta own [x, y]) (.mk 6 0 ta .empty [] (Tm.owZ [x, y] (letH ta own [x, y])) []) = e at hlt hR
    obtain ⟨xk, xn, xa, xb, xvs, xxs, xcs⟩ := x
    obtain ⟨yk, yn, ya, yb, yvs, yxs, ycs⟩ := y
    simp only [tmAV, List.map_cons, List.map_nil, Tm.row, Tm.rows_eq, Cs.rows_eq] at hlt
    have hg := sp_drops G e (by omega) (fun s hs => maxLen_ge (hGs s hs))
    generalize cnt 9 G e = r at hg hR
    subst hR
    obtain ⟨ek, en, ea, eb, evs, exs, ecs⟩ := e
    refine AWp.rg [] [.p (fun _ => .agg [.d (.int ek), .d (.int en), .d (.str ea), .d (.str eb), .d (strsD evs), .d (.sl (exs.map Tm.row)), .d (.sl (ecs.map Cs.row))]) none] ?_ (hr := by conv => lhs; simp [Tm.row, Tm.rows_eq, Cs.rows_eq, q1, q2, q3])
    refine AWp.rg [] [.p (fun _ => .agg [.d (.int rk), .d (.int rn), .d (.str ra), .d (.str rb), .d (strsD rvs), .d (.sl (rxs.map Tm.row)), .d (.sl (rcs.map Cs.row))]) none] ?_ (hr := by conv => lhs; simp [Tm.row, Tm.rows_eq, Cs.rows_eq, q1, q2, q3])
    refine AWp.ret ?_
    try dsimp only [thenQ, blockQ]
    apply endQ.ret
    · rfl
    · conv => lhs; simp [resAV, Tryd.results40]
    first | rfl | simp [resVal, tmAV, Tm.row, Tm.rows_eq, Cs.rows_eq, AV.nilD, nilDL, strsD]
  refine AWp.rg [] [] ?_ (hr := by conv => lhs; simp [Tm.row, Tm.rows_eq, Cs.rows_eq, q1, q2, q3, q4])
  refine AWp.cn ?_
  by_cases q5 : tk = 7
  · refine AWp.rg [] [] ?_ (hr := by conv => lhs; simp [Tm.row, Tm.rows_eq, Cs.rows_eq, q1, q2, q3, q4, q5])
    refine AWp.cy ?_
    subst q5
    have hx1 : txs.length = 1 := by
      unfold manyB at hmany
      simp at hmany
      exact hmany
    obtain ⟨x, rfl⟩ : ∃ x, txs = [x] := by
      rcases txs with _ | ⟨x, _ | ⟨y, l⟩⟩
      · cases hx1
      · exact ⟨x, rfl⟩
      · simp at hx1
    rw [if_neg (by omega), if_neg (by omega), if_pos rfl] at hR
    have hxa := (hxF x (by simp)).ok.nm
    obtain ⟨xk, xn, xa, xb, xvs, xxs, xcs⟩ := x
    have hlt := sp_match N ih own xk xn xa xb xvs xxs xcs tn ta tb tvs tcs hcR hF.cs (by simp at h6; omega) hxa (by omega) hos
    rw [show nmH [.mk xk xn xa xb xvs xxs xcs] = xa from rfl] at hR
    generalize Tm.mk 7 0 .empty .empty [] [.mk xk xn xa xb xvs xxs xcs] (Cs.owL tcs own xa) = e at hlt hR
    simp only [tmAV, List.map_cons, List.map_nil, Tm.row, Tm.rows_eq, Cs.rows_eq] at hlt
    have hg := sp_drops G e (by omega) (fun s hs => maxLen_ge (hGs s hs))
    generalize cnt 9 G e = r at hg hR
    subst hR
    obtain ⟨ek, en, ea, eb, evs, exs, ecs⟩ := e
    refine AWp.rg [] [.p (fun _ => .agg [.d (.int ek), .d (.int en), .d (.str ea), .d (.str eb), .d (strsD evs), .d (.sl (exs.map Tm.row)), .d (.sl (ecs.map Cs.row))]) none] ?_ (hr := by conv => lhs; simp [Tm.row, Tm.rows_eq, Cs.rows_eq, q1, q2, q3, q4])
    refine AWp.rg [] [.p (fun _ => .agg [.d (.int rk), .d (.int rn), .d (.str ra), .d (.str rb), .d (strsD rvs), .d (.sl (rxs.map Tm.row)), .d (.sl (rcs.map Cs.row))]) none] ?_ (hr := by conv => lhs; simp [Tm.row, Tm.rows_eq, Cs.rows_eq, q1, q2, q3, q4])
    refine AWp.ret ?_
    try dsimp only [thenQ, blockQ]
    apply endQ.ret
    · rfl
    · conv => lhs; simp [resAV, Tryd.results40]
    first | rfl | simp [resVal, tmAV, Tm.row, Tm.rows_eq, Cs.rows_eq, AV.nilD, nilDL, strsD]
  refine AWp.rg [] [] ?_ (hr := by conv => lhs; simp [Tm.row, Tm.rows_eq, Cs.rows_eq, q1, q2, q3, q4, q5])
  refine AWp.cn ?_
  refine AWp.skip ?_
  rw [if_neg (by omega), if_neg (by omega), if_neg (by omega)] at hR
  have hg := sp_drops G (.mk tk tn ta tb tvs txs tcs) (by omega) (fun s hs => maxLen_ge (hGs s hs))
  generalize cnt 9 G (.mk tk tn ta tb tvs txs tcs) = r at hg hR
  subst hR
  refine AWp.rg [] [.p (fun _ => .agg [.d (.int rk), .d (.int rn), .d (.str ra), .d (.str rb), .d (strsD rvs), .d (.sl (rxs.map Tm.row)), .d (.sl (rcs.map Cs.row))]) none] ?_ (hr := by conv => lhs; simp [Tm.row, Tm.rows_eq, Cs.rows_eq, q1, q2, q3, q4, q5])
  refine AWp.ret ?_
  try dsimp only [thenQ, blockQ]
  apply endQ.ret
  · rfl
  · conv => lhs; simp [resAV, Tryd.results40]
  first | rfl | simp [resVal, tmAV, Tm.row, Tm.rows_eq, Cs.rows_eq, AV.nilD, nilDL, strsD]
theorem ow_all : ∀ N, OwN N
  | 0 => fun _ _ h => h.elim
  | N + 1 => ow_step N (ow_all N)
structure Fn.Pt (f : Fn) : Prop where
  rt : f.body.Rt 175
  fit : f.body.Fit
  par : f.params.length ≤ 6
  pars : ∀ s ∈ f.params, s.size ≤ 140737488355328
set_option maxRecDepth 20000 in
set_option maxHeartbeats 16000000 in
theorem sp_OwFn (f : Fn) (h : f.Pt) : PSpec Tryd.prog 35 [fnAV f] (fun _ => fnAV f.ow) none := by
  have hx := ow_all 175 f.body f.params h.rt h.fit (by have := h.par; omega) h.pars
  have hp := h.par
  have hcl := sp_Clone f.params (by omega)
  unfold Fn.ow
  generalize f.body.ow f.params = z at hx ⊢
  obtain ⟨fg, fps, ⟨fk, fn, fa, fb, fvs, fxs, fcs⟩⟩ := f
  obtain ⟨zk, zn, za, zb, zvs, zxs, zcs⟩ := z
  dsimp only at hx hcl hp
  refine PSpec.of Tryd.func35 rfl rfl rfl (Nat.le_of_ble_eq_true rfl) ?_
  show AWp _ _ (endQ _ Tryd.f35 _ _ _) (startAS 14 _)
  refine AWp.rg [] [] ?_ (hr := by conv => lhs; simp [fnAV, Fn.row, Tm.row, Tm.rows_eq, Cs.rows_eq])
  refine AWp.dw [4] [.p (fun d => .arr d 0 fps.length) (some (.arr 9 1 (fps.map strR))), .p (fun _ => .agg [.d (.int zk), .d (.int zn), .d (.str za), .d (.str zb), .d (strsD zvs), .d (.sl (zxs.map Tm.row)), .d (.sl (zcs.map Cs.row))]) none] mixed ?_ (hr := by conv => lhs; simp [fnAV, Fn.row, Tm.row, Tm.rows_eq, Cs.rows_eq])
  refine AWp.ret ?_
  try dsimp only [thenQ, blockQ]
  apply endQ.ret
  · rfl
  · conv => lhs; simp [resAV, Tryd.results35]
  rfl
set_option maxRecDepth 20000 in
set_option maxHeartbeats 16000000 in
theorem sp_OwAll (l : List Fn) (hl : l.length ≤ 879609302220) (hall : ∀ f ∈ l, f.Pt) : PSpec Tryd.prog 73 [fnsAV l] (fun _ => fnsAV (l.map Fn.ow)) none := by
  obtain ⟨G, hG⟩ : ∃ G, G = l.map Fn.ow := ⟨_, rfl⟩
  rw [← hG]
  refine PSpec.of Tryd.func73 rfl rfl rfl (Nat.le_of_ble_eq_true rfl) ?_
  show AWp _ _ (endQ _ Tryd.f73 _ _ _) (startAS 19 _)
  refine AWp.rg [] [] ?_ (hr := by conv => lhs; simp [Fn.row, Tm.row, Tm.rows_eq, Cs.rows_eq])
  refine AWp.rg [] [] ?_ (hr := by conv => lhs; simp [Fn.row, Tm.row, Tm.rows_eq, Cs.rows_eq])
  refine AWp.rg [] [] ?_ (hr := by conv => lhs; simp [Fn.row, Tm.row, Tm.rows_eq, Cs.rows_eq])
  repeat (first | refine AWp.seq ?_ | refine AWp.block ?_)
  refine AWp.le (Le.low [400] [] (fr := [(3, .arr 400 0 ([] : List Fn).length), (6, .d (.sl (l.map Fn.row))), (7, .d (.int (l.length : Int))), (8, .d (.int (0 : Int)))]) (mem := [(400, some (.arr 36 9 (([] : List Fn).map Fn.row)))]) rfl (by simp) (by simp)) ?_
  refine AWp.loop (σ := fun u : {u : Nat × List Fn // u.1 ≤ l.length ∧ u.2 = (l.take u.1).map Fn.ow} => ⟨19, [(3, .arr 400 0 u.1.2.length), (6, .d (.sl (l.map Fn.row))), (7, .d (.int (l.length : Int))), (8, .d (.int (u.1.1 : Int)))], [(400, some (.arr 36 9 (u.1.2.map Fn.row)))]⟩)
    (μ := fun u => l.length - u.1.1) ⟨(0, []), ⟨Nat.zero_le _, by simp⟩⟩ (Le.sub (by simp) (by simp)) (fun ⟨(i, gs), ⟨hi3, hw⟩⟩ => ?_)
  dsimp only at hi3 hw ⊢
  refine AWp.rg [] [] ?_ (hr := by conv => lhs; simp [Fn.row, Tm.row, Tm.rows_eq, Cs.rows_eq])
  repeat (first | refine AWp.seq ?_ | refine AWp.block ?_)
  refine AWp.cond rfl (fun hc => ?_) (fun hc => ?_)
  · have hi1 : i < l.length := by have := of_decide_eq_true hc; omega
    clear hc
    have h1f : l[i]? = some l[i] := List.getElem?_eq_getElem hi1
    have hmf : l[i] ∈ l := List.getElem_mem hi1
    have hdf : l.drop i = l[i] :: l.drop (i + 1) := List.drop_eq_getElem_cons hi1
    generalize l[i] = f at h1f hmf hdf
    have hgl : gs.length = i := by rw [hw, List.length_map, List.length_take]; omega
    have hx := sp_OwFn f (hall f hmf)
    generalize hz : f.ow = z at hx
    obtain ⟨fg, fps, ⟨fk, fn, fa, fb, fvs, fxs, fcs⟩⟩ := f
    obtain ⟨zg, zps, ⟨zk, zn, za, zb, zvs, zxs, zcs⟩⟩ := z
    dsimp only [fnAV] at hx
    refine AWp.skip ?_
    refine AWp.rg [] [] ?_ (hr := by conv => lhs; simp [Fn.row, Tm.row, Tm.rows_eq, Cs.rows_eq, h1f])
    refine AWp.rg [] [.p (fun _ => .agg [.d (.str zg), .d (strsD zps), .d (.int zk), .d (.int zn), .d (.str za), .d (.str zb), .d (strsD zvs), .d (.sl (zxs.map Tm.row)), .d (.sl (zcs.map Cs.row))]) none] ?_ (hr := by conv => lhs; simp [Fn.row, Tm.row, Tm.rows_eq, Cs.rows_eq, h1f])
    refine AWp.rg [] [] ?_ (hr := by conv => lhs; simp [Fn.row, Tm.row, Tm.rows_eq, Cs.rows_eq, h1f])
    refine ⟨⟨(i + 1, gs ++ [⟨zg, zps, .mk zk zn za zb zvs zxs zcs⟩]), hi1, by rw [hw, List.take_add_one, h1f, List.map_append, ← hz]; rfl⟩, by simp; omega, ?_⟩
    dsimp only
    exact Le.sub (by simp [Fn.row, Tm.row, Tm.rows_eq, Cs.rows_eq, hgl]) (by simp [Fn.row, Tm.row, Tm.rows_eq, Cs.rows_eq, hgl])
  have hi1 : i = l.length := by have := of_decide_eq_false hc; omega
  subst hi1
  clear hc
  rw [List.take_length] at hw
  obtain rfl : gs = G := by rw [hw, hG]
  refine AWp.exit ?_
  refine AWp.rg [] [] ?_ (hr := by conv => lhs; simp [Fn.row, Tm.row, Tm.rows_eq, Cs.rows_eq])
  refine AWp.ret ?_
  try dsimp only [thenQ, blockQ]
  apply endQ.retF [400]
  · rfl
  · conv => lhs; simp
  · conv => lhs; simp [resAV, Tryd.results73]
  rfl

end Go.Proofs.YtapiiklnnkkdlaaDoor

namespace Go.Proofs.YtapiiklnnkkdlaaDoor
open Go.RowKit
set_option linter.unusedVariables false
set_option linter.unusedSimpArgs false
theorem vNm_le (c : Int) : (vNm (wr c)).size ≤ 140737488355328 := by
  have := vsz (wr c) (wr_in c)
  omega
theorem nowP_le : ∀ (ps : Ps) (s : ByteArray), s.size ≤ 140737488355328 → (∀ p ∈ ps, p.2.size ≤ 140737488355328) → (nowP ps s).size ≤ 140737488355328 := by
  intro ps s hs hp
  unfold nowP
  have : ∀ (ps : Ps) (o : ByteArray), o.size ≤ 140737488355328 → (∀ p ∈ ps, p.2.size ≤ 140737488355328) → (ps.foldl (fun o p => if p.1 = s then p.2 else o) o).size ≤ 140737488355328 := by
    intro ps
    induction ps with
    | nil => intro o ho _; exact ho
    | cons p r ih =>
      intro o ho h
      simp only [List.foldl_cons]
      refine ih _ ?_ fun q hq => h q (List.mem_cons_of_mem _ hq)
      split
      · exact h p (List.mem_cons_self ..)
      · exact ho
  exact this ps s hs hp
theorem freshL_le : ∀ (l : List ByteArray) (c : Int), ∀ s ∈ freshL l c, s.size ≤ 140737488355328
  | [], _, s, h => by cases h
  | _ :: r, c, s, h => by
    rw [freshL] at h
    rcases List.mem_cons.1 h with rfl | h
    · exact vNm_le _
    · exact freshL_le r _ s h
theorem rn_ok : ∀ (d : Nat) (t : Tm) (ps : Ps) (c : Int), t.Rt d → t.Ok → (∀ p ∈ ps, p.2.size ≤ 140737488355328) → (t.rn ps c).1.Ok := by
  intro d
  induction d with
  | zero => intro t _ _ h; exact h.elim
  | succ d ih =>
  intro t ps c hR hO hps
  obtain ⟨k, n, a, b, vs, xs, cs⟩ := t
  obtain ⟨_, _, _, hx, hc⟩ := hR
  obtain ⟨⟨o1, o2, o3⟩, ⟨o4, o5, o6⟩, o7, o8⟩ := hO
  rw [Tm.Oks_iff] at o7
  rw [Cs.Oks_iff] at o8
  have hL : ∀ (ys : List Tm) (i : Nat) (nm : ByteArray) (c : Int), (∀ y ∈ ys, y ∈ xs) → nm.size ≤ 140737488355328 → Tm.Oks (Tm.rns k a ps i ys nm c).1 ∧ (Tm.rns k a ps i ys nm c).2.1.size ≤ 140737488355328 ∧ (Tm.rns k a ps i ys nm c).1.length = ys.length := by
    intro ys
    induction ys with
    | nil => intro i nm c _ h; exact ⟨trivial, h, rfl⟩
    | cons y r ih2 =>
      intro i nm c hm hn
      have hy := hm y (List.mem_cons_self ..)
      rw [Tm.rns]
      split
      · have h1 := ih y (ps ++ [(a, vNm (wr (c + 1)))]) (wr (c + 1)) (hx y hy) (o7 y hy) (fun p hp => (List.mem_append.1 hp).elim (hps p) fun hp => by rw [List.mem_singleton.1 hp]; exact vNm_le _)
        obtain ⟨h2, h3, h4⟩ := ih2 (i + 1) (vNm (wr (c + 1))) (y.rn (ps ++ [(a, vNm (wr (c + 1)))]) (wr (c + 1))).2 (fun z hz => hm z (List.mem_cons_of_mem _ hz)) (vNm_le _)
        exact ⟨⟨h1, h2⟩, h3, by simp [h4]⟩
      · have h1 := ih y ps c (hx y hy) (o7 y hy) hps
        obtain ⟨h2, h3, h4⟩ := ih2 (i + 1) nm (y.rn ps c).2 (fun z hz => hm z (List.mem_cons_of_mem _ hz)) hn
        exact ⟨⟨h1, h2⟩, h3, by simp [h4]⟩
  have hC : ∀ (ys : List Cs) (c : Int), (∀ y ∈ ys, y ∈ cs) → Cs.Oks (Cs.rnL ys ps c).1 ∧ (Cs.rnL ys ps c).1.length = ys.length := by
    intro ys
    induction ys with
    | nil => intro c _; exact ⟨trivial, rfl⟩
    | cons y r ih2 =>
      intro c hm
      have hy := hm y (List.mem_cons_self ..)
      obtain ⟨t, ws, y⟩ := y
      obtain ⟨hw, hyR⟩ := hc _ hy
      obtain ⟨p1, p2, p3⟩ := o8 _ hy
      rw [Cs.rnL, Cs.rn]
      have h1 := ih y (ps ++ ws.zip (freshL ws c)) (freshC ws c) hyR p3 (fun p hp => (List.mem_append.1 hp).elim (hps p) fun hp => freshL_le ws c _ (List.of_mem_zip hp).2)
      obtain ⟨h2, h4⟩ := ih2 (y.rn (ps ++ ws.zip (freshL ws c)) (freshC ws c)).2 fun z hz => hm z (List.mem_cons_of_mem _ hz)
      exact ⟨⟨⟨freshL_le ws c, by rw [freshL_len]; exact p2, h1⟩, h2⟩, by simp [h4]⟩
  rw [Tm.rn]
  split
  · exact ⟨⟨nowP_le ps a o1 hps, o2, o3⟩, ⟨o4, by simp, by simp⟩, trivial, trivial⟩
  · obtain ⟨h1, h2, h3⟩ := hL xs 0 a c (fun y hy => hy) o1
    obtain ⟨h4, h5⟩ := hC cs (Tm.rns k a ps 0 xs a c).2.2 fun y hy => hy
    exact ⟨⟨h2, o2, o3⟩, ⟨o4, by rw [h3]; exact o5, by rw [h5]; exact o6⟩, h1, h4⟩
theorem Fn.rn_ok (f : Fn) (hb : f.body.Ok) (hr : f.body.Rt 25) : f.rn.body.Ok :=
  Go.Proofs.YtapiiklnnkkdlaaDoor.rn_ok 25 f.body _ _ hr hb fun p hp => freshL_le _ _ _ (List.of_mem_zip hp).2
theorem right_all {l : List Fn} (hl : FnsOk l) (h : checkE l = 0) : ∀ f ∈ l, f.body.Ok ∧ f.body.Rt 25 ∧ f.params.length ≤ 6 := fun f hf => by
  have hr := (check_zero h).2.2.2 f hf
  exact ⟨(hl.all f hf).body, wrong_rt _ 25 _ _ 0 (by omega) hr.wrong, hr.params⟩

def wNm (c : Int) : ByteArray := ⟨#[119]⟩ ++ itoaB c
theorem wsz (e : Int) (h : inI e) : (wNm e).size ≤ 22 := by
  have := itoaB_size h
  show (⟨#[119]⟩ ++ itoaB e : ByteArray).size ≤ 22
  rw [ByteArray.size_append]
  have h1 : (⟨#[119]⟩ : ByteArray).size = 1 := rfl
  omega
theorem wNm_le (c : Int) : (wNm (wr c)).size ≤ 140737488355328 := by
  have := wsz (wr c) (wr_in c)
  omega
abbrev Bs := List (ByteArray × Tm)
def Tm.tk : Tm → Int
  | .mk k _ _ _ _ _ _ => k
def varT (s : ByteArray) : Tm := .mk 1 0 s .empty [] [] []
def around : Bs → Tm → Tm
  | [], t => t
  | b :: r, t => .mk 6 0 b.1 .empty [] [b.2, around r t] []
mutual
def Tm.pl : Tm → Int → Tm × Int
  | .mk k n a b vs xs cs, c =>
    if k = 3 ∨ k = 4 ∨ k = 5 then (around (Tm.ats xs c).2.1 (.mk k n a .empty [] (Tm.ats xs c).1 []), (Tm.ats xs c).2.2)
    else if k = 6 then (.mk 6 0 a .empty [] (Tm.plL xs c).1 [], (Tm.plL xs c).2)
    else if k = 7 then (around (Tm.ats xs c).2.1 (.mk 7 0 .empty .empty [] (Tm.ats xs c).1 (Cs.plL cs (Tm.ats xs c).2.2).1), (Cs.plL cs (Tm.ats xs c).2.2).2)
    else (.mk k n a b vs xs cs, c)
def Tm.ats : List Tm → Int → List Tm × Bs × Int
  | [], c => ([], [], c)
  | x :: r, c => if x.tk = 1 then (x :: (Tm.ats r c).1, (Tm.ats r c).2.1, (Tm.ats r c).2.2)
    else (varT (wNm (wr (c + 1))) :: (Tm.ats r (x.pl (wr (c + 1))).2).1, (wNm (wr (c + 1)), (x.pl (wr (c + 1))).1) :: (Tm.ats r (x.pl (wr (c + 1))).2).2.1, (Tm.ats r (x.pl (wr (c + 1))).2).2.2)
def Tm.plL : List Tm → Int → List Tm × Int
  | [], c => ([], c)
  | x :: r, c => ((x.pl c).1 :: (Tm.plL r (x.pl c).2).1, (Tm.plL r (x.pl c).2).2)
def Cs.plL : List Cs → Int → List Cs × Int
  | [], c => ([], c)
  | d :: r, c => ((d.pl c).1 :: (Cs.plL r (d.pl c).2).1, (Cs.plL r (d.pl c).2).2)
def Cs.pl : Cs → Int → Cs × Int
  | .mk t ws y, c => (.mk t ws (y.pl c).1, (y.pl c).2)
end
theorem ats_len : ∀ (l : List Tm) (c : Int), (Tm.ats l c).1.length = l.length
  | [], _ => rfl
  | x :: r, c => by
    rw [Tm.ats]
    split <;> simp [ats_len r]
def Fn.pl (f : Fn) : Fn := ⟨f.rn.name, f.rn.params, (f.rn.body.pl 0).1⟩
theorem rn_rt : ∀ (d : Nat) (t : Tm) (ps : Ps) (c : Int), t.Rt d → (t.rn ps c).1.Rt d := by
  intro d
  induction d with
  | zero => intro t _ _ h; exact h.elim
  | succ d ih =>
  intro t ps c hR
  obtain ⟨k, n, a, b, vs, xs, cs⟩ := t
  obtain ⟨h1, h2, h3, hx, hc⟩ := hR
  have hL : ∀ (ys : List Tm) (i : Nat) (nm : ByteArray) (c : Int), (∀ y ∈ ys, y ∈ xs) → (∀ y ∈ (Tm.rns k a ps i ys nm c).1, y.Rt d) ∧ (Tm.rns k a ps i ys nm c).1.length = ys.length := by
    intro ys
    induction ys with
    | nil => intro i nm c _; exact ⟨fun y h => by simp [Tm.rns] at h, rfl⟩
    | cons y r ih2 =>
      intro i nm c hm
      have hy := hm y (List.mem_cons_self ..)
      rw [Tm.rns]
      split
      · obtain ⟨h2, h4⟩ := ih2 (i + 1) (vNm (wr (c + 1))) (y.rn (ps ++ [(a, vNm (wr (c + 1)))]) (wr (c + 1))).2 (fun z hz => hm z (List.mem_cons_of_mem _ hz))
        exact ⟨fun z hz => (List.mem_cons.1 hz).elim (fun e => e ▸ ih y _ _ (hx y hy)) (h2 z), by simp [h4]⟩
      · obtain ⟨h2, h4⟩ := ih2 (i + 1) nm (y.rn ps c).2 (fun z hz => hm z (List.mem_cons_of_mem _ hz))
        exact ⟨fun z hz => (List.mem_cons.1 hz).elim (fun e => e ▸ ih y _ _ (hx y hy)) (h2 z), by simp [h4]⟩
  have hC : ∀ (ys : List Cs) (c : Int), (∀ y ∈ ys, y ∈ cs) → (∀ y ∈ (Cs.rnL ys ps c).1, y.2.length ≤ 6 ∧ y.3.Rt d) ∧ (Cs.rnL ys ps c).1.length = ys.length := by
    intro ys
    induction ys with
    | nil => intro c _; exact ⟨fun y h => by simp [Cs.rnL] at h, rfl⟩
    | cons y r ih2 =>
      intro c hm
      have hy := hc y (hm y (List.mem_cons_self ..))
      rw [Cs.rnL]
      obtain ⟨h2, h4⟩ := ih2 (y.rn ps c).2 (fun z hz => hm z (List.mem_cons_of_mem _ hz))
      obtain ⟨t, ws, z⟩ := y
      refine ⟨fun z hz => (List.mem_cons.1 hz).elim (fun e => ?_) (h2 z), by simp [h4]⟩
      rw [e, Cs.rn]
      exact ⟨by dsimp only; rw [freshL_len]; exact hy.1, ih _ _ _ hy.2⟩
  rw [Tm.rn]
  split
  · rename_i hk
    subst hk
    have h2' := h2
    unfold manyB at h2'
    simp at h2'
    obtain ⟨e1, e2⟩ := h2'
    subst e1 e2
    have h0 : Tm.Rt (d + 1) (.mk 1 n (nowP ps a) b vs [] []) := by
      rw [Tm.Rt]
      exact ⟨h1, h2, h3, by simp, by simp⟩
    exact h0
  · obtain ⟨q1, q2⟩ := hL xs 0 a c (fun _ h => h)
    obtain ⟨q3, q4⟩ := hC cs (Tm.rns k a ps 0 xs a c).2.2 (fun _ h => h)
    refine ⟨h1, ?_, ?_, q1, q3⟩
    · rw [q2, q4]; exact h2
    · rw [q2, q4]; exact h3
end Go.Proofs.YtapiiklnnkkdlaaDoor

namespace Go.Proofs.YtapiiklnnkkdlaaDoor
open Go.RowKit
attribute [local simp] runD mkRc ldOf stOf stOk ldArg noAny dstOk guardOk opEff opEff0 effOp pureOp callOp zEff evA constAV scalAV Value.oneCell' frGet memGet startAS frOf isGoCall idIn AS.after nextR opnIds objIds AV.ids idsL AObj.ids frNo memNo opnAny isAny mkVal rdCells wrCells fldAddr idxAddr srcRows litRows toD1 toDs setAt sliceAV optI partAV bldAV fillAV binAV binI AV.cells callEff calleeOf frKill memKill AV.kill AObj.kill AV.has AV.hasL Op.operands Call.operands keepF keepM viewIds cChk renOf moGet moWs moQ cEff moLike moHave AV.ren renL AObj.ren AObj.like kept startC moMem AV.frz frz1 frzL frSub memSub frzs AS.frz frFrz memFrz AObj.frz takeMap takeLen bleF Nat.ble_eq memAny objAny mapOp D.keyOk rowAV valRow extOp wrapOp phO frLow memLow memLow1 objLow memEmpty Low LowL
set_option linter.unusedVariables false
set_option linter.unusedSimpArgs false



end Go.Proofs.YtapiiklnnkkdlaaDoor

namespace Go.Proofs.YtapiiklnnkkdlaaDoor
open Go.RowKit
attribute [local simp] runD mkRc ldOf stOf stOk ldArg noAny dstOk guardOk opEff opEff0 effOp pureOp callOp zEff evA constAV scalAV Value.oneCell' frGet memGet startAS frOf isGoCall idIn AS.after nextR opnIds objIds AV.ids idsL AObj.ids frNo memNo opnAny isAny mkVal rdCells wrCells fldAddr idxAddr srcRows litRows toD1 toDs setAt sliceAV optI partAV bldAV fillAV binAV binI AV.cells callEff calleeOf frKill memKill AV.kill AObj.kill AV.has AV.hasL Op.operands Call.operands keepF keepM viewIds cChk renOf moGet moWs moQ cEff moLike moHave AV.ren renL AObj.ren AObj.like kept startC moMem AV.frz frz1 frzL frSub memSub frzs AS.frz frFrz memFrz AObj.frz takeMap takeLen bleF Nat.ble_eq memAny objAny mapOp D.keyOk rowAV valRow extOp wrapOp phO
set_option linter.unusedVariables false
set_option linter.unusedSimpArgs false

end Go.Proofs.YtapiiklnnkkdlaaDoor

namespace Go.Proofs.YtapiiklnnkkdlaaDoor
open Go.RowKit
attribute [local simp] runD mkRc ldOf stOf stOk ldArg noAny dstOk guardOk opEff opEff0 effOp pureOp callOp zEff evA constAV scalAV Value.oneCell' frGet memGet startAS frOf isGoCall idIn AS.after nextR opnIds objIds AV.ids idsL AObj.ids frNo memNo opnAny isAny mkVal rdCells wrCells fldAddr idxAddr srcRows litRows toD1 toDs setAt sliceAV optI partAV bldAV fillAV binAV binI AV.cells callEff calleeOf frKill memKill AV.kill AObj.kill AV.has AV.hasL Op.operands Call.operands keepF keepM viewIds cChk renOf moGet moWs moQ cEff moLike moHave AV.ren renL AObj.ren AObj.like kept startC moMem AV.frz frz1 frzL frSub memSub frzs AS.frz frFrz memFrz AObj.frz takeMap takeLen bleF Nat.ble_eq memAny objAny mapOp D.keyOk rowAV valRow extOp wrapOp phO frLow memLow memLow1 objLow memEmpty Low LowL
set_option linter.unusedVariables false
set_option linter.unusedSimpArgs false


theorem ats_blen : ∀ (l : List Tm) (c : Int), (Tm.ats l c).2.1.length ≤ l.length
  | [], _ => Nat.le_refl _
  | x :: r, c => by
    rw [Tm.ats]
    split
    · have := ats_blen r c
      simp; omega
    · have := ats_blen r (x.pl (wr (c + 1))).2
      simp; omega
theorem Fn.rn_rt (f : Fn) (hr : f.body.Rt 25) : f.rn.body.Rt 25 := Go.Proofs.YtapiiklnnkkdlaaDoor.rn_rt 25 f.body _ _ hr
end Go.Proofs.YtapiiklnnkkdlaaDoor
