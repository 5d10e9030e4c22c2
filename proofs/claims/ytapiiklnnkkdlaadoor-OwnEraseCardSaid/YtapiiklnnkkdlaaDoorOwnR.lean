import Derived.Test.YtapiiklnnkkdlaaDoorNamesA
import Derived.Test.YtapiiklnnkkdlaaDoorScopeC
import Derived.Test.YtapiiklnnkkdlaaDoorNameP
import Derived.Test.YtapiiklnnkkdlaaDoorItoa
import Derived.Test.YtapiiklnnkkdlaaDoorMadeA
import Derived.Test.YtapiiklnnkkdlaaDoorPlainB
import Derived.Test.YtapiiklnnkkdlaaDoorClosP
/- Size, of both; xcref1.SameFns, by the abstract machine. Printed by gen_scope_b.py. -/
namespace Go.Proofs.YtapiiklnnkkdlaaDoor
open Go.RowKit
attribute [local simp] runD mkRc ldOf stOf stOk ldArg noAny dstOk guardOk opEff opEff0 effOp pureOp callOp zEff evA constAV scalAV Value.oneCell' frGet memGet startAS frOf isGoCall idIn AS.after nextR opnIds objIds AV.ids idsL AObj.ids frNo memNo opnAny isAny mkVal rdCells wrCells fldAddr idxAddr srcRows litRows toD1 toDs setAt sliceAV optI partAV bldAV fillAV binAV binI AV.cells callEff calleeOf frKill memKill AV.kill AObj.kill AV.has AV.hasL Op.operands Call.operands keepF keepM viewIds cChk renOf moGet moWs moQ cEff moLike moHave AV.ren renL AObj.ren AObj.like kept startC moMem AV.frz frz1 frzL frSub memSub frzs AS.frz frFrz memFrz AObj.frz takeMap takeLen bleF Nat.ble_eq memAny objAny mapOp D.keyOk rowAV valRow extOp wrapOp phO
set_option linter.unusedVariables false
set_option linter.unusedSimpArgs false
theorem wr_sum (a b : Nat) : wr (wr (a : Int) + wr (b : Int)) = wr ((a + b : Nat) : Int) := by rw [wr_add, wr_add']; congr 1
@[simp] theorem wr_one : wr 1 = 1 := rfl
theorem szs_append : ∀ (l r : List Tm), Tm.szs (l ++ r) = Tm.szs l + Tm.szs r
  | [], r => by simp [Tm.szs]
  | x :: l, r => by simp only [List.cons_append, Tm.szs, szs_append l r]; omega
theorem cszs_append : ∀ (l r : List Cs), Cs.szs (l ++ r) = Cs.szs l + Cs.szs r
  | [], r => by simp [Cs.szs]
  | x :: l, r => by simp only [List.cons_append, Cs.szs, cszs_append l r]; omega
theorem szs_snoc (l : List Tm) (x : Tm) : Tm.szs (l ++ (some x).toList) = Tm.szs l + x.sz := by rw [szs_append]; simp [Tm.szs]
theorem cszs_snoc (l : List Cs) (x : Cs) : Cs.szs (l ++ (some x).toList) = Cs.szs l + x.sz := by rw [cszs_append]; simp [Cs.szs]
theorem Tm.szs_take_le (l : List Tm) (i : Nat) : Tm.szs (l.take i) ≤ Tm.szs l := by
  have := szs_append (l.take i) (l.drop i)
  rw [List.take_append_drop] at this
  omega
theorem Cs.szs_take_le (l : List Cs) (i : Nat) : Cs.szs (l.take i) ≤ Cs.szs l := by
  have := cszs_append (l.take i) (l.drop i)
  rw [List.take_append_drop] at this
  omega
def siMem (k n : Int) (a b : ByteArray) (vs : List ByteArray) (xs : List Tm) (cs : List Cs) : List (Nat × Option AObj) :=
  [(1, some (.blk 34 [.d (.int k), .d (.int n), .d (.str a), .d (.str b), .d (strsD vs), .d (.sl (xs.map Tm.row)), .d (.sl (cs.map Cs.row))]))]
set_option maxRecDepth 20000 in
set_option maxHeartbeats 8000000 in
theorem sp_refSize_at : ∀ (N : Nat) (t : Tm), t.sz < N → t.Ok → PSpec Tryd.prog 55 [tmAV t] (fun _ => .d (.int (wr t.sz))) none := by
  intro N
  induction N with
  | zero => intro s h; omega
  | succ N ih =>
  intro t hN hO
  obtain ⟨k, n, a, b, vs, xs, cs⟩ := t
  obtain ⟨o1, o2, o3, o4, o5⟩ := hO.vars
  refine PSpec.of Tryd.func55 rfl rfl rfl (Nat.le_of_ble_eq_true rfl) ?_
  show AWp _ _ (endQ _ Tryd.f55 _ _ _) (startAS 34 _)
  repeat (first | refine AWp.seq ?_ | refine AWp.block ?_)
  apply AWp.reg [] []
  · conv => lhs; simp
  · trivial
  repeat (first | refine AWp.seq ?_ | refine AWp.block ?_)
  apply AWp.reg [] []
  · conv => lhs; simp
  · trivial
  repeat (first | refine AWp.seq ?_ | refine AWp.block ?_)
  apply AWp.reg [] []
  · conv => lhs; simp
  · trivial
  repeat (first | refine AWp.seq ?_ | refine AWp.block ?_)
  refine AWp.loop (σ := fun u : {i : Nat // i ≤ xs.length} => ⟨34, [(1, .ptr 1 0), (3, .d (.int (wr ((1 + Tm.szs (xs.take u.1) : Nat) : Int)))), (9, .d (.sl (xs.map Tm.row))), (10, .d (.int xs.length)), (11, .d (.int u.1))], siMem k n a b vs xs cs⟩)
    (μ := fun u => xs.length - u.1) ⟨0, Nat.zero_le _⟩ (Le.sub (by simp [Tm.szs]) (by simp [siMem])) (fun ⟨i, hi⟩ => ?_)
  dsimp only
  repeat (first | refine AWp.seq ?_ | refine AWp.block ?_)
  apply AWp.reg [] []
  · conv => lhs; simp
  · trivial
  repeat (first | refine AWp.seq ?_ | refine AWp.block ?_)
  refine AWp.cond rfl (fun h => ?_) (fun h => ?_)
  · have hi1 : i < xs.length := by have := of_decide_eq_true h; omega
    have h1 : xs[i]? = some xs[i] := List.getElem?_eq_getElem hi1
    have hmem : xs[i] ∈ xs := List.getElem_mem hi1
    generalize xs[i] = x at h1 hmem
    have hp := ih x (by have := Tm.sz_arg (k := k) (n := n) (a := a) (b := b) (vs := vs) (cs := cs) hmem; omega) (hO.arg hmem)
    have ht : Tm.szs (xs.take (i + 1)) = Tm.szs (xs.take i) + x.sz := by rw [List.take_add_one, h1]; exact szs_snoc _ _
    have hle := Tm.szs_take_le xs (i + 1)
    refine AWp.skip ?_
    generalize x.sz = z at hp ht
    generalize Tm.szs (xs.take i) = y at ht ⊢
    obtain ⟨xk, xn, xa, xb, xv, xx, xc⟩ := x
    refine AWp.rg [] [] ?_ (hr := by conv => lhs; simp [h1, Tm.row, Tm.rows_eq, Cs.rows_eq])
    repeat (first | refine AWp.seq ?_ | refine AWp.block ?_)
    apply AWp.reg [3] [.p (fun _ => .d (.int (wr z))) none]
    · conv => lhs; simp
    · exact hp
    refine AWp.rg [] [] ?_
    refine ⟨⟨i + 1, hi1⟩, by simp; omega, ?_⟩
    dsimp only
    rw [ht]
    have hw : ∀ u v w : Nat, w = u + v → wr (wr (u : Int) + wr (v : Int)) = wr (w : Int) := fun u v w e => by rw [wr_sum, e]
    refine Le.sub ?_ (by simp [siMem])
    simp
    exact hw _ _ _ (by omega)
  have hi1 : i = xs.length := by have := of_decide_eq_false h; omega
  subst hi1
  refine AWp.exit ?_
  rw [List.take_length]
  clear h
  repeat (first | refine AWp.seq ?_ | refine AWp.block ?_)
  apply AWp.reg [] []
  · conv => lhs; simp [siMem]
  · trivial
  repeat (first | refine AWp.seq ?_ | refine AWp.block ?_)
  refine AWp.loop (σ := fun u : {i : Nat // i ≤ cs.length} => ⟨34, [(1, .ptr 1 0), (3, .d (.int (wr ((1 + Tm.szs xs + Cs.szs (cs.take u.1) : Nat) : Int)))), (21, .d (.sl (cs.map Cs.row))), (22, .d (.int cs.length)), (23, .d (.int u.1))], siMem k n a b vs xs cs⟩)
    (μ := fun u => cs.length - u.1) ⟨0, Nat.zero_le _⟩ (Le.sub (by simp [Cs.szs]) (by simp [siMem])) (fun ⟨i, hi⟩ => ?_)
  dsimp only
  repeat (first | refine AWp.seq ?_ | refine AWp.block ?_)
  apply AWp.reg [] []
  · conv => lhs; simp
  · trivial
  repeat (first | refine AWp.seq ?_ | refine AWp.block ?_)
  refine AWp.cond rfl (fun h => ?_) (fun h => ?_)
  · have hi1 : i < cs.length := by have := of_decide_eq_true h; omega
    have h1 : cs[i]? = some cs[i] := List.getElem?_eq_getElem hi1
    have hmem : cs[i] ∈ cs := List.getElem_mem hi1
    generalize cs[i] = x at h1 hmem
    have ht : Cs.szs (cs.take (i + 1)) = Cs.szs (cs.take i) + x.sz := by rw [List.take_add_one, h1]; exact cszs_snoc _ _
    have hle := Cs.szs_take_le cs (i + 1)
    obtain ⟨g, ws, x⟩ := x
    obtain ⟨oc1, oc2⟩ := (hO.case hmem).body
    have hp := ih x (by have := Tm.sz_case (k := k) (n := n) (a := a) (b := b) (vs := vs) (xs := xs) hmem; omega) oc1
    rw [show (Cs.mk g ws x).sz = x.sz from rfl] at ht
    refine AWp.skip ?_
    generalize x.sz = z at hp ht
    generalize Cs.szs (cs.take i) = y at ht ⊢
    obtain ⟨xk, xn, xa, xb, xv, xx, xc⟩ := x
    refine AWp.rg [] [] ?_ (hr := by conv => lhs; simp [h1, Cs.row, Tm.row, Tm.rows_eq, Cs.rows_eq])
    repeat (first | refine AWp.seq ?_ | refine AWp.block ?_)
    apply AWp.reg [4] [.p (fun _ => .d (.int (wr z))) none]
    · conv => lhs; simp
    · exact hp
    refine AWp.rg [] [] ?_
    refine ⟨⟨i + 1, hi1⟩, by simp; omega, ?_⟩
    dsimp only
    rw [ht]
    have hw : ∀ u v w : Nat, w = u + v → wr (wr (u : Int) + wr (v : Int)) = wr (w : Int) := fun u v w e => by rw [wr_sum, e]
    refine Le.sub ?_ (by simp [siMem])
    simp
    exact hw _ _ _ (by omega)
  have hi1 : i = cs.length := by have := of_decide_eq_false h; omega
  subst hi1
  refine AWp.exit ?_
  rw [List.take_length]
  repeat (first | refine AWp.seq ?_ | refine AWp.block ?_)
  apply AWp.reg [] []
  · conv => lhs; simp
  · trivial
  refine AWp.ret ?_
  try dsimp only [thenQ, blockQ]
  apply endQ.ret
  · rfl
  · conv => lhs; simp [resAV, Tryd.results55]
  rfl
theorem sp_refSize (t : Tm) (h : t.Ok) : PSpec Tryd.prog 55 [tmAV t] (fun _ => .d (.int (wr t.sz))) none := sp_refSize_at _ t (Nat.lt_succ_self _) h

theorem arD_put {f : Arity} {g : ByteArray} {n : Nat} (h : f.get g = none) : D.aput (.str g) [.int n] (arD f) = arD ((g, n) :: f) := by
  unfold D.aput
  rw [D.adel_all]
  · rfl
  · intro p hp
    unfold arD at hp
    obtain ⟨t, ht, rfl⟩ := List.mem_map.1 hp
    intro e
    simp only [D.str.injEq] at e
    subst e
    unfold Arity.get at h
    rw [Option.map_eq_none_iff, List.find?_eq_none] at h
    have := h t ht
    simp at this
set_option maxRecDepth 20000 in
set_option maxHeartbeats 16000000 in
theorem sp_refCheck (l : List Fn) (hl : FnsOk l) : PSpec Tryd.prog 16 [fnsAV l] (fun _ => .d (.int (checkE l))) none := by
  have hll := hl.len
  obtain ⟨C, hC⟩ : ∃ C : Int, (l.length : Int) = C := ⟨_, rfl⟩
  refine PSpec.of Tryd.func16 rfl rfl rfl (Nat.le_of_ble_eq_true rfl) ?_
  show AWp _ _ (endQ _ Tryd.f16 _ _ _) (startAS 81 _)
  refine AWp.rg [] [] ?_ (hr := by conv => lhs; simp [hC, Fn.row, Tm.row, Tm.rows_eq, Cs.rows_eq])
  by_cases q1 : C = 0
  · refine AWp.rg [] [] ?_ (hr := by conv => lhs; simp [hC, Fn.row, Tm.row, Tm.rows_eq, Cs.rows_eq, q1])
    refine AWp.cy ?_
    refine AWp.rg [] [] ?_ (hr := by conv => lhs; simp [hC, Fn.row, Tm.row, Tm.rows_eq, Cs.rows_eq, q1])
    refine AWp.ret ?_
    try dsimp only [thenQ, blockQ]
    apply endQ.ret
    · rfl
    · conv => lhs; simp [resAV, Tryd.results16]
    · rw [checkE, if_pos (show l.length = 0 ∨ 6 < l.length by omega)]; rfl
  by_cases q2 : 6 < C
  · refine AWp.rg [] [] ?_ (hr := by conv => lhs; simp [hC, Fn.row, Tm.row, Tm.rows_eq, Cs.rows_eq, q1, q2])
    refine AWp.cy ?_
    refine AWp.rg [] [] ?_ (hr := by conv => lhs; simp [hC, Fn.row, Tm.row, Tm.rows_eq, Cs.rows_eq, q1, q2])
    refine AWp.ret ?_
    try dsimp only [thenQ, blockQ]
    apply endQ.ret
    · rfl
    · conv => lhs; simp [resAV, Tryd.results16]
    · rw [checkE, if_pos (show l.length = 0 ∨ 6 < l.length by omega)]; rfl
  refine AWp.rg [] [] ?_ (hr := by conv => lhs; simp [hC, Fn.row, Tm.row, Tm.rows_eq, Cs.rows_eq, q1, q2])
  refine AWp.cn ?_
  refine AWp.skip ?_
  have hlen : ¬ (l.length = 0 ∨ 6 < l.length) := by omega
  refine AWp.rg [] [] ?_ (hr := by conv => lhs; simp [hC, Fn.row, Tm.row, Tm.rows_eq, Cs.rows_eq, q1, q2])
  refine AWp.rg [] [] ?_ (hr := by conv => lhs; simp [hC, Fn.row, Tm.row, Tm.rows_eq, Cs.rows_eq, q1, q2])
  repeat (first | refine AWp.seq ?_ | refine AWp.block ?_)
  refine AWp.loop (σ := fun u : {i : Nat // i ≤ l.length ∧ headsE [] l = headsE (arOf (l.take i)) (l.drop i)} => ⟨81, [(0, fnsAV l), (3, .mp 19), (20, fnsAV l), (21, .d (.int l.length)), (22, .d (.int u.1))], [(19, some (wrObj (arOf (l.take u.1))))]⟩)
    (μ := fun u => l.length - u.1) ⟨0, Nat.zero_le _, rfl⟩ (Le.sub (by simp [arOf, wrObj, arD, hC, nmObj]) (by simp [arOf, wrObj, arD, hC, nmObj])) (fun ⟨i, hi, hwi⟩ => ?_)
  dsimp only
  repeat (first | refine AWp.seq ?_ | refine AWp.block ?_)
  apply AWp.reg [] []
  · conv => lhs; simp
  · trivial
  repeat (first | refine AWp.seq ?_ | refine AWp.block ?_)
  refine AWp.cond rfl (fun hci => ?_) (fun hci => ?_)
  · have hi1 : i < l.length := by have := of_decide_eq_true hci; omega
    have h1c : l[i]? = some l[i] := List.getElem?_eq_getElem hi1
    have hmc : l[i] ∈ l := List.getElem_mem hi1
    have hdc : l.drop i = l[i] :: l.drop (i + 1) := List.drop_eq_getElem_cons hi1
    generalize l[i] = c at h1c hmc hdc
    obtain ⟨g, ps, bd⟩ := c
    have hsn : arOf (l.take (i + 1)) = (g, ps.length) :: arOf (l.take i) := by rw [List.take_add_one, h1c]; exact arOf_snoc _ _
    obtain ⟨o1, o2, o3, o4⟩ := hl.all _ hmc
    dsimp only at o1 o2 o3 o4
    rw [hdc] at hwi
    simp only [headsE] at hwi
    rw [← hsn] at hwi
    obtain ⟨f, hf⟩ : ∃ f, f = arOf (l.take i) := ⟨_, rfl⟩
    rw [← hf] at hwi hsn ⊢
    obtain ⟨E, hE⟩ : ∃ E, E = Fn.headE f ⟨g, ps, bd⟩ := ⟨_, rfl⟩
    rw [← hE] at hwi
    simp only [Fn.headE] at hE
    have hNm := sp_Name g (by omega)
    have hTw := sp_twice ps (by omega)
    have hBd := sp_bad ps (by omega) (fun s hs => by have := o3 s hs; omega)
    have hSz := sp_refSize bd o4
    obtain ⟨S, hS⟩ : ∃ S, S = wr bd.sz := ⟨_, rfl⟩
    rw [← hS] at hSz hE
    obtain ⟨B, hB⟩ : ∃ B : Int, (ps.length : Int) = B := ⟨_, rfl⟩
    obtain ⟨xk, xn, xa, xb, xv, xx, xc⟩ := bd
    refine AWp.skip ?_
    refine AWp.rg [] [] ?_ (hr := by conv => lhs; simp [hC, Fn.row, Tm.row, Tm.rows_eq, Cs.rows_eq, h1c, hB, q1, q2])
    cases hg : f.get g with
    | some m =>
      refine AWp.rg [] [] ?_ (hr := by conv => lhs; simp [hC, Fn.row, Tm.row, Tm.rows_eq, Cs.rows_eq, h1c, hB, arD_get, hg, q1, q2])
      refine AWp.rg [] [] ?_ (hr := by conv => lhs; simp [hC, Fn.row, Tm.row, Tm.rows_eq, Cs.rows_eq, h1c, hB, arD_get, hg, q1, q2])
      refine AWp.cy ?_
      refine AWp.rg [] [] ?_ (hr := by conv => lhs; simp [hC, Fn.row, Tm.row, Tm.rows_eq, Cs.rows_eq, h1c, hB, arD_get, hg, q1, q2])
      refine AWp.ret ?_
      rw [if_pos (by simp [hg])] at hE
      rw [if_pos (by omega)] at hwi
      try dsimp only [thenQ, blockQ]
      apply endQ.ret
      · rfl
      · conv => lhs; simp [resAV, Tryd.results16]
      · rw [checkE, if_neg hlen, hwi, if_pos (by omega), hE]; rfl
    | none =>
      refine AWp.rg [] [] ?_ (hr := by conv => lhs; simp [hC, Fn.row, Tm.row, Tm.rows_eq, Cs.rows_eq, h1c, hB, arD_get, hg, q1, q2])
      cases q3 : nameB g with
      | true =>
        rw [q3] at hNm
        cases q4 : twB ps with
        | true =>
          rw [q4] at hTw
          refine AWp.rg [] [.p (fun _ => .d (.bool true)) none, .p (fun _ => .d (.bool true)) none] ?_ (hr := by conv => lhs; simp [hC, Fn.row, Tm.row, Tm.rows_eq, Cs.rows_eq, h1c, hB, arD_get, hg, q3, q4, q1, q2])
          refine AWp.cy ?_
          refine AWp.rg [] [] ?_ (hr := by conv => lhs; simp [hC, Fn.row, Tm.row, Tm.rows_eq, Cs.rows_eq, h1c, hB, arD_get, hg, q3, q4, q1, q2])
          refine AWp.ret ?_
          rw [if_pos (by simp [hg, q3, q4])] at hE
          rw [if_pos (by omega)] at hwi
          try dsimp only [thenQ, blockQ]
          apply endQ.ret
          · rfl
          · conv => lhs; simp [resAV, Tryd.results16]
          · rw [checkE, if_neg hlen, hwi, if_pos (by omega), hE]; rfl
        | false =>
          rw [q4] at hTw
          cases q5 : badB ps with
          | true =>
            rw [q5] at hBd
            refine AWp.rg [] [.p (fun _ => .d (.bool true)) none, .p (fun _ => .d (.bool false)) none, .p (fun _ => .d (.bool true)) none] ?_ (hr := by conv => lhs; simp [hC, Fn.row, Tm.row, Tm.rows_eq, Cs.rows_eq, h1c, hB, arD_get, hg, q3, q4, q5, q1, q2])
            refine AWp.cy ?_
            refine AWp.rg [] [] ?_ (hr := by conv => lhs; simp [hC, Fn.row, Tm.row, Tm.rows_eq, Cs.rows_eq, h1c, hB, arD_get, hg, q3, q4, q5, q1, q2])
            refine AWp.ret ?_
            rw [if_pos (by simp [hg, q3, q4, q5])] at hE
            rw [if_pos (by omega)] at hwi
            try dsimp only [thenQ, blockQ]
            apply endQ.ret
            · rfl
            · conv => lhs; simp [resAV, Tryd.results16]
            · rw [checkE, if_neg hlen, hwi, if_pos (by omega), hE]; rfl
          | false =>
            rw [q5] at hBd
            refine AWp.rg [] [.p (fun _ => .d (.bool true)) none, .p (fun _ => .d (.bool false)) none, .p (fun _ => .d (.bool false)) none] ?_ (hr := by conv => lhs; simp [hC, Fn.row, Tm.row, Tm.rows_eq, Cs.rows_eq, h1c, hB, arD_get, hg, q3, q4, q5, q1, q2])
            refine AWp.cn ?_
            refine AWp.skip ?_
            by_cases q6 : 6 < B
            · refine AWp.rg [] [] ?_ (hr := by conv => lhs; simp [hC, Fn.row, Tm.row, Tm.rows_eq, Cs.rows_eq, h1c, hB, arD_get, hg, q3, q4, q5, q1, q2, q6])
              refine AWp.cy ?_
              refine AWp.rg [] [] ?_ (hr := by conv => lhs; simp [hC, Fn.row, Tm.row, Tm.rows_eq, Cs.rows_eq, h1c, hB, arD_get, hg, q3, q4, q5, q1, q2, q6])
              refine AWp.ret ?_
              rw [if_neg (by simp [hg, q3, q4, q5]), if_pos (show 6 < ps.length by omega)] at hE
              rw [if_pos (by omega)] at hwi
              try dsimp only [thenQ, blockQ]
              apply endQ.ret
              · rfl
              · conv => lhs; simp [resAV, Tryd.results16]
              · rw [checkE, if_neg hlen, hwi, if_pos (by omega), hE]; rfl
            refine AWp.rg [] [] ?_ (hr := by conv => lhs; simp [hC, Fn.row, Tm.row, Tm.rows_eq, Cs.rows_eq, h1c, hB, arD_get, hg, q3, q4, q5, q1, q2, q6])
            refine AWp.cn ?_
            refine AWp.skip ?_
            by_cases q7 : 400 < S
            · refine AWp.rg [] [.p (fun _ => .d (.int S)) none] ?_ (hr := by conv => lhs; simp [hC, Fn.row, Tm.row, Tm.rows_eq, Cs.rows_eq, h1c, hB, arD_get, hg, q3, q4, q5, q1, q2, q6, q7])
              refine AWp.cy ?_
              refine AWp.rg [] [] ?_ (hr := by conv => lhs; simp [hC, Fn.row, Tm.row, Tm.rows_eq, Cs.rows_eq, h1c, hB, arD_get, hg, q3, q4, q5, q1, q2, q6, q7])
              refine AWp.ret ?_
              rw [if_neg (by simp [hg, q3, q4, q5]), if_neg (show ¬ 6 < ps.length by omega), if_pos (show 400 < S by omega)] at hE
              rw [if_pos (by omega)] at hwi
              try dsimp only [thenQ, blockQ]
              apply endQ.ret
              · rfl
              · conv => lhs; simp [resAV, Tryd.results16]
              · rw [checkE, if_neg hlen, hwi, if_pos (by omega), hE]; rfl
            refine AWp.rg [] [.p (fun _ => .d (.int S)) none] ?_ (hr := by conv => lhs; simp [hC, Fn.row, Tm.row, Tm.rows_eq, Cs.rows_eq, h1c, hB, arD_get, hg, q3, q4, q5, q1, q2, q6, q7])
            refine AWp.cn ?_
            refine AWp.skip ?_
            rw [if_neg (by simp [hg, q3, q4, q5]), if_neg (show ¬ 6 < ps.length by omega), if_neg (show ¬ 400 < S by omega)] at hE
            rw [if_neg (show ¬ (E ≠ 0) by omega)] at hwi
            have hput : D.aput (.str g) [.int B] (arD f) = arD ((g, ps.length) :: f) := by rw [← hB]; exact arD_put hg
            refine AWp.rg [] [] ?_ (hr := by conv => lhs; simp [hC, Fn.row, Tm.row, Tm.rows_eq, Cs.rows_eq, h1c, hB, arD_get, hg, q3, q4, q5, hput, q1, q2, q6, q7])
            refine AWp.rg [] [] ?_ (hr := by conv => lhs; simp [hC, Fn.row, Tm.row, Tm.rows_eq, Cs.rows_eq, h1c, hB, arD_get, hg, q3, q4, q5, hput, q1, q2, q6, q7])
            refine ⟨⟨i + 1, hi1, hwi⟩, by simp; omega, ?_⟩
            dsimp only
            rw [hsn]
            exact Le.sub (by simp [hC]) (by simp [nmObj])
      | false =>
        rw [q3] at hNm
        refine AWp.rg [] [.p (fun _ => .d (.bool false)) none] ?_ (hr := by conv => lhs; simp [hC, Fn.row, Tm.row, Tm.rows_eq, Cs.rows_eq, h1c, hB, arD_get, hg, q3, q1, q2])
        refine AWp.cy ?_
        refine AWp.rg [] [] ?_ (hr := by conv => lhs; simp [hC, Fn.row, Tm.row, Tm.rows_eq, Cs.rows_eq, h1c, hB, arD_get, hg, q3, q1, q2])
        refine AWp.ret ?_
        rw [if_pos (by simp [hg, q3])] at hE
        rw [if_pos (by omega)] at hwi
        try dsimp only [thenQ, blockQ]
        apply endQ.ret
        · rfl
        · conv => lhs; simp [resAV, Tryd.results16]
        · rw [checkE, if_neg hlen, hwi, if_pos (by omega), hE]; rfl
  have hi1 : i = l.length := by have := of_decide_eq_false hci; omega
  subst hi1
  clear hci
  rw [List.drop_length] at hwi
  simp only [headsE] at hwi
  rw [List.take_length]
  have hall := heads_zero hwi
  refine AWp.exit ?_
  refine AWp.rg [] [] ?_ (hr := by conv => lhs; simp [hC, Fn.row, Tm.row, Tm.rows_eq, Cs.rows_eq, q1, q2])
  repeat (first | refine AWp.seq ?_ | refine AWp.block ?_)
  refine AWp.loop (σ := fun u : {j : Nat // j ≤ l.length ∧ bodiesE (arOf l) l = bodiesE (arOf l) (l.drop j)} => ⟨81, [(0, fnsAV l), (3, .mp 19), (65, fnsAV l), (66, .d (.int l.length)), (67, .d (.int u.1))], [(19, some (wrObj (arOf l)))]⟩)
    (μ := fun u => l.length - u.1) ⟨0, Nat.zero_le _, rfl⟩ (Le.sub (by simp [hC, nmObj]) (by simp [hC, nmObj])) (fun ⟨j, hi, hwj⟩ => ?_)
  dsimp only
  repeat (first | refine AWp.seq ?_ | refine AWp.block ?_)
  apply AWp.reg [] []
  · conv => lhs; simp
  · trivial
  repeat (first | refine AWp.seq ?_ | refine AWp.block ?_)
  refine AWp.cond rfl (fun hcj => ?_) (fun hcj => ?_)
  · have hi1 : j < l.length := by have := of_decide_eq_true hcj; omega
    have h1c : l[j]? = some l[j] := List.getElem?_eq_getElem hi1
    have hmc : l[j] ∈ l := List.getElem_mem hi1
    have hdc : l.drop j = l[j] :: l.drop (j + 1) := List.drop_eq_getElem_cons hi1
    generalize l[j] = c at h1c hmc hdc
    have hps := (hall _ hmc).2.2.2.1
    obtain ⟨g, ps, bd⟩ := c
    obtain ⟨o1, o2, o3, o4⟩ := hl.all _ hmc
    dsimp only at o1 o2 o3 o4 hps
    rw [hdc] at hwj
    simp only [bodiesE] at hwj
    have hx := cs_Wrong (arOf l) bd ps o4 (by omega)
    obtain ⟨E, hE⟩ : ∃ E, E = bd.wrong (arOf l) ps 0 := ⟨_, rfl⟩
    rw [← hE] at hwj hx
    obtain ⟨xk, xn, xa, xb, xv, xx, xc⟩ := bd
    refine AWp.skip ?_
    refine AWp.rg [] [] ?_ (hr := by conv => lhs; simp [hC, Fn.row, Tm.row, Tm.rows_eq, Cs.rows_eq, h1c, q1, q2])
    refine AWp.rg [] [.c [(1000, 19)] [.mp 1000, tmAV (.mk xk xn xa xb xv xx xc), strsAV ps, .d (.int 0)] [(1000, wrObj (arOf l))] (.d (.int E)) [(1000, wrObj (arOf l))]] ?_ (hr := by conv => lhs; simp [hC, Fn.row, Tm.row, Tm.rows_eq, Cs.rows_eq, h1c, q1, q2])
    by_cases q8 : E = 0
    · refine AWp.rg [] [] ?_ (hr := by conv => lhs; simp [hC, Fn.row, Tm.row, Tm.rows_eq, Cs.rows_eq, h1c, q1, q2, q8])
      refine AWp.cn ?_
      refine AWp.skip ?_
      rw [if_neg (show ¬ (E ≠ 0) by omega)] at hwj
      refine AWp.rg [] [] ?_ (hr := by conv => lhs; simp [hC, Fn.row, Tm.row, Tm.rows_eq, Cs.rows_eq, h1c, q1, q2, q8])
      refine ⟨⟨j + 1, hi1, hwj⟩, by simp; omega, ?_⟩
      dsimp only
      exact Le.sub (by simp [hC]) (by simp [nmObj])
    refine AWp.rg [] [] ?_ (hr := by conv => lhs; simp [hC, Fn.row, Tm.row, Tm.rows_eq, Cs.rows_eq, h1c, q1, q2, q8])
    refine AWp.cy ?_
    refine AWp.rg [] [] ?_ (hr := by conv => lhs; simp [hC, Fn.row, Tm.row, Tm.rows_eq, Cs.rows_eq, h1c, q1, q2, q8])
    refine AWp.ret ?_
    rw [if_pos (by omega)] at hwj
    try dsimp only [thenQ, blockQ]
    apply endQ.ret
    · rfl
    · conv => lhs; simp [resAV, Tryd.results16]
    · rw [checkE, if_neg hlen, hwi, if_neg (by omega), hwj]; rfl
  have hi1 : j = l.length := by have := of_decide_eq_false hcj; omega
  subst hi1
  clear hcj
  rw [List.drop_length] at hwj
  simp only [bodiesE] at hwj
  refine AWp.exit ?_
  refine AWp.rg [] [] ?_ (hr := by conv => lhs; simp [hC, Fn.row, Tm.row, Tm.rows_eq, Cs.rows_eq, q1, q2])
  refine AWp.ret ?_
  try dsimp only [thenQ, blockQ]
  apply endQ.ret
  · rfl
  · conv => lhs; simp [resAV, Tryd.results16]
  · rw [checkE, if_neg hlen, hwi, if_neg (by omega), hwj]; rfl

@[simp] theorem le_maxLen21 : 21 ≤ maxLen := by decide
@[simp] theorem le_maxLen25 : 25 ≤ maxLen := by decide
def fnHo : List Fn → Fn
  | f :: _ => f
  | [] => ⟨.empty, [], .mk 0 0 .empty .empty [] [] []⟩
def txO : ByteArray := ⟨#[40, 102, 110, 32, 102, 32, 40, 120, 32, 121, 41, 32, 40, 35, 49, 32, 120, 32, 120, 41, 41]⟩
def prO : List Fn := (parseP false txO).1
theorem prO_ok : parseP false txO = (prO, 0) := by kernel_rfl
theorem prO_fns : FnsOk prO := fnsOk_of (by kernel_rfl)
theorem prO_check : checkE prO = 0 := by kernel_rfl
def fO : Fn := fnHo prO
theorem prO_eq : prO = [fO] := by kernel_rfl
theorem fO_pt : fO.Pt := by
  have hm : fO ∈ prO := by rw [prO_eq]; simp
  obtain ⟨h1, h2, h3⟩ := right_all prO_fns prO_check fO hm
  exact ⟨rt_mono 25 _ _ (by omega) h2, ⟨h1, by have := ((check_zero prO_check).2.2.2 fO hm).sz; omega⟩, h3, (prO_fns.all fO hm).sizes⟩
theorem fO_ow : fO.ow.okB = true := by kernel_rfl
theorem fO_er : fO.ow.body.er.okB = true := by kernel_rfl
theorem fO_wt : Nat.ble fO.ow.body.wt 1000000 = true := by kernel_rfl
theorem fO_wt2 : Nat.ble fO.ow.body.er.wt 1000000 = true := by kernel_rfl
theorem fO_sh : fO.ow.body.sh = ⟨#[40, 100, 114, 111, 112, 32, 121, 32, 40, 100, 117, 112, 32, 120, 32, 40, 35, 49, 32, 120, 32, 120, 41, 41, 41]⟩ := by kernel_rfl
theorem fO_sh2 : fO.ow.body.er.sh = ⟨#[40, 35, 49, 32, 120, 32, 120, 41]⟩ := by kernel_rfl
theorem fO_kind : (fO.body.ow [⟨#[120]⟩, ⟨#[121]⟩]).tk = 9 := by kernel_rfl
set_option maxRecDepth 20000 in
set_option maxHeartbeats 16000000 in
theorem sp_alive6 : PSpec Tryd.prog 32 [] (fun _ => .d (.bool true)) none := by
  have hP := sp_Parse txO
  rw [prO_ok, prO_eq] at hP
  unfold txO at hP
  have hpt := fO_pt
  have hk := fO_kind
  obtain ⟨hO, hI⟩ := Fn.okB_ok fO_ow
  have hwt := Nat.le_of_ble_eq_true fO_wt
  have hwt2 := Nat.le_of_ble_eq_true fO_wt2
  obtain ⟨_, hI2⟩ := Tm.okB_ok _ fO_er
  have hsh := fO_sh
  have hsh2 := fO_sh2
  generalize fO = f at *
  have h1 := sp_OwFn f hpt
  have hS := sp_Show f.ow.body hI (by omega)
  rw [hsh] at hS
  have hE := sp_Erase f.ow.body hO.body
  have hS2 := sp_Show f.ow.body.er hI2 (by omega)
  rw [hsh2] at hS2
  have hA := sp_OwAll [f] (by simp) (fun g hg => by rw [List.mem_singleton.1 hg]; exact hpt)
  rw [List.map_cons, List.map_nil] at hA
  have hT := ow_all 175 f.body [⟨#[120]⟩, ⟨#[121]⟩] hpt.rt hpt.fit (by simp) (by
    intro s hs
    rcases List.mem_cons.1 hs with rfl | hs
    · exact Nat.le_of_ble_eq_true rfl
    rcases List.mem_cons.1 hs with rfl | hs
    · exact Nat.le_of_ble_eq_true rfl
    · cases hs)
  clear hO hI hI2 hwt hwt2 hpt hsh hsh2
  generalize f.body.ow [⟨#[120]⟩, ⟨#[121]⟩] = h at hT hk
  generalize f.ow.body.er = e at hE hS2
  generalize f.ow = g at *
  obtain ⟨fg, fps, ⟨fk, fn, fa, fb, fvs, fxs, fcs⟩⟩ := f
  obtain ⟨gg, gps, ⟨gk, gn, ga, gb, gvs, gxs, gcs⟩⟩ := g
  obtain ⟨ek, en, ea, eb, evs, exs, ecs⟩ := e
  obtain ⟨hkk, hn, ha, hb, hvs, hxs, hcs⟩ := h
  rw [Tm.tk] at hk
  subst hk
  simp only [fnsAV, List.map_cons, List.map_nil, Fn.row, Tm.row, Tm.rows_eq, Cs.rows_eq, strR] at hP hA hT
  dsimp only at h1 hS hE hS2 hT
  refine PSpec.of Tryd.func32 rfl rfl rfl (Nat.le_of_ble_eq_true rfl) ?_
  show AWp _ _ (endQ _ Tryd.f32 _ _ _) (startAS 39 _)
  refine AWp.rg [] [] ?_ (hr := by conv => lhs; simp [Fn.row, Tm.row, Tm.rows_eq, Cs.rows_eq])
  refine AWp.rg [] [.p (fun _ => .tuple [.d (.sl [[.str fg, strsD fps, .int fk, .int fn, .str fa, .str fb, strsD fvs, .sl (fxs.map Tm.row), .sl (fcs.map Cs.row)]]), .d (.int 0)]) none] ?_ (hr := by conv => lhs; simp [Fn.row, Tm.row, Tm.rows_eq, Cs.rows_eq])
  refine AWp.rg [] [.p (fun _ => .agg [.d (.str gg), .d (strsD gps), .d (.int gk), .d (.int gn), .d (.str ga), .d (.str gb), .d (strsD gvs), .d (.sl (gxs.map Tm.row)), .d (.sl (gcs.map Cs.row))]) none] ?_ (hr := by conv => lhs; simp [Fn.row, Tm.row, Tm.rows_eq, Cs.rows_eq])
  refine AWp.rg [22] [.p (fun _ => .d (.str (⟨#[40, 100, 114, 111, 112, 32, 121, 32, 40, 100, 117, 112, 32, 120, 32, 40, 35, 49, 32, 120, 32, 120, 41, 41, 41]⟩))) none, .p (fun _ => .agg [.d (.int ek), .d (.int en), .d (.str ea), .d (.str eb), .d (strsD evs), .d (.sl (exs.map Tm.row)), .d (.sl (ecs.map Cs.row))]) none, .p (fun _ => .d (.str (⟨#[40, 35, 49, 32, 120, 32, 120, 41]⟩))) none, .p (fun _ => .d (.sl [[.str gg, strsD gps, .int gk, .int gn, .str ga, .str gb, strsD gvs, .sl (gxs.map Tm.row), .sl (gcs.map Cs.row)]])) none, .p (fun _ => .agg [.d (.int 9), .d (.int hn), .d (.str ha), .d (.str hb), .d (strsD hvs), .d (.sl (hxs.map Tm.row)), .d (.sl (hcs.map Cs.row))]) none] ?_ (hr := by conv => lhs; simp [Fn.row, Tm.row, Tm.rows_eq, Cs.rows_eq])
  refine AWp.ret ?_
  try dsimp only [thenQ, blockQ]
  apply endQ.ret
  · rfl
  · conv => lhs; simp [resAV, Tryd.results32]
  rfl
set_option maxRecDepth 20000 in
set_option maxHeartbeats 16000000 in
theorem sp_OwnErase (l : List Fn) (hl : FnsOk l) : PSpec Tryd.prog 8 [fnsAV l] (fun _ => .d (.bool true)) none := by
  have hal := sp_alive6
  have hkl := sp_refCheck l hl
  obtain ⟨cl, hcl⟩ : ∃ c, c = checkE l := ⟨_, rfl⟩
  rw [← hcl] at hkl
  refine PSpec.of Tryd.func8 rfl rfl rfl (Nat.le_of_ble_eq_true rfl) ?_
  show AWp _ _ (endQ _ Tryd.f8 _ _ _) (startAS 43 _)
  refine AWp.rg [] [] ?_ (hr := by conv => lhs; simp [Fn.row, Tm.row, Tm.rows_eq, Cs.rows_eq])
  refine AWp.rg [] [.p (fun _ => .d (.bool true)) none] ?_ (hr := by conv => lhs; simp [Fn.row, Tm.row, Tm.rows_eq, Cs.rows_eq])
  refine AWp.cn ?_
  refine AWp.skip ?_
  by_cases q1 : cl = 0
  · have q1t := eq_true q1
    refine AWp.rg [] [.p (fun _ => .d (.int cl)) none] ?_ (hr := by conv => lhs; simp [Fn.row, Tm.row, Tm.rows_eq, Cs.rows_eq, q1t])
    refine AWp.cn ?_
    refine AWp.skip ?_
    have hc0 : checkE l = 0 := hcl.symm.trans q1
    have h1 := sp_EachPlain l hl.len (right_all hl hc0)
    have hpt := pl_all_pt hl hc0
    have her : ∀ f ∈ l.map Fn.pl, f.ow.body.er = f.body := fun f hf => by
      obtain ⟨g, hg, rfl⟩ := List.mem_map.1 hf
      exact g.ow_er (right_all hl hc0 g hg).2.1
    have hL1l : (l.map Fn.pl).length ≤ 879609302220 := by rw [List.length_map]; exact hl.len
    generalize l.map Fn.pl = L1 at h1 hpt her hL1l
    refine AWp.rg [] [.p (fun _ => .d (.sl (L1.map Fn.row))) none] ?_ (hr := by conv => lhs; simp [Fn.row, Tm.row, Tm.rows_eq, Cs.rows_eq, q1t])
    repeat (first | refine AWp.seq ?_ | refine AWp.block ?_)
    refine AWp.loop (σ := fun u : {u : Nat // u ≤ L1.length} => ⟨43, [(12, .d (.sl (L1.map Fn.row))), (13, .d (.int (L1.length : Int))), (14, .d (.int (u.1 : Int)))], []⟩)
      (μ := fun u => L1.length - u.1) ⟨0, Nat.zero_le _⟩ (Le.sub (by simp) (by simp)) (fun ⟨i, hi6⟩ => ?_)
    dsimp only
    refine AWp.rg [] [] ?_ (hr := by conv => lhs; simp [Fn.row, Tm.row, Tm.rows_eq, Cs.rows_eq, q1t])
    repeat (first | refine AWp.seq ?_ | refine AWp.block ?_)
    refine AWp.cond rfl (fun hc => ?_) (fun hc => ?_)
    · have hi1 : i < L1.length := by have := of_decide_eq_true hc; omega
      clear hc
      have h1f : L1[i]? = some L1[i] := List.getElem?_eq_getElem hi1
      have hmf : L1[i] ∈ L1 := List.getElem_mem hi1
      have hdf : L1.drop i = L1[i] :: L1.drop (i + 1) := List.drop_eq_getElem_cons hi1
      generalize L1[i] = f at h1f hmf hdf
      have hp := hpt f hmf
      have hfe := her f hmf
      have hF := sp_OwFn f hp
      obtain ⟨hO, _, _⟩ := Fn.ow_fits hp
      have hE := sp_Erase f.ow.body hO
      rw [hfe] at hE
      have hN := sp_SameNames f.params f.params (by have := hp.par; omega)
      rw [eqB_self] at hN
      have hS := sp_refSame f.body f.body hp.fit.ok
      rw [eqB_self] at hS
      obtain ⟨g, hg⟩ : ∃ g, g = f.ow := ⟨_, rfl⟩
      have hgn : f.name = g.name := by rw [hg]; rfl
      have hgp : f.params = g.params := by rw [hg]; rfl
      rw [← hg] at hF hE
      clear hO hp hfe hg
      obtain ⟨fg, fps, ⟨fk, fn, fa, fb, fvs, fxs, fcs⟩⟩ := f
      obtain ⟨fg0, fps0, ⟨gk, gn, ga, gb, gvs, gxs, gcs⟩⟩ := g
      dsimp only at hgn hgp
      subst hgn
      subst hgp
      dsimp only at hN hS hE hF
      refine AWp.skip ?_
      refine AWp.rg [] [] ?_ (hr := by conv => lhs; simp [Fn.row, Tm.row, Tm.rows_eq, Cs.rows_eq, h1f, q1t])
      refine AWp.rg [] [.p (fun _ => .agg [.d (.str fg), .d (strsD fps), .d (.int gk), .d (.int gn), .d (.str ga), .d (.str gb), .d (strsD gvs), .d (.sl (gxs.map Tm.row)), .d (.sl (gcs.map Cs.row))]) none] ?_ (hr := by conv => lhs; simp [Fn.row, Tm.row, Tm.rows_eq, Cs.rows_eq, h1f, q1t])
      refine AWp.dw [] [.p (fun _ => .d (.bool true)) none, .p (fun _ => .agg [.d (.int fk), .d (.int fn), .d (.str fa), .d (.str fb), .d (strsD fvs), .d (.sl (fxs.map Tm.row)), .d (.sl (fcs.map Cs.row))]) none, .p (fun _ => .d (.bool true)) none] mixed ?_ (hr := by conv => lhs; simp [Fn.row, Tm.row, Tm.rows_eq, Cs.rows_eq, h1f, q1t])
      refine AWp.cn ?_
      refine AWp.skip ?_
      refine AWp.rg [] [] ?_ (hr := by conv => lhs; simp [Fn.row, Tm.row, Tm.rows_eq, Cs.rows_eq, h1f, q1t])
      refine ⟨⟨i + 1, hi1⟩, by simp; omega, ?_⟩
      dsimp only
      exact Le.sub (by simp) (by simp)
    have hi1 : i = L1.length := by have := of_decide_eq_false hc; omega
    subst hi1
    clear hc
    refine AWp.exit ?_
    refine AWp.rg [] [] ?_ (hr := by conv => lhs; simp [Fn.row, Tm.row, Tm.rows_eq, Cs.rows_eq, q1t])
    refine AWp.ret ?_
    try dsimp only [thenQ, blockQ]
    apply endQ.ret
    · rfl
    · conv => lhs; simp [resAV, Tryd.results8]
    rfl
  refine AWp.rg [] [.p (fun _ => .d (.int cl)) none] ?_ (hr := by conv => lhs; simp [Fn.row, Tm.row, Tm.rows_eq, Cs.rows_eq, q1])
  refine AWp.cy ?_
  refine AWp.rg [] [] ?_ (hr := by conv => lhs; simp [Fn.row, Tm.row, Tm.rows_eq, Cs.rows_eq, q1])
  refine AWp.ret ?_
  try dsimp only [thenQ, blockQ]
  apply endQ.ret
  · rfl
  · conv => lhs; simp [resAV, Tryd.results8]
  rfl
end Go.Proofs.YtapiiklnnkkdlaaDoor
