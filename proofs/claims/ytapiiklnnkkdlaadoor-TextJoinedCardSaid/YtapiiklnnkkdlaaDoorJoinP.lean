import Derived.Test.YtapiiklnnkkdlaaDoorArP
import Derived.Test.YtapiiklnnkkdlaaDoorTextQ
import Derived.Lib.ItoaMem
/- text.Term, Print. Printed by a small program. -/
namespace Go.Proofs.YtapiiklnnkkdlaaDoor
open Go.RowKit
attribute [local simp] runD mkRc ldOf stOf stOk ldArg noAny dstOk guardOk opEff opEff0 effOp pureOp callOp zEff evA constAV scalAV Value.oneCell' frGet memGet startAS frOf isGoCall idIn AS.after nextR opnIds objIds AV.ids idsL AObj.ids frNo memNo opnAny isAny mkVal rdCells wrCells fldAddr idxAddr srcRows litRows toD1 toDs setAt sliceAV optI partAV bldAV fillAV binAV binI AV.cells callEff calleeOf frKill memKill AV.kill AObj.kill AV.has AV.hasL Op.operands Call.operands keepF keepM viewIds cChk renOf moGet moWs moQ cEff moLike moHave AV.ren renL AObj.ren AObj.like kept startC moMem AV.frz frz1 frzL frSub memSub frzs AS.frz frFrz memFrz AObj.frz takeMap takeLen bleF Nat.ble_eq memAny objAny mapOp D.keyOk rowAV valRow extOp wrapOp phO frLow memLow memLow1 objLow memEmpty Low LowL
set_option linter.unusedVariables false
set_option linter.unusedSimpArgs false
def TtN (N : Nat) : Prop := ∀ t : Tm, t.sz ≤ N → t.In → t.wt ≤ 1099511627776 → PSpec Tryd.prog 46 [tmAV t] (fun _ => .d (.str t.sh)) none
theorem sp_around' (w : ByteArray) (l : List ByteArray) (R : ByteArray) (hR : R = (⟨#[40]⟩ ++ joinB 0 (w :: l) ⟨#[]⟩) ++ ⟨#[41]⟩) (hl : l.length ≤ 8796093022200) (hW : w.size + 1 + strW l ≤ 4611686018427387904) : PSpec Tryd.prog 98 [.d (.str w), strsAV l] (fun _ => .d (.str R)) none := by
  have h := joinB_size (w :: l) 0 ⟨#[]⟩
  have e0 : (⟨#[]⟩ : ByteArray).size = 0 := rfl
  rw [e0, strW] at h
  rw [hR]
  exact sp_around w l hl hW (by omega)
theorem wsz1 : wLet.size = 3 := rfl
theorem wsz2 : wMatch.size = 5 := rfl
theorem wsz3 : wDup.size = 3 := rfl
theorem wsz4 : wDrop.size = 4 := rfl
theorem wsz5 : wTake.size = 4 := rfl
theorem wsz6 : wHold.size = 4 := rfl
theorem wsz7 : wUse.size = 3 := rfl
theorem wsz8 : wFree.size = 4 := rfl
set_option maxRecDepth 20000 in
set_option maxHeartbeats 16000000 in
theorem tt_step (N : Nat) (ih : TtN N) : TtN (N + 1) := by
  intro t hsz hI hW
  obtain ⟨R, hR⟩ : ∃ R, R = t.sh := ⟨_, rfl⟩
  rw [← hR]
  obtain ⟨tk, tn, ta, tb, tvs, txs, tcs⟩ := t
  obtain ⟨hn, hxI, hcI⟩ := hI
  rw [Tm.InL_iff] at hxI
  rw [Cs.InL_iff] at hcI
  rw [Tm.sz] at hsz
  rw [Tm.wt] at hW
  have hV := joinB_size tvs 0 ⟨#[]⟩
  have e0 : (⟨#[]⟩ : ByteArray).size = 0 := rfl
  rw [e0, Nat.zero_add] at hV
  have hxl := Tm.wtL_len txs
  have hcl := Cs.wtL_len tcs
  have hvl := strW_len tvs
  have hli := sp_list tvs (by omega) (by omega)
  have hit0 := sp_Itoa tn hn
  have hT := itoaB_size hn
  obtain ⟨T, hT0⟩ : ∃ T, T = itoaB tn := ⟨_, rfl⟩
  rw [← hT0] at hit0 hT
  obtain ⟨G, hG⟩ : ∃ G, G = ⟨#[35]⟩ ++ T := ⟨_, rfl⟩
  have hGs : G.size = 1 + T.size := by rw [hG, ByteArray.size_append]; rfl
  refine PSpec.of Tryd.func46 rfl rfl rfl (Nat.le_of_ble_eq_true rfl) ?_
  show AWp _ _ (endQ _ Tryd.f46 _ _ _) (startAS 165 _)
  refine AWp.rg [] [] ?_ (hr := by conv => lhs; simp [Tm.row, Tm.rows_eq, Cs.rows_eq])
  refine AWp.rg [] [] ?_ (hr := by conv => lhs; simp [Tm.row, Tm.rows_eq, Cs.rows_eq])
  refine AWp.rg [] [] ?_ (hr := by conv => lhs; simp [Tm.row, Tm.rows_eq, Cs.rows_eq])
  repeat (first | refine AWp.seq ?_ | refine AWp.block ?_)
  refine AWp.le (Le.low [400] [] (fr := [(1, .ptr 1 0), (3, .arr 400 0 ([] : List ByteArray).length), (10, .d (.sl (txs.map Tm.row))), (11, .d (.int (txs.length : Int))), (12, .d (.int (0 : Int)))]) (mem := [(1, some (.blk 34 [.d (.int tk), .d (.int tn), .d (.str ta), .d (.str tb), .d (strsD tvs), .d (.sl (txs.map Tm.row)), .d (.sl (tcs.map Cs.row))])), (400, some (.arr 9 1 (([] : List ByteArray).map strR)))]) rfl (by simp) (by simp)) ?_
  refine AWp.loop (σ := fun u : {u : Nat × List ByteArray // u.1 ≤ txs.length ∧ u.2 = (txs.take u.1).map Tm.sh} => ⟨165, [(1, .ptr 1 0), (3, .arr 400 0 u.1.2.length), (10, .d (.sl (txs.map Tm.row))), (11, .d (.int (txs.length : Int))), (12, .d (.int (u.1.1 : Int)))], [(1, some (.blk 34 [.d (.int tk), .d (.int tn), .d (.str ta), .d (.str tb), .d (strsD tvs), .d (.sl (txs.map Tm.row)), .d (.sl (tcs.map Cs.row))])), (400, some (.arr 9 1 (u.1.2.map strR)))]⟩)
    (μ := fun u => txs.length - u.1.1) ⟨(0, []), ⟨Nat.zero_le _, by simp⟩⟩ (Le.sub (by simp) (by simp)) (fun ⟨(i, us), ⟨hi3, hw⟩⟩ => ?_)
  dsimp only at hi3 hw ⊢
  refine AWp.rg [] [] ?_ (hr := by conv => lhs; simp [Tm.row, Tm.rows_eq, Cs.rows_eq])
  repeat (first | refine AWp.seq ?_ | refine AWp.block ?_)
  refine AWp.cond rfl (fun hc => ?_) (fun hc => ?_)
  · have hi1 : i < txs.length := by have := of_decide_eq_true hc; omega
    clear hc
    have h1y : txs[i]? = some txs[i] := List.getElem?_eq_getElem hi1
    have hmy : txs[i] ∈ txs := List.getElem_mem hi1
    have hdy : txs.drop i = txs[i] :: txs.drop (i + 1) := List.drop_eq_getElem_cons hi1
    generalize txs[i] = y at h1y hmy hdy
    have hul : us.length ≤ i := by rw [hw, List.length_map, List.length_take]; omega
    have hyw := Tm.wtL_mem hmy
    have htk : (txs.take (i + 1)).map Tm.sh = us ++ [y.sh] := by rw [List.take_add_one, h1y, hw]; simp
    have hx := ih y (by have := Tm.szs_mem hmy; omega) (hxI y hmy) (by omega)
    have hz := Tm.sh_size y (hxI y hmy)
    generalize y.sh = z at hx hz htk
    obtain ⟨yk, yn, ya, yb, yvs, yxs, ycs⟩ := y
    refine AWp.skip ?_
    refine AWp.rg [] [] ?_ (hr := by conv => lhs; simp [Tm.row, Tm.rows_eq, Cs.rows_eq, h1y])
    refine AWp.rg [] [.p (fun _ => .d (.str z)) none] ?_ (hr := by conv => lhs; simp [Tm.row, Tm.rows_eq, Cs.rows_eq, h1y])
    refine AWp.rg [] [] ?_ (hr := by conv => lhs; simp [Tm.row, Tm.rows_eq, Cs.rows_eq, h1y])
    refine ⟨⟨(i + 1, us ++ [z]), hi1, htk.symm⟩, by simp; omega, ?_⟩
    dsimp only
    exact Le.sub (by simp) (by simp)
  have hi1 : i = txs.length := by have := of_decide_eq_false hc; omega
  subst hi1
  clear hc
  rw [List.take_length] at hw
  have hus := hw
  clear hw
  have hul : us.length ≤ 1099511627776 := by rw [hus, List.length_map]; omega
  have huw : strW us ≤ Tm.wtL txs := by rw [hus]; exact strW_sh txs (Tm.InL_iff.2 hxI)
  refine AWp.exit ?_
  refine AWp.rg [] [.p (fun _ => .d (.str T)) none] ?_ (hr := by conv => lhs; simp [Tm.row, Tm.rows_eq, Cs.rows_eq])
  rw [← hG]
  refine AWp.rg [] [] ?_ (hr := by conv => lhs; simp [Tm.row, Tm.rows_eq, Cs.rows_eq])
  by_cases q1 : tk = 1
  · have q1t := eq_true q1
    refine AWp.rg [] [] ?_ (hr := by conv => lhs; simp [Tm.row, Tm.rows_eq, Cs.rows_eq, q1t])
    refine AWp.cy ?_
    rw [q1, sh1] at hR
    rw [hR]
    refine AWp.rg [] [] ?_ (hr := by conv => lhs; simp [Tm.row, Tm.rows_eq, Cs.rows_eq, q1t])
    refine AWp.ret ?_
    try dsimp only [thenQ, blockQ]
    apply endQ.ret
    · rfl
    · conv => lhs; simp [resAV, Tryd.results46]
    first | rfl | simp [resVal]
  refine AWp.rg [] [] ?_ (hr := by conv => lhs; simp [Tm.row, Tm.rows_eq, Cs.rows_eq, q1])
  refine AWp.cn ?_
  by_cases q2 : tk = 2
  · have q2t := eq_true q2
    refine AWp.rg [] [] ?_ (hr := by conv => lhs; simp [Tm.row, Tm.rows_eq, Cs.rows_eq, q1, q2t])
    refine AWp.cy ?_
    rw [q2, sh2, ← hT0] at hR
    rw [hR]
    refine AWp.rg [] [.p (fun _ => .d (.str T)) none] ?_ (hr := by conv => lhs; simp [Tm.row, Tm.rows_eq, Cs.rows_eq, q1, q2t])
    refine AWp.ret ?_
    try dsimp only [thenQ, blockQ]
    apply endQ.ret
    · rfl
    · conv => lhs; simp [resAV, Tryd.results46]
    first | rfl | simp [resVal]
  refine AWp.rg [] [] ?_ (hr := by conv => lhs; simp [Tm.row, Tm.rows_eq, Cs.rows_eq, q1, q2])
  refine AWp.cn ?_
  by_cases q3 : tk = 3
  · have q3t := eq_true q3
    refine AWp.rg [] [] ?_ (hr := by conv => lhs; simp [Tm.row, Tm.rows_eq, Cs.rows_eq, q1, q2, q3t])
    refine AWp.cy ?_
    clear q1 q2
    rw [q3, ← ar3 tn ta tb tvs txs tcs] at hR
    try rw [← hT0] at hR
    try rw [← hG] at hR
    rw [← hus] at hR
    apply AWp.frzs [400]
    · conv => lhs; simp
    have har := sp_around' _ _ R hR (by (try simp only [List.length_cons]); omega) (by (try simp only [strW, ByteArray.size_append, zl0, zl2, zl4, wsz1, wsz2, wsz3, wsz4, wsz5, wsz6, wsz7, wsz8]); omega)
    simp only [strsAV, strsD, List.map_cons, strR] at har
    refine AWp.rg [] [.p (fun _ => .d (.str R)) none] ?_ (hr := by conv => lhs; simp [Tm.row, Tm.rows_eq, Cs.rows_eq, q3t])
    refine AWp.ret ?_
    try dsimp only [thenQ, blockQ]
    apply endQ.ret
    · rfl
    · conv => lhs; simp [resAV, Tryd.results46]
    first | rfl | simp [resVal]
  refine AWp.rg [] [] ?_ (hr := by conv => lhs; simp [Tm.row, Tm.rows_eq, Cs.rows_eq, q1, q2, q3])
  refine AWp.cn ?_
  by_cases q4 : tk = 4
  · have q4t := eq_true q4
    refine AWp.rg [] [] ?_ (hr := by conv => lhs; simp [Tm.row, Tm.rows_eq, Cs.rows_eq, q1, q2, q3, q4t])
    refine AWp.cy ?_
    clear q1 q2 q3
    rw [q4, ← ar4 tn ta tb tvs txs tcs] at hR
    try rw [← hT0] at hR
    try rw [← hG] at hR
    rw [← hus] at hR
    apply AWp.frzs [400]
    · conv => lhs; simp
    have har := sp_around' _ _ R hR (by (try simp only [List.length_cons]); omega) (by (try simp only [strW, ByteArray.size_append, zl0, zl2, zl4, wsz1, wsz2, wsz3, wsz4, wsz5, wsz6, wsz7, wsz8]); omega)
    simp only [strsAV, strsD, List.map_cons, strR] at har
    refine AWp.rg [] [.p (fun _ => .d (.str R)) none] ?_ (hr := by conv => lhs; simp [Tm.row, Tm.rows_eq, Cs.rows_eq, q4t])
    refine AWp.ret ?_
    try dsimp only [thenQ, blockQ]
    apply endQ.ret
    · rfl
    · conv => lhs; simp [resAV, Tryd.results46]
    first | rfl | simp [resVal]
  refine AWp.rg [] [] ?_ (hr := by conv => lhs; simp [Tm.row, Tm.rows_eq, Cs.rows_eq, q1, q2, q3, q4])
  refine AWp.cn ?_
  by_cases q5 : tk = 5
  · have q5t := eq_true q5
    refine AWp.rg [] [] ?_ (hr := by conv => lhs; simp [Tm.row, Tm.rows_eq, Cs.rows_eq, q1, q2, q3, q4, q5t])
    refine AWp.cy ?_
    by_cases q6 : 1 ≤ tn
    · by_cases q7 : tn ≤ 5
      · refine AWp.rg [] [] ?_ (hr := by conv => lhs; simp [Tm.row, Tm.rows_eq, Cs.rows_eq, q1, q2, q3, q4, q5t, q6, q7])
        refine AWp.cy ?_
        clear q1 q2 q3 q4
        rw [q5, ← ar5 tn ta tb tvs txs tcs (by omega) (by omega)] at hR
        try rw [← hT0] at hR
        try rw [← hG] at hR
        rw [← hus] at hR
        apply AWp.frzs [400]
        · conv => lhs; simp
        have hpr := sp_prims
        simp only [strsAV, strsD, List.map_cons, strR, primsL, List.map_nil] at hpr
        rcases (show tn = 1 ∨ tn = 2 ∨ tn = 3 ∨ tn = 4 ∨ tn = 5 by omega) with hn5 | hn5 | hn5 | hn5 | hn5
        · rw [hn5] at hR
          rw [show (⟨#[43, 45, 42, 60, 61]⟩ : ByteArray).extract ((1 : Int) - 1).toNat (1 : Int).toNat = ⟨#[43]⟩ by decide] at hR
          have har := sp_around' ⟨#[43]⟩ us R hR (by omega) (by rw [lit_size]; simp; omega)
          simp only [strsAV, strsD, List.map_cons, strR] at har
          refine AWp.dw [] [.p (fun _ => .d (.sl [[.str ⟨#[43]⟩], [.str ⟨#[45]⟩], [.str ⟨#[42]⟩], [.str ⟨#[60]⟩], [.str ⟨#[61]⟩]])) none, .p (fun _ => .d (.str R)) none] mixed ?_ (hr := by conv => lhs; simp [Tm.row, Tm.rows_eq, Cs.rows_eq, q5t, hn5])
          refine AWp.ret ?_
          try dsimp only [thenQ, blockQ]
          apply endQ.ret
          · rfl
          · conv => lhs; simp [resAV, Tryd.results46]
          first | rfl | simp [resVal]
        · rw [hn5] at hR
          rw [show (⟨#[43, 45, 42, 60, 61]⟩ : ByteArray).extract ((2 : Int) - 1).toNat (2 : Int).toNat = ⟨#[45]⟩ by decide] at hR
          have har := sp_around' ⟨#[45]⟩ us R hR (by omega) (by rw [lit_size]; simp; omega)
          simp only [strsAV, strsD, List.map_cons, strR] at har
          refine AWp.dw [] [.p (fun _ => .d (.sl [[.str ⟨#[43]⟩], [.str ⟨#[45]⟩], [.str ⟨#[42]⟩], [.str ⟨#[60]⟩], [.str ⟨#[61]⟩]])) none, .p (fun _ => .d (.str R)) none] mixed ?_ (hr := by conv => lhs; simp [Tm.row, Tm.rows_eq, Cs.rows_eq, q5t, hn5])
          refine AWp.ret ?_
          try dsimp only [thenQ, blockQ]
          apply endQ.ret
          · rfl
          · conv => lhs; simp [resAV, Tryd.results46]
          first | rfl | simp [resVal]
        · rw [hn5] at hR
          rw [show (⟨#[43, 45, 42, 60, 61]⟩ : ByteArray).extract ((3 : Int) - 1).toNat (3 : Int).toNat = ⟨#[42]⟩ by decide] at hR
          have har := sp_around' ⟨#[42]⟩ us R hR (by omega) (by rw [lit_size]; simp; omega)
          simp only [strsAV, strsD, List.map_cons, strR] at har
          refine AWp.dw [] [.p (fun _ => .d (.sl [[.str ⟨#[43]⟩], [.str ⟨#[45]⟩], [.str ⟨#[42]⟩], [.str ⟨#[60]⟩], [.str ⟨#[61]⟩]])) none, .p (fun _ => .d (.str R)) none] mixed ?_ (hr := by conv => lhs; simp [Tm.row, Tm.rows_eq, Cs.rows_eq, q5t, hn5])
          refine AWp.ret ?_
          try dsimp only [thenQ, blockQ]
          apply endQ.ret
          · rfl
          · conv => lhs; simp [resAV, Tryd.results46]
          first | rfl | simp [resVal]
        · rw [hn5] at hR
          rw [show (⟨#[43, 45, 42, 60, 61]⟩ : ByteArray).extract ((4 : Int) - 1).toNat (4 : Int).toNat = ⟨#[60]⟩ by decide] at hR
          have har := sp_around' ⟨#[60]⟩ us R hR (by omega) (by rw [lit_size]; simp; omega)
          simp only [strsAV, strsD, List.map_cons, strR] at har
          refine AWp.dw [] [.p (fun _ => .d (.sl [[.str ⟨#[43]⟩], [.str ⟨#[45]⟩], [.str ⟨#[42]⟩], [.str ⟨#[60]⟩], [.str ⟨#[61]⟩]])) none, .p (fun _ => .d (.str R)) none] mixed ?_ (hr := by conv => lhs; simp [Tm.row, Tm.rows_eq, Cs.rows_eq, q5t, hn5])
          refine AWp.ret ?_
          try dsimp only [thenQ, blockQ]
          apply endQ.ret
          · rfl
          · conv => lhs; simp [resAV, Tryd.results46]
          first | rfl | simp [resVal]
        · rw [hn5] at hR
          rw [show (⟨#[43, 45, 42, 60, 61]⟩ : ByteArray).extract ((5 : Int) - 1).toNat (5 : Int).toNat = ⟨#[61]⟩ by decide] at hR
          have har := sp_around' ⟨#[61]⟩ us R hR (by omega) (by rw [lit_size]; simp; omega)
          simp only [strsAV, strsD, List.map_cons, strR] at har
          refine AWp.dw [] [.p (fun _ => .d (.sl [[.str ⟨#[43]⟩], [.str ⟨#[45]⟩], [.str ⟨#[42]⟩], [.str ⟨#[60]⟩], [.str ⟨#[61]⟩]])) none, .p (fun _ => .d (.str R)) none] mixed ?_ (hr := by conv => lhs; simp [Tm.row, Tm.rows_eq, Cs.rows_eq, q5t, hn5])
          refine AWp.ret ?_
          try dsimp only [thenQ, blockQ]
          apply endQ.ret
          · rfl
          · conv => lhs; simp [resAV, Tryd.results46]
          first | rfl | simp [resVal]
      refine AWp.rg [] [] ?_ (hr := by conv => lhs; simp [Tm.row, Tm.rows_eq, Cs.rows_eq, q1, q2, q3, q4, q5t, q6, q7])
      refine AWp.cn ?_
      refine AWp.skip ?_
      rw [q5, sh5 _ _ _ _ _ _ (by omega)] at hR
      rw [hR]
      refine AWp.rg [] [] ?_ (hr := by conv => lhs; simp [Tm.row, Tm.rows_eq, Cs.rows_eq, q1, q2, q3, q4, q5t, q6, q7])
      refine AWp.ret ?_
      try dsimp only [thenQ, blockQ]
      apply endQ.ret
      · rfl
      · conv => lhs; simp [resAV, Tryd.results46]
      first | rfl | simp [resVal]
    refine AWp.rg [] [] ?_ (hr := by conv => lhs; simp [Tm.row, Tm.rows_eq, Cs.rows_eq, q1, q2, q3, q4, q5t, q6])
    refine AWp.cn ?_
    refine AWp.skip ?_
    rw [q5, sh5 _ _ _ _ _ _ (by omega)] at hR
    rw [hR]
    refine AWp.rg [] [] ?_ (hr := by conv => lhs; simp [Tm.row, Tm.rows_eq, Cs.rows_eq, q1, q2, q3, q4, q5t, q6])
    refine AWp.ret ?_
    try dsimp only [thenQ, blockQ]
    apply endQ.ret
    · rfl
    · conv => lhs; simp [resAV, Tryd.results46]
    first | rfl | simp [resVal]
  refine AWp.rg [] [] ?_ (hr := by conv => lhs; simp [Tm.row, Tm.rows_eq, Cs.rows_eq, q1, q2, q3, q4, q5])
  refine AWp.cn ?_
  by_cases q8 : tk = 6
  · have q8t := eq_true q8
    refine AWp.rg [] [] ?_ (hr := by conv => lhs; simp [Tm.row, Tm.rows_eq, Cs.rows_eq, q1, q2, q3, q4, q5, q8t])
    refine AWp.cy ?_
    clear q1 q2 q3 q4 q5
    rw [q8, ← ar6 tn ta tb tvs txs tcs] at hR
    try rw [← hT0] at hR
    try rw [← hG] at hR
    rw [← hus] at hR
    apply AWp.frzs [400]
    · conv => lhs; simp
    have har := sp_around' _ _ R hR (by (try simp only [List.length_cons]); omega) (by (try simp only [strW, ByteArray.size_append, zl0, zl2, zl4, wsz1, wsz2, wsz3, wsz4, wsz5, wsz6, wsz7, wsz8]); omega)
    simp only [strsAV, strsD, List.map_cons, strR] at har
    have ht : List.take (1 + us.length) ([D.str ta] :: List.map strR us) = [D.str ta] :: List.map strR us := List.take_of_length_le (by simp; omega)
    have hm3 : us.length + 3 ≤ maxLen := by unfold maxLen; omega
    refine AWp.rg [4] [.p (fun _ => .d (.str R)) none] ?_ (hr := by conv => lhs; simp [Tm.row, Tm.rows_eq, Cs.rows_eq, ht, q8t])
    refine AWp.ret ?_
    try dsimp only [thenQ, blockQ]
    apply endQ.ret
    · rfl
    · conv => lhs; simp [resAV, Tryd.results46]
    first | rfl | simp [resVal]
  refine AWp.rg [] [] ?_ (hr := by conv => lhs; simp [Tm.row, Tm.rows_eq, Cs.rows_eq, q1, q2, q3, q4, q5, q8])
  refine AWp.cn ?_
  by_cases q9 : tk = 7
  · have q9t := eq_true q9
    refine AWp.rg [] [] ?_ (hr := by conv => lhs; simp [Tm.row, Tm.rows_eq, Cs.rows_eq, q1, q2, q3, q4, q5, q8, q9t])
    refine AWp.cy ?_
    clear q1 q2 q3 q4 q5 q8
    rw [q9, ← ar7 tn ta tb tvs txs tcs, ← hus] at hR
    refine AWp.rg [] [] ?_ (hr := by conv => lhs; simp [Tm.row, Tm.rows_eq, Cs.rows_eq, q9t])
    repeat (first | refine AWp.seq ?_ | refine AWp.block ?_)
    refine AWp.loop (σ := fun u : {u : Nat × List ByteArray // u.1 ≤ tcs.length ∧ u.2 = us ++ (tcs.take u.1).map Cs.wd} => ⟨165, [(3, .arr 400 0 u.1.2.length), (77, .d (.sl (tcs.map Cs.row))), (78, .d (.int (tcs.length : Int))), (79, .d (.int (u.1.1 : Int)))], [(400, some (.arr 9 1 (u.1.2.map strR)))]⟩)
      (μ := fun u => tcs.length - u.1.1) ⟨(0, us), ⟨Nat.zero_le _, by simp⟩⟩ (Le.sub (by simp) (by simp)) (fun ⟨(i, vs), ⟨hi24, hw⟩⟩ => ?_)
    dsimp only at hi24 hw ⊢
    refine AWp.rg [] [] ?_ (hr := by conv => lhs; simp [Tm.row, Tm.rows_eq, Cs.rows_eq, q9t])
    repeat (first | refine AWp.seq ?_ | refine AWp.block ?_)
    refine AWp.cond rfl (fun hc => ?_) (fun hc => ?_)
    · have hi1 : i < tcs.length := by have := of_decide_eq_true hc; omega
      clear hc
      have h1y : tcs[i]? = some tcs[i] := List.getElem?_eq_getElem hi1
      have hmy : tcs[i] ∈ tcs := List.getElem_mem hi1
      have hdy : tcs.drop i = tcs[i] :: tcs.drop (i + 1) := List.drop_eq_getElem_cons hi1
      generalize tcs[i] = y at h1y hmy hdy
      have hvl : vs.length ≤ us.length + i := by rw [hw, List.length_append, List.length_map, List.length_take]; omega
      have hyw := Cs.wtL_mem hmy
      have htk : us ++ (tcs.take (i + 1)).map Cs.wd = vs ++ [y.wd] := by rw [List.take_add_one, h1y, hw]; simp
      have hyI := hcI y hmy
      have hysz := Cs.szs_mem hmy
      have hwd := wd_size y hyI
      obtain ⟨dt, dws, y⟩ := y
      rw [Cs.wt] at hyw
      rw [Cs.sz] at hysz
      have hit := sp_Itoa dt hyI.1
      have hT2 := itoaB_size hyI.1
      have hwl := strW_len dws
      have hli := sp_list dws (by omega) (by omega)
      have hV2 := joinB_size dws 0 ⟨#[]⟩
      rw [e0, Nat.zero_add] at hV2
      have hx := ih y (by omega) hyI.2 (by omega)
      have hz := Tm.sh_size y hyI.2
      rw [Cs.wd] at htk
      generalize joinB 0 dws ⟨#[]⟩ = V at htk hli hV2
      generalize itoaB dt = T2 at hit hT2 htk
      generalize y.sh = z at hx hz htk
      obtain ⟨yk, yn, ya, yb, yvs, yxs, ycs⟩ := y
      refine AWp.skip ?_
      refine AWp.rg [] [] ?_ (hr := by conv => lhs; simp [Tm.row, Tm.rows_eq, Cs.rows_eq, h1y, Cs.row, q9t])
      refine AWp.dw [] [.p (fun _ => .d (.str T2)) none, .p (fun _ => .d (.str V)) none, .p (fun _ => .d (.str z)) none] mixed ?_ (hr := by conv => lhs; simp [Tm.row, Tm.rows_eq, Cs.rows_eq, h1y, Cs.row, q9t])
      refine AWp.rg [] [] ?_ (hr := by conv => lhs; simp [Tm.row, Tm.rows_eq, Cs.rows_eq, h1y, Cs.row, q9t])
      refine ⟨⟨(i + 1, vs ++ [(((((⟨#[40, 35]⟩ ++ T2) ++ ⟨#[32, 40]⟩) ++ V) ++ ⟨#[41, 32]⟩) ++ z) ++ ⟨#[41]⟩]), hi1, htk.symm⟩, by simp; omega, ?_⟩
      dsimp only
      exact Le.sub (by simp) (by simp)
    have hi1 : i = tcs.length := by have := of_decide_eq_false hc; omega
    subst hi1
    clear hc
    rw [List.take_length] at hw
    have hvw : strW vs ≤ Tm.wtL txs + (Cs.wtL tcs + tcs.length) := by rw [hw, strW_app]; have := strW_wd tcs (Cs.InL_iff.2 hcI); omega
    have hvl : vs.length ≤ us.length + tcs.length := by rw [hw, List.length_append, List.length_map]; omega
    rw [← hw] at hR
    refine AWp.exit ?_
    apply AWp.frzs [400]
    · conv => lhs; simp
    have har := sp_around' wMatch vs R hR (by omega) (by rw [lit_size]; simp; omega)
    simp only [strsAV, strsD, List.map_cons, strR] at har
    refine AWp.rg [] [.p (fun _ => .d (.str R)) none] ?_ (hr := by conv => lhs; simp [Tm.row, Tm.rows_eq, Cs.rows_eq, q9t])
    refine AWp.ret ?_
    try dsimp only [thenQ, blockQ]
    apply endQ.ret
    · rfl
    · conv => lhs; simp [resAV, Tryd.results46]
    first | rfl | simp [resVal]
  refine AWp.rg [] [] ?_ (hr := by conv => lhs; simp [Tm.row, Tm.rows_eq, Cs.rows_eq, q1, q2, q3, q4, q5, q8, q9])
  refine AWp.cn ?_
  by_cases q10 : tk = 8
  · have q10t := eq_true q10
    refine AWp.rg [] [] ?_ (hr := by conv => lhs; simp [Tm.row, Tm.rows_eq, Cs.rows_eq, q1, q2, q3, q4, q5, q8, q9, q10t])
    refine AWp.cy ?_
    clear q1 q2 q3 q4 q5 q8 q9
    rw [q10, ← ar8 tn ta tb tvs txs tcs] at hR
    try rw [← hT0] at hR
    try rw [← hG] at hR
    rw [← hus] at hR
    apply AWp.frzs [400]
    · conv => lhs; simp
    have har := sp_around' _ _ R hR (by (try simp only [List.length_cons]); omega) (by (try simp only [strW, ByteArray.size_append, zl0, zl2, zl4, wsz1, wsz2, wsz3, wsz4, wsz5, wsz6, wsz7, wsz8]); omega)
    simp only [strsAV, strsD, List.map_cons, strR] at har
    have ht : List.take (1 + us.length) ([D.str ta] :: List.map strR us) = [D.str ta] :: List.map strR us := List.take_of_length_le (by simp; omega)
    have hm3 : us.length + 3 ≤ maxLen := by unfold maxLen; omega
    refine AWp.rg [4] [.p (fun _ => .d (.str R)) none] ?_ (hr := by conv => lhs; simp [Tm.row, Tm.rows_eq, Cs.rows_eq, ht, q10t])
    refine AWp.ret ?_
    try dsimp only [thenQ, blockQ]
    apply endQ.ret
    · rfl
    · conv => lhs; simp [resAV, Tryd.results46]
    first | rfl | simp [resVal]
  refine AWp.rg [] [] ?_ (hr := by conv => lhs; simp [Tm.row, Tm.rows_eq, Cs.rows_eq, q1, q2, q3, q4, q5, q8, q9, q10])
  refine AWp.cn ?_
  by_cases q11 : tk = 9
  · have q11t := eq_true q11
    refine AWp.rg [] [] ?_ (hr := by conv => lhs; simp [Tm.row, Tm.rows_eq, Cs.rows_eq, q1, q2, q3, q4, q5, q8, q9, q10, q11t])
    refine AWp.cy ?_
    clear q1 q2 q3 q4 q5 q8 q9 q10
    rw [q11, ← ar9 tn ta tb tvs txs tcs] at hR
    try rw [← hT0] at hR
    try rw [← hG] at hR
    rw [← hus] at hR
    apply AWp.frzs [400]
    · conv => lhs; simp
    have har := sp_around' _ _ R hR (by (try simp only [List.length_cons]); omega) (by (try simp only [strW, ByteArray.size_append, zl0, zl2, zl4, wsz1, wsz2, wsz3, wsz4, wsz5, wsz6, wsz7, wsz8]); omega)
    simp only [strsAV, strsD, List.map_cons, strR] at har
    have ht : List.take (1 + us.length) ([D.str ta] :: List.map strR us) = [D.str ta] :: List.map strR us := List.take_of_length_le (by simp; omega)
    have hm3 : us.length + 3 ≤ maxLen := by unfold maxLen; omega
    refine AWp.rg [4] [.p (fun _ => .d (.str R)) none] ?_ (hr := by conv => lhs; simp [Tm.row, Tm.rows_eq, Cs.rows_eq, ht, q11t])
    refine AWp.ret ?_
    try dsimp only [thenQ, blockQ]
    apply endQ.ret
    · rfl
    · conv => lhs; simp [resAV, Tryd.results46]
    first | rfl | simp [resVal]
  refine AWp.rg [] [] ?_ (hr := by conv => lhs; simp [Tm.row, Tm.rows_eq, Cs.rows_eq, q1, q2, q3, q4, q5, q8, q9, q10, q11])
  refine AWp.cn ?_
  by_cases q12 : tk = 10
  · have q12t := eq_true q12
    refine AWp.rg [] [] ?_ (hr := by conv => lhs; simp [Tm.row, Tm.rows_eq, Cs.rows_eq, q1, q2, q3, q4, q5, q8, q9, q10, q11, q12t])
    refine AWp.cy ?_
    clear q1 q2 q3 q4 q5 q8 q9 q10 q11
    rw [q12, ← ar10 tn ta tb tvs txs tcs] at hR
    try rw [← hT0] at hR
    try rw [← hG] at hR
    rw [← hus] at hR
    generalize joinB 0 tvs ⟨#[]⟩ = V at hR hV hli
    apply AWp.frzs [400]
    · conv => lhs; simp
    have har := sp_around' _ _ R hR (by (try simp only [List.length_cons]); omega) (by (try simp only [strW, ByteArray.size_append, zl0, zl2, zl4, wsz1, wsz2, wsz3, wsz4, wsz5, wsz6, wsz7, wsz8]); omega)
    simp only [strsAV, strsD, List.map_cons, strR] at har
    have ht : List.take (2 + us.length) ([D.str ta] :: [D.str ((⟨#[40]⟩ ++ V) ++ ⟨#[41]⟩)] :: List.map strR us) = [D.str ta] :: [D.str ((⟨#[40]⟩ ++ V) ++ ⟨#[41]⟩)] :: List.map strR us := List.take_of_length_le (by simp; omega)
    have hm3 : us.length + 3 ≤ maxLen := by unfold maxLen; omega
    refine AWp.dw [9] [.p (fun _ => .d (.str V)) none, .p (fun _ => .d (.str R)) none] mixed ?_ (hr := by conv => lhs; simp [Tm.row, Tm.rows_eq, Cs.rows_eq, ht, q12t])
    refine AWp.ret ?_
    try dsimp only [thenQ, blockQ]
    apply endQ.ret
    · rfl
    · conv => lhs; simp [resAV, Tryd.results46]
    first | rfl | simp [resVal]
  refine AWp.rg [] [] ?_ (hr := by conv => lhs; simp [Tm.row, Tm.rows_eq, Cs.rows_eq, q1, q2, q3, q4, q5, q8, q9, q10, q11, q12])
  refine AWp.cn ?_
  by_cases q13 : tk = 11
  · have q13t := eq_true q13
    refine AWp.rg [] [] ?_ (hr := by conv => lhs; simp [Tm.row, Tm.rows_eq, Cs.rows_eq, q1, q2, q3, q4, q5, q8, q9, q10, q11, q12, q13t])
    refine AWp.cy ?_
    clear q1 q2 q3 q4 q5 q8 q9 q10 q11 q12
    rw [q13, ← ar11 tn ta tb tvs txs tcs] at hR
    try rw [← hT0] at hR
    try rw [← hG] at hR
    rw [← hus] at hR
    generalize joinB 0 tvs ⟨#[]⟩ = V at hR hV hli
    apply AWp.frzs [400]
    · conv => lhs; simp
    have har := sp_around' _ _ R hR (by (try simp only [List.length_cons]); omega) (by (try simp only [strW, ByteArray.size_append, zl0, zl2, zl4, wsz1, wsz2, wsz3, wsz4, wsz5, wsz6, wsz7, wsz8]); omega)
    simp only [strsAV, strsD, List.map_cons, strR] at har
    have ht : List.take (3 + us.length) ([D.str ta] :: [D.str tb] :: [D.str ((⟨#[40]⟩ ++ V) ++ ⟨#[41]⟩)] :: List.map strR us) = [D.str ta] :: [D.str tb] :: [D.str ((⟨#[40]⟩ ++ V) ++ ⟨#[41]⟩)] :: List.map strR us := List.take_of_length_le (by simp; omega)
    have hm3 : us.length + 3 ≤ maxLen := by unfold maxLen; omega
    refine AWp.dw [11] [.p (fun _ => .d (.str V)) none, .p (fun _ => .d (.str R)) none] mixed ?_ (hr := by conv => lhs; simp [Tm.row, Tm.rows_eq, Cs.rows_eq, ht, q13t])
    refine AWp.ret ?_
    try dsimp only [thenQ, blockQ]
    apply endQ.ret
    · rfl
    · conv => lhs; simp [resAV, Tryd.results46]
    first | rfl | simp [resVal]
  refine AWp.rg [] [] ?_ (hr := by conv => lhs; simp [Tm.row, Tm.rows_eq, Cs.rows_eq, q1, q2, q3, q4, q5, q8, q9, q10, q11, q12, q13])
  refine AWp.cn ?_
  by_cases q14 : tk = 12
  · have q14t := eq_true q14
    refine AWp.rg [] [] ?_ (hr := by conv => lhs; simp [Tm.row, Tm.rows_eq, Cs.rows_eq, q1, q2, q3, q4, q5, q8, q9, q10, q11, q12, q13, q14t])
    refine AWp.cy ?_
    clear q1 q2 q3 q4 q5 q8 q9 q10 q11 q12 q13
    rw [q14, ← ar12 tn ta tb tvs txs tcs] at hR
    try rw [← hT0] at hR
    try rw [← hG] at hR
    rw [← hus] at hR
    apply AWp.frzs [400]
    · conv => lhs; simp
    have har := sp_around' _ _ R hR (by (try simp only [List.length_cons]); omega) (by (try simp only [strW, ByteArray.size_append, zl0, zl2, zl4, wsz1, wsz2, wsz3, wsz4, wsz5, wsz6, wsz7, wsz8]); omega)
    simp only [strsAV, strsD, List.map_cons, strR] at har
    have ht : List.take (2 + us.length) ([D.str tb] :: [D.str G] :: List.map strR us) = [D.str tb] :: [D.str G] :: List.map strR us := List.take_of_length_le (by simp; omega)
    have hm3 : us.length + 3 ≤ maxLen := by unfold maxLen; omega
    refine AWp.rg [5] [.p (fun _ => .d (.str R)) none] ?_ (hr := by conv => lhs; simp [Tm.row, Tm.rows_eq, Cs.rows_eq, ht, q14t])
    refine AWp.ret ?_
    try dsimp only [thenQ, blockQ]
    apply endQ.ret
    · rfl
    · conv => lhs; simp [resAV, Tryd.results46]
    first | rfl | simp [resVal]
  refine AWp.rg [] [] ?_ (hr := by conv => lhs; simp [Tm.row, Tm.rows_eq, Cs.rows_eq, q1, q2, q3, q4, q5, q8, q9, q10, q11, q12, q13, q14])
  refine AWp.cn ?_
  by_cases q15 : tk = 13
  · have q15t := eq_true q15
    refine AWp.rg [] [] ?_ (hr := by conv => lhs; simp [Tm.row, Tm.rows_eq, Cs.rows_eq, q1, q2, q3, q4, q5, q8, q9, q10, q11, q12, q13, q14, q15t])
    refine AWp.cy ?_
    clear q1 q2 q3 q4 q5 q8 q9 q10 q11 q12 q13 q14
    rw [q15, ← ar13 tn ta tb tvs txs tcs] at hR
    try rw [← hT0] at hR
    try rw [← hG] at hR
    rw [← hus] at hR
    apply AWp.frzs [400]
    · conv => lhs; simp
    have har := sp_around' _ _ R hR (by (try simp only [List.length_cons]); omega) (by (try simp only [strW, ByteArray.size_append, zl0, zl2, zl4, wsz1, wsz2, wsz3, wsz4, wsz5, wsz6, wsz7, wsz8]); omega)
    simp only [strsAV, strsD, List.map_cons, strR] at har
    have ht : List.take (1 + us.length) ([D.str tb] :: List.map strR us) = [D.str tb] :: List.map strR us := List.take_of_length_le (by simp; omega)
    have hm3 : us.length + 3 ≤ maxLen := by unfold maxLen; omega
    refine AWp.rg [4] [.p (fun _ => .d (.str R)) none] ?_ (hr := by conv => lhs; simp [Tm.row, Tm.rows_eq, Cs.rows_eq, ht, q15t])
    refine AWp.ret ?_
    try dsimp only [thenQ, blockQ]
    apply endQ.ret
    · rfl
    · conv => lhs; simp [resAV, Tryd.results46]
    first | rfl | simp [resVal]
  refine AWp.rg [] [] ?_ (hr := by conv => lhs; simp [Tm.row, Tm.rows_eq, Cs.rows_eq, q1, q2, q3, q4, q5, q8, q9, q10, q11, q12, q13, q14, q15])
  refine AWp.cn ?_
  refine AWp.skip ?_
  rw [sh_else _ _ _ _ _ _ _ (by omega)] at hR
  rw [hR]
  refine AWp.rg [] [] ?_ (hr := by conv => lhs; simp [Tm.row, Tm.rows_eq, Cs.rows_eq, q1, q2, q3, q4, q5, q8, q9, q10, q11, q12, q13, q14, q15])
  refine AWp.ret ?_
  try dsimp only [thenQ, blockQ]
  apply endQ.ret
  · rfl
  · conv => lhs; simp [resAV, Tryd.results46]
  first | rfl | simp [resVal]
theorem tt_all : ∀ N, TtN N
  | 0 => fun t h => by have := t.sz_ge; omega
  | N + 1 => tt_step N (tt_all N)
theorem sp_tTerm (t : Tm) (hI : t.In) (hW : t.wt ≤ 1099511627776) : PSpec Tryd.prog 46 [tmAV t] (fun _ => .d (.str t.sh)) none := tt_all t.sz t (Nat.le_refl _) hI hW
set_option maxRecDepth 20000 in
set_option maxHeartbeats 16000000 in
theorem sp_tPrint (l : List Fn) (hI : ∀ f ∈ l, f.body.In) (hW : Fn.wtL l ≤ 1099511627776) : PSpec Tryd.prog 44 [fnsAV l] (fun _ => .d (.str (Fn.shL l ⟨#[]⟩))) none := by
  obtain ⟨R, hR⟩ : ∃ R, R = Fn.shL l ⟨#[]⟩ := ⟨_, rfl⟩
  rw [← hR]
  have e0 : (⟨#[]⟩ : ByteArray).size = 0 := rfl
  have hll := Fn.wtL_len l
  refine PSpec.of Tryd.func44 rfl rfl rfl (Nat.le_of_ble_eq_true rfl) ?_
  show AWp _ _ (endQ _ Tryd.f44 _ _ _) (startAS 30 _)
  refine AWp.rg [] [] ?_ (hr := by conv => lhs; simp [Fn.row, Tm.row, Tm.rows_eq, Cs.rows_eq])
  refine AWp.rg [] [] ?_ (hr := by conv => lhs; simp [Fn.row, Tm.row, Tm.rows_eq, Cs.rows_eq])
  refine AWp.rg [] [] ?_ (hr := by conv => lhs; simp [Fn.row, Tm.row, Tm.rows_eq, Cs.rows_eq])
  repeat (first | refine AWp.seq ?_ | refine AWp.block ?_)
  refine AWp.loop (σ := fun u : {u : Nat × ByteArray // u.1 ≤ l.length ∧ (Fn.shL l ⟨#[]⟩ = Fn.shL (l.drop u.1) u.2 ∧ u.2.size + Fn.wtL (l.drop u.1) ≤ Fn.wtL l)} => ⟨30, [(3, .d (.str u.1.2)), (6, .d (.sl (l.map Fn.row))), (7, .d (.int (l.length : Int))), (8, .d (.int (u.1.1 : Int)))], []⟩)
    (μ := fun u => l.length - u.1.1) ⟨(0, ⟨#[]⟩), ⟨Nat.zero_le _, ⟨by rw [List.drop_zero], by rw [List.drop_zero]; exact Nat.le_of_eq (Nat.zero_add _)⟩⟩⟩ (Le.sub (by simp) (by simp)) (fun ⟨(i, m), ⟨hi3, hw⟩⟩ => ?_)
  dsimp only at hi3 hw ⊢
  refine AWp.rg [] [] ?_ (hr := by conv => lhs; simp [Fn.row, Tm.row, Tm.rows_eq, Cs.rows_eq])
  repeat (first | refine AWp.seq ?_ | refine AWp.block ?_)
  refine AWp.cond rfl (fun hc => ?_) (fun hc => ?_)
  · have hi1 : i < l.length := by have := of_decide_eq_true hc; omega
    clear hc
    have h1y : l[i]? = some l[i] := List.getElem?_eq_getElem hi1
    have hmy : l[i] ∈ l := List.getElem_mem hi1
    have hdy : l.drop i = l[i] :: l.drop (i + 1) := List.drop_eq_getElem_cons hi1
    generalize l[i] = y at h1y hmy hdy
    obtain ⟨hm1, hm2⟩ := hw
    have hyw := Fn.wtL_mem hmy
    rw [hdy, fsh_step] at hm1
    rw [hdy, Fn.wtL] at hm2
    have hyI := hI y hmy
    obtain ⟨fg, dws, y⟩ := y
    dsimp only at hm2 hyw hyI
    rw [Fn.tx] at hm1
    dsimp only at hm1
    have hwl := strW_len dws
    have hli := sp_list dws (by omega) (by omega)
    have hV := joinB_size dws 0 ⟨#[]⟩
    rw [e0, Nat.zero_add] at hV
    have hx := sp_tTerm y hyI (by omega)
    have hz := Tm.sh_size y hyI
    generalize joinB 0 dws ⟨#[]⟩ = V at hm1 hli hV
    generalize y.sh = z at hx hz hm1
    generalize y.wt = yw at hz hm2 hyw
    obtain ⟨yk, yn, ya, yb, yvs, yxs, ycs⟩ := y
    refine AWp.skip ?_
    refine AWp.rg [] [] ?_ (hr := by conv => lhs; simp [Fn.row, Tm.row, Tm.rows_eq, Cs.rows_eq, h1y])
    obtain ⟨f1, hf1⟩ : ∃ x : ByteArray, x = (((((⟨#[40, 102, 110, 32]⟩ ++ fg) ++ ⟨#[32, 40]⟩) ++ V) ++ ⟨#[41, 32]⟩) ++ z) ++ ⟨#[41, 10]⟩ := ⟨_, rfl⟩
    have hf1s : f1.size ≤ 20 + fg.size + V.size + z.size := by rw [hf1]; simp only [ByteArray.size_append, zl5, zl6, zl7, zl9]; omega
    rw [← hf1] at hm1
    refine AWp.dw [] [.p (fun _ => .d (.str V)) none, .p (fun _ => .d (.str z)) none] mixed ?_ (hr := by conv => lhs; simp [Fn.row, Tm.row, Tm.rows_eq, Cs.rows_eq, h1y])
    rw [← hf1]
    clear hf1
    refine AWp.rg [] [] ?_ (hr := by conv => lhs; simp [Fn.row, Tm.row, Tm.rows_eq, Cs.rows_eq, h1y])
    refine ⟨⟨(i + 1, m ++ f1), hi1, ⟨hm1, by dsimp only; rw [ByteArray.size_append]; omega⟩⟩, by simp; omega, ?_⟩
    dsimp only
    exact Le.sub (by simp) (by simp)
  have hi1 : i = l.length := by have := of_decide_eq_false hc; omega
  subst hi1
  clear hc
  obtain ⟨hm1, hm2⟩ := hw
  rw [List.drop_length, Fn.shL] at hm1
  rw [hm1] at hR
  refine AWp.exit ?_
  rw [hR]
  refine AWp.rg [] [] ?_ (hr := by conv => lhs; simp [Fn.row, Tm.row, Tm.rows_eq, Cs.rows_eq])
  refine AWp.ret ?_
  try dsimp only [thenQ, blockQ]
  apply endQ.ret
  · rfl
  · conv => lhs; simp [resAV, Tryd.results44]
  first | rfl | simp [resVal]
end Go.Proofs.YtapiiklnnkkdlaaDoor

namespace Go.Proofs.YtapiiklnnkkdlaaDoor
open Go.RowKit
set_option linter.unusedVariables false
set_option linter.unusedSimpArgs false
def sepB (c : UInt8) : Bool := isBl c || isBr c
def sepH : List UInt8 → Bool
  | [] => true
  | c :: _ => sepB c
def lex : List UInt8 → List (List UInt8)
  | [] => []
  | c :: r =>
    if isBl c then lex r
    else if isBr c then [c] :: lex r
    else if sepH r then [c] :: lex r
    else match lex r with
      | w :: ws => (c :: w) :: ws
      | [] => [[c]]
theorem lex_bl {c : UInt8} (h : isBl c = true) (r : List UInt8) : lex (c :: r) = lex r := by rw [lex, if_pos h]
theorem br_bl {c : UInt8} (h : isBr c = true) : isBl c = false := by
  unfold isBr at h; unfold isBl
  generalize c.toNat = n at h
  simp at h ⊢
  omega
theorem lex_br {c : UInt8} (h : isBr c = true) (r : List UInt8) : lex (c :: r) = [c] :: lex r := by
  rw [lex, if_neg (by rw [br_bl h]; simp), if_pos h]
def Wd (w : List UInt8) : Prop := w ≠ [] ∧ ∀ c ∈ w, sepB c = false
theorem sepB_no {c : UInt8} (h : sepB c = false) : isBl c = false ∧ isBr c = false := by
  unfold sepB at h
  simpa using h
theorem lex_word : ∀ (w r : List UInt8), Wd w → sepH r = true → lex (w ++ r) = w :: lex r
  | [], _, h, _ => absurd rfl h.1
  | [c], r, h, hr => by
    have h1 := sepB_no (h.2 c (by simp))
    rw [List.singleton_append, lex, if_neg (by rw [h1.1]; simp), if_neg (by rw [h1.2]; simp), if_pos hr]
  | c :: d :: w, r, h, hr => by
    have h1 := sepB_no (h.2 c (by simp))
    have h2 := lex_word (d :: w) r ⟨by simp, fun x hx => h.2 x (by simp at hx ⊢; exact .inr hx)⟩ hr
    have h3 : sepH (d :: w ++ r) = false := h.2 d (by simp)
    rw [List.cons_append, lex, if_neg (by rw [h1.1]; simp), if_neg (by rw [h1.2]; simp), if_neg (by rw [h3]; simp), h2]
theorem lex_drop : ∀ l : List UInt8, lex l = lex (l.drop (nBl l))
  | [] => rfl
  | c :: r => by
    rw [nBl]
    split
    · rename_i h; rw [lex_bl h, List.drop_succ_cons]; exact lex_drop r
    · rw [List.drop_zero]
theorem nBl_dropL : ∀ l : List UInt8, nBl (l.drop (nBl l)) = 0
  | [] => rfl
  | c :: r => by
    rw [nBl]
    split
    · rw [List.drop_succ_cons]; exact nBl_dropL r
    · rename_i hc; rw [List.drop_zero, nBl, if_neg hc]
theorem nWd_take : ∀ l : List UInt8, (∀ c ∈ l.take (nWd l), sepB c = false) ∧ sepH (l.drop (nWd l)) = true
  | [] => ⟨fun c h => by simp [nWd] at h, rfl⟩
  | c :: r => by
    obtain ⟨h1, h2⟩ := nWd_take r
    rw [nWd]
    split
    · rename_i h; exact ⟨fun c h => by simp at h, h⟩
    · rename_i h
      rw [List.take_succ_cons, List.drop_succ_cons]
      refine ⟨fun x hx => ?_, h2⟩
      rcases List.mem_cons.1 hx with rfl | hx
      · exact Bool.eq_false_iff.2 h
      · exact h1 x hx
theorem lex_pk {l : List UInt8} (h : nBl l = 0) (hn : l ≠ []) : nPk l ≠ 0 ∧ lex l = l.take (nPk l) :: lex (l.drop (nPk l)) := by
  obtain _ | ⟨c, r⟩ := l
  · exact absurd rfl hn
  have hb : isBl c = false := by
    cases hb : isBl c with
    | false => rfl
    | true => rw [nBl, if_pos hb] at h; omega
  rw [nPk]
  by_cases hr : isBr c = true
  · rw [if_pos hr]
    exact ⟨by omega, by rw [lex_br hr]; rfl⟩
  · rw [if_neg hr]
    obtain ⟨h1, h2⟩ := nWd_take (c :: r)
    have h3 : nWd (c :: r) ≠ 0 := by rw [nWd, if_neg (by simp [hb, hr])]; omega
    refine ⟨h3, ?_⟩
    have h4 := lex_word ((c :: r).take (nWd (c :: r))) ((c :: r).drop (nWd (c :: r))) ⟨fun e => by
      have := congrArg List.length e
      rw [List.length_take] at this
      simp at this
      omega, h1⟩ h2
    rwa [List.take_append_drop] at h4
abbrev bW (w : List UInt8) : ByteArray := ⟨w.toArray⟩
theorem pkW_list (s : ByteArray) (a : Nat) : (pkW s a).data.toList = ((s.data.toList.drop a).drop (nBl (s.data.toList.drop a))).take (nPk ((s.data.toList.drop a).drop (nBl (s.data.toList.drop a)))) := by
  unfold pkW pkE pkA
  rw [ByteArray.data_extract, Array.toList_extract, List.extract_eq_take_drop, List.drop_drop]
  congr 1
  omega
theorem bW_list (w : ByteArray) : bW w.data.toList = w := by obtain ⟨a⟩ := w; simp [bW]
theorem wdsF_lex {s : ByteArray} : ∀ (n a : Nat), a ≤ s.size → s.size < n + a → wdsF s n a = (lex (s.data.toList.drop a)).map bW
  | 0, a, h, hn => by omega
  | n + 1, a, h, hn => by
    have hp := pkW_list s a
    have hz : (pkW s a).size = (pkW s a).data.toList.length := by simp
    have hl := lex_drop (s.data.toList.drop a)
    have h0 := nBl_dropL (s.data.toList.drop a)
    rw [wdsF]
    by_cases hn2 : (s.data.toList.drop a).drop (nBl (s.data.toList.drop a)) = []
    · rw [if_pos (by rw [hz, hp, hn2]; rfl), hl, hn2]; rfl
    · obtain ⟨h1, h2⟩ := lex_pk h0 hn2
      have h3 : (pkW s a).size ≠ 0 := by
        rw [hz, hp, List.length_take]
        have := List.length_pos_iff.2 hn2
        omega
      have h4 := pkW_on h h3
      rw [if_neg h3, hl, h2, wdsF_lex n _ h4.2 (by omega), List.map_cons, ← hp, bW_list]
      congr 3
      unfold pkE pkA
      simp only [List.drop_drop, Nat.add_assoc]
theorem wds_lex (s : ByteArray) : wds s 0 = (lex s.data.toList).map bW := by
  rw [wds, wdsF_lex _ _ (Nat.zero_le _) (by omega), List.drop_zero]
theorem lex_sep {c : UInt8} (h : isBl c = true) : ∀ (l r : List UInt8), lex (l ++ c :: r) = lex l ++ lex r
  | [], r => by rw [List.nil_append, lex_bl h, lex, List.nil_append]
  | x :: l, r => by
    have ih := lex_sep h l r
    rw [List.cons_append, lex, lex]
    split
    · exact ih
    split
    · rw [ih, List.cons_append]
    · by_cases hs : sepH l = true
      · have hs2 : sepH (l ++ c :: r) = true := by
          cases l with
          | nil => show sepB c = true; unfold sepB; rw [h]; rfl
          | cons => exact hs
        rw [if_pos hs, if_pos hs2, ih, List.cons_append]
      · have hs2 : ¬ sepH (l ++ c :: r) = true := by
          cases l with
          | nil => exact absurd rfl hs
          | cons => exact hs
        rw [if_neg hs, if_neg hs2, ih]
        have hne : lex l ≠ [] := by
          cases l with
          | nil => exact absurd rfl hs
          | cons d l =>
            have hd : sepB d = false := Bool.eq_false_iff.2 hs
            have hd := sepB_no hd
            rw [lex, if_neg (by rw [hd.1]; simp), if_neg (by rw [hd.2]; simp)]
            split
            · simp
            · split <;> simp
        cases hx : lex l with
        | nil => exact absurd hx hne
        | cons w ws => rfl
theorem nameB_wd {s : ByteArray} (h : nameB s = true) : Wd s.data.toList := by
  unfold nameB at h
  simp only [Bool.and_eq_true, List.all_eq_true, decide_eq_true_eq] at h
  obtain ⟨h1, h2, h3⟩ := h
  refine ⟨fun e => ?_, fun c hc => ?_⟩
  · have : s.size = 0 := by rw [← toList_size, e]; rfl
    omega
  · obtain ⟨j, hj, hjc⟩ := List.mem_iff_getElem.1 hc
    rw [toList_size] at hj
    have h4 := h1 j (List.mem_range.2 hj)
    have h5 : s[j]? = some c := by
      rw [getElem?_pos s j hj]
      congr 1
    rw [h5] at h4
    dsimp only at h4
    unfold chOk at h4
    unfold sepB isBl isBr
    generalize c.toNat = n at h4 ⊢
    simp at h4 ⊢
    omega
theorem decDigits_dig (u : Nat) : ∀ c ∈ Lib.decDigits u, 48 ≤ c.toNat ∧ c.toNat ≤ 57 := by
  induction u using Nat.strongRecOn with
  | _ u ih =>
    intro c hc
    rw [Lib.decDigits] at hc
    split at hc
    · rename_i h
      rw [List.mem_singleton] at hc
      subst hc
      rw [UInt8.toNat_ofNat']; omega
    · rename_i h
      rcases List.mem_append.1 hc with hc | hc
      · exact ih _ (by omega) c hc
      · rw [List.mem_singleton] at hc
        subst hc
        rw [UInt8.toNat_ofNat']; omega
theorem decDigits_ne (u : Nat) : Lib.decDigits u ≠ [] := by
  rw [Lib.decDigits]
  split <;> simp
theorem itoa_wd (n : Int) : Wd (Lib.itoa n) := by
  have hd : ∀ u, ∀ c ∈ Lib.decDigits u, sepB c = false := fun u c hc => by
    have h := decDigits_dig u c hc
    unfold sepB isBl isBr
    generalize c.toNat = m at h
    simp; omega
  unfold Lib.itoa
  split
  · refine ⟨by simp, fun c hc => ?_⟩
    rcases List.mem_cons.1 hc with rfl | hc
    · rfl
    · exact hd _ c hc
  · exact ⟨decDigits_ne _, hd _⟩

structure Loc {α : Type} (N N' : Nat) (f f' : TS → α × TS) : Prop where
  st : ∀ p, (f p).2.2 = 0 → p.2 = 0
  go : ∀ l, l.length < N → (f (l, 0)).2.2 = 0 → (f (l, 0)).2.1.length < l.length ∧ ∀ r, l.length + r.length < N' → f' (l ++ r, 0) = ((f (l, 0)).1, ((f (l, 0)).2.1 ++ r, 0))
def uT (f : TS → TS) : TS → Unit × TS := fun p => ((), f p)
def bnd {α β : Type} (f : TS → α × TS) (g : α → TS → β × TS) : TS → β × TS := fun p => g (f p).1 (f p).2
def finT {β : Type} (x : β) (f : TS → TS) : TS → β × TS := fun p => (x, f p)
def mapT {α β : Type} (h : α → β) (f : TS → α × TS) : TS → β × TS := fun p => (h (f p).1, (f p).2)
theorem Loc.bnd {α β : Type} {N N' : Nat} {f f' : TS → α × TS} {g g' : α → TS → β × TS} (hf : Loc N N' f f') (hg : ∀ a, Loc N N' (g a) (g' a)) : Loc N N' (bnd f g) (bnd f' g') := by
  refine ⟨fun p h0 => hf.st p ((hg _).st _ h0), fun l hl h0 => ?_⟩
  have h1 := hf.go l hl
  unfold Go.Proofs.YtapiiklnnkkdlaaDoor.bnd at h0 ⊢
  have h2 := (hg _).st _ h0
  obtain ⟨h3, h4⟩ := h1 h2
  generalize f (l, 0) = X at h0 h2 h3 h4 ⊢
  obtain ⟨a, l1, e1⟩ := X
  dsimp only at h0 h2 h3 h4 ⊢
  subst h2
  obtain ⟨h5, h6⟩ := (hg a).go l1 (by omega) h0
  refine ⟨by omega, fun r hr => ?_⟩
  rw [h4 r hr]
  exact h6 r (by omega)
theorem Loc.fin {β : Type} {N N' : Nat} {f f' : TS → TS} (h : Loc N N' (uT f) (uT f')) (x : β) : Loc N N' (finT x f) (finT x f') :=
  ⟨h.st, fun l hl h0 => ⟨(h.go l hl h0).1, fun r hr => Prod.ext rfl (Prod.ext_iff.1 ((h.go l hl h0).2 r hr)).2⟩⟩
theorem Loc.map {α β : Type} {N N' : Nat} {f f' : TS → α × TS} (h : Loc N N' f f') (k : α → β) : Loc N N' (mapT k f) (mapT k f') :=
  ⟨h.st, fun l hl h0 => ⟨(h.go l hl h0).1, fun r hr => by have := (h.go l hl h0).2 r hr; unfold mapT; rw [this]⟩⟩
theorem hdT_app {l r : List ByteArray} (h : l ≠ []) : hdT (l ++ r) = hdT l := by
  cases l with
  | nil => exact absurd rfl h
  | cons => rfl
theorem Loc.peek {β : Type} {N N' : Nat} {F F' : ByteArray → TS → β × TS} (h : ∀ w, Loc N N' (F w) (F' w)) : Loc N N' (fun p => F (hdT p.1) p) (fun p => F' (hdT p.1) p) := by
  refine ⟨fun p h0 => (h _).st p h0, fun l hl h0 => ?_⟩
  obtain ⟨h1, h2⟩ := (h _).go l hl h0
  refine ⟨h1, fun r hr => ?_⟩
  have hne : l ≠ [] := fun e => by subst e; simp at h1
  dsimp only
  rw [hdT_app hne]
  exact h2 r hr
theorem nx_loc (N N' : Nat) : Loc N N' (uT nxT) (uT nxT) := by
  refine ⟨fun p h0 => ?_, fun l hl h0 => ?_⟩
  · obtain ⟨l, e⟩ := p
    cases l with
    | nil => exact absurd h0 (badE_ne (by decide))
    | cons w l => exact h0
  · cases l with
    | nil => exact absurd h0 (badE_ne (e := 0) (x := 8) (by decide))
    | cons w l => exact ⟨by simp [uT, nxT], fun r hr => rfl⟩
theorem want_loc (w : ByteArray) (N N' : Nat) : Loc N N' (uT (wantT w)) (uT (wantT w)) := by
  refine ⟨fun p h0 => ?_, fun l hl h0 => ?_⟩
  · unfold uT wantT at h0
    dsimp only at h0
    split at h0
    · exact (nx_loc N N').st p h0
    · exact absurd h0 (badE_ne (by decide))
  · unfold uT wantT at h0 ⊢
    dsimp only at h0 ⊢
    by_cases hw : hdT l = w
    · rw [if_pos hw] at h0
      obtain ⟨h1, h2⟩ := (nx_loc N N').go l hl h0
      have hne : l ≠ [] := fun e => by subst e; simp [uT, nxT] at h1
      rw [if_pos hw]
      refine ⟨h1, fun r hr => ?_⟩
      rw [hdT_app hne, if_pos hw]
      exact h2 r hr
    · rw [if_neg hw] at h0
      exact absurd h0 (badE_ne (by decide))
theorem nam_loc (N N' : Nat) : Loc N N' namT namT := by
  refine ⟨fun p h0 => ?_, fun l hl h0 => ?_⟩
  · unfold namT at h0
    dsimp only at h0
    split at h0
    · exact (nx_loc N N').st p h0
    · exact absurd h0 (badE_ne (by decide))
  · unfold namT at h0 ⊢
    dsimp only at h0 ⊢
    by_cases hw : nameB (hdT l) = true
    · rw [if_pos hw] at h0 ⊢
      obtain ⟨h1, h2⟩ := (nx_loc N N').go l hl h0
      have hne : l ≠ [] := fun e => by subst e; simp [uT, nxT] at h1
      refine ⟨h1, fun r hr => ?_⟩
      rw [hdT_app hne, if_pos hw]
      exact Prod.ext rfl (Prod.ext_iff.1 (h2 r hr)).2
    · rw [if_neg hw] at h0
      exact absurd h0 (badE_ne (by decide))
theorem tag_loc (N N' : Nat) : Loc N N' tagT tagT := by
  have key : ∀ p, (tagT p).2.2 = 0 → (nxT p).2 = 0 ∧ tagT p = ((numP ((hdT p.1).extract 1 (hdT p.1).size)).1, nxT p) := fun p h0 => by
    unfold tagT at h0 ⊢
    split at h0
    · rename_i h1
      rw [if_pos h1]
      dsimp only at h0 ⊢
      split at h0
      · rename_i h2
        rw [if_pos h2]
        exact ⟨h0, rfl⟩
      · exact absurd h0 (badE_ne (by decide))
    · exact absurd h0 (badE_ne (by decide))
  refine ⟨fun p h0 => (nx_loc N N').st p (key p h0).1, fun l hl h0 => ?_⟩
  obtain ⟨h1, h2⟩ := key _ h0
  obtain ⟨h3, h4⟩ := (nx_loc N N').go l hl h1
  have hne : l ≠ [] := fun e => by subst e; simp [uT, nxT] at h3
  rw [h2]
  refine ⟨h3, fun r hr => ?_⟩
  have h5 : nxT (l ++ r, 0) = ((nxT (l, 0)).1 ++ r, 0) := (Prod.ext_iff.1 (h4 r hr)).2
  unfold tagT at h0 ⊢
  dsimp only at h0 ⊢
  rw [hdT_app hne]
  split
  · rename_i h6
    rw [if_pos h6] at h0
    dsimp only at h0
    split at h0
    · rename_i h7
      rw [if_pos h7, h5]
    · exact absurd h0 (badE_ne (by decide))
  · rename_i h6
    rw [if_neg h6] at h0
    exact absurd h0 (badE_ne (by decide))
theorem many_st {α : Type} {one : TS → α × TS} (h : ∀ p, (one p).2.2 = 0 → p.2 = 0) : ∀ (n : Nat) (p : TS), (manyT one n p).2.2 = 0 → p.2 = 0
  | 0, p, h0 => h0
  | n + 1, p, h0 => by
    rw [manyT] at h0
    split at h0
    · assumption
    · exact (want_loc rbr 0 0).st p h0
theorem rbr_ne : (ByteArray.empty : ByteArray) ≠ rbr := by decide
theorem many_go {α : Type} {N N' : Nat} {one one' : TS → α × TS} (h : Loc N N' one one') : ∀ (n n' : Nat) (l : List ByteArray), l.length < n → l.length < N → (manyT one n (l, 0)).2.2 = 0 →
    (manyT one n (l, 0)).2.1.length < l.length ∧ ∀ r, l.length + r.length < n' → l.length + r.length < N' → manyT one' n' (l ++ r, 0) = ((manyT one n (l, 0)).1, ((manyT one n (l, 0)).2.1 ++ r, 0))
  | 0, _, _, hn, _, _ => by omega
  | n + 1, n', l, hn, hN, h0 => by
    rw [manyT] at h0 ⊢
    rw [if_pos rfl] at h0 ⊢
    dsimp only at h0 ⊢
    by_cases hw : hdT l = rbr
    · rw [if_pos hw] at h0 ⊢
      have hne : l ≠ [] := fun e => by subst e; exact rbr_ne hw
      obtain ⟨h1, h2⟩ := (want_loc rbr N N').go l hN h0
      refine ⟨h1, fun r hr hr2 => ?_⟩
      obtain _ | m := n'
      · omega
      rw [manyT, if_pos rfl]
      dsimp only
      rw [hdT_app hne, if_pos hw]
      exact Prod.ext rfl (Prod.ext_iff.1 (h2 r hr2)).2
    · rw [if_neg hw] at h0 ⊢
      dsimp only at h0 ⊢
      have h1 := many_st h.st _ _ h0
      obtain ⟨h2, h3⟩ := h.go l hN h1
      generalize one (l, 0) = X at h0 h1 h2 h3 ⊢
      obtain ⟨a, l1, e1⟩ := X
      dsimp only at h0 h1 h2 h3 ⊢
      subst h1
      have hne : l ≠ [] := fun e => by subst e; simp at h2
      obtain ⟨h4, h5⟩ := many_go h n (n' - 1) l1 (by omega) (by omega) h0
      refine ⟨by omega, fun r hr hr2 => ?_⟩
      obtain _ | m := n'
      · omega
      rw [manyT, if_pos rfl]
      dsimp only
      rw [hdT_app hne, if_neg hw, h3 r hr2]
      dsimp only
      rw [show m = m + 1 - 1 from rfl, h5 r (by omega) (by omega)]
theorem many_loc {α : Type} {N N' : Nat} {one one' : TS → α × TS} (h : Loc N N' one one') : Loc N N' (manyT one N) (manyT one' N') :=
  ⟨many_st h.st N, fun l hl h0 => by
    obtain ⟨h1, h2⟩ := many_go h N N' l hl hl h0
    exact ⟨h1, fun r hr => h2 r hr hr⟩⟩
theorem cas_loc {N N' : Nat} {one one' : TS → Tm × TS} (h : Loc N N' one one') : Loc N N' (casT N one) (casT N' one') :=
  (want_loc lbr N N').bnd fun _ => (tag_loc N N').bnd fun t => (want_loc lbr N N').bnd fun _ => (many_loc (nam_loc N N')).bnd fun ws => h.bnd fun y => (want_loc rbr N N').fin (Cs.mk t ws y)
theorem atom_loc (N N' : Nat) : Loc N N' atomT atomT := by
  refine Loc.peek (F := fun w p => if (numP w).2 then (Tm.mk 2 (numP w).1 .empty .empty [] [] [], nxT p) else (Tm.mk 1 0 w .empty [] [] [], if nameB w then nxT p else badT 7 (nxT p))) (F' := fun w p => if (numP w).2 then (Tm.mk 2 (numP w).1 .empty .empty [] [] [], nxT p) else (Tm.mk 1 0 w .empty [] [] [], if nameB w then nxT p else badT 7 (nxT p))) fun w => ?_
  by_cases h1 : (numP w).2 = true
  · simp only [h1, if_true]
    exact (nx_loc N N').fin _
  · simp only [h1, if_false]
    by_cases h2 : nameB w = true
    · simp only [h2, if_true]
      exact (nx_loc N N').fin _
    · simp only [h2, if_false]
      exact ⟨fun p h0 => absurd h0 (badE_ne (by decide)), fun l hl h0 => absurd h0 (badE_ne (by decide))⟩
def formW (N : Nat) (one : TS → Tm × TS) (w : ByteArray) : TS → Tm × TS :=
  if sharp w then bnd tagT fun t => mapT (fun xs => Tm.mk 3 t .empty .empty [] xs []) (manyT one N)
  else if w = wLet then bnd (uT nxT) fun _ => bnd namT fun nm => bnd one fun x => bnd one fun y => finT (Tm.mk 6 0 nm .empty [] [x, y] []) (wantT rbr)
  else if w = wMatch then bnd (uT nxT) fun _ => bnd one fun x => mapT (fun cs => Tm.mk 7 0 .empty .empty [] [x] cs) (manyT (casT N one) N)
  else if 0 < primI w primsL 0 0 then bnd (uT nxT) fun _ => bnd one fun x => bnd one fun y => finT (Tm.mk 5 (primI w primsL 0 0) .empty .empty [] [x, y] []) (wantT rbr)
  else bnd namT fun nm => mapT (fun xs => Tm.mk 4 0 nm .empty [] xs []) (manyT one N)
theorem formT_eq (N : Nat) (one : TS → Tm × TS) : formT N one = fun p => formW N one (hdT p.1) p := by
  funext p
  unfold formT formW
  split
  · rfl
  split
  · rfl
  split
  · rfl
  split
  · rfl
  · rfl
theorem form_loc {N N' : Nat} {one one' : TS → Tm × TS} (h : Loc N N' one one') : Loc N N' (formT N one) (formT N' one') := by
  rw [formT_eq, formT_eq]
  refine Loc.peek fun w => ?_
  unfold formW
  split
  · exact (tag_loc N N').bnd fun t => (many_loc h).map _
  split
  · exact (nx_loc N N').bnd fun _ => (nam_loc N N').bnd fun nm => h.bnd fun x => h.bnd fun y => (want_loc rbr N N').fin _
  split
  · exact (nx_loc N N').bnd fun _ => h.bnd fun x => (many_loc (cas_loc h)).map _
  split
  · exact (nx_loc N N').bnd fun _ => h.bnd fun x => h.bnd fun y => (want_loc rbr N N').fin _
  · exact (nam_loc N N').bnd fun nm => (many_loc h).map _
theorem ts_loc (N N' : Nat) : ∀ n, Loc N N' (Tm.ts N n) (Tm.ts N' n)
  | 0 => ⟨fun p h0 => absurd h0 (badE_ne (by decide)), fun l hl h0 => absurd h0 (badE_ne (e := 0) (x := 9) (by decide))⟩
  | n + 1 => by
    have h1 := (nx_loc N N').bnd (g := fun _ => formT N (Tm.ts N n)) (g' := fun _ => formT N' (Tm.ts N' n)) fun _ => form_loc (ts_loc N N' n)
    refine Loc.peek (F := fun w p => if w = lbr then formT N (Tm.ts N n) (nxT p) else atomT p) (F' := fun w p => if w = lbr then formT N' (Tm.ts N' n) (nxT p) else atomT p) fun w => ?_
    by_cases hw : w = lbr
    · simp only [hw, if_true]
      exact h1
    · simp only [hw, if_false]
      exact atom_loc N N'
theorem fn_loc (N N' : Nat) : Loc N N' (fnT N) (fnT N') :=
  (want_loc lbr N N').bnd fun _ => (want_loc wFn N N').bnd fun _ => (nam_loc N N').bnd fun nm => (want_loc lbr N N').bnd fun _ => (many_loc (nam_loc N N')).bnd fun ws => (ts_loc N N' 25).bnd fun y => (want_loc rbr N N').fin (Fn.mk nm ws y)
theorem fns_st (N : Nat) : ∀ (n : Nat) (p : TS), (fnsT N n p).2.2 = 0 → p.2 = 0
  | 0, p, h0 => h0
  | n + 1, p, h0 => by
    rw [fnsT] at h0
    split at h0
    · assumption
    · exact h0
theorem fns_go (N N' : Nat) : ∀ (n n' : Nat) (l r : List ByteArray), l.length < n → l.length < N → l.length + r.length < n' → l.length + r.length < N' → (fnsT N n (l, 0)).2.2 = 0 →
    ∃ m, r.length < m ∧ fnsT N' n' (l ++ r, 0) = ((fnsT N n (l, 0)).1 ++ (fnsT N' m (r, 0)).1, (fnsT N' m (r, 0)).2)
  | 0, _, _, _, hn, _, _, _, _ => by omega
  | n + 1, n', l, r, hn, hN, hn', hN', h0 => by
    rw [fnsT] at h0 ⊢
    rw [if_pos rfl] at h0 ⊢
    dsimp only at h0 ⊢
    by_cases hw : l = []
    · subst hw
      rw [if_pos rfl]
      exact ⟨n', by simpa using hn', by simp⟩
    · rw [if_neg hw] at h0 ⊢
      dsimp only at h0 ⊢
      have h1 := fns_st N _ _ h0
      obtain ⟨h2, h3⟩ := (fn_loc N N').go l hN h1
      have h3 := h3 r hN'
      generalize fnT N (l, 0) = X at h0 h1 h2 h3 ⊢
      obtain ⟨a, l1, e1⟩ := X
      dsimp only at h0 h1 h2 h3 ⊢
      subst h1
      obtain _ | k := n'
      · omega
      obtain ⟨m, hm, h4⟩ := fns_go N N' n k l1 r (by omega) (by omega) (by omega) (by omega) h0
      refine ⟨m, hm, ?_⟩
      rw [fnsT, if_pos rfl]
      dsimp only
      rw [if_neg (by simp [hw]), h3]
      dsimp only
      rw [h4]
      rfl
theorem fns_nil (N m : Nat) : fnsT N m ([], 0) = ([], ([], 0)) := by
  cases m with
  | zero => rfl
  | succ m => rw [fnsT, if_pos rfl, if_pos rfl]
theorem wds_length (s : ByteArray) : (wds s 0).length < s.size + 2 := by
  have := wds_len (s := s) (s.size + 1) 0
  unfold wds
  omega
theorem wds_join (s t : ByteArray) : wds ((s ++ ⟨#[10]⟩) ++ t) 0 = wds s 0 ++ wds t 0 := by
  rw [wds_lex, wds_lex, wds_lex, ← List.map_append]
  congr 1
  rw [ByteArray.data_append, ByteArray.data_append, Array.toList_append, Array.toList_append, List.append_assoc]
  exact lex_sep rfl _ _
theorem parse_join {s t : ByteArray} {a b : List Fn} (ha : parseT s = (a, 0)) (hb : parseT t = (b, 0)) (hl : s.size + t.size + 1 ≤ 1500) : parseT ((s ++ ⟨#[10]⟩) ++ t) = (a ++ b, 0) := by
  have hz : ((s ++ ⟨#[10]⟩) ++ t).size = s.size + 1 + t.size := by rw [ByteArray.size_append, ByteArray.size_append]; rfl
  unfold parseT at ha hb ⊢
  rw [if_neg (by omega)] at ha hb ⊢
  have e4 : ∀ {x : List Fn} {y : Int} {c : List Fn}, y ≠ 0 → (x, y) = (c, (0 : Int)) → False := fun h e => h (Prod.ext_iff.1 e).2
  split at ha
  · rename_i ha0
    split at hb
    · rename_i hb0
      have ls := wds_length s
      have lt := wds_length t
      obtain ⟨m, hm, h1⟩ := fns_go (s.size + 2) (((s ++ ⟨#[10]⟩) ++ t).size + 2) (s.size + 2) (((s ++ ⟨#[10]⟩) ++ t).size + 2) (wds s 0) (wds t 0) ls ls (by omega) (by omega) ha0
      obtain ⟨m2, hm2, h2⟩ := fns_go (t.size + 2) (((s ++ ⟨#[10]⟩) ++ t).size + 2) (t.size + 2) m (wds t 0) [] lt lt (by simpa using hm) (by simp; omega) hb0
      rw [fns_nil, List.append_nil, List.append_nil] at h2
      have ha := (Prod.ext_iff.1 ha).1
      have hb := (Prod.ext_iff.1 hb).1
      dsimp only at ha hb
      rw [wds_join, h1, h2, if_pos rfl, ha, hb]
    · rename_i h; exact absurd (Prod.ext_iff.1 hb).2 h
  · rename_i h; exact absurd (Prod.ext_iff.1 ha).2 h
end Go.Proofs.YtapiiklnnkkdlaaDoor
