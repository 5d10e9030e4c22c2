/- xcref1.E: maps of names; what is wrong; names besides. Printed by a small program. -/
import Derived.Test.YtialccgjbanmcaaEvalE
import Derived.Test.YtialccgjbanmcaaMaps
namespace Go.Proofs.Ytialccgjbanmcaa
open Go.RowKit
attribute [local simp] runD mkRc dstOk guardOk opEff opEff0 effOp pureOp callOp zEff evA constAV frGet memGet startAS frOf isGoCall idIn AS.after nextR opnIds objIds AV.ids idsL AObj.ids frNo memNo opnAny isAny mkVal rdCells wrCells fldAddr idxAddr srcRows litRows toD1 toDs setAt sliceAV optI partAV bldAV fillAV binAV binI AV.cells callEff calleeOf frKill memKill AV.kill AObj.kill AV.has AV.hasL Op.operands Call.operands keepF keepM viewIds cChk renOf moGet moWs moQ cEff moLike moHave AV.ren renL AObj.ren AObj.like kept startC moMem AV.frz frz1 frzL frSub memSub frzs AS.frz frFrz memFrz AObj.frz takeMap takeLen bleF Nat.ble_eq memAny objAny mapOp D.keyOk rowAV valRow extOp wrapOp phO frLow memLow memLow1 objLow memEmpty Low LowL
set_option linter.unusedVariables false
set_option linter.unusedSimpArgs false

/-- Names and values, as a map has them. -/
def entE : Env → List (D × List D)
  | [] => []
  | (x, v) :: r => D.aput (.str x) v.row (entE r)
theorem entE_ents : ∀ env, EntS (entE env)
  | [] => EntS.nil
  | (x, v) :: r => (entE_ents r).put x v.row
theorem entE_get (s : ByteArray) : ∀ env, D.aget (.str s) (entE env) = (envGet env s).map Vl.row
  | [] => rfl
  | (x, v) :: r => by
    by_cases h : x = s
    · subst h
      rw [entE, aput_same, envGet, if_pos rfl]; rfl
    · rw [entE, aput_other h, envGet, if_neg h, entE_get s r]
theorem entE_vals : ∀ env, ∀ p ∈ entE env, ∃ v : Vl, p.2 = v.row
  | [], p, hp => by cases hp
  | (x, v) :: r, p, hp => by
    rcases List.mem_cons.1 hp with rfl | hp
    · exact ⟨v, rfl⟩
    · exact entE_vals r p (List.mem_filter.1 hp).1
abbrev mapO (e : Env) : AObj := .map true true 3 (entE e)
abbrev refE (l : List Fn) (fuel deep err : Int) : AObj := .blk 72 [fnsAV l, .d (.int fuel), .d (.int deep), .d (.int err)]
abbrev boxE : AObj := .blk 70 [.ptr 1000 0]

set_option maxRecDepth 20000 in
set_option maxHeartbeats 16000000 in
theorem cs_Of1 (l : List Fn) (f d w : Int) : CSpec Try.prog 66 [.d (.int w), .ptr 1001 0] [(1000, refE l f d 0), (1001, boxE)] (vlAV zeroV) [(1000, refE l f d w), (1001, boxE)] := by
  refine CSpec.of Try.func66 rfl rfl (Nat.le_of_ble_eq_true rfl) ?_
  show AWp _ _ (endC _ Try.f66 _ _) (startC 14 _ _)
  repeat (first | refine AWp.seq ?_ | refine AWp.block ?_)
  apply AWp.reg [] []
  · conv => lhs; simp
  · (repeat' apply And.intro) <;> first | omega | assumption | trivial | (simp [inI, maxLen]; done) | (simp [inI, maxLen]; omega)
  repeat (first | refine AWp.seq ?_ | refine AWp.block ?_)
  apply AWp.reg [] []
  · conv => lhs; simp
  · (repeat' apply And.intro) <;> first | omega | assumption | trivial | (simp [inI, maxLen]; done) | (simp [inI, maxLen]; omega)
  repeat (first | refine AWp.seq ?_ | refine AWp.block ?_)
  refine AWp.cond rfl (fun hc => ?_) (fun hc => ?_)
  rotate_left
  · cases hc
  repeat (first | refine AWp.seq ?_ | refine AWp.block ?_)
  apply AWp.reg [] []
  · conv => lhs; simp
  · (repeat' apply And.intro) <;> first | omega | assumption | trivial | (simp [inI, maxLen]; done) | (simp [inI, maxLen]; omega)
  repeat (first | refine AWp.seq ?_ | refine AWp.block ?_)
  apply AWp.reg [] []
  · conv => lhs; simp
  · (repeat' apply And.intro) <;> first | omega | assumption | trivial | (simp [inI, maxLen]; done) | (simp [inI, maxLen]; omega)
  refine AWp.ret ?_
  try dsimp only [thenQ, blockQ]
  apply endC.ret
  · rfl
  · conv => lhs; simp [resAV, Try.results66]
  · rfl
  · simp [moEnd, memGet]

set_option maxRecDepth 20000 in
set_option maxHeartbeats 16000000 in
theorem cs_with (env more : Env) : CSpec Try.prog 67 [.mp 1001, .ptr 1002 0] [(1000, mapO env), (1001, mapO more), (1002, .blk 95 [.mp 1000]), (500, .arr 0 1 [])] (.mp 500) [(1000, mapO env), (1001, mapO more), (1002, .blk 95 [.mp 1000]), (500, mapO (more ++ env))] := by
  have hmt : Try.prog.underlying 95 = some (.map 9 26) := by kernel_rfl
  refine CSpec.of Try.func67 rfl rfl (Nat.le_of_ble_eq_true rfl) ?_
  show AWp _ _ (endC _ Try.f67 _ _) (startC 31 _ _)
  repeat (first | refine AWp.seq ?_ | refine AWp.block ?_)
  apply AWp.reg [] []
  · conv => lhs; simp
  · trivial
  repeat (first | refine AWp.seq ?_ | refine AWp.block ?_)
  apply AWp.reg [] []
  · conv => lhs; simp
  · trivial
  repeat (first | refine AWp.seq ?_ | refine AWp.block ?_)
  refine AWp.births 1000 rfl fun b1 ck1 be1 hp1 hn1 => ?_
  refine AWp.ops ?_
  apply AOps.run (l1 := [_]) (l2 := [_]) (k := 0) [] []
  · conv => lhs; simp
  · (repeat' apply And.intro) <;> first | omega | assumption | trivial | (simp [inI, maxLen]; done) | (simp [inI, maxLen]; omega)
  refine AOps.range rfl rfl rfl (Nat.le_of_ble_eq_true rfl) rfl (i := 1000) rfl rfl hmt ?_
  refine AOps.nil ?_
  repeat (first | refine AWp.seq ?_ | refine AWp.block ?_)
  refine AWp.loop (σ := fun u : {u : List Nat × List (D × List D) // Mid be1 [] u.1 u.2 ∧ ∀ p ∈ u.2, ∃ v : Vl, p.2 = v.row} => ⟨31, [(0, .mp 1001), (4, .mp 9), (11, .ptr 11 0)], [(1000, some (.raw (.births b1 true true 3 ck1 be1))), (1001, some (mapO more)), (1002, some (.blk 95 [.mp 1000])), (9, some (.map true true 3 (u.1.2))), (11, some (.raw (.iter b1 ck1 (u.1.1))))]⟩)
    (μ := fun u => unseen be1 u.1.1) ⟨([], []), Mid.start EntS.nil, (fun p hp => by cases hp)⟩ (Le.sub (by simp) (by simp)) (fun ⟨(seen, O), hM, hv⟩ => ?_)
  dsimp only
  repeat (first | refine AWp.seq ?_ | refine AWp.block ?_)
  refine AWp.ops ?_
  refine AOps.next (i := 11) (j := 1000) rfl rfl rfl (Nat.le_of_ble_eq_true rfl) rfl rfl rfl (fun hall => ?_) (fun p hp hns => ?_)
  rotate_left
  · obtain ⟨v, hpv⟩ : ∃ v : Vl, p.2.2 = v.row := entE_vals env p.2 (hp1.mem_iff.1 (List.mem_map.2 ⟨p, hp, rfl⟩))
    obtain ⟨z, r, hz0⟩ := (entE_ents env).form p.2 (hp1.mem_iff.1 (List.mem_map.2 ⟨p, hp, rfl⟩))
    obtain ⟨k, key, row⟩ := p
    dsimp only at hpv
    subst hpv
    obtain ⟨rfl, -⟩ : key = .str z ∧ v.row = r := by cases hz0; exact ⟨rfl, rfl⟩
    have hmu := unseen_lt hp hns
    have hM2 := hM.step hp1 (entE_ents env) hn1 hp
    have hv2 : ∀ p ∈ D.aput (.str z) v.row O, ∃ v : Vl, p.2 = v.row := fun p hp => by
      rcases List.mem_cons.1 hp with rfl | hp
      · exact ⟨v, rfl⟩
      · exact hv p (List.mem_filter.1 hp).1
    obtain ⟨zc, zn, zks⟩ := v
    apply AOps.run (l1 := [_]) (l2 := []) (k := 0) [] []
    · conv => lhs; simp [Vl.row, Vl.rows_eq]
    · (repeat' apply And.intro) <;> first | omega | assumption | trivial | (simp [inI, maxLen]; done) | (simp [inI, maxLen]; omega)
    refine AOps.nil ?_
    repeat (first | refine AWp.seq ?_ | refine AWp.block ?_)
    refine AWp.cond rfl (fun hc => ?_) (fun hc => ?_)
    rotate_left
    · cases hc
    refine AWp.skip ?_
    repeat (first | refine AWp.seq ?_ | refine AWp.block ?_)
    refine AWp.ops ?_
    refine AOps.entry (i := 11) (j := 1000) rfl rfl rfl (Nat.le_of_ble_eq_true rfl) rfl rfl rfl hp ?_
    apply AOps.run (l1 := [_, _, _, _, _]) (l2 := []) (k := 0) [] []
    · conv => lhs; simp [Vl.row, Vl.rows_eq]
    · (repeat' apply And.intro) <;> first | omega | assumption | trivial | (simp [inI, maxLen]; done) | (simp [inI, maxLen]; omega)
    refine AOps.nil ?_
    repeat (first | refine AWp.seq ?_ | refine AWp.block ?_)
    apply AWp.reg [] []
    · conv => lhs; simp [Vl.row, Vl.rows_eq]
    · (repeat' apply And.intro) <;> first | omega | assumption | trivial | (simp [inI, maxLen]; done) | (simp [inI, maxLen]; omega)
    refine ⟨⟨(seen ++ [k], D.aput (.str z) (Vl.row (.mk zc zn zks)) O), hM2, hv2⟩, hmu, ?_⟩
    dsimp only
    exact Le.sub (by simp [Vl.row, Vl.rows_eq]) (by simp [Vl.row, Vl.rows_eq])
  apply AOps.run (l1 := [_]) (l2 := []) (k := 0) [] []
  · conv => lhs; simp [Vl.rows_eq]
  · (repeat' apply And.intro) <;> first | omega | assumption | trivial | (simp [inI, maxLen]; done) | (simp [inI, maxLen]; omega)
  refine AOps.nil ?_
  repeat (first | refine AWp.seq ?_ | refine AWp.block ?_)
  refine AWp.cond rfl (fun hc => ?_) (fun hc => ?_)
  · cases hc
  refine AWp.exit ?_
  have hM1 := hM
  have hO1 : ∀ s, D.aget (.str s) O = (D.aget (.str s) (entE env)).or (D.aget (.str s) []) := hM.over hp1 (entE_ents env) hall
  have hv1 := hv
  clear hM hv hall
  obtain ⟨O1, hOd1⟩ : ∃ O1, O1 = O := ⟨_, rfl⟩
  rw [← hOd1] at hO1 hM1 hv1 ⊢
  clear hOd1
  repeat (first | refine AWp.seq ?_ | refine AWp.block ?_)
  refine AWp.births 1001 rfl fun b2 ck2 be2 hp2 hn2 => ?_
  refine AWp.ops ?_
  apply AOps.run (l1 := [_]) (l2 := [_]) (k := 0) [] []
  · conv => lhs; simp
  · (repeat' apply And.intro) <;> first | omega | assumption | trivial | (simp [inI, maxLen]; done) | (simp [inI, maxLen]; omega)
  refine AOps.range rfl rfl rfl (Nat.le_of_ble_eq_true rfl) rfl (i := 1001) rfl rfl hmt ?_
  refine AOps.nil ?_
  repeat (first | refine AWp.seq ?_ | refine AWp.block ?_)
  refine AWp.loop (σ := fun u : {u : List Nat × List (D × List D) // Mid be2 O1 u.1 u.2 ∧ ∀ p ∈ u.2, ∃ v : Vl, p.2 = v.row} => ⟨31, [(4, .mp 9), (21, .ptr 21 0)], [(1000, some (.raw (.births b1 true true 3 ck1 be1))), (1001, some (.raw (.births b2 true true 3 ck2 be2))), (1002, some (.blk 95 [.mp 1000])), (9, some (.map true true 3 (u.1.2))), (21, some (.raw (.iter b2 ck2 (u.1.1))))]⟩)
    (μ := fun u => unseen be2 u.1.1) ⟨([], O1), Mid.start hM1.ents, hv1⟩ (Le.sub (by simp) (by simp)) (fun ⟨(seen, O), hM, hv⟩ => ?_)
  dsimp only
  repeat (first | refine AWp.seq ?_ | refine AWp.block ?_)
  refine AWp.ops ?_
  refine AOps.next (i := 21) (j := 1001) rfl rfl rfl (Nat.le_of_ble_eq_true rfl) rfl rfl rfl (fun hall => ?_) (fun p hp hns => ?_)
  rotate_left
  · obtain ⟨v, hpv⟩ : ∃ v : Vl, p.2.2 = v.row := entE_vals more p.2 (hp2.mem_iff.1 (List.mem_map.2 ⟨p, hp, rfl⟩))
    obtain ⟨z, r, hz0⟩ := (entE_ents more).form p.2 (hp2.mem_iff.1 (List.mem_map.2 ⟨p, hp, rfl⟩))
    obtain ⟨k, key, row⟩ := p
    dsimp only at hpv
    subst hpv
    obtain ⟨rfl, -⟩ : key = .str z ∧ v.row = r := by cases hz0; exact ⟨rfl, rfl⟩
    have hmu := unseen_lt hp hns
    have hM2 := hM.step hp2 (entE_ents more) hn2 hp
    have hv2 : ∀ p ∈ D.aput (.str z) v.row O, ∃ v : Vl, p.2 = v.row := fun p hp => by
      rcases List.mem_cons.1 hp with rfl | hp
      · exact ⟨v, rfl⟩
      · exact hv p (List.mem_filter.1 hp).1
    obtain ⟨zc, zn, zks⟩ := v
    apply AOps.run (l1 := [_]) (l2 := []) (k := 0) [] []
    · conv => lhs; simp [Vl.row, Vl.rows_eq]
    · (repeat' apply And.intro) <;> first | omega | assumption | trivial | (simp [inI, maxLen]; done) | (simp [inI, maxLen]; omega)
    refine AOps.nil ?_
    repeat (first | refine AWp.seq ?_ | refine AWp.block ?_)
    refine AWp.cond rfl (fun hc => ?_) (fun hc => ?_)
    rotate_left
    · cases hc
    refine AWp.skip ?_
    repeat (first | refine AWp.seq ?_ | refine AWp.block ?_)
    refine AWp.ops ?_
    refine AOps.entry (i := 21) (j := 1001) rfl rfl rfl (Nat.le_of_ble_eq_true rfl) rfl rfl rfl hp ?_
    apply AOps.run (l1 := [_, _, _, _, _]) (l2 := []) (k := 0) [] []
    · conv => lhs; simp [Vl.row, Vl.rows_eq]
    · (repeat' apply And.intro) <;> first | omega | assumption | trivial | (simp [inI, maxLen]; done) | (simp [inI, maxLen]; omega)
    refine AOps.nil ?_
    repeat (first | refine AWp.seq ?_ | refine AWp.block ?_)
    apply AWp.reg [] []
    · conv => lhs; simp [Vl.row, Vl.rows_eq]
    · (repeat' apply And.intro) <;> first | omega | assumption | trivial | (simp [inI, maxLen]; done) | (simp [inI, maxLen]; omega)
    refine ⟨⟨(seen ++ [k], D.aput (.str z) (Vl.row (.mk zc zn zks)) O), hM2, hv2⟩, hmu, ?_⟩
    dsimp only
    exact Le.sub (by simp [Vl.row, Vl.rows_eq]) (by simp [Vl.row, Vl.rows_eq])
  apply AOps.run (l1 := [_]) (l2 := []) (k := 0) [] []
  · conv => lhs; simp [Vl.rows_eq]
  · (repeat' apply And.intro) <;> first | omega | assumption | trivial | (simp [inI, maxLen]; done) | (simp [inI, maxLen]; omega)
  refine AOps.nil ?_
  repeat (first | refine AWp.seq ?_ | refine AWp.block ?_)
  refine AWp.cond rfl (fun hc => ?_) (fun hc => ?_)
  · cases hc
  refine AWp.exit ?_
  have hM2 := hM
  have hO2 : ∀ s, D.aget (.str s) O = (D.aget (.str s) (entE more)).or (D.aget (.str s) O1) := hM.over hp2 (entE_ents more) hall
  have hv2 := hv
  clear hM hv hall
  obtain ⟨O2, hOd2⟩ : ∃ O2, O2 = O := ⟨_, rfl⟩
  rw [← hOd2] at hO2 hM2 hv2 ⊢
  clear hOd2
  repeat (first | refine AWp.seq ?_ | refine AWp.block ?_)
  apply AWp.reg [] []
  · conv => lhs; simp
  · trivial
  have hall : O2.Perm (entE (more ++ env)) := EntS.perm hM2.ents (entE_ents _) fun s => by
    rw [hO2 s, hO1 s, entE_get, entE_get, entE_get, envGet_append]
    cases envGet more s <;> cases envGet env s <;> simp [D.aget]
  refine AWp.le (Le.unbirth 1000 (ents := entE env) rfl hp1) ?_
  refine AWp.le (Le.unbirth 1001 (ents := entE more) rfl hp2) ?_
  refine AWp.le (Le.low [] [] (fr := [(3, .mp 9)]) (mem := [(1000, some (mapO env)), (1001, some (mapO more)), (1002, some (.blk 95 [.mp 1000])), (9, some (mapO (more ++ env)))]) rfl (by simp) (by simp; exact hall)) ?_
  refine AWp.le (Le.give _ 9 500 rfl rfl rfl) ?_
  refine AWp.ret ?_
  try dsimp only [thenQ, blockQ]
  apply endC.ret
  · rfl
  · conv => lhs; simp [resAV, Try.results67, AS.swap, swN]
  · rfl
  · simp [moEnd, memGet, AS.swap, swN]

end Go.Proofs.Ytialccgjbanmcaa
