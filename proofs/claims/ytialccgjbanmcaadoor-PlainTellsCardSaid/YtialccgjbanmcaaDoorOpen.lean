/- Words and laws of the abstract machine by which this seat is proved. -/
import Derived.Test.YtialccgjbanmcaaDoorEng1
import Derived.Test.YtialccgjbanmcaaDoorRows
import Derived.SizedLaws
import Derived.Deep.Slices
import Derived.Test.YtialccgjbanmcaaDoorEng3
import Derived.Carry
import Derived.JoinedOf
import Derived.KernelRfl
/- Opening: what came in as an argument of plain data (numbers, bools, strings, slices, structs, whatever their nesting) reads as a tree of data. Nothing here speaks of a program. -/
namespace Go.Proofs.YtialccgjbanmcaaDoor
open Go.RowKit Go.ChangeShapes Go.WideShapes
set_option linter.unusedVariables false

/-- A row of cells that a type allows. -/
inductive RT (P : Program) : TypeId → List D → Prop where
  | int {t : TypeId} (n : Int) (h : P.underlying t = some (.int .i64)) (lo : -9223372036854775808 ≤ n) (hi : n ≤ 9223372036854775807) : RT P t [.int n]
  | bool {t : TypeId} (b : Bool) (h : P.underlying t = some .bool) : RT P t [.bool b]
  | str {t : TypeId} (s : ByteArray) (h : P.underlying t = some .string) (hs : s.size ≤ reachBytes) : RT P t [.str s]
  | sl {t e : TypeId} (rows : List (List D)) (h : P.underlying t = some (.slice e)) (hl : rows.length * P.bytesOf e ≤ reachBytes) (hr : ∀ r ∈ rows, RT P e r) : RT P t [.sl rows]
  | struct {t : TypeId} {fs : Array Field} (parts : List (List D)) (h : P.underlying t = some (.struct fs)) (hl : parts.length = fs.size)
      (hf : ∀ (i : Nat) (f : Field) (p : List D), fs[i]? = some f → parts[i]? = some p → RT P f.type p) : RT P t parts.flatten

mutual
/-- How much a datum holds. -/
def D.bulk : D → Nat
  | .str s => s.size + 1
  | .sl rows => D.bulkRows rows + 1
  | .ptr row => D.bulkRow row + 1
  | _ => 1
def D.bulkRow : List D → Nat
  | [] => 0
  | d :: r => D.bulk d + D.bulkRow r
def D.bulkRows : List (List D) → Nat
  | [] => 0
  | r :: l => D.bulkRow r + D.bulkRows l
end
theorem bulkRow_append (a b : List D) : D.bulkRow (a ++ b) = D.bulkRow a + D.bulkRow b := by
  induction a with
  | nil => simp [D.bulkRow]
  | cons d r ih => simp only [List.cons_append, D.bulkRow, ih]; omega
theorem bulkRows_mem {r : List D} : ∀ {l : List (List D)}, r ∈ l → D.bulkRow r ≤ D.bulkRows l
  | [], h => by cases h
  | x :: l, h => by
    simp only [D.bulkRows]
    rcases List.mem_cons.1 h with rfl | h
    · omega
    · have := bulkRows_mem h; omega

/-- The fields lie one behind the other. -/
def tiled (P : Program) : Nat → List Field → Nat → Bool
  | n, [], m => n == m
  | n, f :: r, m => f.offset == n && tiled P (n + P.cellsOf f.type) r m

/-- A set of types that are plain, and so are those of which they are made. -/
def plainSet (P : Program) (S : List TypeId) : Bool :=
  S.all fun t => match P.underlying t with
    | some (.int .i64) => true
    | some .bool => true
    | some .string => true
    | some (.slice e) => S.contains e && decide (0 < P.cellsOf e)
    | some (.struct fs) => fs.toList.all (fun f => S.contains f.type) && tiled P 0 fs.toList (P.cellsOf t)
    | _ => false

section
variable {H : Type} {enc : TypeId × Value → H} {P : Program} {w : World} {spare : Nat → Bool} {held : Bool}

/-- The cells of a list of values read as a row of data. -/
def Reads (w : World) (cs : List Value) (ds : List D) : Prop :=
  ds.length = cs.length ∧ ∀ (i : Nat) (d : D) (v : Value), ds[i]? = some d → cs[i]? = some v → Rep w (fun b => b < w.heap.size) d v

theorem Reads.one {d : D} {v : Value} (h : Rep w (fun b => b < w.heap.size) d v) : Reads w [v] [d] := by
  refine ⟨rfl, fun i d' v' h1 h2 => ?_⟩
  match i with
  | 0 => simp only [List.getElem?_cons_zero, Option.some.injEq] at h1 h2; subst h1; subst h2; exact h
  | i + 1 => simp at h1

theorem Reads.append {cs cs' : List Value} {ds ds' : List D} (h : Reads w cs ds) (h' : Reads w cs' ds') : Reads w (cs ++ cs') (ds ++ ds') := by
  refine ⟨by simp [h.1, h'.1], fun i d v h1 h2 => ?_⟩
  by_cases hi : i < ds.length
  · rw [List.getElem?_append_left hi] at h1
    rw [List.getElem?_append_left (by rw [← h.1]; exact hi)] at h2
    exact h.2 i d v h1 h2
  · rw [List.getElem?_append_right (by omega)] at h1
    rw [List.getElem?_append_right (by rw [← h.1]; omega), ← h.1] at h2
    exact h'.2 _ d v h1 h2

theorem cell?_block_lt {p : Addr} {v : Value} (h : w.cell? p = some v) : p.block < w.heap.size := by
  unfold World.cell? at h
  rcases Nat.lt_or_ge p.block w.heap.size with h1 | h1
  · exact h1
  · rw [Array.getElem?_eq_none h1] at h
    cases h

theorem weights_all {t : TypeId} {ds : List (DataW H)} {i : Nat} {d : DataW H} (h : (DataW.weightsAll P t ds).all (· ≤ reachBytes) = true) (hi : ds[i]? = some d) : (d.weights P t).all (· ≤ reachBytes) = true := by
  induction ds generalizing i with
  | nil => simp at hi
  | cons x r ih =>
    simp only [DataW.weightsAll, List.all_append, Bool.and_eq_true] at h
    match i with
    | 0 => simp only [List.getElem?_cons_zero, Option.some.injEq] at hi; subst hi; exact h.1
    | i + 1 => exact ih h.2 (by simpa using hi)

theorem weights_each {ts : List TypeId} {ds : List (DataW H)} {i : Nat} {t : TypeId} {d : DataW H} (h : (DataW.weightsEach P ts ds).all (· ≤ reachBytes) = true) (ht : ts[i]? = some t) (hi : ds[i]? = some d) : (d.weights P t).all (· ≤ reachBytes) = true := by
  refine List.all_eq_true.2 fun n hn => ?_
  exact List.all_eq_true.1 h n (DataW.weights_mem_each ht hi n hn)

theorem rep_of_trod {S : List TypeId} (hS : plainSet P S = true) : ∀ (fuel : Nat) (t : TypeId) (cs : List Value) (x : DataW H × List MemPlace), t ∈ S → DataW.trod enc P w 0 spare held fuel t cs = some x →
    (x.1.weights P t).all (· ≤ reachBytes) = true → ∃ ds, Reads w cs ds ∧ RT P t ds ∧ D.bulkRow ds ≤ Rows.uptoBulk x.1 := by
  intro fuel
  induction fuel with
  | zero => intro t cs x _ h; simp [DataW.trod] at h
  | succ n ih =>
    intro t cs x hT h hw
    have hp := List.all_eq_true.1 hS t hT
    cases hu : P.underlying t with
    | none => simp [hu] at hp
    | some u =>
      rw [hu] at hp
      cases u with
      | int k =>
        cases k <;> first | (simp at hp; done) | skip
        obtain ⟨m, rfl, rfl, hwf⟩ := DataW.trod_int hu h
        have hb : -9223372036854775808 ≤ m ∧ m ≤ 9223372036854775807 := by simpa [Lit.wf, IntKind.min, IntKind.max, IntKind.signed, IntKind.bits] using hwf
        exact ⟨[.int m], Reads.one (.int m hb.1 hb.2), .int m hu hb.1 hb.2, by simp [D.bulkRow, D.bulk, Rows.uptoBulk]⟩
      | bool =>
        obtain ⟨b, rfl, rfl⟩ := DataW.trod_bool hu h
        exact ⟨[.bool b], Reads.one (.bool b), .bool b hu, by simp [D.bulkRow, D.bulk, Rows.uptoBulk]⟩
      | string =>
        obtain ⟨s, rfl, rfl, hs⟩ := DataW.trod_string hu h
        refine ⟨[.str s], Reads.one (.str s hs), .str s hu ?_, by simp [D.bulkRow, D.bulk, Rows.uptoBulk]⟩
        simpa [DataW.weights] using hw
      | slice e =>
        simp only [Bool.and_eq_true, decide_eq_true_eq] at hp
        have heS : e ∈ S := by simpa using hp.1
        rcases DataW.trod_slice hu h with ⟨rfl, rfl⟩ | ⟨a, len, cap, elems, rest, n', hn, rfl, rfl, hb, hl, hm, hlen, hel, _, _⟩
        · exact ⟨[.sl []], Reads.one (.empty none 0 (fun _ => rfl) (Nat.zero_le _)), .sl [] hu (by simp) (by simp), by simp [D.bulkRow, D.bulk, D.bulkRows, Rows.uptoBulk]⟩
        · cases hn
          simp only [DataW.weights, hu, List.all_cons, List.all_append, Bool.and_eq_true, decide_eq_true_eq, List.length_map] at hw
          obtain ⟨hw1, hw2, _⟩ := hw
          have hex : ∀ i, i < len → ∃ q : List Value × List D, q.1.length = P.cellsOf e ∧ (∀ j, j < P.cellsOf e → w.cell? ((a.add (i * P.cellsOf e)).add j) = q.1[j]?) ∧ Reads w q.1 q.2 ∧ RT P e q.2 ∧ ∀ y, elems[i]? = some y → D.bulkRow q.2 ≤ Rows.uptoBulk y.1 := by
            intro i hi
            have hb := hel i hi
            rw [List.getElem?_eq_getElem (by omega)] at hb
            obtain ⟨cs', h1, h2⟩ := Option.bind_eq_some_iff.1 hb
            obtain ⟨_, h3, h4⟩ := World.cells?_some h1
            obtain ⟨ds, h5, h6, h7⟩ := ih e cs' _ heS h2 (weights_all hw2 (i := i) (by rw [List.getElem?_map, List.getElem?_eq_getElem (by omega)]; rfl))
            exact ⟨(cs', ds), h3, h4, h5, h6, fun y hy => by rw [List.getElem?_eq_getElem (by omega)] at hy; cases hy; exact h7⟩
          obtain ⟨q, hq⟩ := Deep.choose_lt hex
          have hrows : ∀ (i : Nat) (r : List D), ((List.range len).map fun i => (q i).2)[i]? = some r → i < len ∧ r = (q i).2 := by
            intro i r hr
            rw [List.getElem?_map] at hr
            rcases Nat.lt_or_ge i len with hi | hi
            · rw [List.getElem?_range hi] at hr
              exact ⟨hi, (Option.some.inj hr).symm⟩
            · rw [List.getElem?_eq_none (by simpa using hi)] at hr
              cases hr
          have hbk : ∀ (l : List (DataW H × List MemPlace)) (k : Nat), (∀ i, i < l.length → ∀ y, l[i]? = some y → D.bulkRow (q (k + i)).2 ≤ Rows.uptoBulk y.1) → D.bulkRows ((List.range' k l.length).map fun i => (q i).2) ≤ Rows.uptoBulkAll (l.map (·.1)) := by
            intro l
            induction l with
            | nil => intro k _; simp [D.bulkRows]
            | cons y l ihl =>
              intro k hq'
              simp only [List.length_cons, List.range'_succ, List.map_cons, D.bulkRows, Rows.uptoBulkAll]
              have h1 := hq' 0 (by simp) y rfl
              have h2 := ihl (k + 1) fun i hi z hz => by have := hq' (i + 1) (by simpa using hi) z (by simpa using hz); rw [show k + 1 + i = k + (i + 1) from by omega]; exact this
              rw [Nat.add_zero] at h1
              omega
          have hb0 := hbk elems 0 fun i hi y hy => by rw [Nat.zero_add]; exact (hq i (by omega)).2.2.2.2 y hy
          rw [hlen, ← List.range_eq_range'] at hb0
          refine ⟨[.sl ((List.range len).map fun i => (q i).2)], Reads.one ?_, .sl _ hu ?_ ?_, by simp only [D.bulkRow, D.bulk, Rows.uptoBulk]; omega⟩
          · rcases Nat.eq_zero_or_pos len with rfl | hpos
            · exact .empty (some a) cap (by simp) hm
            · obtain ⟨b, o, sp⟩ := a
              have hc0 := hq 0 hpos
              have hv0 : ∃ v, (q 0).1[0]? = some v := ⟨(q 0).1[0]'(by rw [hc0.1]; exact hp.2), List.getElem?_eq_getElem _⟩
              obtain ⟨v0, hv0⟩ := hv0
              have hcell0 := (hc0.2.1 0 hp.2).trans hv0
              have hsp : sp = none := by simpa [Addr.add] using World.cell?_spot hcell0
              subst hsp
              have hblt := cell?_block_lt hcell0
              have hrep := Rep.sl (w := w) (ok := fun b => b < w.heap.size) ((List.range len).map fun i => (q i).2) (P.cellsOf e) b o cap (fun i j => (q i).1.getD j .nilIface) (by simp; omega) (by simpa using hl) hm
                (fun i r hr => by obtain ⟨hi, rfl⟩ := hrows i r hr; rw [(hq i hi).2.2.1.1, (hq i hi).1]) (by simpa [Addr.add] using hblt) ?_ ?_
              · simpa using hrep
              · intro i j hi hj
                have hi' : i < len := by simpa using hi
                have := (hq i hi').2.1 j hj
                rw [Deep.add_add, add_plain] at this
                rw [this, List.getD, List.getElem?_eq_getElem (by rw [(hq i hi').1]; exact hj)]
                rfl
              · intro i j r d hr hd
                obtain ⟨hi, rfl⟩ := hrows i r hr
                have hj : j < (q i).2.length := (List.getElem?_eq_some_iff.1 hd).1
                rw [(hq i hi).2.2.1.1] at hj
                refine (hq i hi).2.2.1.2 j d _ hd ?_
                rw [List.getD, List.getElem?_eq_getElem hj]
                rfl
          · have : len * P.bytesOf e ≤ (elems.length + rest.length) * P.bytesOf e := Nat.mul_le_mul_right _ (by omega)
            simp
            omega
          · intro r hr
            obtain ⟨i, hi⟩ := List.mem_iff_getElem?.1 hr
            obtain ⟨hi', rfl⟩ := hrows i r hi
            exact (hq i hi').2.2.2.1
      | struct fs =>
        simp only [Bool.and_eq_true] at hp
        obtain ⟨xs, n', hn, rfl, hcl, hxl, hf⟩ := DataW.trod_struct hu h
        cases hn
        simp only [DataW.weights, hu] at hw
        have key : ∀ (l : List Field) (k pos : Nat), (∀ i, l[i]? = fs[k + i]?) → tiled P pos l (P.cellsOf t) = true → pos ≤ cs.length → ∃ parts : List (List D), parts.length = l.length ∧ Reads w (cs.drop pos) parts.flatten ∧ D.bulkRow parts.flatten ≤ Rows.uptoBulkAll ((xs.drop k).map (·.1)) ∧
            ∀ (i : Nat) (f : Field) (p : List D), l[i]? = some f → parts[i]? = some p → RT P f.type p := by
          intro l
          induction l with
          | nil =>
            intro k pos _ ht hpos
            simp only [tiled, beq_iff_eq] at ht
            refine ⟨[], rfl, ?_, by simp [D.bulkRow], by simp⟩
            rw [List.drop_of_length_le (by omega)]
            exact ⟨rfl, by simp⟩
          | cons f r ihl =>
            intro k pos hl ht hpos
            simp only [tiled, Bool.and_eq_true, beq_iff_eq] at ht
            have hfk : fs[k]? = some f := by have := hl 0; simpa using this.symm
            have hfS : f.type ∈ S := by
              have := List.all_eq_true.1 hp.1 f (by have := Array.mem_of_getElem? hfk; simpa using this)
              simpa using this
            have hx := hf k f hfk
            have hkx : k < xs.length := by rw [hxl]; exact (Array.getElem?_eq_some_iff.1 hfk).1
            rw [List.getElem?_eq_getElem hkx, ht.1] at hx
            obtain ⟨ds, h5, h6, h6b⟩ := ih f.type _ _ hfS hx (weights_each hw (i := k) (by rw [List.getElem?_map]; simp [hfk]) (by rw [List.getElem?_map, List.getElem?_eq_getElem hkx]; rfl))
            have hle : pos + P.cellsOf f.type ≤ cs.length := by
              have hm : ∀ (l : List Field) (p m : Nat), tiled P p l m = true → p ≤ m := by
                intro l
                induction l with
                | nil => intro p m h; simp only [tiled, beq_iff_eq] at h; omega
                | cons g r ih => intro p m h; simp only [tiled, Bool.and_eq_true] at h; have := ih _ _ h.2; omega
              rw [hcl]
              exact hm _ _ _ ht.2
            obtain ⟨parts, h7, h8, h8b, h9⟩ := ihl (k + 1) (pos + P.cellsOf f.type) (fun i => by have := hl (i + 1); rw [List.getElem?_cons_succ] at this; rw [this]; congr 1; omega) ht.2 hle
            refine ⟨ds :: parts, by simp [h7], ?_, ?_, ?_⟩
            · have e : cs.drop pos = (cs.drop pos).take (P.cellsOf f.type) ++ cs.drop (pos + P.cellsOf f.type) := by
                rw [← List.drop_drop, List.take_append_drop]
              rw [e, List.flatten_cons]
              exact h5.append h8
            · rw [List.flatten_cons, bulkRow_append, List.drop_eq_getElem_cons hkx]
              simp only [List.map_cons, Rows.uptoBulkAll]
              omega
            · intro i g p hg hpp
              match i with
              | 0 => simp only [List.getElem?_cons_zero, Option.some.injEq] at hg hpp; subst hg; subst hpp; exact h6
              | i + 1 => exact h9 i g p (by simpa using hg) (by simpa using hpp)
        obtain ⟨parts, h7, h8, h8b, h9⟩ := key fs.toList 0 0 (fun i => by simp) hp.2 (Nat.zero_le _)
        refine ⟨parts.flatten, by simpa using h8, .struct parts hu (by simpa using h7) fun i f p hfi hpi => h9 i f p (by simpa using hfi) hpi, ?_⟩
        simp only [Rows.uptoBulk]
        simp only [List.drop_zero] at h8b
        omega
      | _ => simp at hp

end
end Go.Proofs.YtialccgjbanmcaaDoor

/- Opening: from what the machine says of a law's function ('PSpec': true, whatever plain data it is handed) to what a row asks of it. Nothing here speaks of a program. -/
namespace Go.Proofs.YtialccgjbanmcaaDoor
open Go.RowKit Go.ChangeShapes Go.WideShapes
set_option linter.unusedVariables false

/-- What the machine is told of an argument of a type. -/
inductive ArgRT (P : Program) : TypeId → AV → Prop where
  | one {t : TypeId} {d : D} (h : RT P t [d]) (hn : ∀ fs, P.underlying t ≠ some (.struct fs)) : ArgRT P t (.d d)
  | agg {t : TypeId} {ds : List D} {fs : Array Field} (h : RT P t ds) (hs : P.underlying t = some (.struct fs)) : ArgRT P t (.agg (ds.map .d))

def AV.bulk : AV → Nat
  | .d x => x.bulk
  | .agg cs => D.bulkRow ((toDs cs).getD [])
  | _ => 0
def avBulk : List AV → Nat
  | [] => 0
  | c :: r => c.bulk + avBulk r
theorem toDs_map (ds : List D) : toDs (ds.map .d) = some ds := by
  induction ds with
  | nil => rfl
  | cons d r ih => simp only [List.map_cons, toDs, toD1, ih]

def ArgsRT (P : Program) : List TypeId → List AV → Prop
  | [], [] => True
  | t :: ts, c :: cs => ArgRT P t c ∧ ArgsRT P ts cs
  | _, _ => False

section
variable {H : Type} {enc : TypeId × Value → H} {P : Program} {w W W' : World}

theorem reads_vr {cs : List Value} {ds : List D} (h : Reads w cs ds) (i : Nat) (c : AV) (v : Value) (hc : (ds.map AV.d)[i]? = some c) (hv : cs[i]? = some v) : VR w (fun b => b < w.heap.size) noG noM c v := by
  rw [List.getElem?_map] at hc
  cases hd : ds[i]? with
  | none => rw [hd] at hc; cases hc
  | some d =>
    rw [hd] at hc
    cases hc
    exact .d d v (h.2 i d v hd hv)

theorem reads_cell {cs : List Value} {ds : List D} (h : Reads w cs ds) (i : Nat) (v : Value) (hv : cs[i]? = some v) : v.oneCell' = true := by
  have hi : i < ds.length := by rw [h.1]; exact (List.getElem?_eq_some_iff.1 hv).1
  exact (h.2 i ds[i] v (List.getElem?_eq_getElem hi) hv).oneCell

theorem arg_of_trod {S : List TypeId} (hS : plainSet P S = true) {spare : Nat → Bool} {held : Bool} {t : TypeId} {v : Value} {d : DataW H} {ps : List MemPlace} (hT : t ∈ S) {base : Nat} (hval : Value.okWide P w .any base t v)
    (h : DataW.Trod enc P w 0 spare held t v d ps) (hw : (d.weights P t).all (· ≤ reachBytes) = true) : ∃ c, ArgRT P t c ∧ VR w (fun b => b < w.heap.size) noG noM c v ∧ c.bulk ≤ Rows.uptoBulk d := by
  obtain ⟨n, hn⟩ := h
  obtain ⟨ds, h1, h2, hbk⟩ := rep_of_trod hS n t _ _ hT hn hw
  have hone : (∀ fs, P.underlying t ≠ some (.struct fs)) → v.cells = #[v] → ∃ c, ArgRT P t c ∧ VR w (fun b => b < w.heap.size) noG noM c v ∧ c.bulk ≤ Rows.uptoBulk d := fun hns hcells => by
    rw [hcells] at h1
    have hl := h1.1
    match ds, hl with
    | [d], _ => exact ⟨.d d, .one h2 hns, .d d v (h1.2 0 d v rfl rfl), by simpa [D.bulkRow, AV.bulk] using hbk⟩
  have hp := List.all_eq_true.1 hS t hT
  cases hu : P.underlying t with
  | none => simp [hu] at hp
  | some u =>
    cases u with
    | int k => obtain ⟨_, rfl⟩ := okWide_int hu hval; exact hone (by simp [hu]) rfl
    | bool => obtain ⟨_, rfl⟩ := okWide_bool hu hval; exact hone (by simp [hu]) rfl
    | string => obtain ⟨_, rfl⟩ := okWide_string hu hval; exact hone (by simp [hu]) rfl
    | slice e => obtain ⟨_, _, _, rfl⟩ := okWide_slice hu hval; exact hone (by simp [hu]) rfl
    | struct fs =>
      obtain ⟨cs, rfl, _⟩ := okWide_struct hu hval
      have h1' : Reads w cs.toList ds := h1
      refine ⟨.agg (ds.map .d), .agg h2 hu, .agg _ _ (by have := h1'.1; simpa using this) (fun i c v hc hv => ?_) (fun i v hv => ?_), by simp only [AV.bulk, toDs_map, Option.getD_some]; exact hbk⟩
      · exact reads_vr h1' i c v hc (by simpa using hv)
      · exact reads_cell h1' i v (by simpa using hv)
    | _ => simp [hu] at hp

theorem args_of_trod {S : List TypeId} (hS : plainSet P S = true) {spare : Nat → Bool} {held : Bool} {base : Nat} : ∀ {ts : List TypeId} {vs : List Value} {ds : List (DataW H)} {ps : List MemPlace}, (∀ t ∈ ts, t ∈ S) →
    (∀ (j : Nat) t v, ts[j]? = some t → vs[j]? = some v → Value.okWide P w .any base t v) → DataW.TrodAll enc P w 0 spare held ts vs ds ps → (DataW.weightsEach P ts ds).all (· ≤ reachBytes) = true →
    ∃ cs, ArgsRT P ts cs ∧ cs.length = vs.length ∧ (∀ (i : Nat) (c : AV) (v : Value), cs[i]? = some c → vs[i]? = some v → VR w (fun b => b < w.heap.size) noG noM c v) ∧ avBulk cs ≤ Rows.uptoBulkAll ds
  | [], [], [], _, _, _, _, _ => ⟨[], trivial, rfl, fun i c v h => by simp at h, by simp [avBulk]⟩
  | t :: ts, v :: vs, d :: ds, ps, hT, hval, ⟨p, q, h1, h2, e⟩, hw => by
    simp only [DataW.weightsEach, List.all_append, Bool.and_eq_true] at hw
    obtain ⟨c, k1, k2, k2b⟩ := arg_of_trod hS (hT t (List.mem_cons_self ..)) (hval 0 t v rfl rfl) h1 hw.1
    obtain ⟨cs, k3, k4, k5, k6⟩ := args_of_trod hS (fun t ht => hT t (List.mem_cons_of_mem _ ht)) (fun j t v ht hv => hval (j + 1) t v (by simpa using ht) (by simpa using hv)) h2 hw.2
    refine ⟨c :: cs, ⟨k1, k3⟩, by simp [k4], fun i c' v' hc hv => ?_, by simp only [avBulk, Rows.uptoBulkAll]; omega⟩
    match i with
    | 0 => simp only [List.getElem?_cons_zero, Option.some.injEq] at hc hv; subst hc; subst hv; exact k2
    | i + 1 => exact k5 i c' v' (by simpa using hc) (by simpa using hv)

theorem trodAll_below (hl : laidOutB P = true) (hb : Below W.heap.size W W') : ∀ {ts : List TypeId} {vs : List Value} {ds : List (DataW H)} {ps : List MemPlace}, (∀ t ∈ ts, P.readableRec t = true ∧ t < P.types.size) →
    DataW.TrodAll enc P W 0 (fun _ => true) true ts vs ds ps → (∀ x ∈ ps, x.block < W.heap.size) → DataW.TrodAll enc P W' 0 (fun b => decide (b < W.heap.size)) true ts vs ds ps
  | [], [], [], _, _, h, _ => h
  | t :: ts, v :: vs, d :: ds, ps, hT, ⟨p, q, h1, h2, e⟩, hlt => by
    subst e
    exact ⟨p, q, Below.trod hl (hT t (List.mem_cons_self ..)).1 (hT t (List.mem_cons_self ..)).2 h1 hb (fun x hx => hlt x (List.mem_append_left _ hx)),
      trodAll_below hl hb (fun t ht => hT t (List.mem_cons_of_mem _ ht)) h2 (fun x hx => hlt x (List.mem_append_right _ hx)), rfl⟩

theorem trodAll_len : ∀ {ts : List TypeId} {vs : List Value} {ds : List (DataW H)} {ps : List MemPlace} {b : Nat} {sp : Nat → Bool} {hd : Bool}, DataW.TrodAll enc P W b sp hd ts vs ds ps → ds.length = ts.length
  | [], [], [], _, _, _, _, _ => rfl
  | t :: ts, v :: vs, d :: ds, ps, _, _, _, ⟨p, q, h1, h2, e⟩ => by simp [trodAll_len h2]

/-- A LAW: what a row's proof asks of a call, out of what the machine says. -/
theorem law_contract {S : List TypeId} (hS : plainSet P S = true) {k : Nat} {fn : Func} (hp : ∀ t ∈ fn.params.toList, t ∈ S) {s : ChangeSpec} (hv : s.vars = []) {tb : TypeId} (hrt : fn.resultTypes = #[tb]) (hub : P.underlying tb = some .bool)
    (hl : laidOutB P = true) (hr : ∀ t ∈ fn.params.toList, P.readableRec t = true ∧ t < P.types.size)
    (hs : ∀ ds : List (DataW H), ds.length = fn.params.toList.length → s.fn H ds = { results := [.lit (.bool true)], args := ds })
    {B : Nat} (hspec : ∀ cs : List AV, ArgsRT P fn.params.toList cs → avBulk cs ≤ B → PSpec P k cs (fun _ => .d (.bool true)) none)
    {base : Nat} {args : Array Value} {ds gs : List (DataW H)} {before : List MemPlace} (hbulk : Rows.uptoBulkAll ds ≤ B) (hval : ∀ (j : Nat) t v, fn.params[j]? = some t → args[j]? = some v → Value.okWide P W .any base t v)
    (hW : DataW.Whole enc P fn.params.toList s.vars false W args.toList ds gs before) (hw : (DataW.weightsEach P (fn.params.toList ++ s.plain.varTypes P) (ds ++ gs)).all (· ≤ reachBytes) = true) (hgi : GI W) :
    Calls P k args W fun e W' => ∃ v, e = .returned v ∧ s.post enc P fn false true false false W args v W' := by
  have hW' := hW
  obtain ⟨p, q, hA, hV, rfl, hfz, hnd⟩ := hW
  rw [hv] at hV
  obtain ⟨hgs, rfl⟩ := trodVars_none hV
  subst hgs
  have hlen := trodAll_len hA
  have hw' : (DataW.weightsEach P fn.params.toList ds).all (· ≤ reachBytes) = true := by
    refine List.all_eq_true.2 fun n hn => List.all_eq_true.1 hw n ?_
    rw [List.append_nil]
    have : ∀ (ts us : List TypeId) (ds : List (DataW H)), n ∈ DataW.weightsEach P ts ds → n ∈ DataW.weightsEach P (ts ++ us) ds := by
      intro ts
      induction ts with
      | nil => intro us ds h; simp [DataW.weightsEach] at h
      | cons t r ih =>
        intro us ds h
        cases ds with
        | nil => simp [DataW.weightsEach] at h
        | cons d ds =>
          simp only [List.cons_append, DataW.weightsEach, List.mem_append] at h ⊢
          exact h.imp id (ih us ds)
    exact this _ _ _ hn
  obtain ⟨cs, h1, h2, h3, h4⟩ := args_of_trod hS (base := base) hp (fun j t v ht hv => hval j t v (by simpa using ht) (by simpa using hv)) hA hw'
  refine ((hspec cs h1 (by omega)).run 0 W (fun b => b < W.heap.size) args hgi (fun b hb => hb) (by simpa using h2) (fun i c v hc hv => h3 i c v hc (by simpa using hv))).mono ?_
  rintro e W' ⟨v, ok', g', rfl, hB, _, _, hvr, _⟩
  have hvt : v = .bool true := by
    cases hvr with
    | d _ _ h => cases h; rfl
  subst hvt
  have hlt : ∀ x ∈ p ++ [], x.block < W.heap.size := hW'.lt
  refine ⟨_, rfl, ds, [], p ++ [], [], p ++ [], [], hW', ?_, ?_, ?_, hB.frame _, fun h => by cases h⟩
  · rw [List.append_nil, hs ds hlen, hrt]
    exact trodAll_cons_mk (shut_bool hub _) trodAll_mk0
  · rw [List.append_nil, hs ds hlen, List.append_nil]
    exact trodAll_below hl hB hr hA (by simpa using hlt)
  · rw [List.append_nil, hs ds hlen, hv]
    rfl

end
end Go.Proofs.YtialccgjbanmcaaDoor

/- Opening: what a type allows, by the type's kind. Nothing here speaks of a program. -/
namespace Go.Proofs.YtialccgjbanmcaaDoor
set_option linter.unusedVariables false

section
variable {P : Program} {t e : TypeId} {ds : List D} {c : AV}

theorem RT.int_inv (h : RT P t ds) (hu : P.underlying t = some (.int .i64)) : ∃ n : Int, ds = [.int n] ∧ -9223372036854775808 ≤ n ∧ n ≤ 9223372036854775807 := by
  cases h <;> simp_all
theorem RT.bool_inv (h : RT P t ds) (hu : P.underlying t = some .bool) : ∃ b : Bool, ds = [.bool b] := by
  cases h <;> simp_all
theorem RT.str_inv (h : RT P t ds) (hu : P.underlying t = some .string) : ∃ s : ByteArray, ds = [.str s] ∧ s.size ≤ reachBytes := by
  cases h <;> simp_all
theorem RT.sl_inv (h : RT P t ds) (hu : P.underlying t = some (.slice e)) : ∃ rows : List (List D), ds = [.sl rows] ∧ rows.length * P.bytesOf e ≤ reachBytes ∧ ∀ r ∈ rows, RT P e r := by
  cases h with
  | sl rows h hl hr =>
    rw [hu] at h
    cases h
    exact ⟨rows, rfl, hl, hr⟩
  | _ => simp_all
theorem RT.struct_inv {fs : Array Field} (h : RT P t ds) (hu : P.underlying t = some (.struct fs)) : ∃ parts : List (List D), ds = parts.flatten ∧ parts.length = fs.size ∧
    ∀ (i : Nat) (f : Field) (p : List D), fs[i]? = some f → parts[i]? = some p → RT P f.type p := by
  cases h with
  | struct parts h hl hf =>
    rw [hu] at h
    cases h
    exact ⟨parts, rfl, hl, hf⟩
  | _ => simp_all
theorem RT.struct2_inv {f0 f1 : Field} (h : RT P t ds) (hu : P.underlying t = some (.struct #[f0, f1])) : ∃ p0 p1, ds = p0 ++ p1 ∧ RT P f0.type p0 ∧ RT P f1.type p1 := by
  obtain ⟨parts, rfl, hl, hf⟩ := h.struct_inv hu
  match parts, hl with
  | [p0, p1], _ => exact ⟨p0, p1, by simp, hf 0 f0 p0 rfl rfl, hf 1 f1 p1 rfl rfl⟩
theorem RT.struct3_inv {f0 f1 f2 : Field} (h : RT P t ds) (hu : P.underlying t = some (.struct #[f0, f1, f2])) : ∃ p0 p1 p2, ds = p0 ++ (p1 ++ p2) ∧ RT P f0.type p0 ∧ RT P f1.type p1 ∧ RT P f2.type p2 := by
  obtain ⟨parts, rfl, hl, hf⟩ := h.struct_inv hu
  match parts, hl with
  | [p0, p1, p2], _ => exact ⟨p0, p1, p2, by simp, hf 0 f0 p0 rfl rfl, hf 1 f1 p1 rfl rfl, hf 2 f2 p2 rfl rfl⟩

/-- A slice, of whatever: its elements as a list. -/
theorem rows_inv {α : Type} {row : α → List D} {p : α → Prop} : ∀ {rows : List (List D)}, (∀ r ∈ rows, ∃ x, r = row x ∧ p x) → ∃ l : List α, rows = l.map row ∧ ∀ x ∈ l, p x
  | [], _ => ⟨[], rfl, by simp⟩
  | r :: rs, h => by
    obtain ⟨x, rfl, hx⟩ := h r (List.mem_cons_self ..)
    obtain ⟨l, rfl, hl⟩ := rows_inv (rows := rs) fun r hr => h r (List.mem_cons_of_mem _ hr)
    exact ⟨x :: l, rfl, by simpa using ⟨hx, hl⟩⟩
theorem RT.list_inv {α : Type} {row : α → List D} {p : α → Prop} (hinv : ∀ r, RT P e r → ∃ x, r = row x ∧ p x) (h : RT P t ds) (hu : P.underlying t = some (.slice e)) :
    ∃ l : List α, ds = [.sl (l.map row)] ∧ l.length * P.bytesOf e ≤ reachBytes ∧ ∀ x ∈ l, p x := by
  obtain ⟨rows, rfl, hl, hr⟩ := h.sl_inv hu
  obtain ⟨l, rfl, hp⟩ := rows_inv fun r h => hinv r (hr r h)
  exact ⟨l, rfl, by simpa using hl, hp⟩
theorem RT.ints_inv (h : RT P t ds) (hu : P.underlying t = some (.slice e)) (he : P.underlying e = some (.int .i64)) :
    ∃ l : List Int, ds = [.sl (l.map fun n => [.int n])] ∧ l.length * P.bytesOf e ≤ reachBytes ∧ ∀ n ∈ l, -9223372036854775808 ≤ n ∧ n ≤ 9223372036854775807 :=
  RT.list_inv (fun r hr => hr.int_inv he) h hu
theorem RT.strs_inv (h : RT P t ds) (hu : P.underlying t = some (.slice e)) (he : P.underlying e = some .string) :
    ∃ l : List ByteArray, ds = [.sl (l.map fun n => [.str n])] ∧ l.length * P.bytesOf e ≤ reachBytes ∧ ∀ n ∈ l, n.size ≤ reachBytes :=
  RT.list_inv (fun r hr => hr.str_inv he) h hu

theorem ArgRT.one_inv (h : ArgRT P t c) (hn : ∀ fs, P.underlying t ≠ some (.struct fs)) : ∃ d, c = .d d ∧ RT P t [d] := by
  cases h with
  | one h _ => exact ⟨_, rfl, h⟩
  | agg h hs => exact absurd hs (hn _)
theorem ArgRT.agg_inv {fs : Array Field} (h : ArgRT P t c) (hu : P.underlying t = some (.struct fs)) : ∃ ds, c = .agg (ds.map .d) ∧ RT P t ds := by
  cases h with
  | one h hn => exact absurd hu (hn _)
  | agg h hs => exact ⟨_, rfl, h⟩
theorem ArgRT.int (h : ArgRT P t c) (hu : P.underlying t = some (.int .i64)) : ∃ n : Int, c = .d (.int n) ∧ -9223372036854775808 ≤ n ∧ n ≤ 9223372036854775807 := by
  obtain ⟨d, rfl, hd⟩ := h.one_inv (by simp [hu])
  obtain ⟨n, hn, h1, h2⟩ := hd.int_inv hu
  exact ⟨n, by simpa using hn, h1, h2⟩
theorem ArgRT.bool (h : ArgRT P t c) (hu : P.underlying t = some .bool) : ∃ b : Bool, c = .d (.bool b) := by
  obtain ⟨d, rfl, hd⟩ := h.one_inv (by simp [hu])
  obtain ⟨n, hn⟩ := hd.bool_inv hu
  exact ⟨n, by simpa using hn⟩
theorem ArgRT.str (h : ArgRT P t c) (hu : P.underlying t = some .string) : ∃ s : ByteArray, c = .d (.str s) ∧ s.size ≤ reachBytes := by
  obtain ⟨d, rfl, hd⟩ := h.one_inv (by simp [hu])
  obtain ⟨n, hn, h1⟩ := hd.str_inv hu
  exact ⟨n, by simpa using hn, h1⟩
theorem ArgRT.list {α : Type} {row : α → List D} {p : α → Prop} (h : ArgRT P t c) (hinv : ∀ r, RT P e r → ∃ x, r = row x ∧ p x) (hu : P.underlying t = some (.slice e)) :
    ∃ l : List α, c = .d (.sl (l.map row)) ∧ l.length * P.bytesOf e ≤ reachBytes ∧ ∀ x ∈ l, p x := by
  obtain ⟨d, rfl, hd⟩ := h.one_inv (by simp [hu])
  obtain ⟨l, hn, h1⟩ := RT.list_inv hinv hd hu
  exact ⟨l, by simpa using hn, h1⟩
theorem ArgRT.ints (h : ArgRT P t c) (hu : P.underlying t = some (.slice e)) (he : P.underlying e = some (.int .i64)) :
    ∃ l : List Int, c = .d (.sl (l.map fun n => [.int n])) ∧ l.length * P.bytesOf e ≤ reachBytes ∧ ∀ n ∈ l, -9223372036854775808 ≤ n ∧ n ≤ 9223372036854775807 :=
  h.list (fun r hr => hr.int_inv he) hu
theorem ArgRT.strs (h : ArgRT P t c) (hu : P.underlying t = some (.slice e)) (he : P.underlying e = some .string) :
    ∃ l : List ByteArray, c = .d (.sl (l.map fun n => [.str n])) ∧ l.length * P.bytesOf e ≤ reachBytes ∧ ∀ n ∈ l, n.size ≤ reachBytes :=
  h.list (fun r hr => hr.str_inv he) hu

theorem ArgsRT.cons_inv {ts : List TypeId} {cs : List AV} (h : ArgsRT P (t :: ts) cs) : ∃ c r, cs = c :: r ∧ ArgRT P t c ∧ ArgsRT P ts r := by
  cases cs with
  | nil => exact h.elim
  | cons c r => exact ⟨c, r, rfl, h.1, h.2⟩
theorem ArgsRT.nil_inv {cs : List AV} (h : ArgsRT P [] cs) : cs = [] := by
  cases cs with
  | nil => rfl
  | cons c r => exact h.elim

end
end Go.Proofs.YtialccgjbanmcaaDoor
