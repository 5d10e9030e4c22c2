/- Terms, cases, functions, values: as trees in Lean, and what a type allows of them. -/
import Derived.Test.YtialccgjbanmcaaDoorOpen
import Derived.Test.YtialccgjbanmcaaDoorTy
namespace Go.Proofs.YtialccgjbanmcaaDoor
open Go.RowKit
set_option linter.unusedVariables false

mutual
/-- A term. -/
inductive Tm where
  | mk (kind n : Int) (name token : ByteArray) (vars : List ByteArray) (args : List Tm) (cases : List Cs)
/-- A case. -/
inductive Cs where
  | mk (tag : Int) (vars : List ByteArray) (body : Tm)
end
/-- A function. -/
structure Fn where
  name : ByteArray
  params : List ByteArray
  body : Tm

mutual
/-- Lists and names are no longer than memory is. -/
def Tm.Ok : Tm → Prop
  | .mk _ _ a b vs xs cs => (a.size ≤ 140737488355328 ∧ b.size ≤ 140737488355328 ∧ (∀ s ∈ vs, s.size ≤ 140737488355328)) ∧ (vs.length ≤ 8796093022207 ∧ xs.length ≤ 1172812402960 ∧ cs.length ≤ 925904528652) ∧ Tm.Oks xs ∧ Cs.Oks cs
def Tm.Oks : List Tm → Prop
  | [] => True
  | t :: r => t.Ok ∧ Tm.Oks r
def Cs.Ok : Cs → Prop
  | .mk _ vs b => (∀ s ∈ vs, s.size ≤ 140737488355328) ∧ vs.length ≤ 8796093022207 ∧ b.Ok
def Cs.Oks : List Cs → Prop
  | [] => True
  | c :: r => c.Ok ∧ Cs.Oks r
end
theorem Tm.Oks_iff : ∀ {l : List Tm}, Tm.Oks l ↔ ∀ t ∈ l, t.Ok
  | [] => by simp [Tm.Oks]
  | t :: r => by simp [Tm.Oks, Tm.Oks_iff (l := r)]
theorem Cs.Oks_iff : ∀ {l : List Cs}, Cs.Oks l ↔ ∀ t ∈ l, t.Ok
  | [] => by simp [Cs.Oks]
  | t :: r => by simp [Cs.Oks, Cs.Oks_iff (l := r)]
structure Fn.Ok (f : Fn) : Prop where
  name : f.name.size ≤ 140737488355328
  params : f.params.length ≤ 8796093022207
  sizes : ∀ s ∈ f.params, s.size ≤ 140737488355328
  body : f.body.Ok
/-- Functions that are not too large. -/
structure FnsOk (l : List Fn) : Prop where
  len : l.length ≤ 879609302220
  all : ∀ f ∈ l, f.Ok
theorem FnsOk.fn {l : List Fn} (h : FnsOk l) : ∀ f ∈ l, f.body.Ok ∧ f.params.length ≤ 8796093022207 := fun f hf => ⟨(h.all f hf).body, (h.all f hf).params⟩

abbrev strR (s : ByteArray) : List D := [.str s]
abbrev strsD (l : List ByteArray) : D := .sl (l.map strR)

mutual
def Tm.row : Tm → List D
  | .mk k n a b vs xs cs => [.int k, .int n, .str a, .str b, strsD vs, .sl (Tm.rows xs), .sl (Cs.rows cs)]
def Tm.rows : List Tm → List (List D)
  | [] => []
  | t :: r => t.row :: Tm.rows r
def Cs.row : Cs → List D
  | .mk t vs b => .int t :: strsD vs :: b.row
def Cs.rows : List Cs → List (List D)
  | [] => []
  | c :: r => c.row :: Cs.rows r
end
theorem Tm.rows_eq (l : List Tm) : Tm.rows l = l.map Tm.row := by
  induction l with
  | nil => rfl
  | cons t r ih => simp only [Tm.rows, List.map_cons, ih]
theorem Cs.rows_eq (l : List Cs) : Cs.rows l = l.map Cs.row := by
  induction l with
  | nil => rfl
  | cons t r ih => simp only [Cs.rows, List.map_cons, ih]
def Fn.row (f : Fn) : List D := .str f.name :: strsD f.params :: f.body.row

mutual
def Tm.sz : Tm → Nat
  | .mk _ _ _ _ _ xs cs => 1 + Tm.szs xs + Cs.szs cs
def Tm.szs : List Tm → Nat
  | [] => 0
  | t :: r => t.sz + Tm.szs r
def Cs.sz : Cs → Nat
  | .mk _ _ b => b.sz
def Cs.szs : List Cs → Nat
  | [] => 0
  | c :: r => c.sz + Cs.szs r
end
theorem Tm.szs_mem {t : Tm} : ∀ {l : List Tm}, t ∈ l → t.sz ≤ Tm.szs l
  | [], h => by cases h
  | x :: l, h => by
    simp only [Tm.szs]
    rcases List.mem_cons.1 h with rfl | h
    · omega
    · have := Tm.szs_mem h; omega
theorem Cs.szs_mem {t : Cs} : ∀ {l : List Cs}, t ∈ l → t.sz ≤ Cs.szs l
  | [], h => by cases h
  | x :: l, h => by
    simp only [Cs.szs]
    rcases List.mem_cons.1 h with rfl | h
    · omega
    · have := Cs.szs_mem h; omega

def Cs.tag : Cs → Int | .mk t _ _ => t
def Cs.vars : Cs → List ByteArray | .mk _ v _ => v
def Cs.body : Cs → Tm | .mk _ _ b => b
def Tm.kind : Tm → Int | .mk k _ _ _ _ _ _ => k
def Tm.n : Tm → Int | .mk _ n _ _ _ _ _ => n
def Tm.name : Tm → ByteArray | .mk _ _ a _ _ _ _ => a
def Tm.token : Tm → ByteArray | .mk _ _ _ b _ _ _ => b
def Tm.vars : Tm → List ByteArray | .mk _ _ _ _ v _ _ => v
def Tm.args : Tm → List Tm | .mk _ _ _ _ _ a _ => a
def Tm.cases : Tm → List Cs | .mk _ _ _ _ _ _ c => c
theorem Cs.sz_eq (c : Cs) : c.sz = c.body.sz := by cases c; rfl

/-- What holds a bulk. -/
theorem bulk_strs (l : List ByteArray) : D.bulk (strsD l) = (l.map fun s => s.size + 1).sum + 1 := by
  simp only [strsD, D.bulk]
  congr 1
  induction l with
  | nil => rfl
  | cons s r ih => simp only [List.map_cons, D.bulkRows, strR, D.bulkRow, D.bulk, ih, List.sum_cons, Nat.add_zero]

abbrev tmAV : Tm → AV
  | .mk k n a b vs xs cs => .agg [.d (.int k), .d (.int n), .d (.str a), .d (.str b), .d (strsD vs), .d (.sl (xs.map Tm.row)), .d (.sl (cs.map Cs.row))]
theorem tmAV_eq (t : Tm) : tmAV t = .agg (t.row.map .d) := by
  cases t
  simp only [tmAV, Tm.row, Tm.rows_eq, Cs.rows_eq, List.map_cons, List.map_nil]
abbrev fnsAV (l : List Fn) : AV := .d (.sl (l.map Fn.row))
abbrev tmsAV (l : List Tm) : AV := .d (.sl (l.map Tm.row))
abbrev strsAV (l : List ByteArray) : AV := .d (strsD l)

/-! ### What the types allow -/
section
variable {ds : List D}

theorem strs_ty {t : TypeId} (h : RT Tryd.prog 28 ds) : ∃ l : List ByteArray, ds = [strsD l] := by
  obtain ⟨l, rfl, _⟩ := h.strs_inv Tryd.underlying28 Tryd.underlying9
  exact ⟨l, rfl⟩

theorem strs_ok (h : RT Tryd.prog 28 ds) : ∃ l : List ByteArray, ds = [strsD l] ∧ l.length ≤ 8796093022207 ∧ ∀ s ∈ l, s.size ≤ 140737488355328 := by
  obtain ⟨l, rfl, hl, hs⟩ := h.strs_inv Tryd.underlying28 Tryd.underlying9
  rw [show Tryd.prog.bytesOf 9 = 16 by kernel_rfl] at hl
  unfold reachBytes at hl hs
  exact ⟨l, rfl, by omega, fun s hm => by have := hs s hm; omega⟩

theorem tm_inv : ∀ (t : TypeId) (ds : List D), RT Tryd.prog t ds → (t = 32 → ∃ x : Tm, ds = x.row ∧ x.Ok) ∧ (t = 29 → ∃ x : List Tm, ds = [.sl (x.map Tm.row)] ∧ x.length ≤ 1172812402960 ∧ ∀ y ∈ x, y.Ok) ∧ (t = 50 → ∃ x : Cs, ds = x.row ∧ x.Ok) ∧ (t = 30 → ∃ x : List Cs, ds = [.sl (x.map Cs.row)] ∧ x.length ≤ 925904528652 ∧ ∀ y ∈ x, y.Ok) := by
  intro t ds h
  induction h with
  | int n h lo hi =>
    refine ⟨?_, ?_, ?_, ?_⟩ <;> (rintro rfl; first | (rw [Tryd.underlying32] at h; cases h) | (rw [Tryd.underlying29] at h; cases h) | (rw [Tryd.underlying50] at h; cases h) | (rw [Tryd.underlying30] at h; cases h))
  | bool b h =>
    refine ⟨?_, ?_, ?_, ?_⟩ <;> (rintro rfl; first | (rw [Tryd.underlying32] at h; cases h) | (rw [Tryd.underlying29] at h; cases h) | (rw [Tryd.underlying50] at h; cases h) | (rw [Tryd.underlying30] at h; cases h))
  | str s h hs =>
    refine ⟨?_, ?_, ?_, ?_⟩ <;> (rintro rfl; first | (rw [Tryd.underlying32] at h; cases h) | (rw [Tryd.underlying29] at h; cases h) | (rw [Tryd.underlying50] at h; cases h) | (rw [Tryd.underlying30] at h; cases h))
  | sl rows h hl hr ih =>
    refine ⟨?_, ?_, ?_, ?_⟩
    · rintro rfl; rw [Tryd.underlying32] at h; cases h
    · rintro rfl
      rw [Tryd.underlying29] at h
      cases h
      obtain ⟨l, rfl, hp⟩ := rows_inv (row := Tm.row) (p := Tm.Ok) fun r hr' => (ih r hr').1 rfl
      refine ⟨l, rfl, ?_, hp⟩
      rw [List.length_map, show Tryd.prog.bytesOf 32 = 120 by kernel_rfl] at hl
      unfold reachBytes at hl
      omega
    · rintro rfl; rw [Tryd.underlying50] at h; cases h
    · rintro rfl
      rw [Tryd.underlying30] at h
      cases h
      obtain ⟨l, rfl, hp⟩ := rows_inv (row := Cs.row) (p := Cs.Ok) fun r hr' => (ih r hr').2.2.1 rfl
      refine ⟨l, rfl, ?_, hp⟩
      rw [List.length_map, show Tryd.prog.bytesOf 50 = 152 by kernel_rfl] at hl
      unfold reachBytes at hl
      omega
  | struct parts h hl hf ih =>
    refine ⟨?_, ?_, ?_, ?_⟩
    · rintro rfl
      rw [Tryd.underlying32] at h
      cases h
      match parts, hl with
      | [p0, p1, p2, p3, p4, p5, p6], _ =>
        obtain ⟨k, rfl, _⟩ := (hf 0 _ p0 rfl rfl).int_inv Tryd.underlying3
        obtain ⟨n, rfl, _⟩ := (hf 1 _ p1 rfl rfl).int_inv Tryd.underlying3
        obtain ⟨a, rfl, ha⟩ := (hf 2 _ p2 rfl rfl).str_inv Tryd.underlying9
        obtain ⟨b, rfl, hb⟩ := (hf 3 _ p3 rfl rfl).str_inv Tryd.underlying9
        obtain ⟨vs, rfl, hv, hvs⟩ := strs_ok (hf 4 _ p4 rfl rfl)
        obtain ⟨xs, rfl, hx, hxs⟩ := (ih 5 _ p5 rfl rfl).2.1 rfl
        obtain ⟨cs, rfl, hc, hcs⟩ := (ih 6 _ p6 rfl rfl).2.2.2 rfl
        unfold reachBytes at ha hb
        exact ⟨.mk k n a b vs xs cs, by simp [Tm.row, Tm.rows_eq, Cs.rows_eq], ⟨⟨by omega, by omega, hvs⟩, ⟨hv, hx, hc⟩, Tm.Oks_iff.2 hxs, Cs.Oks_iff.2 hcs⟩⟩
    · rintro rfl; rw [Tryd.underlying29] at h; cases h
    · rintro rfl
      rw [Tryd.underlying50] at h
      cases h
      match parts, hl with
      | [p0, p1, p2], _ =>
        obtain ⟨k, rfl, _⟩ := (hf 0 _ p0 rfl rfl).int_inv Tryd.underlying3
        obtain ⟨vs, rfl, hv, hvs⟩ := strs_ok (hf 1 _ p1 rfl rfl)
        obtain ⟨b, rfl, hb⟩ := (ih 2 _ p2 rfl rfl).1 rfl
        exact ⟨.mk k vs b, by simp [Cs.row], hvs, hv, hb⟩
    · rintro rfl; rw [Tryd.underlying30] at h; cases h

theorem fn_inv (h : RT Tryd.prog 34 ds) : ∃ f : Fn, ds = f.row ∧ f.Ok := by
  obtain ⟨p0, p1, p2, rfl, h0, h1, h2⟩ := h.struct3_inv Tryd.underlying34
  obtain ⟨a, rfl, ha⟩ := h0.str_inv Tryd.underlying9
  obtain ⟨vs, rfl, hv, hvs⟩ := strs_ok h1
  obtain ⟨b, rfl, hb⟩ := (tm_inv _ _ h2).1 rfl
  unfold reachBytes at ha
  exact ⟨⟨a, vs, b⟩, by simp [Fn.row], ⟨(by omega : a.size ≤ 140737488355328), hv, hvs, hb⟩⟩
theorem fns_inv {c : AV} (h : ArgRT Tryd.prog 22 c) : ∃ l : List Fn, c = .d (.sl (l.map Fn.row)) ∧ FnsOk l := by
  obtain ⟨l, rfl, hl, hp⟩ := h.list (fun r hr => fn_inv hr) Tryd.underlying22
  rw [show Tryd.prog.bytesOf 34 = 160 by kernel_rfl] at hl
  unfold reachBytes at hl
  exact ⟨l, rfl, by omega, hp⟩
end

/-! ### Bulk and size -/
mutual
theorem Tm.sz_bulk : ∀ t : Tm, t.sz ≤ D.bulkRow t.row
  | .mk k n a b vs xs cs => by
    have h1 := Tm.szs_bulk xs
    have h2 := Cs.szs_bulk cs
    simp only [Tm.sz, Tm.row, D.bulkRow, D.bulk]
    omega
theorem Tm.szs_bulk : ∀ l : List Tm, Tm.szs l ≤ D.bulkRows (Tm.rows l)
  | [] => Nat.le_refl _
  | t :: r => by
    have h1 := Tm.sz_bulk t
    have h2 := Tm.szs_bulk r
    simp only [Tm.szs, Tm.rows, D.bulkRows]
    omega
theorem Cs.sz_bulk : ∀ c : Cs, c.sz ≤ D.bulkRow c.row
  | .mk t vs b => by
    have h1 := Tm.sz_bulk b
    simp only [Cs.sz, Cs.row, D.bulkRow]
    omega
theorem Cs.szs_bulk : ∀ l : List Cs, Cs.szs l ≤ D.bulkRows (Cs.rows l)
  | [] => Nat.le_refl _
  | t :: r => by
    have h1 := Cs.sz_bulk t
    have h2 := Cs.szs_bulk r
    simp only [Cs.szs, Cs.rows, D.bulkRows]
    omega
end
end Go.Proofs.YtialccgjbanmcaaDoor
