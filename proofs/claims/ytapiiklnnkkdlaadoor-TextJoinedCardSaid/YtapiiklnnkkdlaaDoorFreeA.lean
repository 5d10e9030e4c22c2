import Derived.Shelf.Strconv.Itoa0
import Derived.Shelf.Strconv.Itoa1
import Derived.Shelf.LaysM
import Derived.Shelf.Strconv.Itoa2
import Derived.Shelf.Strconv.Itoa3
import Derived.Shelf.LaysC
import Derived.Shelf.Strconv.AtoiAll
import Derived.Shelf.Strconv.ErrVarAll
import Derived.Test.YtapiiklnnkkdlaaDoorProg
import Derived.Test.YtapiiklnnkkdlaaDoorTy
import Derived.Lib.ItoaLen
import Derived.Test.YtapiiklnnkkdlaaDoorOpen
/-
  DERIVED: THE SHELF's CONTRACTS AT THIS DUMP, IN PLAIN WORDS (tools/lay-plain.mjs out of 'TrydShelf2.lean', which tools/lay-shelf.mjs wrote): THE SAME DECLARATIONS UNDER THE SAME NAMES: 'import', 'namespace', 'open', 'def', 'theorem' AND NOTHING ELSE: no command of the shelf's: FOR A HAND-IN. Each laying: the table of numbers ('.._ren') and one theorem, a field a fact of the dump's own or the kernel's comparison; each contract: ONE APPLICATION.
-/
namespace Go.Proofs
open Go.Shelf
def Tryd.laysM171_ren : Go.Shelf.Ren := ⟨fun | 171 => 97 | 243 => 142 | 246 => 168 | 283 => 173 | 284 => 174 | 285 => 175 | 286 => 176 | 129 => 183 | 317 => 182 | 318 => 184 | 319 => 185 | 320 => 186 | 337 => 190 | 338 => 191 | n => n, fun | 3 => 3 | 9 => 9 | 2 => 2 | 4 => 4 | 171 => 177 | 0 => 0 | 53 => 178 | 37 => 181 | 5 => 5 | 173 => 182 | 212 => 192 | 51 => 193 | 20 => 20 | 213 => 194 | 46 => 196 | 232 => 209 | 233 => 210 | n => n, fun | 17 => 0 | 18 => 3 | 19 => 4 | n => n⟩
theorem Tryd.laysM171 : Go.Proofs.LaysM.n171 Tryd.prog Tryd.laysM171_ren := {
  mixed := by kernel_rfl
  f129 := Tryd.func183.trans (congrArg some (by kernel_rfl))
  f171 := Tryd.func97.trans (congrArg some (by kernel_rfl))
  f243 := Tryd.func142.trans (congrArg some (by kernel_rfl))
  f246 := Tryd.func168.trans (congrArg some (by kernel_rfl))
  f283 := Tryd.func173.trans (congrArg some (by kernel_rfl))
  f284 := Tryd.func174.trans (congrArg some (by kernel_rfl))
  f285 := Tryd.func175.trans (congrArg some (by kernel_rfl))
  f286 := Tryd.func176.trans (congrArg some (by kernel_rfl))
  f317 := Tryd.func182.trans (congrArg some (by kernel_rfl))
  f318 := Tryd.func184.trans (congrArg some (by kernel_rfl))
  f319 := Tryd.func185.trans (congrArg some (by kernel_rfl))
  f320 := Tryd.func186.trans (congrArg some (by kernel_rfl))
  f337 := Tryd.func190.trans (congrArg some (by kernel_rfl))
  f338 := Tryd.func191.trans (congrArg some (by kernel_rfl))
  t0 := Tryd.underlying0
  a0 := Tryd.isAgg0
  z0 := Tryd.sizeOf0
  v0 := Tryd.zeroValue0
  t2 := Tryd.underlying2
  a2 := Tryd.isAgg2
  z2 := Tryd.sizeOf2
  v2 := Tryd.zeroValue2
  t3 := Tryd.underlying3
  a3 := Tryd.isAgg3
  z3 := Tryd.sizeOf3
  v3 := Tryd.zeroValue3
  t4 := Tryd.underlying4
  a4 := Tryd.isAgg4
  z4 := Tryd.sizeOf4
  v4 := Tryd.zeroValue4
  t5 := Tryd.underlying5
  a5 := Tryd.isAgg5
  z5 := Tryd.sizeOf5
  v5 := Tryd.zeroValue5
  t9 := Tryd.underlying9
  a9 := Tryd.isAgg9
  z9 := Tryd.sizeOf9
  v9 := Tryd.zeroValue9
  t20 := Tryd.underlying20
  a20 := Tryd.isAgg20
  z20 := Tryd.sizeOf20
  v20 := Tryd.zeroValue20
  t37 := Tryd.underlying181
  a37 := Tryd.isAgg181
  z37 := Tryd.sizeOf181
  v37 := Tryd.zeroValue181
  t46 := Tryd.underlying196
  a46 := Tryd.isAgg196
  z46 := Tryd.sizeOf196
  v46 := Tryd.zeroValue196
  t51 := Tryd.underlying193
  a51 := Tryd.isAgg193
  z51 := Tryd.sizeOf193
  v51 := Tryd.zeroValue193
  t53 := Tryd.underlying178
  a53 := Tryd.isAgg178
  z53 := Tryd.sizeOf178
  v53 := Tryd.zeroValue178
  t171 := Tryd.underlying177
  a171 := Tryd.isAgg177
  z171 := Tryd.sizeOf177
  v171 := Tryd.zeroValue177
  t173 := Tryd.underlying182
  a173 := Tryd.isAgg182
  z173 := Tryd.sizeOf182
  v173 := Tryd.zeroValue182
  t212 := Tryd.underlying192
  a212 := Tryd.isAgg192
  z212 := Tryd.sizeOf192
  v212 := Tryd.zeroValue192
  t213 := Tryd.underlying194
  a213 := Tryd.isAgg194
  z213 := Tryd.sizeOf194
  t232 := Tryd.underlying209
  a232 := Tryd.isAgg209
  z232 := Tryd.sizeOf209
  v232 := Tryd.zeroValue209
  t233 := Tryd.underlying210
  a233 := Tryd.isAgg210
  z233 := Tryd.sizeOf210
  v233 := Tryd.zeroValue210
  g17 := by kernel_rfl
  g18 := by kernel_rfl
  g19 := by kernel_rfl
  i0 := by kernel_rfl
  i2 := by kernel_rfl
  i3 := by kernel_rfl
  i4 := by kernel_rfl
  i5 := by kernel_rfl
  i9 := by kernel_rfl
  i20 := by kernel_rfl
  i37 := by kernel_rfl
  i46 := by kernel_rfl
  i51 := by kernel_rfl
  i53 := by kernel_rfl
  i171 := by kernel_rfl
  i173 := by kernel_rfl
  i212 := by kernel_rfl
  i232 := by kernel_rfl
  i233 := by kernel_rfl
  m17 := by kernel_rfl
  m18 := by kernel_rfl
  m19 := by kernel_rfl }
open Go.RowKit Go.Sort Go.Lib in
theorem Tryd.strconv_Itoa (n : Int) (h0 : -9223372036854775808 ≤ n) (h1 : n ≤ 9223372036854775807) (w : World) (htab : Lib.TabIs Tryd.prog w "internal/strconv.uint64pow10" .u64 Lib.pow10Tab) :
    Calls Tryd.prog 97 #[.int .i64 n] w fun e w' => e = .returned (.string ⟨(Lib.itoa n).toArray⟩) ∧ ∃ k os, w' = grow (w.drewN k) os := Any.strconv_Itoa Tryd.laysM171 n h0 h1 w htab
def Tryd.laysC172_ren : Go.Shelf.Ren := ⟨fun | 172 => 167 | 244 => 171 | 245 => 172 | 247 => 177 | 279 => 178 | 280 => 179 | 281 => 180 | 282 => 181 | 287 => 187 | 316 => 188 | 171 => 97 | 205 => 189 | 321 => 192 | 322 => 193 | 243 => 142 | 246 => 168 | 283 => 173 | 284 => 174 | 285 => 175 | 286 => 176 | 129 => 183 | 317 => 182 | 318 => 184 | 319 => 185 | 320 => 186 | 337 => 190 | 338 => 191 | n => n, fun | 9 => 9 | 3 => 3 | 75 => 172 | 76 => 173 | 4 => 4 | 5 => 5 | 167 => 184 | 37 => 181 | 0 => 0 | 85 => 185 | 2 => 2 | 168 => 187 | 53 => 178 | 175 => 198 | 46 => 196 | 210 => 201 | 127 => 205 | 145 => 208 | 143 => 206 | 21 => 21 | 171 => 177 | 173 => 182 | 212 => 192 | 51 => 193 | 20 => 20 | 213 => 194 | 232 => 209 | 233 => 210 | 80 => 97 | n => n, fun | 15 => 1 | 16 => 2 | 17 => 0 | 18 => 3 | 19 => 4 | n => n⟩
theorem Tryd.laysC172 : Go.Proofs.LaysC.n172 Tryd.prog Tryd.laysC172_ren := {
  mixed := by kernel_rfl
  f129 := Tryd.func183.trans (congrArg some (by kernel_rfl))
  f171 := Tryd.func97.trans (congrArg some (by kernel_rfl))
  f172 := Tryd.func167.trans (congrArg some (by kernel_rfl))
  f205 := Tryd.func189.trans (congrArg some (by kernel_rfl))
  f243 := Tryd.func142.trans (congrArg some (by kernel_rfl))
  f244 := Tryd.func171.trans (congrArg some (by kernel_rfl))
  f245 := Tryd.func172.trans (congrArg some (by kernel_rfl))
  f246 := Tryd.func168.trans (congrArg some (by kernel_rfl))
  f247 := Tryd.func177.trans (congrArg some (by kernel_rfl))
  f279 := Tryd.func178.trans (congrArg some (by kernel_rfl))
  f280 := Tryd.func179.trans (congrArg some (by kernel_rfl))
  f281 := Tryd.func180.trans (congrArg some (by kernel_rfl))
  f282 := Tryd.func181.trans (congrArg some (by kernel_rfl))
  f283 := Tryd.func173.trans (congrArg some (by kernel_rfl))
  f284 := Tryd.func174.trans (congrArg some (by kernel_rfl))
  f285 := Tryd.func175.trans (congrArg some (by kernel_rfl))
  f286 := Tryd.func176.trans (congrArg some (by kernel_rfl))
  f287 := Tryd.func187.trans (congrArg some (by kernel_rfl))
  f316 := Tryd.func188.trans (congrArg some (by kernel_rfl))
  f317 := Tryd.func182.trans (congrArg some (by kernel_rfl))
  f318 := Tryd.func184.trans (congrArg some (by kernel_rfl))
  f319 := Tryd.func185.trans (congrArg some (by kernel_rfl))
  f320 := Tryd.func186.trans (congrArg some (by kernel_rfl))
  f321 := Tryd.func192.trans (congrArg some (by kernel_rfl))
  f322 := Tryd.func193.trans (congrArg some (by kernel_rfl))
  f337 := Tryd.func190.trans (congrArg some (by kernel_rfl))
  f338 := Tryd.func191.trans (congrArg some (by kernel_rfl))
  t0 := Tryd.underlying0
  a0 := Tryd.isAgg0
  z0 := Tryd.sizeOf0
  v0 := Tryd.zeroValue0
  t2 := Tryd.underlying2
  a2 := Tryd.isAgg2
  z2 := Tryd.sizeOf2
  v2 := Tryd.zeroValue2
  t3 := Tryd.underlying3
  a3 := Tryd.isAgg3
  z3 := Tryd.sizeOf3
  v3 := Tryd.zeroValue3
  t4 := Tryd.underlying4
  a4 := Tryd.isAgg4
  z4 := Tryd.sizeOf4
  v4 := Tryd.zeroValue4
  t5 := Tryd.underlying5
  a5 := Tryd.isAgg5
  z5 := Tryd.sizeOf5
  v5 := Tryd.zeroValue5
  t9 := Tryd.underlying9
  a9 := Tryd.isAgg9
  z9 := Tryd.sizeOf9
  v9 := Tryd.zeroValue9
  t20 := Tryd.underlying20
  a20 := Tryd.isAgg20
  z20 := Tryd.sizeOf20
  v20 := Tryd.zeroValue20
  t21 := Tryd.underlying21
  a21 := Tryd.isAgg21
  z21 := Tryd.sizeOf21
  v21 := Tryd.zeroValue21
  t37 := Tryd.underlying181
  a37 := Tryd.isAgg181
  z37 := Tryd.sizeOf181
  v37 := Tryd.zeroValue181
  t46 := Tryd.underlying196
  a46 := Tryd.isAgg196
  z46 := Tryd.sizeOf196
  v46 := Tryd.zeroValue196
  t51 := Tryd.underlying193
  a51 := Tryd.isAgg193
  z51 := Tryd.sizeOf193
  v51 := Tryd.zeroValue193
  t53 := Tryd.underlying178
  a53 := Tryd.isAgg178
  z53 := Tryd.sizeOf178
  v53 := Tryd.zeroValue178
  t75 := Tryd.underlying172
  a75 := Tryd.isAgg172
  z75 := Tryd.sizeOf172
  v75 := Tryd.zeroValue172
  t76 := Tryd.underlying173
  a76 := Tryd.isAgg173
  z76 := Tryd.sizeOf173
  v76 := Tryd.zeroValue173
  t85 := Tryd.underlying185
  a85 := Tryd.isAgg185
  z85 := Tryd.sizeOf185
  v85 := Tryd.zeroValue185
  t127 := Tryd.underlying205
  a127 := Tryd.isAgg205
  z127 := Tryd.sizeOf205
  v127 := Tryd.zeroValue205
  t143 := Tryd.underlying206
  a143 := Tryd.isAgg206
  z143 := Tryd.sizeOf206
  v143 := Tryd.zeroValue206
  t145 := Tryd.underlying208
  a145 := Tryd.isAgg208
  z145 := Tryd.sizeOf208
  v145 := Tryd.zeroValue208
  t167 := Tryd.underlying184
  a167 := Tryd.isAgg184
  z167 := Tryd.sizeOf184
  v167 := Tryd.zeroValue184
  t168 := Tryd.underlying187
  a168 := Tryd.isAgg187
  z168 := Tryd.sizeOf187
  v168 := Tryd.zeroValue187
  t171 := Tryd.underlying177
  a171 := Tryd.isAgg177
  z171 := Tryd.sizeOf177
  v171 := Tryd.zeroValue177
  t173 := Tryd.underlying182
  a173 := Tryd.isAgg182
  z173 := Tryd.sizeOf182
  v173 := Tryd.zeroValue182
  t175 := Tryd.underlying198
  a175 := Tryd.isAgg198
  z175 := Tryd.sizeOf198
  v175 := Tryd.zeroValue198
  t210 := Tryd.underlying201
  a210 := Tryd.isAgg201
  z210 := Tryd.sizeOf201
  v210 := Tryd.zeroValue201
  t212 := Tryd.underlying192
  a212 := Tryd.isAgg192
  z212 := Tryd.sizeOf192
  v212 := Tryd.zeroValue192
  t213 := Tryd.underlying194
  a213 := Tryd.isAgg194
  z213 := Tryd.sizeOf194
  t232 := Tryd.underlying209
  a232 := Tryd.isAgg209
  z232 := Tryd.sizeOf209
  v232 := Tryd.zeroValue209
  t233 := Tryd.underlying210
  a233 := Tryd.isAgg210
  z233 := Tryd.sizeOf210
  v233 := Tryd.zeroValue210
  g15 := by kernel_rfl
  g16 := by kernel_rfl
  g17 := by kernel_rfl
  g18 := by kernel_rfl
  g19 := by kernel_rfl
  t80 := Tryd.underlying97
  a80 := Tryd.isAgg97
  z80 := Tryd.sizeOf97
  v80 := Tryd.zeroValue97
  i0 := by kernel_rfl
  i2 := by kernel_rfl
  i3 := by kernel_rfl
  i4 := by kernel_rfl
  i5 := by kernel_rfl
  i9 := by kernel_rfl
  i20 := by kernel_rfl
  i21 := by kernel_rfl
  i37 := by kernel_rfl
  i46 := by kernel_rfl
  i51 := by kernel_rfl
  i53 := by kernel_rfl
  i75 := by kernel_rfl
  i76 := by kernel_rfl
  i80 := by kernel_rfl
  i85 := by kernel_rfl
  i127 := by kernel_rfl
  i143 := by kernel_rfl
  i145 := by kernel_rfl
  i167 := by kernel_rfl
  i168 := by kernel_rfl
  i171 := by kernel_rfl
  i173 := by kernel_rfl
  i175 := by kernel_rfl
  i210 := by kernel_rfl
  i212 := by kernel_rfl
  i232 := by kernel_rfl
  i233 := by kernel_rfl
  m15 := by kernel_rfl
  m16 := by kernel_rfl
  m17 := by kernel_rfl
  m18 := by kernel_rfl
  m19 := by kernel_rfl
  c0 := by kernel_rfl
  c2 := by kernel_rfl
  c3 := by kernel_rfl
  c4 := by kernel_rfl
  c5 := by kernel_rfl
  c9 := by kernel_rfl
  c20 := by kernel_rfl
  c21 := by kernel_rfl
  c37 := by kernel_rfl
  c46 := by kernel_rfl
  c51 := by kernel_rfl
  c53 := by kernel_rfl
  c75 := by kernel_rfl
  c76 := by kernel_rfl
  c80 := by kernel_rfl
  c85 := by kernel_rfl
  c127 := by kernel_rfl
  c143 := by kernel_rfl
  c145 := by kernel_rfl
  c167 := by kernel_rfl
  c168 := by kernel_rfl
  c171 := by kernel_rfl
  c173 := by kernel_rfl
  c175 := by kernel_rfl
  c210 := by kernel_rfl
  c212 := by kernel_rfl
  c213 := by kernel_rfl
  c232 := by kernel_rfl
  c233 := by kernel_rfl }
open Go.RowKit in
theorem Tryd.strconv_Atoi_ok (s : ByteArray) (hmax : s.size ≤ 9223372036854775806) (v : Int) (h : Lib.atoiAll s.data.toList = .ok v) (w : World) :
    Calls Tryd.prog 167 #[.string s] w fun e w' => e = .returned (.tuple #[.int .i64 v, .nilIface]) ∧ (w' = w ∨ ∃ t, w' = Lib.bytesWorld w 5 t) := Any.strconv_Atoi_ok Tryd.laysC172 s hmax v h w
open Go.RowKit in
theorem Tryd.strconv_Atoi_syntax_var (s : ByteArray) (hlim : s.size ≤ 281474976710656) (h : Lib.atoiAll s.data.toList = Lib.atoiAll []) (tp : TypeId) (p : Value) (w : World) (hvar : w.var? Tryd.prog "strconv.ErrSyntax" = some #[.iface tp p]) :
    Calls Tryd.prog 167 #[.string s] w fun e w' => ∃ N, e = .returned (.tuple #[.int .i64 0, .iface 187 (.pointer (some ⟨N, 0, none⟩))]) ∧ w.heap.size ≤ N ∧ w'.heap[N]? = some (.cells #[.string ⟨#[65, 116, 111, 105]⟩, .string s, .iface tp p] 201 (0, 0)) ∧ Below w.heap.size w w' := Any.strconv_Atoi_syntax_var Tryd.laysC172 s hlim h tp p w hvar
open Go.RowKit in
theorem Tryd.strconv_Atoi_range_var (s : ByteArray) (hlim : s.size ≤ 281474976710656) (h : Lib.atoiAll s.data.toList = .range) (tp : TypeId) (p : Value) (w : World) (hvar : w.var? Tryd.prog "strconv.ErrRange" = some #[.iface tp p]) :
    Calls Tryd.prog 167 #[.string s] w fun e w' => ∃ N, e = .returned (.tuple #[.int .i64 (Lib.atoiSat s.data.toList), .iface 187 (.pointer (some ⟨N, 0, none⟩))]) ∧ w.heap.size ≤ N ∧ w'.heap[N]? = some (.cells #[.string ⟨#[65, 116, 111, 105]⟩, .string s, .iface tp p] 201 (0, 0)) ∧ Below w.heap.size w w' := Any.strconv_Atoi_range_var Tryd.laysC172 s hlim h tp p w hvar
end Go.Proofs

namespace Go.Proofs.YtapiiklnnkkdlaaDoor
open Go.RowKit
set_option linter.unusedVariables false
set_option linter.unusedSimpArgs false
def itoaB (n : Int) : ByteArray := ⟨(Lib.itoa n).toArray⟩
theorem itoaB_size {n : Int} (h : inI n) : (itoaB n).size ≤ 21 := by
  have := Lib.itoa_length_le n h.1 h.2
  simpa [itoaB, ByteArray.size] using this
theorem sp_Itoa (n : Int) (h : inI n) : PSpec Tryd.prog 97 [.d (.int n)] (fun _ => .d (.str (itoaB n))) none := by
  refine ⟨⟨_, Tryd.func97, rfl, rfl⟩, fun d => rfl, fun _ d => rfl, by simp, fun d w ok vals hgi hok hl hv => ?_⟩
  match vals, hl with
  | ⟨[v]⟩, _ =>
  obtain ⟨rfl, _⟩ := (hv 0 _ v rfl rfl).d_inv.int_inv
  refine (Tryd.strconv_Itoa n h.1 h.2 w hgi.pow).mono ?_
  rintro e w' ⟨rfl, k, os, rfl⟩
  have hs := itoaB_size h
  refine ⟨_, ok, noG, rfl, ⟨rfl, rfl, rfl, by simp [Go.Sort.grow, World.drewN], fun b hb => ?_⟩, fun b h => h, fun b h => .inl h, .d _ _ (.str _ (by unfold maxLen; omega)), by simp⟩
  simp only [Go.Sort.grow, World.drewN]
  rw [Array.getElem?_append_left hb]
end Go.Proofs.YtapiiklnnkkdlaaDoor

namespace Go.Proofs.YtapiiklnnkkdlaaDoor
open Go.RowKit
set_option linter.unusedVariables false
mutual
inductive Tm where
  | mk (kind n : Int) (name token : ByteArray) (vars : List ByteArray) (args : List Tm) (cases : List Cs)
inductive Cs where
  | mk (tag : Int) (vars : List ByteArray) (body : Tm)
end
structure Fn where
  name : ByteArray
  params : List ByteArray
  body : Tm
mutual
def Tm.Ok : Tm → Prop
  | .mk _ _ a b vs xs cs => (a.size ≤ 140737488355328 ∧ b.size ≤ 140737488355328 ∧ (∀ s ∈ vs, s.size ≤ 140737488355328)) ∧ (vs.length ≤ 8796093022207 ∧ xs.length ≤ 1172812402960 ∧ cs.length ≤ 925904528652) ∧ Tm.Oks xs ∧ Cs.Oks cs
def Tm.Oks : List Tm → Prop
  | [] => True
  | t :: r => t.Ok ∧ Tm.Oks r
def Cs.Ok : Cs → Prop
  | .mk _ vs b => (∀ s ∈ vs, s.size ≤ 140737488355328) ∧ vs.length ≤ 8796093022207 ∧ b.Ok
def Cs.Oks : List Cs → Prop
  | [] => True
  | c :: r => c.Ok ∧ Cs.Oks r
end
theorem Tm.Oks_iff : ∀ {l : List Tm}, Tm.Oks l ↔ ∀ t ∈ l, t.Ok
  | [] => by simp [Tm.Oks]
  | t :: r => by simp [Tm.Oks, Tm.Oks_iff (l := r)]
theorem Cs.Oks_iff : ∀ {l : List Cs}, Cs.Oks l ↔ ∀ t ∈ l, t.Ok
  | [] => by simp [Cs.Oks]
  | t :: r => by simp [Cs.Oks, Cs.Oks_iff (l := r)]
structure Fn.Ok (f : Fn) : Prop where
  name : f.name.size ≤ 140737488355328
  params : f.params.length ≤ 8796093022207
  sizes : ∀ s ∈ f.params, s.size ≤ 140737488355328
  body : f.body.Ok
structure FnsOk (l : List Fn) : Prop where
  len : l.length ≤ 879609302220
  all : ∀ f ∈ l, f.Ok
theorem FnsOk.fn {l : List Fn} (h : FnsOk l) : ∀ f ∈ l, f.body.Ok ∧ f.params.length ≤ 8796093022207 := fun f hf => ⟨(h.all f hf).body, (h.all f hf).params⟩
abbrev strR (s : ByteArray) : List D := [.str s]
abbrev strsD (l : List ByteArray) : D := .sl (l.map strR)
mutual
def Tm.row : Tm → List D
  | .mk k n a b vs xs cs => [.int k, .int n, .str a, .str b, strsD vs, .sl (Tm.rows xs), .sl (Cs.rows cs)]
def Tm.rows : List Tm → List (List D)
  | [] => []
  | t :: r => t.row :: Tm.rows r
def Cs.row : Cs → List D
  | .mk t vs b => .int t :: strsD vs :: b.row
def Cs.rows : List Cs → List (List D)
  | [] => []
  | c :: r => c.row :: Cs.rows r
end
theorem Tm.rows_eq (l : List Tm) : Tm.rows l = l.map Tm.row := by
  induction l with
  | nil => rfl
  | cons t r ih => simp only [Tm.rows, List.map_cons, ih]
theorem Cs.rows_eq (l : List Cs) : Cs.rows l = l.map Cs.row := by
  induction l with
  | nil => rfl
  | cons t r ih => simp only [Cs.rows, List.map_cons, ih]
def Fn.row (f : Fn) : List D := .str f.name :: strsD f.params :: f.body.row
mutual
def Tm.sz : Tm → Nat
  | .mk _ _ _ _ _ xs cs => 1 + Tm.szs xs + Cs.szs cs
def Tm.szs : List Tm → Nat
  | [] => 0
  | t :: r => t.sz + Tm.szs r
def Cs.sz : Cs → Nat
  | .mk _ _ b => b.sz
def Cs.szs : List Cs → Nat
  | [] => 0
  | c :: r => c.sz + Cs.szs r
end
theorem Tm.szs_mem {t : Tm} : ∀ {l : List Tm}, t ∈ l → t.sz ≤ Tm.szs l
  | [], h => by cases h
  | x :: l, h => by
    simp only [Tm.szs]
    rcases List.mem_cons.1 h with rfl | h
    · omega
    · have := Tm.szs_mem h; omega
theorem Cs.szs_mem {t : Cs} : ∀ {l : List Cs}, t ∈ l → t.sz ≤ Cs.szs l
  | [], h => by cases h
  | x :: l, h => by
    simp only [Cs.szs]
    rcases List.mem_cons.1 h with rfl | h
    · omega
    · have := Cs.szs_mem h; omega
def Cs.tag : Cs → Int | .mk t _ _ => t
def Cs.vars : Cs → List ByteArray | .mk _ v _ => v
def Cs.body : Cs → Tm | .mk _ _ b => b
def Tm.kind : Tm → Int | .mk k _ _ _ _ _ _ => k
def Tm.n : Tm → Int | .mk _ n _ _ _ _ _ => n
def Tm.name : Tm → ByteArray | .mk _ _ a _ _ _ _ => a
def Tm.token : Tm → ByteArray | .mk _ _ _ b _ _ _ => b
def Tm.vars : Tm → List ByteArray | .mk _ _ _ _ v _ _ => v
def Tm.args : Tm → List Tm | .mk _ _ _ _ _ a _ => a
def Tm.cases : Tm → List Cs | .mk _ _ _ _ _ _ c => c
abbrev tmAV : Tm → AV
  | .mk k n a b vs xs cs => .agg [.d (.int k), .d (.int n), .d (.str a), .d (.str b), .d (strsD vs), .d (.sl (xs.map Tm.row)), .d (.sl (cs.map Cs.row))]
abbrev fnsAV (l : List Fn) : AV := .d (.sl (l.map Fn.row))
abbrev tmsAV (l : List Tm) : AV := .d (.sl (l.map Tm.row))
abbrev strsAV (l : List ByteArray) : AV := .d (strsD l)
section
variable {ds : List D}
theorem strs_ok (h : RT Tryd.prog 30 ds) : ∃ l : List ByteArray, ds = [strsD l] ∧ l.length ≤ 8796093022207 ∧ ∀ s ∈ l, s.size ≤ 140737488355328 := by
  obtain ⟨l, rfl, hl, hs⟩ := h.strs_inv Tryd.underlying30 Tryd.underlying9
  rw [show Tryd.prog.bytesOf 9 = 16 by kernel_rfl] at hl
  unfold reachBytes at hl hs
  exact ⟨l, rfl, by omega, fun s hm => by have := hs s hm; omega⟩
theorem tm_inv : ∀ (t : TypeId) (ds : List D), RT Tryd.prog t ds → (t = 34 → ∃ x : Tm, ds = x.row ∧ x.Ok) ∧ (t = 31 → ∃ x : List Tm, ds = [.sl (x.map Tm.row)] ∧ x.length ≤ 1172812402960 ∧ ∀ y ∈ x, y.Ok) ∧ (t = 40 → ∃ x : Cs, ds = x.row ∧ x.Ok) ∧ (t = 32 → ∃ x : List Cs, ds = [.sl (x.map Cs.row)] ∧ x.length ≤ 925904528652 ∧ ∀ y ∈ x, y.Ok) := by
  intro t ds h
  induction h with
  | int n h lo hi =>
    refine ⟨?_, ?_, ?_, ?_⟩ <;> (rintro rfl; first | (rw [Tryd.underlying34] at h; cases h) | (rw [Tryd.underlying31] at h; cases h) | (rw [Tryd.underlying40] at h; cases h) | (rw [Tryd.underlying32] at h; cases h))
  | bool b h =>
    refine ⟨?_, ?_, ?_, ?_⟩ <;> (rintro rfl; first | (rw [Tryd.underlying34] at h; cases h) | (rw [Tryd.underlying31] at h; cases h) | (rw [Tryd.underlying40] at h; cases h) | (rw [Tryd.underlying32] at h; cases h))
  | str s h hs =>
    refine ⟨?_, ?_, ?_, ?_⟩ <;> (rintro rfl; first | (rw [Tryd.underlying34] at h; cases h) | (rw [Tryd.underlying31] at h; cases h) | (rw [Tryd.underlying40] at h; cases h) | (rw [Tryd.underlying32] at h; cases h))
  | sl rows h hl hr ih =>
    refine ⟨?_, ?_, ?_, ?_⟩
    · rintro rfl; rw [Tryd.underlying34] at h; cases h
    · rintro rfl
      rw [Tryd.underlying31] at h
      cases h
      obtain ⟨l, rfl, hp⟩ := rows_inv (row := Tm.row) (p := Tm.Ok) fun r hr' => (ih r hr').1 rfl
      refine ⟨l, rfl, ?_, hp⟩
      rw [List.length_map, show Tryd.prog.bytesOf 34 = 120 by kernel_rfl] at hl
      unfold reachBytes at hl
      omega
    · rintro rfl; rw [Tryd.underlying40] at h; cases h
    · rintro rfl
      rw [Tryd.underlying32] at h
      cases h
      obtain ⟨l, rfl, hp⟩ := rows_inv (row := Cs.row) (p := Cs.Ok) fun r hr' => (ih r hr').2.2.1 rfl
      refine ⟨l, rfl, ?_, hp⟩
      rw [List.length_map, show Tryd.prog.bytesOf 40 = 152 by kernel_rfl] at hl
      unfold reachBytes at hl
      omega
  | struct parts h hl hf ih =>
    refine ⟨?_, ?_, ?_, ?_⟩
    · rintro rfl
      rw [Tryd.underlying34] at h
      cases h
      match parts, hl with
      | [p0, p1, p2, p3, p4, p5, p6], _ =>
        obtain ⟨k, rfl, _⟩ := (hf 0 _ p0 rfl rfl).int_inv Tryd.underlying3
        obtain ⟨n, rfl, _⟩ := (hf 1 _ p1 rfl rfl).int_inv Tryd.underlying3
        obtain ⟨a, rfl, ha⟩ := (hf 2 _ p2 rfl rfl).str_inv Tryd.underlying9
        obtain ⟨b, rfl, hb⟩ := (hf 3 _ p3 rfl rfl).str_inv Tryd.underlying9
        obtain ⟨vs, rfl, hv, hvs⟩ := strs_ok (hf 4 _ p4 rfl rfl)
        obtain ⟨xs, rfl, hx, hxs⟩ := (ih 5 _ p5 rfl rfl).2.1 rfl
        obtain ⟨cs, rfl, hc, hcs⟩ := (ih 6 _ p6 rfl rfl).2.2.2 rfl
        unfold reachBytes at ha hb
        exact ⟨.mk k n a b vs xs cs, by simp [Tm.row, Tm.rows_eq, Cs.rows_eq], ⟨⟨by omega, by omega, hvs⟩, ⟨hv, hx, hc⟩, Tm.Oks_iff.2 hxs, Cs.Oks_iff.2 hcs⟩⟩
    · rintro rfl; rw [Tryd.underlying31] at h; cases h
    · rintro rfl
      rw [Tryd.underlying40] at h
      cases h
      match parts, hl with
      | [p0, p1, p2], _ =>
        obtain ⟨k, rfl, _⟩ := (hf 0 _ p0 rfl rfl).int_inv Tryd.underlying3
        obtain ⟨vs, rfl, hv, hvs⟩ := strs_ok (hf 1 _ p1 rfl rfl)
        obtain ⟨b, rfl, hb⟩ := (ih 2 _ p2 rfl rfl).1 rfl
        exact ⟨.mk k vs b, by simp [Cs.row], hvs, hv, hb⟩
    · rintro rfl; rw [Tryd.underlying32] at h; cases h
theorem fn_inv (h : RT Tryd.prog 36 ds) : ∃ f : Fn, ds = f.row ∧ f.Ok := by
  obtain ⟨p0, p1, p2, rfl, h0, h1, h2⟩ := h.struct3_inv Tryd.underlying36
  obtain ⟨a, rfl, ha⟩ := h0.str_inv Tryd.underlying9
  obtain ⟨vs, rfl, hv, hvs⟩ := strs_ok h1
  obtain ⟨b, rfl, hb⟩ := (tm_inv _ _ h2).1 rfl
  unfold reachBytes at ha
  exact ⟨⟨a, vs, b⟩, by simp [Fn.row], ⟨(by omega : a.size ≤ 140737488355328), hv, hvs, hb⟩⟩
theorem fns_inv {c : AV} (h : ArgRT Tryd.prog 22 c) : ∃ l : List Fn, c = .d (.sl (l.map Fn.row)) ∧ FnsOk l := by
  obtain ⟨l, rfl, hl, hp⟩ := h.list (fun r hr => fn_inv hr) Tryd.underlying22
  rw [show Tryd.prog.bytesOf 36 = 160 by kernel_rfl] at hl
  unfold reachBytes at hl
  exact ⟨l, rfl, by omega, hp⟩
end
end Go.Proofs.YtapiiklnnkkdlaaDoor

namespace Go.Proofs.YtapiiklnnkkdlaaDoor
open Go.RowKit
attribute [local simp] runD mkRc ldOf stOf stOk ldArg noAny dstOk guardOk opEff opEff0 effOp pureOp callOp zEff evA constAV scalAV Value.oneCell' frGet memGet startAS frOf isGoCall idIn AS.after nextR opnIds objIds AV.ids idsL AObj.ids frNo memNo opnAny isAny mkVal rdCells wrCells fldAddr idxAddr srcRows litRows toD1 toDs setAt sliceAV optI partAV bldAV fillAV binAV binI AV.cells callEff calleeOf frKill memKill AV.kill AObj.kill AV.has AV.hasL Op.operands Call.operands keepF keepM viewIds cChk renOf moGet moWs moQ cEff moLike moHave AV.ren renL AObj.ren AObj.like kept startC moMem AV.frz frz1 frzL frSub memSub frzs AS.frz frFrz memFrz AObj.frz takeMap takeLen bleF Nat.ble_eq memAny objAny mapOp D.keyOk rowAV valRow extOp wrapOp phO
set_option linter.unusedVariables false
set_option linter.unusedSimpArgs false
noncomputable def eqB {α : Type} (a b : α) : Bool := @decide (a = b) (Classical.propDecidable _)
theorem eqB_self {α : Type} (a : α) : eqB a a = true := by simp [eqB]
theorem eqB_ne {α : Type} {a b : α} (h : a ≠ b) : eqB a b = false := by simp [eqB, h]
theorem eqB_iff {α : Type} {a b : α} : eqB a b = true ↔ a = b := by simp [eqB]
theorem take_eq {α : Type} {a b : List α} {i : Nat} {x y : α} (hx : a[i]? = some x) (hy : b[i]? = some y) (h : a.take i = b.take i) : a.take (i + 1) = b.take (i + 1) ↔ x = y := by
  rw [List.take_add_one, List.take_add_one, hx, hy, h]
  simp
theorem take_ne {α : Type} {a b : List α} {i : Nat} {x y : α} (hx : a[i]? = some x) (hy : b[i]? = some y) (h : x ≠ y) : a ≠ b := by
  rintro rfl
  rw [hx] at hy
  exact h (Option.some.inj hy)
set_option maxHeartbeats 1000000 in
theorem sp_SameNames (a b : List ByteArray) (ha : a.length ≤ 9223372036854775806) : PSpec Tryd.prog 36 [strsAV a, strsAV b] (fun _ => .d (.bool (eqB a b))) none := by
  refine PSpec.of Tryd.func36 rfl rfl rfl (Nat.le_of_ble_eq_true rfl) ?_
  show AWp _ _ (endQ _ Tryd.f36 _ _ _) (startAS 26 _)
  repeat (first | refine AWp.seq ?_ | refine AWp.block ?_)
  apply AWp.reg [] []
  · conv => lhs; simp
  · trivial
  by_cases hl : a.length = b.length
  · repeat (first | refine AWp.seq ?_ | refine AWp.block ?_)
    apply AWp.reg [] []
    · conv => lhs; simp [hl]
    · trivial
    refine AWp.cn ?_
    refine AWp.skip ?_
    repeat (first | refine AWp.seq ?_ | refine AWp.block ?_)
    apply AWp.reg [] []
    · conv => lhs; simp
    · trivial
    repeat (first | refine AWp.seq ?_ | refine AWp.block ?_)
    refine AWp.loop (σ := fun u : {i : Nat // i ≤ a.length ∧ a.take i = b.take i} => ⟨26, [(0, strsAV a), (1, strsAV b), (12, .d (.int a.length)), (13, .d (.int u.1))], []⟩)
      (μ := fun u => a.length - u.1) ⟨0, Nat.zero_le _, rfl⟩ (Le.sub (by simp [hl]) (by simp)) (fun ⟨i, hi, ht⟩ => ?_)
    dsimp only
    repeat (first | refine AWp.seq ?_ | refine AWp.block ?_)
    apply AWp.reg [] []
    · conv => lhs; simp
    · trivial
    repeat (first | refine AWp.seq ?_ | refine AWp.block ?_)
    refine AWp.cond rfl (fun h => ?_) (fun h => ?_)
    · have hi1 : i < a.length := by have := of_decide_eq_true h; omega
      have hx : a[i]? = some a[i] := List.getElem?_eq_getElem hi1
      have hy : b[i]? = some (b[i]'(by omega)) := List.getElem?_eq_getElem (by omega)
      generalize a[i] = x at hx
      generalize b[i]'(by omega) = y at hy
      have hte := take_eq hx hy ht
      refine AWp.skip ?_
      repeat (first | refine AWp.seq ?_ | refine AWp.block ?_)
      apply AWp.reg [] []
      · conv => lhs; simp
      · trivial
      by_cases hxy : x = y
      · subst hxy
        refine AWp.dw [] [] mixed ?_ (hr := by conv => lhs; simp [hx, hy])
        refine AWp.cn ?_
        refine AWp.skip ?_
        refine AWp.rg [] [] ?_
        refine ⟨⟨i + 1, hi1, hte.2 rfl⟩, by simp; omega, Le.sub (by simp) (by simp)⟩
      · refine AWp.dw [] [] mixed ?_ (hr := by conv => lhs; simp [hx, hy, hxy])
        repeat (first | refine AWp.seq ?_ | refine AWp.block ?_)
        refine AWp.cond rfl (fun h2 => ?_) (fun h2 => ?_)
        · repeat (first | refine AWp.seq ?_ | refine AWp.block ?_)
          apply AWp.reg [] []
          · conv => lhs; simp
          · trivial
          refine AWp.ret ?_
          try dsimp only [thenQ, blockQ]
          apply endQ.ret
          · rfl
          · conv => lhs; simp [resAV, Tryd.results36]
          rw [eqB_ne (take_ne hx hy hxy)]; rfl
        · cases h2
    · have hi1 : i = a.length := by have := of_decide_eq_false h; omega
      subst hi1
      rw [List.take_length, hl, List.take_length] at ht
      refine AWp.exit ?_
      repeat (first | refine AWp.seq ?_ | refine AWp.block ?_)
      apply AWp.reg [] []
      · conv => lhs; simp
      · trivial
      refine AWp.ret ?_
      try dsimp only [thenQ, blockQ]
      apply endQ.ret
      · rfl
      · conv => lhs; simp [resAV, Tryd.results36]
      rw [ht, eqB_self]; rfl
  · have hl' : ¬ ((a.length : Int) = b.length) := by omega
    repeat (first | refine AWp.seq ?_ | refine AWp.block ?_)
    apply AWp.reg [] []
    · conv => lhs; simp [hl, hl']
    · trivial
    repeat (first | refine AWp.seq ?_ | refine AWp.block ?_)
    refine AWp.cond rfl (fun h => ?_) (fun h => ?_)
    · repeat (first | refine AWp.seq ?_ | refine AWp.block ?_)
      apply AWp.reg [] []
      · conv => lhs; simp
      · trivial
      refine AWp.ret ?_
      try dsimp only [thenQ, blockQ]
      apply endQ.ret
      · rfl
      · conv => lhs; simp [resAV, Tryd.results36]
      rw [eqB_ne (fun e => hl (by rw [e]))]; rfl
    · cases h
theorem Tm.Ok.vars {k n : Int} {a b : ByteArray} {vs : List ByteArray} {xs : List Tm} {cs : List Cs} (h : (Tm.mk k n a b vs xs cs).Ok) : vs.length ≤ 8796093022207 ∧ xs.length ≤ 1172812402960 ∧ cs.length ≤ 925904528652 ∧ a.size ≤ 140737488355328 ∧ b.size ≤ 140737488355328 := by
  unfold Tm.Ok at h
  exact ⟨h.2.1.1, h.2.1.2.1, h.2.1.2.2, h.1.1, h.1.2.1⟩
theorem Tm.Ok.arg {k n : Int} {a b : ByteArray} {vs : List ByteArray} {xs : List Tm} {cs : List Cs} (h : (Tm.mk k n a b vs xs cs).Ok) {x : Tm} (hx : x ∈ xs) : x.Ok := by
  unfold Tm.Ok at h
  exact Tm.Oks_iff.1 h.2.2.1 x hx
theorem Tm.Ok.case {k n : Int} {a b : ByteArray} {vs : List ByteArray} {xs : List Tm} {cs : List Cs} (h : (Tm.mk k n a b vs xs cs).Ok) {x : Cs} (hx : x ∈ cs) : x.Ok := by
  unfold Tm.Ok at h
  exact Cs.Oks_iff.1 h.2.2.2 x hx
theorem Cs.Ok.body {t : Int} {vs : List ByteArray} {b : Tm} (h : (Cs.mk t vs b).Ok) : b.Ok ∧ vs.length ≤ 8796093022207 := by
  unfold Cs.Ok at h
  exact ⟨h.2.2, h.2.1⟩
theorem Cs.Ok.sizes {t : Int} {vs : List ByteArray} {b : Tm} (h : (Cs.mk t vs b).Ok) : ∀ s ∈ vs, s.size ≤ 140737488355328 := by
  unfold Cs.Ok at h
  exact h.1
theorem Tm.sz_arg {k n : Int} {a b : ByteArray} {vs : List ByteArray} {xs : List Tm} {cs : List Cs} {x : Tm} (hx : x ∈ xs) : x.sz < (Tm.mk k n a b vs xs cs).sz := by
  have := Tm.szs_mem hx
  simp only [Tm.sz]; omega
theorem Tm.sz_case {k n : Int} {a b : ByteArray} {vs : List ByteArray} {xs : List Tm} {cs : List Cs} {t : Int} {ws : List ByteArray} {y : Tm} (hx : Cs.mk t ws y ∈ cs) : y.sz < (Tm.mk k n a b vs xs cs).sz := by
  have := Cs.szs_mem hx
  simp only [Cs.sz] at this
  simp only [Tm.sz]; omega
theorem Tm.row_len (t : Tm) : t.row.length = 7 := by cases t; rfl
theorem Cs.row_len (t : Cs) : t.row.length = 9 := by cases t; simp [Cs.row, Tm.row_len]
def smMem (k n : Int) (a b : ByteArray) (vs : List ByteArray) (xs : List Tm) (cs : List Cs) (xs' : List Tm) (cs' : List Cs) : List (Nat × Option AObj) :=
  [(2, some (.blk 34 [.d (.int k), .d (.int n), .d (.str a), .d (.str b), .d (strsD vs), .d (.sl (xs.map Tm.row)), .d (.sl (cs.map Cs.row))])),
   (3, some (.blk 34 [.d (.int k), .d (.int n), .d (.str a), .d (.str b), .d (strsD vs), .d (.sl (xs'.map Tm.row)), .d (.sl (cs'.map Cs.row))]))]
set_option maxRecDepth 20000 in
set_option maxHeartbeats 8000000 in
theorem sp_refSame_at : ∀ (N : Nat) (s t : Tm), s.sz < N → s.Ok → PSpec Tryd.prog 37 [tmAV s, tmAV t] (fun _ => .d (.bool (eqB s t))) none := by
  intro N
  induction N with
  | zero => intro s t h; omega
  | succ N ih =>
  intro s t hN hO
  obtain ⟨k, n, a, b, vs, xs, cs⟩ := s
  obtain ⟨k', n', a', b', vs', xs', cs'⟩ := t
  obtain ⟨o1, o2, o3, o4, o5⟩ := hO.vars
  have hneq : (k ≠ k' ∨ n ≠ n' ∨ a ≠ a' ∨ b ≠ b' ∨ vs ≠ vs' ∨ xs ≠ xs' ∨ cs ≠ cs') → eqB (Tm.mk k n a b vs xs cs) (Tm.mk k' n' a' b' vs' xs' cs') = false := fun h => eqB_ne (by
    intro e
    cases e
    simp at h)
  have hvs := sp_SameNames vs vs' (by omega)
  refine PSpec.of Tryd.func37 rfl rfl rfl (Nat.le_of_ble_eq_true rfl) ?_
  show AWp _ _ (endQ _ Tryd.f37 _ _ _) (startAS 115 _)
  repeat (first | refine AWp.seq ?_ | refine AWp.block ?_)
  apply AWp.reg [] []
  · conv => lhs; simp
  · trivial
  by_cases e1 : k = k'
  rotate_left
  · repeat (first | refine AWp.seq ?_ | refine AWp.block ?_)
    apply AWp.reg [] []
    · conv => lhs; simp [e1]
    · trivial
    repeat (first | refine AWp.seq ?_ | refine AWp.block ?_)
    refine AWp.cond rfl (fun h => ?_) (fun h => ?_)
    · repeat (first | refine AWp.seq ?_ | refine AWp.block ?_)
      apply AWp.reg [] []
      · conv => lhs; simp
      · trivial
      refine AWp.ret ?_
      try dsimp only [thenQ, blockQ]
      apply endQ.ret
      · rfl
      · conv => lhs; simp [resAV, Tryd.results37]
      rw [hneq (.inl e1)]; rfl
    · simp at h
  subst e1
  by_cases e2 : n = n'
  rotate_left
  · repeat (first | refine AWp.seq ?_ | refine AWp.block ?_)
    apply AWp.reg [] []
    · conv => lhs; simp [e2]
    · trivial
    repeat (first | refine AWp.seq ?_ | refine AWp.block ?_)
    refine AWp.cond rfl (fun h => ?_) (fun h => ?_)
    · repeat (first | refine AWp.seq ?_ | refine AWp.block ?_)
      apply AWp.reg [] []
      · conv => lhs; simp
      · trivial
      refine AWp.ret ?_
      try dsimp only [thenQ, blockQ]
      apply endQ.ret
      · rfl
      · conv => lhs; simp [resAV, Tryd.results37]
      rw [hneq (.inr (.inl e2))]; rfl
    · simp at h
  subst e2
  by_cases e3 : a = a'
  rotate_left
  · repeat (first | refine AWp.seq ?_ | refine AWp.block ?_)
    apply AWp.reg [] []
    · conv => lhs; simp [e3]
    · trivial
    repeat (first | refine AWp.seq ?_ | refine AWp.block ?_)
    refine AWp.cond rfl (fun h => ?_) (fun h => ?_)
    · repeat (first | refine AWp.seq ?_ | refine AWp.block ?_)
      apply AWp.reg [] []
      · conv => lhs; simp
      · trivial
      refine AWp.ret ?_
      try dsimp only [thenQ, blockQ]
      apply endQ.ret
      · rfl
      · conv => lhs; simp [resAV, Tryd.results37]
      rw [hneq (.inr (.inr (.inl e3)))]; rfl
    · simp at h
  subst e3
  by_cases e4 : b = b'
  rotate_left
  · repeat (first | refine AWp.seq ?_ | refine AWp.block ?_)
    apply AWp.reg [] []
    · conv => lhs; simp [e4]
    · trivial
    repeat (first | refine AWp.seq ?_ | refine AWp.block ?_)
    refine AWp.cond rfl (fun h => ?_) (fun h => ?_)
    · repeat (first | refine AWp.seq ?_ | refine AWp.block ?_)
      apply AWp.reg [] []
      · conv => lhs; simp
      · trivial
      refine AWp.ret ?_
      try dsimp only [thenQ, blockQ]
      apply endQ.ret
      · rfl
      · conv => lhs; simp [resAV, Tryd.results37]
      rw [hneq (.inr (.inr (.inr (.inl e4))))]; rfl
    · simp at h
  subst e4
  by_cases e5 : vs = vs'
  rotate_left
  · repeat (first | refine AWp.seq ?_ | refine AWp.block ?_)
    apply AWp.reg [] [.p (fun _ => .d (.bool false)) none]
    · conv => lhs; simp [e5]
    · rw [eqB_ne e5] at hvs; exact hvs
    repeat (first | refine AWp.seq ?_ | refine AWp.block ?_)
    refine AWp.cond rfl (fun h => ?_) (fun h => ?_)
    · repeat (first | refine AWp.seq ?_ | refine AWp.block ?_)
      apply AWp.reg [] []
      · conv => lhs; simp
      · trivial
      refine AWp.ret ?_
      try dsimp only [thenQ, blockQ]
      apply endQ.ret
      · rfl
      · conv => lhs; simp [resAV, Tryd.results37]
      rw [hneq (.inr (.inr (.inr (.inr (.inl e5)))))]; rfl
    · simp at h
  subst e5
  rw [eqB_self] at hvs
  by_cases e6 : xs.length = xs'.length
  rotate_left
  · have e6' : ¬ ((xs.length : Int) = xs'.length) := by omega
    repeat (first | refine AWp.seq ?_ | refine AWp.block ?_)
    apply AWp.reg [] [.p (fun _ => .d (.bool true)) none]
    · conv => lhs; simp [e6, e6']
    · exact hvs
    repeat (first | refine AWp.seq ?_ | refine AWp.block ?_)
    refine AWp.cond rfl (fun h => ?_) (fun h => ?_)
    · repeat (first | refine AWp.seq ?_ | refine AWp.block ?_)
      apply AWp.reg [] []
      · conv => lhs; simp
      · trivial
      refine AWp.ret ?_
      try dsimp only [thenQ, blockQ]
      apply endQ.ret
      · rfl
      · conv => lhs; simp [resAV, Tryd.results37]
      rw [hneq (.inr (.inr (.inr (.inr (.inr (.inl (fun e => e6 (by rw [e]))))))))]; rfl
    · simp at h
  by_cases e7 : cs.length = cs'.length
  rotate_left
  · have e7' : ¬ ((cs.length : Int) = cs'.length) := by omega
    repeat (first | refine AWp.seq ?_ | refine AWp.block ?_)
    apply AWp.reg [] [.p (fun _ => .d (.bool true)) none]
    · conv => lhs; simp [e6, e7, e7']
    · exact hvs
    repeat (first | refine AWp.seq ?_ | refine AWp.block ?_)
    refine AWp.cond rfl (fun h => ?_) (fun h => ?_)
    · repeat (first | refine AWp.seq ?_ | refine AWp.block ?_)
      apply AWp.reg [] []
      · conv => lhs; simp
      · trivial
      refine AWp.ret ?_
      try dsimp only [thenQ, blockQ]
      apply endQ.ret
      · rfl
      · conv => lhs; simp [resAV, Tryd.results37]
      rw [hneq (.inr (.inr (.inr (.inr (.inr (.inr (fun e => e7 (by rw [e]))))))))]; rfl
    · simp at h
  repeat (first | refine AWp.seq ?_ | refine AWp.block ?_)
  apply AWp.reg [] [.p (fun _ => .d (.bool true)) none]
  · conv => lhs; simp [e6, e7]
  · exact hvs
  repeat (first | refine AWp.seq ?_ | refine AWp.block ?_)
  refine AWp.cond rfl (fun h => ?_) (fun h => ?_)
  · simp at h
  refine AWp.skip ?_
  refine AWp.le (s' := ⟨115, [(2, .ptr 2 0), (3, .ptr 3 0)], smMem k n a b vs xs cs xs' cs'⟩) (Le.sub (by simp) (by simp [smMem])) ?_
  by_cases hx : xs = xs'
  rotate_left
  · have hf := hneq (.inr (.inr (.inr (.inr (.inr (.inl hx))))))
    repeat (first | refine AWp.seq ?_ | refine AWp.block ?_)
    apply AWp.reg [] []
    · conv => lhs; simp [smMem]
    · trivial
    repeat (first | refine AWp.seq ?_ | refine AWp.block ?_)
    refine AWp.loop (σ := fun u : {i : Nat // i ≤ xs.length ∧ xs.take i = xs'.take i} => ⟨115, [(2, .ptr 2 0), (3, .ptr 3 0), (63, .d (.int xs.length)), (64, .d (.int u.1))], smMem k n a b vs xs cs xs' cs'⟩)
      (μ := fun u => xs.length - u.1) ⟨0, Nat.zero_le _, rfl⟩ (Le.sub (by simp) (by simp [smMem])) (fun ⟨i, hi, ht⟩ => ?_)
    dsimp only
    repeat (first | refine AWp.seq ?_ | refine AWp.block ?_)
    apply AWp.reg [] []
    · conv => lhs; simp
    · trivial
    repeat (first | refine AWp.seq ?_ | refine AWp.block ?_)
    refine AWp.cond rfl (fun h => ?_) (fun h => ?_)
    · have hi1 : i < xs.length := by have := of_decide_eq_true h; omega
      have h1 : xs[i]? = some xs[i] := List.getElem?_eq_getElem hi1
      have h2 : xs'[i]? = some (xs'[i]'(by omega)) := List.getElem?_eq_getElem (by omega)
      have hmem : xs[i] ∈ xs := List.getElem_mem hi1
      generalize xs[i] = x at h1 hmem
      generalize xs'[i]'(by omega) = y at h2
      have hte := take_eq h1 h2 ht
      have hp := ih x y (by have := Tm.sz_arg (k := k) (n := n) (a := a) (b := b) (vs := vs) (cs := cs) hmem; omega) (hO.arg hmem)
      obtain ⟨B, hB⟩ : ∃ B, B = eqB x y := ⟨_, rfl⟩
      rw [← hB] at hp
      refine AWp.skip ?_
      repeat (first | refine AWp.seq ?_ | refine AWp.block ?_)
      apply AWp.reg [] []
      · conv => lhs; simp
      · trivial
      cases B with
      | true =>
        have hxy : x = y := eqB_iff.1 hB.symm
        obtain ⟨_, _, _, _, _, _, _⟩ := x
        obtain ⟨_, _, _, _, _, _, _⟩ := y
        repeat (first | refine AWp.seq ?_ | refine AWp.block ?_)
        apply AWp.draw [] [.p (fun _ => .d (.bool true)) none] mixed
        · conv => lhs; simp [smMem, h1, h2, Tm.row, Tm.rows_eq, Cs.rows_eq]
        · kernel_rfl
        · exact hp
        refine AWp.cn ?_
        refine AWp.skip ?_
        refine AWp.rg [] [] ?_
        refine ⟨⟨i + 1, hi1, hte.2 hxy⟩, by simp; omega, Le.sub (by simp) (by simp [smMem])⟩
      | false =>
        obtain ⟨_, _, _, _, _, _, _⟩ := x
        obtain ⟨_, _, _, _, _, _, _⟩ := y
        repeat (first | refine AWp.seq ?_ | refine AWp.block ?_)
        apply AWp.draw [] [.p (fun _ => .d (.bool false)) none] mixed
        · conv => lhs; simp [smMem, h1, h2, Tm.row, Tm.rows_eq, Cs.rows_eq]
        · kernel_rfl
        · exact hp
        repeat (first | refine AWp.seq ?_ | refine AWp.block ?_)
        refine AWp.cond rfl (fun h3 => ?_) (fun h3 => ?_)
        · repeat (first | refine AWp.seq ?_ | refine AWp.block ?_)
          apply AWp.reg [] []
          · conv => lhs; simp
          · trivial
          refine AWp.ret ?_
          try dsimp only [thenQ, blockQ]
          apply endQ.ret
          · rfl
          · conv => lhs; simp [resAV, Tryd.results37]
          rw [hf]; rfl
        · cases h3
    · have hi1 : i = xs.length := by have := of_decide_eq_false h; omega
      subst hi1
      rw [List.take_length, e6, List.take_length] at ht
      exact absurd ht hx
  subst hx
  repeat (first | refine AWp.seq ?_ | refine AWp.block ?_)
  apply AWp.reg [] []
  · conv => lhs; simp [smMem]
  · trivial
  repeat (first | refine AWp.seq ?_ | refine AWp.block ?_)
  refine AWp.loop (σ := fun u : {i : Nat // i ≤ xs.length} => ⟨115, [(2, .ptr 2 0), (3, .ptr 3 0), (63, .d (.int xs.length)), (64, .d (.int u.1))], smMem k n a b vs xs cs xs cs'⟩)
    (μ := fun u => xs.length - u.1) ⟨0, Nat.zero_le _⟩ (Le.sub (by simp) (by simp [smMem])) (fun ⟨i, hi⟩ => ?_)
  dsimp only
  repeat (first | refine AWp.seq ?_ | refine AWp.block ?_)
  apply AWp.reg [] []
  · conv => lhs; simp
  · trivial
  repeat (first | refine AWp.seq ?_ | refine AWp.block ?_)
  refine AWp.cond rfl (fun h => ?_) (fun h => ?_)
  · have hi1 : i < xs.length := by have := of_decide_eq_true h; omega
    have h1 : xs[i]? = some xs[i] := List.getElem?_eq_getElem hi1
    have hmem : xs[i] ∈ xs := List.getElem_mem hi1
    generalize xs[i] = x at h1 hmem
    have hp := ih x x (by have := Tm.sz_arg (k := k) (n := n) (a := a) (b := b) (vs := vs) (cs := cs) hmem; omega) (hO.arg hmem)
    rw [eqB_self] at hp
    refine AWp.skip ?_
    repeat (first | refine AWp.seq ?_ | refine AWp.block ?_)
    apply AWp.reg [] []
    · conv => lhs; simp
    · trivial
    obtain ⟨_, _, _, _, _, _, _⟩ := x
    repeat (first | refine AWp.seq ?_ | refine AWp.block ?_)
    apply AWp.draw [] [.p (fun _ => .d (.bool true)) none] mixed
    · conv => lhs; simp [smMem, h1, Tm.row, Tm.rows_eq, Cs.rows_eq]
    · kernel_rfl
    · exact hp
    refine AWp.cn ?_
    refine AWp.skip ?_
    refine AWp.rg [] [] ?_
    refine ⟨⟨i + 1, hi1⟩, by simp; omega, Le.sub (by simp) (by simp [smMem])⟩
  refine AWp.exit ?_
  refine AWp.le (s' := ⟨115, [(2, .ptr 2 0), (3, .ptr 3 0)], smMem k n a b vs xs cs xs cs'⟩) (Le.sub (by simp) (by simp [smMem])) ?_
  clear hi h
  repeat (first | refine AWp.seq ?_ | refine AWp.block ?_)
  apply AWp.reg [] []
  · conv => lhs; simp [smMem]
  · trivial
  repeat (first | refine AWp.seq ?_ | refine AWp.block ?_)
  refine AWp.loop (σ := fun u : {i : Nat // i ≤ cs.length ∧ cs.take i = cs'.take i} => ⟨115, [(2, .ptr 2 0), (3, .ptr 3 0), (81, .d (.sl (cs.map Cs.row))), (82, .d (.int cs.length)), (83, .d (.int u.1))], smMem k n a b vs xs cs xs cs'⟩)
    (μ := fun u => cs.length - u.1) ⟨0, Nat.zero_le _, rfl⟩ (Le.sub (by simp) (by simp [smMem])) (fun ⟨i, hi, ht⟩ => ?_)
  dsimp only
  repeat (first | refine AWp.seq ?_ | refine AWp.block ?_)
  apply AWp.reg [] []
  · conv => lhs; simp
  · trivial
  repeat (first | refine AWp.seq ?_ | refine AWp.block ?_)
  refine AWp.cond rfl (fun h => ?_) (fun h => ?_)
  · have hi1 : i < cs.length := by have := of_decide_eq_true h; omega
    have h1 : cs[i]? = some cs[i] := List.getElem?_eq_getElem hi1
    have h2 : cs'[i]? = some (cs'[i]'(by omega)) := List.getElem?_eq_getElem (by omega)
    have hmem : cs[i] ∈ cs := List.getElem_mem hi1
    generalize cs[i] = x at h1 hmem
    generalize cs'[i]'(by omega) = y at h2
    have hte := take_eq h1 h2 ht
    obtain ⟨g, ws, x⟩ := x
    obtain ⟨g', ws', y⟩ := y
    obtain ⟨oc1, oc2⟩ := (hO.case hmem).body
    have hp := ih x y (by have := Tm.sz_case (k := k) (n := n) (a := a) (b := b) (vs := vs) (xs := xs) hmem; omega) oc1
    have hws := sp_SameNames ws ws' (by omega)
    have hbad : (g ≠ g' ∨ ws ≠ ws' ∨ x ≠ y) → eqB (Tm.mk k n a b vs xs cs) (Tm.mk k n a b vs xs cs') = false := fun h => hneq (.inr (.inr (.inr (.inr (.inr (.inr (take_ne h1 h2 (by
      intro e
      cases e
      simp at h))))))))
    obtain ⟨B, hB⟩ : ∃ B, B = eqB x y := ⟨_, rfl⟩
    have hBf : B = false → x ≠ y := fun e q => by rw [hB, q, eqB_self] at e; cases e
    rw [← hB] at hp
    obtain ⟨_, _, _, _, _, _, _⟩ := x
    obtain ⟨_, _, _, _, _, _, _⟩ := y
    refine AWp.skip ?_
    refine AWp.rg [] [] ?_ (hr := by conv => lhs; simp [h1, Cs.row, Tm.row, Tm.rows_eq, Cs.rows_eq])
    refine AWp.rg [] [] ?_ (hr := by conv => lhs; simp [smMem, h2, Cs.row, Tm.row, Tm.rows_eq, Cs.rows_eq])
    by_cases e8 : g = g'
    rotate_left
    · repeat (first | refine AWp.seq ?_ | refine AWp.block ?_)
      apply AWp.reg [] []
      · conv => lhs; simp [e8]
      · trivial
      repeat (first | refine AWp.seq ?_ | refine AWp.block ?_)
      refine AWp.cond rfl (fun h3 => ?_) (fun h3 => ?_)
      · repeat (first | refine AWp.seq ?_ | refine AWp.block ?_)
        apply AWp.reg [] []
        · conv => lhs; simp
        · trivial
        refine AWp.ret ?_
        try dsimp only [thenQ, blockQ]
        apply endQ.ret
        · rfl
        · conv => lhs; simp [resAV, Tryd.results37]
        rw [hbad (.inl e8)]; rfl
      · simp at h3
    subst e8
    by_cases e9 : ws = ws'
    rotate_left
    · rw [eqB_ne e9] at hws
      repeat (first | refine AWp.seq ?_ | refine AWp.block ?_)
      apply AWp.reg [] [.p (fun _ => .d (.bool false)) none]
      · conv => lhs; simp
      · exact hws
      repeat (first | refine AWp.seq ?_ | refine AWp.block ?_)
      refine AWp.cond rfl (fun h3 => ?_) (fun h3 => ?_)
      · repeat (first | refine AWp.seq ?_ | refine AWp.block ?_)
        apply AWp.reg [] []
        · conv => lhs; simp
        · trivial
        refine AWp.ret ?_
        try dsimp only [thenQ, blockQ]
        apply endQ.ret
        · rfl
        · conv => lhs; simp [resAV, Tryd.results37]
        rw [hbad (.inr (.inl e9))]; rfl
      · simp at h3
    subst e9
    rw [eqB_self] at hws
    cases B with
    | true =>
      have hxy := eqB_iff.1 hB.symm
      repeat (first | refine AWp.seq ?_ | refine AWp.block ?_)
      apply AWp.reg [] [.p (fun _ => .d (.bool true)) none, .p (fun _ => .d (.bool true)) none]
      · conv => lhs; simp
      · exact ⟨hws, hp⟩
      repeat (first | refine AWp.seq ?_ | refine AWp.block ?_)
      refine AWp.cond rfl (fun h3 => ?_) (fun h3 => ?_)
      · simp at h3
      refine AWp.skip ?_
      refine AWp.rg [] [] ?_
      refine ⟨⟨i + 1, hi1, hte.2 (by rw [hxy])⟩, by simp; omega, Le.sub (by simp) (by simp [smMem])⟩
    | false =>
      have hxy := hBf rfl
      repeat (first | refine AWp.seq ?_ | refine AWp.block ?_)
      apply AWp.reg [] [.p (fun _ => .d (.bool true)) none, .p (fun _ => .d (.bool false)) none]
      · conv => lhs; simp
      · exact ⟨hws, hp⟩
      repeat (first | refine AWp.seq ?_ | refine AWp.block ?_)
      refine AWp.cond rfl (fun h3 => ?_) (fun h3 => ?_)
      · repeat (first | refine AWp.seq ?_ | refine AWp.block ?_)
        apply AWp.reg [] []
        · conv => lhs; simp
        · trivial
        refine AWp.ret ?_
        try dsimp only [thenQ, blockQ]
        apply endQ.ret
        · rfl
        · conv => lhs; simp [resAV, Tryd.results37]
        rw [hbad (.inr (.inr hxy))]; rfl
      · simp at h3
  · have hi1 : i = cs.length := by have := of_decide_eq_false h; omega
    subst hi1
    rw [List.take_length, e7, List.take_length] at ht
    subst ht
    refine AWp.exit ?_
    repeat (first | refine AWp.seq ?_ | refine AWp.block ?_)
    apply AWp.reg [] []
    · conv => lhs; simp
    · trivial
    refine AWp.ret ?_
    try dsimp only [thenQ, blockQ]
    apply endQ.ret
    · rfl
    · conv => lhs; simp [resAV, Tryd.results37]
    rw [eqB_self]; rfl
theorem sp_refSame (s t : Tm) (h : s.Ok) : PSpec Tryd.prog 37 [tmAV s, tmAV t] (fun _ => .d (.bool (eqB s t))) none := sp_refSame_at _ s t (Nat.lt_succ_self _) h
end Go.Proofs.YtapiiklnnkkdlaaDoor

namespace Go.Proofs.YtapiiklnnkkdlaaDoor
open Go.RowKit
attribute [local simp] runD mkRc ldOf stOf stOk ldArg noAny dstOk guardOk opEff opEff0 effOp pureOp callOp zEff evA constAV scalAV Value.oneCell' frGet memGet startAS frOf isGoCall idIn AS.after nextR opnIds objIds AV.ids idsL AObj.ids frNo memNo opnAny isAny mkVal rdCells wrCells fldAddr idxAddr srcRows litRows toD1 toDs setAt sliceAV optI partAV bldAV fillAV binAV binI AV.cells callEff calleeOf frKill memKill AV.kill AObj.kill AV.has AV.hasL Op.operands Call.operands keepF keepM viewIds cChk renOf moGet moWs moQ cEff moLike moHave AV.ren renL AObj.ren AObj.like kept startC moMem AV.frz frz1 frzL frSub memSub frzs AS.frz frFrz memFrz AObj.frz takeMap takeLen bleF Nat.ble_eq memAny objAny mapOp D.keyOk rowAV valRow extOp wrapOp phO frLow memLow memLow1 objLow memEmpty Low LowL
set_option linter.unusedVariables false
set_option linter.unusedSimpArgs false
end Go.Proofs.YtapiiklnnkkdlaaDoor

namespace Go.Proofs.YtapiiklnnkkdlaaDoor
open Go.RowKit
attribute [local simp] runD mkRc ldOf stOf stOk ldArg noAny dstOk guardOk opEff opEff0 effOp pureOp callOp zEff evA constAV scalAV Value.oneCell' frGet memGet startAS frOf isGoCall idIn AS.after nextR opnIds objIds AV.ids idsL AObj.ids frNo memNo opnAny isAny mkVal rdCells wrCells fldAddr idxAddr srcRows litRows toD1 toDs setAt sliceAV optI partAV bldAV fillAV binAV binI AV.cells callEff calleeOf frKill memKill AV.kill AObj.kill AV.has AV.hasL Op.operands Call.operands keepF keepM viewIds cChk renOf moGet moWs moQ cEff moLike moHave AV.ren renL AObj.ren AObj.like kept startC moMem AV.frz frz1 frzL frSub memSub frzs AS.frz frFrz memFrz AObj.frz takeMap takeLen bleF Nat.ble_eq memAny objAny mapOp D.keyOk rowAV valRow extOp wrapOp phO
set_option linter.unusedVariables false
set_option linter.unusedSimpArgs false
def hasB (l : List ByteArray) (s : ByteArray) : Bool := l.any fun x => decide (x = s)
theorem hasB_iff {l : List ByteArray} {s : ByteArray} : hasB l s = true ↔ s ∈ l := by
  unfold hasB
  rw [List.any_eq_true]
  constructor
  · rintro ⟨x, h1, h2⟩
    rw [← of_decide_eq_true h2]; exact h1
  · exact fun h => ⟨s, h, decide_eq_true rfl⟩
theorem hasB_not {l : List ByteArray} {s : ByteArray} : hasB l s = false ↔ s ∉ l := by
  rw [← Bool.not_eq_true, hasB_iff]


def woN (l gone : List ByteArray) : List ByteArray := l.filter fun s => !hasB gone s
def addN (l more : List ByteArray) : List ByteArray := more.foldl (fun l s => if hasB l s then l else l ++ [s]) l
end Go.Proofs.YtapiiklnnkkdlaaDoor

namespace Go.Proofs.YtapiiklnnkkdlaaDoor
open Go.RowKit
set_option linter.unusedVariables false
set_option linter.unusedSimpArgs false
def endX (P : Program) (fn : Func) (r : Nat → AV) (x : Option AObj) : Exit → AS → Prop := fun e s => ∃ o, (∀ d, r d = (r o).ren (fun _ => d)) ∧ (∀ i ∈ (r o).ids, i = o) ∧ endQ P fn r x o e s
theorem endX.ret {P : Program} {fn : Func} {n : Nat} (o : Nat) {s : AS} {cs : List AV} {y : AObj} (h : resAV P s fn.results.toList = some cs) (hr : (resVal cs).nilD = .arr o 0 n) (hx : memGet s.mem o = some y) (ho : Nat.ble 500 o = false) : endX P fn (fun d => .arr d 0 n) (some y) .ret s :=
  ⟨o, fun _ => rfl, by simp [AV.ids, idsL], .inl rfl, s, Le.refl s, cs, h, hr, rfl, fun z hz => by cases hz; exact ⟨hx, ho⟩⟩
mutual
def Tm.free : Tm → List ByteArray
  | .mk k _ a _ _ xs cs => if k = 1 then [a] else if k = 6 ∧ xs.length = 2 then Tm.freeL a [] xs else Cs.frees (Tm.frees (if 8 ≤ k ∧ k ≤ 11 then [a] else []) xs) cs
def Tm.frees : List ByteArray → List Tm → List ByteArray
  | o, [] => o
  | o, x :: r => Tm.frees (addN o x.free) r
def Tm.freeL (a : ByteArray) : List ByteArray → List Tm → List ByteArray
  | o, [] => o
  | o, x :: r => Tm.freeB a (addN o x.free) r
def Tm.freeB (a : ByteArray) : List ByteArray → List Tm → List ByteArray
  | o, [] => o
  | o, x :: _ => addN o (woN x.free [a])
def Cs.frees : List ByteArray → List Cs → List ByteArray
  | o, [] => o
  | o, c :: r => Cs.frees (addN o c.freeC) r
def Cs.freeC : Cs → List ByteArray
  | .mk _ vs b => woN b.free vs
end
theorem Tm.frees_eq (l : List Tm) : ∀ o, Tm.frees o l = l.foldl (fun o x => addN o x.free) o := by
  induction l with
  | nil => intro o; simp [Tm.frees]
  | cons x r ih => intro o; simp [Tm.frees, ih]
theorem Cs.frees_eq (l : List Cs) : ∀ o, Cs.frees o l = l.foldl (fun o x => addN o x.freeC) o := by
  induction l with
  | nil => intro o; simp [Cs.frees]
  | cons x r ih => intro o; simp [Cs.frees, ih]
theorem Tm.szs_take {l : List Tm} {i : Nat} {x : Tm} (hx : l[i]? = some x) : Tm.szs (l.take i) + x.sz ≤ Tm.szs l := by
  induction l generalizing i with
  | nil => simp at hx
  | cons y r ih =>
    cases i with
    | zero => simp at hx; subst hx; simp [Tm.szs]
    | succ i => have := ih (i := i) (by simpa using hx); simp only [List.take_succ_cons, Tm.szs]; omega
theorem Cs.szs_take {l : List Cs} {i : Nat} {x : Cs} (hx : l[i]? = some x) : Cs.szs (l.take i) + x.sz ≤ Cs.szs l := by
  induction l generalizing i with
  | nil => simp at hx
  | cons y r ih =>
    cases i with
    | zero => simp at hx; subst hx; simp [Cs.szs]
    | succ i => have := ih (i := i) (by simpa using hx); simp only [List.take_succ_cons, Cs.szs]; omega
theorem Tm.frees_snoc {o : List ByteArray} {l : List Tm} {i : Nat} {x : Tm} (hx : l[i]? = some x) : Tm.frees o (l.take (i + 1)) = addN (Tm.frees o (l.take i)) x.free := by
  rw [List.take_add_one, hx]
  simp [Tm.frees_eq]
theorem Cs.frees_snoc {o : List ByteArray} {l : List Cs} {i : Nat} {x : Cs} (hx : l[i]? = some x) : Cs.frees o (l.take (i + 1)) = addN (Cs.frees o (l.take i)) x.freeC := by
  rw [List.take_add_one, hx]
  simp [Cs.frees_eq]
end Go.Proofs.YtapiiklnnkkdlaaDoor
