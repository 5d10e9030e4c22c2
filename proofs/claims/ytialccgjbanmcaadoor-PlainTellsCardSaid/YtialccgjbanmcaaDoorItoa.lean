/- strconv.Itoa, as the abstract machine takes it. -/
import Derived.Test.YtialccgjbanmcaaDoorTy
import Derived.Test.YtialccgjbanmcaaDoorShelf
import Derived.Lib.ItoaLen
namespace Go.Proofs.YtialccgjbanmcaaDoor
open Go.RowKit
set_option linter.unusedVariables false
set_option linter.unusedSimpArgs false

/-- A number's decimal numeral. -/
def itoaB (n : Int) : ByteArray := ⟨(Lib.itoa n).toArray⟩
theorem itoaB_size {n : Int} (h : inI n) : (itoaB n).size ≤ 21 := by
  have := Lib.itoa_length_le n h.1 h.2
  simpa [itoaB, ByteArray.size] using this
theorem sp_Itoa (n : Int) (h : inI n) : PSpec Tryd.prog 82 [.d (.int n)] (fun _ => .d (.str (itoaB n))) none := by
  refine ⟨⟨_, Tryd.func82, rfl, rfl⟩, fun d => rfl, fun _ d => rfl, by simp, fun d w ok vals hgi hok hl hv => ?_⟩
  match vals, hl with
  | ⟨[v]⟩, _ =>
  obtain ⟨rfl, _⟩ := (hv 0 _ v rfl rfl).d_inv.int_inv
  refine (Tryd.strconv_Itoa n h.1 h.2 w hgi).mono ?_
  rintro e w' ⟨rfl, k, os, rfl⟩
  have hs := itoaB_size h
  refine ⟨_, ok, noG, rfl, ⟨rfl, rfl, rfl, by simp [Go.Sort.grow, World.drewN], fun b hb => ?_⟩, fun b h => h, fun b h => .inl h, .d _ _ (.str _ (by unfold maxLen; omega)), by simp⟩
  simp only [Go.Sort.grow, World.drewN]
  rw [Array.getElem?_append_left hb]
end Go.Proofs.YtialccgjbanmcaaDoor
