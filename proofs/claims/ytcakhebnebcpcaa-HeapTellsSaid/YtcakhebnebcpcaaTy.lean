/- What the abstract machine asks of this program's types. Printed by a small program. -/
import Derived.Test.YtcakhebnebcpcaaEng2
import Derived.Test.YtcakhebnebcpcaaRows
namespace Go.Proofs.Ytcakhebnebcpcaa
open Go.RowKit

theorem tyF :
    (Try.prog.underlying 2 = some (.int .i64)) ∧
    (tyAgg Try.prog 2 = some (false, 1)) ∧
    (tyZero Try.prog 2 = some [.d (.int 0)]) ∧
    (Try.prog.underlying 3 = some (.int .i64)) ∧
    (tyAgg Try.prog 3 = some (false, 1)) ∧
    (tyZero Try.prog 3 = some [.d (.int 0)]) ∧
    (Try.prog.underlying 4 = some .bool) ∧
    (tyAgg Try.prog 4 = some (false, 1)) ∧
    (tyZero Try.prog 4 = some [.d (.bool false)]) ∧
    (Try.prog.underlying 5 = some (.int .u8)) ∧
    (tyAgg Try.prog 5 = some (false, 1)) ∧
    (tyZero Try.prog 5 = some [.d (.num .u8 0)]) ∧
    (Try.prog.underlying 9 = some .string) ∧
    (tyAgg Try.prog 9 = some (false, 1)) ∧
    (tyZero Try.prog 9 = some [.d (.str ByteArray.empty)]) ∧
    (Try.prog.underlying 12 = some (.int .u64)) ∧
    (tyAgg Try.prog 12 = some (false, 1)) ∧
    (tyZero Try.prog 12 = some [.d (.num .u64 0)]) ∧
    (Try.prog.underlying 21 = some (.int .i32)) ∧
    (tyAgg Try.prog 21 = some (false, 1)) ∧
    (tyZero Try.prog 21 = some [.d (.num .i32 0)]) ∧
    (Try.prog.underlying 22 = some (.slice 3)) ∧
    (tyAgg Try.prog 22 = some (false, 1)) ∧
    (tyElem Try.prog 22 = some (3, 1)) ∧
    (tyOne Try.prog 3 = some (1, 8)) ∧
    (tyZero Try.prog 22 = some [.lit (.slice none 0 0)]) ∧
    (tyAgg Try.prog 23 = some (true, 2)) ∧
    (tyField Try.prog 23 0 = some (0, false, 1)) ∧
    (tyField Try.prog 23 1 = some (1, false, 1)) ∧
    (tyPlaces Try.prog 23 = some [(0, 1), (1, 1)]) ∧
    (tyZero Try.prog 23 = some [.d (.int 0), .d (.int 0)]) ∧
    (tyAgg Try.prog 24 = some (true, 2)) ∧
    (tyField Try.prog 24 0 = some (0, false, 1)) ∧
    (tyField Try.prog 24 1 = some (1, false, 1)) ∧
    (tyPlaces Try.prog 24 = some [(0, 1), (1, 1)]) ∧
    (tyZero Try.prog 24 = some [.d (.int 0), .d (.int 0)]) ∧
    (Try.prog.underlying 25 = some (.slice 24)) ∧
    (tyAgg Try.prog 25 = some (false, 1)) ∧
    (tyElem Try.prog 25 = some (24, 2)) ∧
    (tyOne Try.prog 24 = some (2, 16)) ∧
    (tyZero Try.prog 25 = some [.lit (.slice none 0 0)]) ∧
    (Try.prog.underlying 26 = some (.slice 51)) ∧
    (tyAgg Try.prog 26 = some (false, 1)) ∧
    (tyElem Try.prog 26 = some (51, 3)) ∧
    (tyOne Try.prog 51 = some (3, 40)) ∧
    (tyZero Try.prog 26 = some [.lit (.slice none 0 0)]) ∧
    (tyAgg Try.prog 27 = some (true, 5)) ∧
    (tyField Try.prog 27 0 = some (0, false, 1)) ∧
    (tyField Try.prog 27 1 = some (1, false, 1)) ∧
    (tyField Try.prog 27 2 = some (2, false, 1)) ∧
    (tyField Try.prog 27 3 = some (3, false, 1)) ∧
    (tyField Try.prog 27 4 = some (4, false, 1)) ∧
    (tyPlaces Try.prog 27 = some [(0, 1), (1, 1), (2, 1), (3, 1), (4, 1)]) ∧
    (tyZero Try.prog 27 = some [.lit (.slice none 0 0), .d (.int 0), .d (.int 0), .d (.int 0), .d (.int 0)]) ∧
    (tyAgg Try.prog 28 = some (true, 5)) ∧
    (tyField Try.prog 28 0 = some (0, false, 1)) ∧
    (tyField Try.prog 28 1 = some (1, false, 1)) ∧
    (tyField Try.prog 28 2 = some (2, false, 1)) ∧
    (tyField Try.prog 28 3 = some (3, false, 1)) ∧
    (tyField Try.prog 28 4 = some (4, false, 1)) ∧
    (tyPlaces Try.prog 28 = some [(0, 1), (1, 1), (2, 1), (3, 1), (4, 1)]) ∧
    (tyZero Try.prog 28 = some [.lit (.slice none 0 0), .d (.int 0), .d (.int 0), .d (.int 0), .d (.int 0)]) ∧
    (Try.prog.underlying 31 = some (.int .i64)) ∧
    (tyAgg Try.prog 31 = some (false, 1)) ∧
    (tyZero Try.prog 31 = some [.d (.int 0)]) ∧
    (tyAgg Try.prog 42 = some (true, 4)) ∧
    (tyField Try.prog 42 0 = some (0, false, 1)) ∧
    (tyField Try.prog 42 1 = some (1, false, 1)) ∧
    (tyField Try.prog 42 2 = some (2, true, 2)) ∧
    (tyPlaces Try.prog 42 = some [(0, 1), (1, 1), (2, 2)]) ∧
    (tyZero Try.prog 42 = some [.lit .nilFunc, .lit .nilFunc, .d (.int 0), .d (.int 0)]) ∧
    (Try.prog.underlying 43 = some (.slice 42)) ∧
    (tyAgg Try.prog 43 = some (false, 1)) ∧
    (tyElem Try.prog 43 = some (42, 4)) ∧
    (tyOne Try.prog 42 = some (4, 32)) ∧
    (tyZero Try.prog 43 = some [.lit (.slice none 0 0)]) ∧
    (tyAgg Try.prog 50 = some (true, 3)) ∧
    (tyField Try.prog 50 0 = some (0, false, 1)) ∧
    (tyField Try.prog 50 1 = some (1, false, 1)) ∧
    (tyField Try.prog 50 2 = some (2, false, 1)) ∧
    (tyPlaces Try.prog 50 = some [(0, 1), (1, 1), (2, 1)]) ∧
    (tyZero Try.prog 50 = some [.d (.int 0), .d (.int 0), .lit (.slice none 0 0)]) ∧
    (tyAgg Try.prog 51 = some (true, 3)) ∧
    (tyField Try.prog 51 0 = some (0, false, 1)) ∧
    (tyField Try.prog 51 1 = some (1, false, 1)) ∧
    (tyField Try.prog 51 2 = some (2, false, 1)) ∧
    (tyPlaces Try.prog 51 = some [(0, 1), (1, 1), (2, 1)]) ∧
    (tyZero Try.prog 51 = some [.d (.int 0), .d (.int 0), .lit (.slice none 0 0)]) ∧
    (tyAgg Try.prog 57 = some (false, 1)) ∧
    (tyZero Try.prog 57 = some [.d .nil]) ∧
    (tyAgg Try.prog 59 = some (false, 1)) ∧
    (tyZero Try.prog 59 = some [.d .nil]) ∧
    (Try.prog.underlying 72 = some (.int .u32)) ∧
    (tyAgg Try.prog 72 = some (false, 1)) ∧
    (tyZero Try.prog 72 = some [.d (.num .u32 0)]) ∧
    (tyAgg Try.prog 76 = some (false, 1)) ∧
    (tyZero Try.prog 76 = some [.d .nil]) := by
  refine ⟨?_, ?_, ?_, ?_, ?_, ?_, ?_, ?_, ?_, ?_, ?_, ?_, ?_, ?_, ?_, ?_, ?_, ?_, ?_, ?_, ?_, ?_, ?_, ?_, ?_, ?_, ?_, ?_, ?_, ?_, ?_, ?_, ?_, ?_, ?_, ?_, ?_, ?_, ?_, ?_, ?_, ?_, ?_, ?_, ?_, ?_, ?_, ?_, ?_, ?_, ?_, ?_, ?_, ?_, ?_, ?_, ?_, ?_, ?_, ?_, ?_, ?_, ?_, ?_, ?_, ?_, ?_, ?_, ?_, ?_, ?_, ?_, ?_, ?_, ?_, ?_, ?_, ?_, ?_, ?_, ?_, ?_, ?_, ?_, ?_, ?_, ?_, ?_, ?_, ?_, ?_, ?_, ?_, ?_, ?_, ?_, ?_⟩ <;> kernel_rfl

theorem mixed : Try.prog.follows .mixedOrders = true := by kernel_rfl
end Go.Proofs.Ytcakhebnebcpcaa
