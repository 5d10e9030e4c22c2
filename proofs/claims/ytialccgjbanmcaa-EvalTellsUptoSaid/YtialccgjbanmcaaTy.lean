/- What the abstract machine asks of this program's types. Printed by a small program. -/
import Derived.Test.YtialccgjbanmcaaEng2
import Derived.Test.YtialccgjbanmcaaRows
namespace Go.Proofs.Ytialccgjbanmcaa
open Go.RowKit

@[simp] theorem tyF0 : tyAgg Try.prog 1 = some (false, 1) := by kernel_rfl
@[simp] theorem tyF1 : tyZero Try.prog 1 = some [.lit .nilFunc] := by kernel_rfl
@[simp] theorem tyF2 : Try.prog.underlying 2 = some (.int .i64) := by kernel_rfl
@[simp] theorem tyF3 : tyAgg Try.prog 2 = some (false, 1) := by kernel_rfl
@[simp] theorem tyF4 : tyZero Try.prog 2 = some [.d (.int 0)] := by kernel_rfl
@[simp] theorem tyF5 : Try.prog.underlying 3 = some (.int .i64) := by kernel_rfl
@[simp] theorem tyF6 : tyAgg Try.prog 3 = some (false, 1) := by kernel_rfl
@[simp] theorem tyF7 : tyZero Try.prog 3 = some [.d (.int 0)] := by kernel_rfl
@[simp] theorem tyF8 : Try.prog.underlying 4 = some .bool := by kernel_rfl
@[simp] theorem tyF9 : tyAgg Try.prog 4 = some (false, 1) := by kernel_rfl
@[simp] theorem tyF10 : tyZero Try.prog 4 = some [.d (.bool false)] := by kernel_rfl
@[simp] theorem tyF11 : Try.prog.underlying 5 = some (.int .u8) := by kernel_rfl
@[simp] theorem tyF12 : tyAgg Try.prog 5 = some (false, 1) := by kernel_rfl
@[simp] theorem tyF13 : tyZero Try.prog 5 = some [.d (.num .u8 0)] := by kernel_rfl
@[simp] theorem tyF14 : Try.prog.underlying 9 = some .string := by kernel_rfl
@[simp] theorem tyF15 : tyAgg Try.prog 9 = some (false, 1) := by kernel_rfl
@[simp] theorem tyF16 : tyZero Try.prog 9 = some [.d (.str ByteArray.empty)] := by kernel_rfl
@[simp] theorem tyF17 : Try.prog.underlying 12 = some (.int .u64) := by kernel_rfl
@[simp] theorem tyF18 : tyAgg Try.prog 12 = some (false, 1) := by kernel_rfl
@[simp] theorem tyF19 : tyZero Try.prog 12 = some [.d (.num .u64 0)] := by kernel_rfl
@[simp] theorem tyF20 : Try.prog.underlying 21 = some (.int .i32) := by kernel_rfl
@[simp] theorem tyF21 : tyAgg Try.prog 21 = some (false, 1) := by kernel_rfl
@[simp] theorem tyF22 : tyZero Try.prog 21 = some [.d (.num .i32 0)] := by kernel_rfl
@[simp] theorem tyF23 : Try.prog.underlying 22 = some (.slice 56) := by kernel_rfl
@[simp] theorem tyF24 : tyAgg Try.prog 22 = some (false, 1) := by kernel_rfl
@[simp] theorem tyF25 : tyElem Try.prog 22 = some (56, 9) := by kernel_rfl
@[simp] theorem tyF26 : tyOne Try.prog 56 = some (9, 160) := by kernel_rfl
@[simp] theorem tyF27 : tyZero Try.prog 22 = some [.lit (.slice none 0 0)] := by kernel_rfl
@[simp] theorem tyF28 : Try.prog.underlying 23 = some (.slice 3) := by kernel_rfl
@[simp] theorem tyF29 : tyAgg Try.prog 23 = some (false, 1) := by kernel_rfl
@[simp] theorem tyF30 : tyElem Try.prog 23 = some (3, 1) := by kernel_rfl
@[simp] theorem tyF31 : tyOne Try.prog 3 = some (1, 8) := by kernel_rfl
@[simp] theorem tyF32 : tyZv Try.prog 3 false = some (.d (.int 0)) := by kernel_rfl
@[simp] theorem tyF33 : tyZero Try.prog 23 = some [.lit (.slice none 0 0)] := by kernel_rfl
@[simp] theorem tyF34 : Try.prog.underlying 24 = some (.slice 26) := by kernel_rfl
@[simp] theorem tyF35 : tyAgg Try.prog 24 = some (false, 1) := by kernel_rfl
@[simp] theorem tyF36 : tyElem Try.prog 24 = some (26, 3) := by kernel_rfl
@[simp] theorem tyF37 : tyOne Try.prog 26 = some (3, 40) := by kernel_rfl
@[simp] theorem tyF38 : tyZero Try.prog 24 = some [.lit (.slice none 0 0)] := by kernel_rfl
@[simp] theorem tyF39 : tyAgg Try.prog 25 = some (true, 3) := by kernel_rfl
@[simp] theorem tyF40 : tyField Try.prog 25 0 = some (0, false, 1) := by kernel_rfl
@[simp] theorem tyF41 : tyField Try.prog 25 1 = some (1, false, 1) := by kernel_rfl
@[simp] theorem tyF42 : tyField Try.prog 25 2 = some (2, false, 1) := by kernel_rfl
@[simp] theorem tyF43 : tyPlaces Try.prog 25 = some [(0, 1), (1, 1), (2, 1)] := by kernel_rfl
@[simp] theorem tyF44 : tyZero Try.prog 25 = some [.d (.bool false), .d (.int 0), .lit (.slice none 0 0)] := by kernel_rfl
@[simp] theorem tyF45 : tyAgg Try.prog 26 = some (true, 3) := by kernel_rfl
@[simp] theorem tyF46 : tyField Try.prog 26 0 = some (0, false, 1) := by kernel_rfl
@[simp] theorem tyF47 : tyField Try.prog 26 1 = some (1, false, 1) := by kernel_rfl
@[simp] theorem tyF48 : tyField Try.prog 26 2 = some (2, false, 1) := by kernel_rfl
@[simp] theorem tyF49 : tyPlaces Try.prog 26 = some [(0, 1), (1, 1), (2, 1)] := by kernel_rfl
@[simp] theorem tyF50 : tyZero Try.prog 26 = some [.d (.bool false), .d (.int 0), .lit (.slice none 0 0)] := by kernel_rfl
@[simp] theorem tyF51 : tyAgg Try.prog 27 = some (false, 1) := by kernel_rfl
@[simp] theorem tyF52 : tyZero Try.prog 27 = some [.lit .nilFunc] := by kernel_rfl
@[simp] theorem tyF53 : tyAgg Try.prog 28 = some (false, 1) := by kernel_rfl
@[simp] theorem tyF54 : tyZero Try.prog 28 = some [.lit .nilFunc] := by kernel_rfl
@[simp] theorem tyF55 : tyAgg Try.prog 29 = some (false, 1) := by kernel_rfl
@[simp] theorem tyF56 : tyZero Try.prog 29 = some [.lit .nilFunc] := by kernel_rfl
@[simp] theorem tyF57 : tyAgg Try.prog 30 = some (false, 1) := by kernel_rfl
@[simp] theorem tyF58 : tyZero Try.prog 30 = some [.lit .nilFunc] := by kernel_rfl
@[simp] theorem tyF59 : Try.prog.underlying 31 = some (.int .i64) := by kernel_rfl
@[simp] theorem tyF60 : tyAgg Try.prog 31 = some (false, 1) := by kernel_rfl
@[simp] theorem tyF61 : tyZero Try.prog 31 = some [.d (.int 0)] := by kernel_rfl
@[simp] theorem tyF62 : tyAgg Try.prog 33 = some (false, 1) := by kernel_rfl
@[simp] theorem tyF63 : tyZero Try.prog 33 = some [.lit .nilFunc] := by kernel_rfl
@[simp] theorem tyF64 : tyAgg Try.prog 34 = some (false, 1) := by kernel_rfl
@[simp] theorem tyF65 : tyZero Try.prog 34 = some [.lit .nilFunc] := by kernel_rfl
@[simp] theorem tyF66 : tyAgg Try.prog 35 = some (false, 1) := by kernel_rfl
@[simp] theorem tyF67 : tyZero Try.prog 35 = some [.lit .nilFunc] := by kernel_rfl
@[simp] theorem tyF68 : tyAgg Try.prog 36 = some (false, 1) := by kernel_rfl
@[simp] theorem tyF69 : tyZero Try.prog 36 = some [.lit .nilFunc] := by kernel_rfl
@[simp] theorem tyF70 : Try.prog.underlying 37 = some (.slice 9) := by kernel_rfl
@[simp] theorem tyF71 : tyAgg Try.prog 37 = some (false, 1) := by kernel_rfl
@[simp] theorem tyF72 : tyElem Try.prog 37 = some (9, 1) := by kernel_rfl
@[simp] theorem tyF73 : tyOne Try.prog 9 = some (1, 16) := by kernel_rfl
@[simp] theorem tyF74 : tyZv Try.prog 9 false = some (.d (.str ByteArray.empty)) := by kernel_rfl
@[simp] theorem tyF75 : tyZero Try.prog 37 = some [.lit (.slice none 0 0)] := by kernel_rfl
@[simp] theorem tyF76 : Try.prog.underlying 38 = some (.slice 41) := by kernel_rfl
@[simp] theorem tyF77 : tyAgg Try.prog 38 = some (false, 1) := by kernel_rfl
@[simp] theorem tyF78 : tyElem Try.prog 38 = some (41, 7) := by kernel_rfl
@[simp] theorem tyF79 : tyOne Try.prog 41 = some (7, 120) := by kernel_rfl
@[simp] theorem tyF80 : tyZero Try.prog 38 = some [.lit (.slice none 0 0)] := by kernel_rfl
@[simp] theorem tyF81 : Try.prog.underlying 39 = some (.slice 74) := by kernel_rfl
@[simp] theorem tyF82 : tyAgg Try.prog 39 = some (false, 1) := by kernel_rfl
@[simp] theorem tyF83 : tyElem Try.prog 39 = some (74, 9) := by kernel_rfl
@[simp] theorem tyF84 : tyOne Try.prog 74 = some (9, 152) := by kernel_rfl
@[simp] theorem tyF85 : tyZero Try.prog 39 = some [.lit (.slice none 0 0)] := by kernel_rfl
@[simp] theorem tyF86 : tyAgg Try.prog 40 = some (true, 7) := by kernel_rfl
@[simp] theorem tyF87 : tyField Try.prog 40 0 = some (0, false, 1) := by kernel_rfl
@[simp] theorem tyF88 : tyField Try.prog 40 1 = some (1, false, 1) := by kernel_rfl
@[simp] theorem tyF89 : tyField Try.prog 40 2 = some (2, false, 1) := by kernel_rfl
@[simp] theorem tyF90 : tyField Try.prog 40 3 = some (3, false, 1) := by kernel_rfl
@[simp] theorem tyF91 : tyField Try.prog 40 4 = some (4, false, 1) := by kernel_rfl
@[simp] theorem tyF92 : tyField Try.prog 40 5 = some (5, false, 1) := by kernel_rfl
@[simp] theorem tyF93 : tyField Try.prog 40 6 = some (6, false, 1) := by kernel_rfl
@[simp] theorem tyF94 : tyPlaces Try.prog 40 = some [(0, 1), (1, 1), (2, 1), (3, 1), (4, 1), (5, 1), (6, 1)] := by kernel_rfl
@[simp] theorem tyF95 : tyZero Try.prog 40 = some [.d (.int 0), .d (.int 0), .d (.str ByteArray.empty), .d (.str ByteArray.empty), .lit (.slice none 0 0), .lit (.slice none 0 0), .lit (.slice none 0 0)] := by kernel_rfl
@[simp] theorem tyF96 : tyAgg Try.prog 41 = some (true, 7) := by kernel_rfl
@[simp] theorem tyF97 : tyField Try.prog 41 0 = some (0, false, 1) := by kernel_rfl
@[simp] theorem tyF98 : tyField Try.prog 41 1 = some (1, false, 1) := by kernel_rfl
@[simp] theorem tyF99 : tyField Try.prog 41 2 = some (2, false, 1) := by kernel_rfl
@[simp] theorem tyF100 : tyField Try.prog 41 3 = some (3, false, 1) := by kernel_rfl
@[simp] theorem tyF101 : tyField Try.prog 41 4 = some (4, false, 1) := by kernel_rfl
@[simp] theorem tyF102 : tyField Try.prog 41 5 = some (5, false, 1) := by kernel_rfl
@[simp] theorem tyF103 : tyField Try.prog 41 6 = some (6, false, 1) := by kernel_rfl
@[simp] theorem tyF104 : tyPlaces Try.prog 41 = some [(0, 1), (1, 1), (2, 1), (3, 1), (4, 1), (5, 1), (6, 1)] := by kernel_rfl
@[simp] theorem tyF105 : tyZero Try.prog 41 = some [.d (.int 0), .d (.int 0), .d (.str ByteArray.empty), .d (.str ByteArray.empty), .lit (.slice none 0 0), .lit (.slice none 0 0), .lit (.slice none 0 0)] := by kernel_rfl
@[simp] theorem tyF106 : tyAgg Try.prog 42 = some (false, 1) := by kernel_rfl
@[simp] theorem tyF107 : tyZero Try.prog 42 = some [.lit .nilFunc] := by kernel_rfl
@[simp] theorem tyF108 : tyAgg Try.prog 43 = some (false, 1) := by kernel_rfl
@[simp] theorem tyF109 : tyZero Try.prog 43 = some [.lit .nilFunc] := by kernel_rfl
@[simp] theorem tyF110 : tyAgg Try.prog 44 = some (false, 1) := by kernel_rfl
@[simp] theorem tyF111 : tyZero Try.prog 44 = some [.lit .nilFunc] := by kernel_rfl
@[simp] theorem tyF112 : tyAgg Try.prog 45 = some (false, 1) := by kernel_rfl
@[simp] theorem tyF113 : tyZero Try.prog 45 = some [.lit .nilFunc] := by kernel_rfl
@[simp] theorem tyF114 : tyAgg Try.prog 46 = some (false, 1) := by kernel_rfl
@[simp] theorem tyF115 : tyZero Try.prog 46 = some [.lit .nilFunc] := by kernel_rfl
@[simp] theorem tyF116 : tyAgg Try.prog 47 = some (false, 1) := by kernel_rfl
@[simp] theorem tyF117 : tyZero Try.prog 47 = some [.lit .nilFunc] := by kernel_rfl
@[simp] theorem tyF118 : tyAgg Try.prog 48 = some (false, 1) := by kernel_rfl
@[simp] theorem tyF119 : tyZero Try.prog 48 = some [.lit .nilFunc] := by kernel_rfl
@[simp] theorem tyF120 : tyAgg Try.prog 49 = some (false, 1) := by kernel_rfl
@[simp] theorem tyF121 : tyZero Try.prog 49 = some [.lit .nilFunc] := by kernel_rfl
@[simp] theorem tyF122 : tyAgg Try.prog 50 = some (false, 1) := by kernel_rfl
@[simp] theorem tyF123 : tyZero Try.prog 50 = some [.lit .nilFunc] := by kernel_rfl
@[simp] theorem tyF124 : tyAgg Try.prog 51 = some (false, 1) := by kernel_rfl
@[simp] theorem tyF125 : tyZero Try.prog 51 = some [.lit .nilFunc] := by kernel_rfl
@[simp] theorem tyF126 : tyAgg Try.prog 52 = some (false, 1) := by kernel_rfl
@[simp] theorem tyF127 : tyZero Try.prog 52 = some [.lit .nilFunc] := by kernel_rfl
@[simp] theorem tyF128 : tyAgg Try.prog 53 = some (false, 1) := by kernel_rfl
@[simp] theorem tyF129 : tyZero Try.prog 53 = some [.lit .nilFunc] := by kernel_rfl
@[simp] theorem tyF130 : tyAgg Try.prog 54 = some (false, 1) := by kernel_rfl
@[simp] theorem tyF131 : tyZero Try.prog 54 = some [.lit .nilFunc] := by kernel_rfl
@[simp] theorem tyF132 : tyAgg Try.prog 55 = some (true, 9) := by kernel_rfl
@[simp] theorem tyF133 : tyField Try.prog 55 0 = some (0, false, 1) := by kernel_rfl
@[simp] theorem tyF134 : tyField Try.prog 55 1 = some (1, false, 1) := by kernel_rfl
@[simp] theorem tyF135 : tyField Try.prog 55 2 = some (2, true, 7) := by kernel_rfl
@[simp] theorem tyF136 : tyPlaces Try.prog 55 = some [(0, 1), (1, 1), (2, 7)] := by kernel_rfl
@[simp] theorem tyF137 : tyZero Try.prog 55 = some [.d (.str ByteArray.empty), .lit (.slice none 0 0), .d (.int 0), .d (.int 0), .d (.str ByteArray.empty), .d (.str ByteArray.empty), .lit (.slice none 0 0), .lit (.slice none 0 0), .lit (.slice none 0 0)] := by kernel_rfl
@[simp] theorem tyF138 : tyAgg Try.prog 56 = some (true, 9) := by kernel_rfl
@[simp] theorem tyF139 : tyField Try.prog 56 0 = some (0, false, 1) := by kernel_rfl
@[simp] theorem tyF140 : tyField Try.prog 56 1 = some (1, false, 1) := by kernel_rfl
@[simp] theorem tyF141 : tyField Try.prog 56 2 = some (2, true, 7) := by kernel_rfl
@[simp] theorem tyF142 : tyPlaces Try.prog 56 = some [(0, 1), (1, 1), (2, 7)] := by kernel_rfl
@[simp] theorem tyF143 : tyZero Try.prog 56 = some [.d (.str ByteArray.empty), .lit (.slice none 0 0), .d (.int 0), .d (.int 0), .d (.str ByteArray.empty), .d (.str ByteArray.empty), .lit (.slice none 0 0), .lit (.slice none 0 0), .lit (.slice none 0 0)] := by kernel_rfl
@[simp] theorem tyF144 : tyAgg Try.prog 57 = some (false, 1) := by kernel_rfl
@[simp] theorem tyF145 : tyZero Try.prog 57 = some [.lit .nilFunc] := by kernel_rfl
@[simp] theorem tyF146 : tyAgg Try.prog 58 = some (false, 1) := by kernel_rfl
@[simp] theorem tyF147 : tyZero Try.prog 58 = some [.lit .nilFunc] := by kernel_rfl
@[simp] theorem tyF148 : tyAgg Try.prog 59 = some (false, 1) := by kernel_rfl
@[simp] theorem tyF149 : tyZero Try.prog 59 = some [.lit .nilFunc] := by kernel_rfl
@[simp] theorem tyF150 : tyAgg Try.prog 60 = some (false, 1) := by kernel_rfl
@[simp] theorem tyF151 : tyZero Try.prog 60 = some [.lit .nilFunc] := by kernel_rfl
@[simp] theorem tyF152 : tyAgg Try.prog 61 = some (false, 1) := by kernel_rfl
@[simp] theorem tyF153 : tyZero Try.prog 61 = some [.lit .nilFunc] := by kernel_rfl
@[simp] theorem tyF154 : tyAgg Try.prog 62 = some (false, 1) := by kernel_rfl
@[simp] theorem tyF155 : tyMap Try.prog 62 = some (3, true, false, 1) := by kernel_rfl
@[simp] theorem tyF156 : tyZero Try.prog 62 = some [.lit (.map none)] := by kernel_rfl
@[simp] theorem tyF157 : tyAgg Try.prog 64 = some (false, 1) := by kernel_rfl
@[simp] theorem tyF158 : tyZero Try.prog 64 = some [.lit .nilFunc] := by kernel_rfl
@[simp] theorem tyF159 : tyAgg Try.prog 65 = some (false, 1) := by kernel_rfl
@[simp] theorem tyF160 : tyZero Try.prog 65 = some [.lit .nilFunc] := by kernel_rfl
@[simp] theorem tyF161 : tyAgg Try.prog 66 = some (false, 1) := by kernel_rfl
@[simp] theorem tyF162 : tyZero Try.prog 66 = some [.d .nil] := by kernel_rfl
@[simp] theorem tyF163 : tyAgg Try.prog 67 = some (true, 4) := by kernel_rfl
@[simp] theorem tyF164 : tyField Try.prog 67 0 = some (0, false, 1) := by kernel_rfl
@[simp] theorem tyF165 : tyField Try.prog 67 1 = some (1, false, 1) := by kernel_rfl
@[simp] theorem tyF166 : tyField Try.prog 67 2 = some (2, false, 1) := by kernel_rfl
@[simp] theorem tyF167 : tyField Try.prog 67 3 = some (3, false, 1) := by kernel_rfl
@[simp] theorem tyF168 : tyPlaces Try.prog 67 = some [(0, 1), (1, 1), (2, 1), (3, 1)] := by kernel_rfl
@[simp] theorem tyF169 : tyZero Try.prog 67 = some [.lit (.slice none 0 0), .d (.int 0), .d (.int 0), .d (.int 0)] := by kernel_rfl
@[simp] theorem tyF170 : tyAgg Try.prog 68 = some (true, 4) := by kernel_rfl
@[simp] theorem tyF171 : tyField Try.prog 68 0 = some (0, false, 1) := by kernel_rfl
@[simp] theorem tyF172 : tyField Try.prog 68 1 = some (1, false, 1) := by kernel_rfl
@[simp] theorem tyF173 : tyField Try.prog 68 2 = some (2, false, 1) := by kernel_rfl
@[simp] theorem tyF174 : tyField Try.prog 68 3 = some (3, false, 1) := by kernel_rfl
@[simp] theorem tyF175 : tyPlaces Try.prog 68 = some [(0, 1), (1, 1), (2, 1), (3, 1)] := by kernel_rfl
@[simp] theorem tyF176 : tyZero Try.prog 68 = some [.lit (.slice none 0 0), .d (.int 0), .d (.int 0), .d (.int 0)] := by kernel_rfl
@[simp] theorem tyF177 : tyAgg Try.prog 69 = some (false, 1) := by kernel_rfl
@[simp] theorem tyF178 : tyZero Try.prog 69 = some [.lit .nilFunc] := by kernel_rfl
@[simp] theorem tyF179 : tyAgg Try.prog 70 = some (false, 1) := by kernel_rfl
@[simp] theorem tyF180 : tyZero Try.prog 70 = some [.d .nil] := by kernel_rfl
@[simp] theorem tyF181 : tyAgg Try.prog 71 = some (true, 4) := by kernel_rfl
@[simp] theorem tyF182 : tyField Try.prog 71 0 = some (0, false, 1) := by kernel_rfl
@[simp] theorem tyF183 : tyField Try.prog 71 1 = some (1, false, 1) := by kernel_rfl
@[simp] theorem tyF184 : tyField Try.prog 71 2 = some (2, false, 1) := by kernel_rfl
@[simp] theorem tyF185 : tyField Try.prog 71 3 = some (3, false, 1) := by kernel_rfl
@[simp] theorem tyF186 : tyPlaces Try.prog 71 = some [(0, 1), (1, 1), (2, 1), (3, 1)] := by kernel_rfl
@[simp] theorem tyF187 : tyZero Try.prog 71 = some [.lit (.slice none 0 0), .d (.int 0), .d (.int 0), .d (.int 0)] := by kernel_rfl
@[simp] theorem tyF188 : tyAgg Try.prog 72 = some (true, 4) := by kernel_rfl
@[simp] theorem tyF189 : tyField Try.prog 72 0 = some (0, false, 1) := by kernel_rfl
@[simp] theorem tyF190 : tyField Try.prog 72 1 = some (1, false, 1) := by kernel_rfl
@[simp] theorem tyF191 : tyField Try.prog 72 2 = some (2, false, 1) := by kernel_rfl
@[simp] theorem tyF192 : tyField Try.prog 72 3 = some (3, false, 1) := by kernel_rfl
@[simp] theorem tyF193 : tyPlaces Try.prog 72 = some [(0, 1), (1, 1), (2, 1), (3, 1)] := by kernel_rfl
@[simp] theorem tyF194 : tyZero Try.prog 72 = some [.lit (.slice none 0 0), .d (.int 0), .d (.int 0), .d (.int 0)] := by kernel_rfl
@[simp] theorem tyF195 : tyAgg Try.prog 73 = some (true, 9) := by kernel_rfl
@[simp] theorem tyF196 : tyField Try.prog 73 0 = some (0, false, 1) := by kernel_rfl
@[simp] theorem tyF197 : tyField Try.prog 73 1 = some (1, false, 1) := by kernel_rfl
@[simp] theorem tyF198 : tyField Try.prog 73 2 = some (2, true, 7) := by kernel_rfl
@[simp] theorem tyF199 : tyPlaces Try.prog 73 = some [(0, 1), (1, 1), (2, 7)] := by kernel_rfl
@[simp] theorem tyF200 : tyZero Try.prog 73 = some [.d (.int 0), .lit (.slice none 0 0), .d (.int 0), .d (.int 0), .d (.str ByteArray.empty), .d (.str ByteArray.empty), .lit (.slice none 0 0), .lit (.slice none 0 0), .lit (.slice none 0 0)] := by kernel_rfl
@[simp] theorem tyF201 : tyAgg Try.prog 74 = some (true, 9) := by kernel_rfl
@[simp] theorem tyF202 : tyField Try.prog 74 0 = some (0, false, 1) := by kernel_rfl
@[simp] theorem tyF203 : tyField Try.prog 74 1 = some (1, false, 1) := by kernel_rfl
@[simp] theorem tyF204 : tyField Try.prog 74 2 = some (2, true, 7) := by kernel_rfl
@[simp] theorem tyF205 : tyPlaces Try.prog 74 = some [(0, 1), (1, 1), (2, 7)] := by kernel_rfl
@[simp] theorem tyF206 : tyZero Try.prog 74 = some [.d (.int 0), .lit (.slice none 0 0), .d (.int 0), .d (.int 0), .d (.str ByteArray.empty), .d (.str ByteArray.empty), .lit (.slice none 0 0), .lit (.slice none 0 0), .lit (.slice none 0 0)] := by kernel_rfl
@[simp] theorem tyF207 : tyAgg Try.prog 75 = some (false, 1) := by kernel_rfl
@[simp] theorem tyF208 : tyZero Try.prog 75 = some [.lit .nilFunc] := by kernel_rfl
@[simp] theorem tyF209 : tyAgg Try.prog 76 = some (false, 1) := by kernel_rfl
@[simp] theorem tyF210 : tyZero Try.prog 76 = some [.lit .nilFunc] := by kernel_rfl
@[simp] theorem tyF211 : tyAgg Try.prog 77 = some (false, 1) := by kernel_rfl
@[simp] theorem tyF212 : tyZero Try.prog 77 = some [.lit .nilFunc] := by kernel_rfl
@[simp] theorem tyF213 : tyAgg Try.prog 78 = some (false, 1) := by kernel_rfl
@[simp] theorem tyF214 : tyZero Try.prog 78 = some [.lit .nilFunc] := by kernel_rfl
@[simp] theorem tyF215 : tyAgg Try.prog 79 = some (false, 1) := by kernel_rfl
@[simp] theorem tyF216 : tyZero Try.prog 79 = some [.lit .nilFunc] := by kernel_rfl
@[simp] theorem tyF217 : tyAgg Try.prog 80 = some (false, 1) := by kernel_rfl
@[simp] theorem tyF218 : tyZero Try.prog 80 = some [.lit .nilFunc] := by kernel_rfl
@[simp] theorem tyF219 : tyAgg Try.prog 81 = some (false, 1) := by kernel_rfl
@[simp] theorem tyF220 : tyZero Try.prog 81 = some [.d .nil] := by kernel_rfl
@[simp] theorem tyF221 : tyAgg Try.prog 82 = some (true, 2) := by kernel_rfl
@[simp] theorem tyF222 : tyField Try.prog 82 0 = some (0, false, 1) := by kernel_rfl
@[simp] theorem tyF223 : tyField Try.prog 82 1 = some (1, false, 1) := by kernel_rfl
@[simp] theorem tyF224 : tyPlaces Try.prog 82 = some [(0, 1), (1, 1)] := by kernel_rfl
@[simp] theorem tyF225 : tyZero Try.prog 82 = some [.lit (.map none), .lit .nilFunc] := by kernel_rfl
@[simp] theorem tyF226 : tyAgg Try.prog 83 = some (true, 2) := by kernel_rfl
@[simp] theorem tyF227 : tyField Try.prog 83 0 = some (0, false, 1) := by kernel_rfl
@[simp] theorem tyF228 : tyField Try.prog 83 1 = some (1, false, 1) := by kernel_rfl
@[simp] theorem tyF229 : tyPlaces Try.prog 83 = some [(0, 1), (1, 1)] := by kernel_rfl
@[simp] theorem tyF230 : tyZero Try.prog 83 = some [.lit (.map none), .lit .nilFunc] := by kernel_rfl
@[simp] theorem tyF231 : tyAgg Try.prog 84 = some (false, 1) := by kernel_rfl
@[simp] theorem tyF232 : tyZero Try.prog 84 = some [.lit .nilFunc] := by kernel_rfl
@[simp] theorem tyF233 : tyAgg Try.prog 85 = some (false, 1) := by kernel_rfl
@[simp] theorem tyF234 : tyZero Try.prog 85 = some [.lit .nilFunc] := by kernel_rfl
@[simp] theorem tyF235 : tyAgg Try.prog 86 = some (false, 1) := by kernel_rfl
@[simp] theorem tyF236 : tyZero Try.prog 86 = some [.d .nil] := by kernel_rfl
@[simp] theorem tyF237 : tyAgg Try.prog 87 = some (false, 1) := by kernel_rfl
@[simp] theorem tyF238 : tyZero Try.prog 87 = some [.lit .nilFunc] := by kernel_rfl
@[simp] theorem tyF239 : tyAgg Try.prog 88 = some (false, 1) := by kernel_rfl
@[simp] theorem tyF240 : tyZero Try.prog 88 = some [.lit .nilFunc] := by kernel_rfl
@[simp] theorem tyF241 : tyAgg Try.prog 89 = some (false, 1) := by kernel_rfl
@[simp] theorem tyF242 : tyZero Try.prog 89 = some [.lit .nilFunc] := by kernel_rfl
@[simp] theorem tyF243 : tyAgg Try.prog 90 = some (false, 1) := by kernel_rfl
@[simp] theorem tyF244 : tyZero Try.prog 90 = some [.lit .nilFunc] := by kernel_rfl
@[simp] theorem tyF245 : tyAgg Try.prog 91 = some (false, 1) := by kernel_rfl
@[simp] theorem tyF246 : tyZero Try.prog 91 = some [.d .nil] := by kernel_rfl
@[simp] theorem tyF247 : tyAgg Try.prog 92 = some (true, 5) := by kernel_rfl
@[simp] theorem tyF248 : tyField Try.prog 92 0 = some (0, false, 1) := by kernel_rfl
@[simp] theorem tyF249 : tyField Try.prog 92 1 = some (1, true, 3) := by kernel_rfl
@[simp] theorem tyF250 : tyField Try.prog 92 2 = some (4, false, 1) := by kernel_rfl
@[simp] theorem tyF251 : tyPlaces Try.prog 92 = some [(0, 1), (1, 3), (4, 1)] := by kernel_rfl
@[simp] theorem tyF252 : tyZero Try.prog 92 = some [.d (.str ByteArray.empty), .d (.bool false), .d (.int 0), .lit (.slice none 0 0), .d .nil] := by kernel_rfl
@[simp] theorem tyF253 : tyAgg Try.prog 93 = some (true, 5) := by kernel_rfl
@[simp] theorem tyF254 : tyField Try.prog 93 0 = some (0, false, 1) := by kernel_rfl
@[simp] theorem tyF255 : tyField Try.prog 93 1 = some (1, true, 3) := by kernel_rfl
@[simp] theorem tyF256 : tyField Try.prog 93 2 = some (4, false, 1) := by kernel_rfl
@[simp] theorem tyF257 : tyPlaces Try.prog 93 = some [(0, 1), (1, 3), (4, 1)] := by kernel_rfl
@[simp] theorem tyF258 : tyZero Try.prog 93 = some [.d (.str ByteArray.empty), .d (.bool false), .d (.int 0), .lit (.slice none 0 0), .d .nil] := by kernel_rfl
@[simp] theorem tyF259 : tyAgg Try.prog 94 = some (false, 1) := by kernel_rfl
@[simp] theorem tyF260 : tyZero Try.prog 94 = some [.lit .nilFunc] := by kernel_rfl
@[simp] theorem tyF261 : tyAgg Try.prog 95 = some (false, 1) := by kernel_rfl
@[simp] theorem tyF262 : tyMap Try.prog 95 = some (26, true, true, 3) := by kernel_rfl
@[simp] theorem tyF263 : tyZv Try.prog 26 true = some (.agg [.d (.bool false), .d (.int 0), .lit (.slice none 0 0)]) := by kernel_rfl
@[simp] theorem tyF264 : tyZero Try.prog 95 = some [.lit (.map none)] := by kernel_rfl
@[simp] theorem tyF265 : tyAgg Try.prog 96 = some (false, 1) := by kernel_rfl
@[simp] theorem tyF266 : tyZero Try.prog 96 = some [.lit .nilFunc] := by kernel_rfl
@[simp] theorem tyF267 : tyAgg Try.prog 97 = some (false, 1) := by kernel_rfl
@[simp] theorem tyF268 : tyZero Try.prog 97 = some [.lit .nilFunc] := by kernel_rfl
@[simp] theorem tyF269 : tyAgg Try.prog 98 = some (false, 1) := by kernel_rfl
@[simp] theorem tyF270 : tyZero Try.prog 98 = some [.lit .nilFunc] := by kernel_rfl
@[simp] theorem tyF271 : tyAgg Try.prog 99 = some (false, 1) := by kernel_rfl
@[simp] theorem tyF272 : tyMap Try.prog 99 = some (3, false, false, 1) := by kernel_rfl
@[simp] theorem tyF273 : tyZero Try.prog 99 = some [.lit (.map none)] := by kernel_rfl
@[simp] theorem tyF274 : tyAgg Try.prog 100 = some (false, 1) := by kernel_rfl
@[simp] theorem tyF275 : tyZero Try.prog 100 = some [.lit .nilFunc] := by kernel_rfl
@[simp] theorem tyF276 : tyAgg Try.prog 102 = some (false, 1) := by kernel_rfl
@[simp] theorem tyF277 : tyZero Try.prog 102 = some [.lit .nilFunc] := by kernel_rfl
@[simp] theorem tyF278 : tyAgg Try.prog 103 = some (false, 1) := by kernel_rfl
@[simp] theorem tyF279 : tyZero Try.prog 103 = some [.lit .nilFunc] := by kernel_rfl
@[simp] theorem tyF280 : tyAgg Try.prog 104 = some (false, 1) := by kernel_rfl
@[simp] theorem tyF281 : tyZero Try.prog 104 = some [.lit .nilFunc] := by kernel_rfl
@[simp] theorem tyF282 : tyAgg Try.prog 105 = some (false, 1) := by kernel_rfl
@[simp] theorem tyF283 : tyZero Try.prog 105 = some [.lit .nilFunc] := by kernel_rfl
@[simp] theorem tyF284 : tyAgg Try.prog 106 = some (false, 1) := by kernel_rfl
@[simp] theorem tyF285 : tyZero Try.prog 106 = some [.lit .nilFunc] := by kernel_rfl
@[simp] theorem tyF286 : tyAgg Try.prog 107 = some (false, 1) := by kernel_rfl
@[simp] theorem tyF287 : tyMap Try.prog 107 = some (4, false, false, 1) := by kernel_rfl
@[simp] theorem tyF288 : tyZv Try.prog 4 false = some (.d (.bool false)) := by kernel_rfl
@[simp] theorem tyF289 : tyZero Try.prog 107 = some [.lit (.map none)] := by kernel_rfl
@[simp] theorem tyF290 : tyAgg Try.prog 108 = some (false, 1) := by kernel_rfl
@[simp] theorem tyF291 : tyZero Try.prog 108 = some [.d .nil] := by kernel_rfl
@[simp] theorem tyF292 : tyAgg Try.prog 109 = some (false, 1) := by kernel_rfl
@[simp] theorem tyF293 : tyZero Try.prog 109 = some [.lit .nilFunc] := by kernel_rfl
@[simp] theorem tyF294 : tyAgg Try.prog 115 = some (false, 1) := by kernel_rfl
@[simp] theorem tyF295 : tyZero Try.prog 115 = some [.lit .nilFunc] := by kernel_rfl
@[simp] theorem tyF296 : Try.prog.underlying 116 = some (.int .u32) := by kernel_rfl
@[simp] theorem tyF297 : tyAgg Try.prog 116 = some (false, 1) := by kernel_rfl
@[simp] theorem tyF298 : tyZero Try.prog 116 = some [.d (.num .u32 0)] := by kernel_rfl
@[simp] theorem tyF299 : tyAgg Try.prog 120 = some (false, 1) := by kernel_rfl
@[simp] theorem tyF300 : tyZero Try.prog 120 = some [.d .nil] := by kernel_rfl

theorem mixed : Try.prog.follows .mixedOrders = true := by kernel_rfl
end Go.Proofs.Ytialccgjbanmcaa
