import Derived.Test.YtialccgjbanmcaaDoorEng2
import Derived.Test.YtialccgjbanmcaaDoorRows
/- What the abstract machine asks of this program's types. Printed by a small program. -/
namespace Go.Proofs.YtialccgjbanmcaaDoor
open Go.RowKit

@[simp] theorem tyF0 : tyAgg Tryd.prog 1 = some (false, 1) := by kernel_rfl
@[simp] theorem tyF1 : tyZero Tryd.prog 1 = some [.lit .nilFunc] := by kernel_rfl
@[simp] theorem tyF2 : Tryd.prog.underlying 2 = some (.int .i64) := by kernel_rfl
@[simp] theorem tyF3 : tyAgg Tryd.prog 2 = some (false, 1) := by kernel_rfl
@[simp] theorem tyF4 : tyZero Tryd.prog 2 = some [.d (.int 0)] := by kernel_rfl
@[simp] theorem tyF5 : Tryd.prog.underlying 3 = some (.int .i64) := by kernel_rfl
@[simp] theorem tyF6 : tyAgg Tryd.prog 3 = some (false, 1) := by kernel_rfl
@[simp] theorem tyF7 : tyZero Tryd.prog 3 = some [.d (.int 0)] := by kernel_rfl
@[simp] theorem tyF8 : Tryd.prog.underlying 4 = some .bool := by kernel_rfl
@[simp] theorem tyF9 : tyAgg Tryd.prog 4 = some (false, 1) := by kernel_rfl
@[simp] theorem tyF10 : tyZero Tryd.prog 4 = some [.d (.bool false)] := by kernel_rfl
@[simp] theorem tyF11 : Tryd.prog.underlying 5 = some (.int .u8) := by kernel_rfl
@[simp] theorem tyF12 : tyAgg Tryd.prog 5 = some (false, 1) := by kernel_rfl
@[simp] theorem tyF13 : tyZero Tryd.prog 5 = some [.d (.num .u8 0)] := by kernel_rfl
@[simp] theorem tyF14 : Tryd.prog.underlying 9 = some .string := by kernel_rfl
@[simp] theorem tyF15 : tyAgg Tryd.prog 9 = some (false, 1) := by kernel_rfl
@[simp] theorem tyF16 : tyZero Tryd.prog 9 = some [.d (.str ByteArray.empty)] := by kernel_rfl
@[simp] theorem tyF17 : Tryd.prog.underlying 12 = some (.int .u64) := by kernel_rfl
@[simp] theorem tyF18 : tyAgg Tryd.prog 12 = some (false, 1) := by kernel_rfl
@[simp] theorem tyF19 : tyZero Tryd.prog 12 = some [.d (.num .u64 0)] := by kernel_rfl
@[simp] theorem tyF20 : Tryd.prog.underlying 21 = some (.int .i32) := by kernel_rfl
@[simp] theorem tyF21 : tyAgg Tryd.prog 21 = some (false, 1) := by kernel_rfl
@[simp] theorem tyF22 : tyZero Tryd.prog 21 = some [.d (.num .i32 0)] := by kernel_rfl
@[simp] theorem tyF23 : Tryd.prog.underlying 22 = some (.slice 34) := by kernel_rfl
@[simp] theorem tyF24 : tyAgg Tryd.prog 22 = some (false, 1) := by kernel_rfl
@[simp] theorem tyF25 : tyElem Tryd.prog 22 = some (34, 9) := by kernel_rfl
@[simp] theorem tyF26 : tyOne Tryd.prog 34 = some (9, 160) := by kernel_rfl
@[simp] theorem tyF27 : tyZero Tryd.prog 22 = some [.lit (.slice none 0 0)] := by kernel_rfl
@[simp] theorem tyF28 : Tryd.prog.underlying 23 = some (.int .i64) := by kernel_rfl
@[simp] theorem tyF29 : tyAgg Tryd.prog 23 = some (false, 1) := by kernel_rfl
@[simp] theorem tyF30 : tyZero Tryd.prog 23 = some [.d (.int 0)] := by kernel_rfl
@[simp] theorem tyF31 : tyAgg Tryd.prog 24 = some (false, 1) := by kernel_rfl
@[simp] theorem tyF32 : tyZero Tryd.prog 24 = some [.lit .nilFunc] := by kernel_rfl
@[simp] theorem tyF33 : tyAgg Tryd.prog 25 = some (false, 1) := by kernel_rfl
@[simp] theorem tyF34 : tyZero Tryd.prog 25 = some [.lit .nilFunc] := by kernel_rfl
@[simp] theorem tyF35 : tyAgg Tryd.prog 26 = some (false, 1) := by kernel_rfl
@[simp] theorem tyF36 : tyZero Tryd.prog 26 = some [.lit .nilFunc] := by kernel_rfl
@[simp] theorem tyF37 : tyAgg Tryd.prog 27 = some (false, 1) := by kernel_rfl
@[simp] theorem tyF38 : tyZero Tryd.prog 27 = some [.lit .nilFunc] := by kernel_rfl
@[simp] theorem tyF39 : Tryd.prog.underlying 28 = some (.slice 9) := by kernel_rfl
@[simp] theorem tyF40 : tyAgg Tryd.prog 28 = some (false, 1) := by kernel_rfl
@[simp] theorem tyF41 : tyElem Tryd.prog 28 = some (9, 1) := by kernel_rfl
@[simp] theorem tyF42 : tyOne Tryd.prog 9 = some (1, 16) := by kernel_rfl
@[simp] theorem tyF43 : tyZv Tryd.prog 9 false = some (.d (.str ByteArray.empty)) := by kernel_rfl
@[simp] theorem tyF44 : tyZero Tryd.prog 28 = some [.lit (.slice none 0 0)] := by kernel_rfl
@[simp] theorem tyF45 : Tryd.prog.underlying 29 = some (.slice 32) := by kernel_rfl
@[simp] theorem tyF46 : tyAgg Tryd.prog 29 = some (false, 1) := by kernel_rfl
@[simp] theorem tyF47 : tyElem Tryd.prog 29 = some (32, 7) := by kernel_rfl
@[simp] theorem tyF48 : tyOne Tryd.prog 32 = some (7, 120) := by kernel_rfl
@[simp] theorem tyF49 : tyZero Tryd.prog 29 = some [.lit (.slice none 0 0)] := by kernel_rfl
@[simp] theorem tyF50 : Tryd.prog.underlying 30 = some (.slice 50) := by kernel_rfl
@[simp] theorem tyF51 : tyAgg Tryd.prog 30 = some (false, 1) := by kernel_rfl
@[simp] theorem tyF52 : tyElem Tryd.prog 30 = some (50, 9) := by kernel_rfl
@[simp] theorem tyF53 : tyOne Tryd.prog 50 = some (9, 152) := by kernel_rfl
@[simp] theorem tyF54 : tyZero Tryd.prog 30 = some [.lit (.slice none 0 0)] := by kernel_rfl
@[simp] theorem tyF55 : tyAgg Tryd.prog 31 = some (true, 7) := by kernel_rfl
@[simp] theorem tyF56 : tyField Tryd.prog 31 0 = some (0, false, 1) := by kernel_rfl
@[simp] theorem tyF57 : tyField Tryd.prog 31 1 = some (1, false, 1) := by kernel_rfl
@[simp] theorem tyF58 : tyField Tryd.prog 31 2 = some (2, false, 1) := by kernel_rfl
@[simp] theorem tyF59 : tyField Tryd.prog 31 3 = some (3, false, 1) := by kernel_rfl
@[simp] theorem tyF60 : tyField Tryd.prog 31 4 = some (4, false, 1) := by kernel_rfl
@[simp] theorem tyF61 : tyField Tryd.prog 31 5 = some (5, false, 1) := by kernel_rfl
@[simp] theorem tyF62 : tyField Tryd.prog 31 6 = some (6, false, 1) := by kernel_rfl
@[simp] theorem tyF63 : tyPlaces Tryd.prog 31 = some [(0, 1), (1, 1), (2, 1), (3, 1), (4, 1), (5, 1), (6, 1)] := by kernel_rfl
@[simp] theorem tyF64 : tyZero Tryd.prog 31 = some [.d (.int 0), .d (.int 0), .d (.str ByteArray.empty), .d (.str ByteArray.empty), .lit (.slice none 0 0), .lit (.slice none 0 0), .lit (.slice none 0 0)] := by kernel_rfl
@[simp] theorem tyF65 : tyAgg Tryd.prog 32 = some (true, 7) := by kernel_rfl
@[simp] theorem tyF66 : tyField Tryd.prog 32 0 = some (0, false, 1) := by kernel_rfl
@[simp] theorem tyF67 : tyField Tryd.prog 32 1 = some (1, false, 1) := by kernel_rfl
@[simp] theorem tyF68 : tyField Tryd.prog 32 2 = some (2, false, 1) := by kernel_rfl
@[simp] theorem tyF69 : tyField Tryd.prog 32 3 = some (3, false, 1) := by kernel_rfl
@[simp] theorem tyF70 : tyField Tryd.prog 32 4 = some (4, false, 1) := by kernel_rfl
@[simp] theorem tyF71 : tyField Tryd.prog 32 5 = some (5, false, 1) := by kernel_rfl
@[simp] theorem tyF72 : tyField Tryd.prog 32 6 = some (6, false, 1) := by kernel_rfl
@[simp] theorem tyF73 : tyPlaces Tryd.prog 32 = some [(0, 1), (1, 1), (2, 1), (3, 1), (4, 1), (5, 1), (6, 1)] := by kernel_rfl
@[simp] theorem tyF74 : tyZero Tryd.prog 32 = some [.d (.int 0), .d (.int 0), .d (.str ByteArray.empty), .d (.str ByteArray.empty), .lit (.slice none 0 0), .lit (.slice none 0 0), .lit (.slice none 0 0)] := by kernel_rfl
@[simp] theorem tyF75 : tyAgg Tryd.prog 33 = some (true, 9) := by kernel_rfl
@[simp] theorem tyF76 : tyField Tryd.prog 33 0 = some (0, false, 1) := by kernel_rfl
@[simp] theorem tyF77 : tyField Tryd.prog 33 1 = some (1, false, 1) := by kernel_rfl
@[simp] theorem tyF78 : tyField Tryd.prog 33 2 = some (2, true, 7) := by kernel_rfl
@[simp] theorem tyF79 : tyPlaces Tryd.prog 33 = some [(0, 1), (1, 1), (2, 7)] := by kernel_rfl
@[simp] theorem tyF80 : tyZero Tryd.prog 33 = some [.d (.str ByteArray.empty), .lit (.slice none 0 0), .d (.int 0), .d (.int 0), .d (.str ByteArray.empty), .d (.str ByteArray.empty), .lit (.slice none 0 0), .lit (.slice none 0 0), .lit (.slice none 0 0)] := by kernel_rfl
@[simp] theorem tyF81 : tyAgg Tryd.prog 34 = some (true, 9) := by kernel_rfl
@[simp] theorem tyF82 : tyField Tryd.prog 34 0 = some (0, false, 1) := by kernel_rfl
@[simp] theorem tyF83 : tyField Tryd.prog 34 1 = some (1, false, 1) := by kernel_rfl
@[simp] theorem tyF84 : tyField Tryd.prog 34 2 = some (2, true, 7) := by kernel_rfl
@[simp] theorem tyF85 : tyPlaces Tryd.prog 34 = some [(0, 1), (1, 1), (2, 7)] := by kernel_rfl
@[simp] theorem tyF86 : tyZero Tryd.prog 34 = some [.d (.str ByteArray.empty), .lit (.slice none 0 0), .d (.int 0), .d (.int 0), .d (.str ByteArray.empty), .d (.str ByteArray.empty), .lit (.slice none 0 0), .lit (.slice none 0 0), .lit (.slice none 0 0)] := by kernel_rfl
@[simp] theorem tyF87 : tyAgg Tryd.prog 35 = some (false, 1) := by kernel_rfl
@[simp] theorem tyF88 : tyZero Tryd.prog 35 = some [.lit .nilFunc] := by kernel_rfl
@[simp] theorem tyF89 : tyAgg Tryd.prog 36 = some (false, 1) := by kernel_rfl
@[simp] theorem tyF90 : tyZero Tryd.prog 36 = some [.lit .nilFunc] := by kernel_rfl
@[simp] theorem tyF91 : tyAgg Tryd.prog 37 = some (false, 1) := by kernel_rfl
@[simp] theorem tyF92 : tyZero Tryd.prog 37 = some [.lit .nilFunc] := by kernel_rfl
@[simp] theorem tyF93 : tyAgg Tryd.prog 38 = some (false, 1) := by kernel_rfl
@[simp] theorem tyF94 : tyZero Tryd.prog 38 = some [.lit .nilFunc] := by kernel_rfl
@[simp] theorem tyF95 : tyAgg Tryd.prog 39 = some (false, 1) := by kernel_rfl
@[simp] theorem tyF96 : tyZero Tryd.prog 39 = some [.lit .nilFunc] := by kernel_rfl
@[simp] theorem tyF97 : tyAgg Tryd.prog 40 = some (false, 1) := by kernel_rfl
@[simp] theorem tyF98 : tyZero Tryd.prog 40 = some [.lit .nilFunc] := by kernel_rfl
@[simp] theorem tyF99 : tyAgg Tryd.prog 41 = some (false, 1) := by kernel_rfl
@[simp] theorem tyF100 : tyZero Tryd.prog 41 = some [.lit .nilFunc] := by kernel_rfl
@[simp] theorem tyF101 : tyAgg Tryd.prog 42 = some (false, 1) := by kernel_rfl
@[simp] theorem tyF102 : tyZero Tryd.prog 42 = some [.lit .nilFunc] := by kernel_rfl
@[simp] theorem tyF103 : tyAgg Tryd.prog 43 = some (false, 1) := by kernel_rfl
@[simp] theorem tyF104 : tyZero Tryd.prog 43 = some [.lit .nilFunc] := by kernel_rfl
@[simp] theorem tyF105 : tyAgg Tryd.prog 44 = some (false, 1) := by kernel_rfl
@[simp] theorem tyF106 : tyZero Tryd.prog 44 = some [.lit .nilFunc] := by kernel_rfl
@[simp] theorem tyF107 : tyAgg Tryd.prog 45 = some (false, 1) := by kernel_rfl
@[simp] theorem tyF108 : tyZero Tryd.prog 45 = some [.lit .nilFunc] := by kernel_rfl
@[simp] theorem tyF109 : tyAgg Tryd.prog 46 = some (false, 1) := by kernel_rfl
@[simp] theorem tyF110 : tyMap Tryd.prog 46 = some (3, true, false, 1) := by kernel_rfl
@[simp] theorem tyF111 : tyZv Tryd.prog 3 false = some (.d (.int 0)) := by kernel_rfl
@[simp] theorem tyF112 : tyZero Tryd.prog 46 = some [.lit (.map none)] := by kernel_rfl
@[simp] theorem tyF113 : tyAgg Tryd.prog 47 = some (false, 1) := by kernel_rfl
@[simp] theorem tyF114 : tyZero Tryd.prog 47 = some [.lit .nilFunc] := by kernel_rfl
@[simp] theorem tyF115 : tyAgg Tryd.prog 49 = some (true, 9) := by kernel_rfl
@[simp] theorem tyF116 : tyField Tryd.prog 49 0 = some (0, false, 1) := by kernel_rfl
@[simp] theorem tyF117 : tyField Tryd.prog 49 1 = some (1, false, 1) := by kernel_rfl
@[simp] theorem tyF118 : tyField Tryd.prog 49 2 = some (2, true, 7) := by kernel_rfl
@[simp] theorem tyF119 : tyPlaces Tryd.prog 49 = some [(0, 1), (1, 1), (2, 7)] := by kernel_rfl
@[simp] theorem tyF120 : tyZero Tryd.prog 49 = some [.d (.int 0), .lit (.slice none 0 0), .d (.int 0), .d (.int 0), .d (.str ByteArray.empty), .d (.str ByteArray.empty), .lit (.slice none 0 0), .lit (.slice none 0 0), .lit (.slice none 0 0)] := by kernel_rfl
@[simp] theorem tyF121 : tyAgg Tryd.prog 50 = some (true, 9) := by kernel_rfl
@[simp] theorem tyF122 : tyField Tryd.prog 50 0 = some (0, false, 1) := by kernel_rfl
@[simp] theorem tyF123 : tyField Tryd.prog 50 1 = some (1, false, 1) := by kernel_rfl
@[simp] theorem tyF124 : tyField Tryd.prog 50 2 = some (2, true, 7) := by kernel_rfl
@[simp] theorem tyF125 : tyPlaces Tryd.prog 50 = some [(0, 1), (1, 1), (2, 7)] := by kernel_rfl
@[simp] theorem tyF126 : tyZero Tryd.prog 50 = some [.d (.int 0), .lit (.slice none 0 0), .d (.int 0), .d (.int 0), .d (.str ByteArray.empty), .d (.str ByteArray.empty), .lit (.slice none 0 0), .lit (.slice none 0 0), .lit (.slice none 0 0)] := by kernel_rfl
@[simp] theorem tyF127 : tyAgg Tryd.prog 51 = some (false, 1) := by kernel_rfl
@[simp] theorem tyF128 : tyMap Tryd.prog 51 = some (4, true, false, 1) := by kernel_rfl
@[simp] theorem tyF129 : tyZv Tryd.prog 4 false = some (.d (.bool false)) := by kernel_rfl
@[simp] theorem tyF130 : tyZero Tryd.prog 51 = some [.lit (.map none)] := by kernel_rfl
@[simp] theorem tyF131 : tyAgg Tryd.prog 52 = some (false, 1) := by kernel_rfl
@[simp] theorem tyF132 : tyZero Tryd.prog 52 = some [.lit .nilFunc] := by kernel_rfl
@[simp] theorem tyF133 : tyAgg Tryd.prog 53 = some (false, 1) := by kernel_rfl
@[simp] theorem tyF134 : tyZero Tryd.prog 53 = some [.lit .nilFunc] := by kernel_rfl
@[simp] theorem tyF135 : tyAgg Tryd.prog 54 = some (false, 1) := by kernel_rfl
@[simp] theorem tyF136 : tyZero Tryd.prog 54 = some [.lit .nilFunc] := by kernel_rfl
@[simp] theorem tyF137 : tyAgg Tryd.prog 55 = some (false, 1) := by kernel_rfl
@[simp] theorem tyF138 : tyZero Tryd.prog 55 = some [.lit .nilFunc] := by kernel_rfl
@[simp] theorem tyF139 : tyAgg Tryd.prog 56 = some (false, 1) := by kernel_rfl
@[simp] theorem tyF140 : tyZero Tryd.prog 56 = some [.d .nil] := by kernel_rfl
@[simp] theorem tyF141 : tyAgg Tryd.prog 57 = some (true, 1) := by kernel_rfl
@[simp] theorem tyF142 : tyField Tryd.prog 57 0 = some (0, false, 1) := by kernel_rfl
@[simp] theorem tyF143 : tyPlaces Tryd.prog 57 = some [(0, 1)] := by kernel_rfl
@[simp] theorem tyF144 : tyZero Tryd.prog 57 = some [.d (.int 0)] := by kernel_rfl
@[simp] theorem tyF145 : tyAgg Tryd.prog 58 = some (true, 1) := by kernel_rfl
@[simp] theorem tyF146 : tyField Tryd.prog 58 0 = some (0, false, 1) := by kernel_rfl
@[simp] theorem tyF147 : tyPlaces Tryd.prog 58 = some [(0, 1)] := by kernel_rfl
@[simp] theorem tyF148 : tyZero Tryd.prog 58 = some [.d (.int 0)] := by kernel_rfl
@[simp] theorem tyF149 : tyAgg Tryd.prog 59 = some (false, 1) := by kernel_rfl
@[simp] theorem tyF150 : tyZero Tryd.prog 59 = some [.lit .nilFunc] := by kernel_rfl
@[simp] theorem tyF151 : tyAgg Tryd.prog 60 = some (false, 1) := by kernel_rfl
@[simp] theorem tyF152 : tyZero Tryd.prog 60 = some [.d .nil] := by kernel_rfl
@[simp] theorem tyF153 : tyAgg Tryd.prog 61 = some (true, 1) := by kernel_rfl
@[simp] theorem tyF154 : tyField Tryd.prog 61 0 = some (0, false, 1) := by kernel_rfl
@[simp] theorem tyF155 : tyPlaces Tryd.prog 61 = some [(0, 1)] := by kernel_rfl
@[simp] theorem tyF156 : tyZero Tryd.prog 61 = some [.d (.int 0)] := by kernel_rfl
@[simp] theorem tyF157 : tyAgg Tryd.prog 62 = some (true, 1) := by kernel_rfl
@[simp] theorem tyF158 : tyField Tryd.prog 62 0 = some (0, false, 1) := by kernel_rfl
@[simp] theorem tyF159 : tyPlaces Tryd.prog 62 = some [(0, 1)] := by kernel_rfl
@[simp] theorem tyF160 : tyZero Tryd.prog 62 = some [.d (.int 0)] := by kernel_rfl
@[simp] theorem tyF161 : tyAgg Tryd.prog 63 = some (false, 1) := by kernel_rfl
@[simp] theorem tyF162 : tyZero Tryd.prog 63 = some [.lit .nilFunc] := by kernel_rfl
@[simp] theorem tyF163 : tyAgg Tryd.prog 64 = some (false, 1) := by kernel_rfl
@[simp] theorem tyF164 : tyZero Tryd.prog 64 = some [.lit .nilFunc] := by kernel_rfl
@[simp] theorem tyF165 : tyAgg Tryd.prog 65 = some (false, 1) := by kernel_rfl
@[simp] theorem tyF166 : tyZero Tryd.prog 65 = some [.lit .nilFunc] := by kernel_rfl
@[simp] theorem tyF167 : tyAgg Tryd.prog 66 = some (false, 1) := by kernel_rfl
@[simp] theorem tyF168 : tyZero Tryd.prog 66 = some [.lit .nilFunc] := by kernel_rfl
@[simp] theorem tyF169 : tyAgg Tryd.prog 67 = some (false, 1) := by kernel_rfl
@[simp] theorem tyF170 : tyZero Tryd.prog 67 = some [.d .nil] := by kernel_rfl
@[simp] theorem tyF171 : tyAgg Tryd.prog 68 = some (true, 1) := by kernel_rfl
@[simp] theorem tyF172 : tyField Tryd.prog 68 0 = some (0, false, 1) := by kernel_rfl
@[simp] theorem tyF173 : tyPlaces Tryd.prog 68 = some [(0, 1)] := by kernel_rfl
@[simp] theorem tyF174 : tyZero Tryd.prog 68 = some [.d (.int 0)] := by kernel_rfl
@[simp] theorem tyF175 : tyAgg Tryd.prog 69 = some (true, 1) := by kernel_rfl
@[simp] theorem tyF176 : tyField Tryd.prog 69 0 = some (0, false, 1) := by kernel_rfl
@[simp] theorem tyF177 : tyPlaces Tryd.prog 69 = some [(0, 1)] := by kernel_rfl
@[simp] theorem tyF178 : tyZero Tryd.prog 69 = some [.d (.int 0)] := by kernel_rfl
@[simp] theorem tyF179 : Tryd.prog.underlying 70 = some (.slice 101) := by kernel_rfl
@[simp] theorem tyF180 : tyAgg Tryd.prog 70 = some (false, 1) := by kernel_rfl
@[simp] theorem tyF181 : tyElem Tryd.prog 70 = some (101, 2) := by kernel_rfl
@[simp] theorem tyF182 : tyOne Tryd.prog 101 = some (2, 32) := by kernel_rfl
@[simp] theorem tyF183 : tyZero Tryd.prog 70 = some [.lit (.slice none 0 0)] := by kernel_rfl
@[simp] theorem tyF184 : tyAgg Tryd.prog 72 = some (false, 1) := by kernel_rfl
@[simp] theorem tyF185 : tyZero Tryd.prog 72 = some [.lit .nilFunc] := by kernel_rfl
@[simp] theorem tyF186 : tyAgg Tryd.prog 73 = some (false, 1) := by kernel_rfl
@[simp] theorem tyF187 : tyZero Tryd.prog 73 = some [.lit .nilFunc] := by kernel_rfl
@[simp] theorem tyF188 : tyAgg Tryd.prog 74 = some (false, 1) := by kernel_rfl
@[simp] theorem tyF189 : tyZero Tryd.prog 74 = some [.d .nil] := by kernel_rfl
@[simp] theorem tyF190 : tyAgg Tryd.prog 75 = some (true, 3) := by kernel_rfl
@[simp] theorem tyF191 : tyField Tryd.prog 75 0 = some (0, false, 1) := by kernel_rfl
@[simp] theorem tyF192 : tyField Tryd.prog 75 1 = some (1, false, 1) := by kernel_rfl
@[simp] theorem tyF193 : tyField Tryd.prog 75 2 = some (2, false, 1) := by kernel_rfl
@[simp] theorem tyF194 : tyPlaces Tryd.prog 75 = some [(0, 1), (1, 1), (2, 1)] := by kernel_rfl
@[simp] theorem tyF195 : tyZero Tryd.prog 75 = some [.lit (.slice none 0 0), .lit (.slice none 0 0), .d (.int 0)] := by kernel_rfl
@[simp] theorem tyF196 : tyAgg Tryd.prog 76 = some (true, 3) := by kernel_rfl
@[simp] theorem tyF197 : tyField Tryd.prog 76 0 = some (0, false, 1) := by kernel_rfl
@[simp] theorem tyF198 : tyField Tryd.prog 76 1 = some (1, false, 1) := by kernel_rfl
@[simp] theorem tyF199 : tyField Tryd.prog 76 2 = some (2, false, 1) := by kernel_rfl
@[simp] theorem tyF200 : tyPlaces Tryd.prog 76 = some [(0, 1), (1, 1), (2, 1)] := by kernel_rfl
@[simp] theorem tyF201 : tyZero Tryd.prog 76 = some [.lit (.slice none 0 0), .lit (.slice none 0 0), .d (.int 0)] := by kernel_rfl
@[simp] theorem tyF202 : tyAgg Tryd.prog 77 = some (false, 1) := by kernel_rfl
@[simp] theorem tyF203 : tyZero Tryd.prog 77 = some [.lit .nilFunc] := by kernel_rfl
@[simp] theorem tyF204 : tyAgg Tryd.prog 78 = some (false, 1) := by kernel_rfl
@[simp] theorem tyF205 : tyZero Tryd.prog 78 = some [.lit .nilFunc] := by kernel_rfl
@[simp] theorem tyF206 : tyAgg Tryd.prog 79 = some (false, 1) := by kernel_rfl
@[simp] theorem tyF207 : tyZero Tryd.prog 79 = some [.d .nil] := by kernel_rfl
@[simp] theorem tyF208 : tyAgg Tryd.prog 80 = some (true, 1) := by kernel_rfl
@[simp] theorem tyF209 : tyField Tryd.prog 80 0 = some (0, false, 1) := by kernel_rfl
@[simp] theorem tyF210 : tyPlaces Tryd.prog 80 = some [(0, 1)] := by kernel_rfl
@[simp] theorem tyF211 : tyZero Tryd.prog 80 = some [.d (.int 0)] := by kernel_rfl
@[simp] theorem tyF212 : tyAgg Tryd.prog 81 = some (false, 1) := by kernel_rfl
@[simp] theorem tyF213 : tyZero Tryd.prog 81 = some [.d .nil] := by kernel_rfl
@[simp] theorem tyF214 : tyAgg Tryd.prog 82 = some (true, 1) := by kernel_rfl
@[simp] theorem tyF215 : tyField Tryd.prog 82 0 = some (0, false, 1) := by kernel_rfl
@[simp] theorem tyF216 : tyPlaces Tryd.prog 82 = some [(0, 1)] := by kernel_rfl
@[simp] theorem tyF217 : tyZero Tryd.prog 82 = some [.d (.int 0)] := by kernel_rfl
@[simp] theorem tyF218 : tyAgg Tryd.prog 83 = some (true, 1) := by kernel_rfl
@[simp] theorem tyF219 : tyField Tryd.prog 83 0 = some (0, false, 1) := by kernel_rfl
@[simp] theorem tyF220 : tyPlaces Tryd.prog 83 = some [(0, 1)] := by kernel_rfl
@[simp] theorem tyF221 : tyZero Tryd.prog 83 = some [.d (.int 0)] := by kernel_rfl
@[simp] theorem tyF222 : tyAgg Tryd.prog 84 = some (false, 1) := by kernel_rfl
@[simp] theorem tyF223 : tyZero Tryd.prog 84 = some [.lit .nilFunc] := by kernel_rfl
@[simp] theorem tyF224 : tyAgg Tryd.prog 85 = some (false, 1) := by kernel_rfl
@[simp] theorem tyF225 : tyZero Tryd.prog 85 = some [.lit .nilFunc] := by kernel_rfl
@[simp] theorem tyF226 : tyAgg Tryd.prog 86 = some (false, 1) := by kernel_rfl
@[simp] theorem tyF227 : tyZero Tryd.prog 86 = some [.lit .nilFunc] := by kernel_rfl
@[simp] theorem tyF228 : tyAgg Tryd.prog 87 = some (false, 1) := by kernel_rfl
@[simp] theorem tyF229 : tyZero Tryd.prog 87 = some [.lit .nilFunc] := by kernel_rfl
@[simp] theorem tyF230 : tyAgg Tryd.prog 89 = some (false, 1) := by kernel_rfl
@[simp] theorem tyF231 : tyZero Tryd.prog 89 = some [.lit .nilFunc] := by kernel_rfl
@[simp] theorem tyF232 : tyAgg Tryd.prog 90 = some (false, 1) := by kernel_rfl
@[simp] theorem tyF233 : tyZero Tryd.prog 90 = some [.lit .nilFunc] := by kernel_rfl
@[simp] theorem tyF234 : tyAgg Tryd.prog 91 = some (false, 1) := by kernel_rfl
@[simp] theorem tyF235 : tyZero Tryd.prog 91 = some [.lit .nilFunc] := by kernel_rfl
@[simp] theorem tyF236 : tyAgg Tryd.prog 92 = some (false, 1) := by kernel_rfl
@[simp] theorem tyF237 : tyZero Tryd.prog 92 = some [.lit .nilFunc] := by kernel_rfl
@[simp] theorem tyF238 : Tryd.prog.underlying 93 = some (.slice 3) := by kernel_rfl
@[simp] theorem tyF239 : tyAgg Tryd.prog 93 = some (false, 1) := by kernel_rfl
@[simp] theorem tyF240 : tyElem Tryd.prog 93 = some (3, 1) := by kernel_rfl
@[simp] theorem tyF241 : tyOne Tryd.prog 3 = some (1, 8) := by kernel_rfl
@[simp] theorem tyF242 : tyZero Tryd.prog 93 = some [.lit (.slice none 0 0)] := by kernel_rfl
@[simp] theorem tyF243 : tyAgg Tryd.prog 94 = some (false, 1) := by kernel_rfl
@[simp] theorem tyF244 : tyZero Tryd.prog 94 = some [.lit .nilFunc] := by kernel_rfl
@[simp] theorem tyF245 : tyAgg Tryd.prog 96 = some (false, 1) := by kernel_rfl
@[simp] theorem tyF246 : tyZero Tryd.prog 96 = some [.lit .nilFunc] := by kernel_rfl
@[simp] theorem tyF247 : tyAgg Tryd.prog 97 = some (false, 1) := by kernel_rfl
@[simp] theorem tyF248 : tyZero Tryd.prog 97 = some [.lit .nilFunc] := by kernel_rfl
@[simp] theorem tyF249 : tyAgg Tryd.prog 98 = some (false, 1) := by kernel_rfl
@[simp] theorem tyF250 : tyZero Tryd.prog 98 = some [.lit .nilFunc] := by kernel_rfl
@[simp] theorem tyF251 : tyAgg Tryd.prog 99 = some (false, 1) := by kernel_rfl
@[simp] theorem tyF252 : tyZero Tryd.prog 99 = some [.lit .nilFunc] := by kernel_rfl
@[simp] theorem tyF253 : tyAgg Tryd.prog 100 = some (true, 2) := by kernel_rfl
@[simp] theorem tyF254 : tyField Tryd.prog 100 0 = some (0, false, 1) := by kernel_rfl
@[simp] theorem tyF255 : tyField Tryd.prog 100 1 = some (1, false, 1) := by kernel_rfl
@[simp] theorem tyF256 : tyPlaces Tryd.prog 100 = some [(0, 1), (1, 1)] := by kernel_rfl
@[simp] theorem tyF257 : tyZero Tryd.prog 100 = some [.d (.str ByteArray.empty), .d (.str ByteArray.empty)] := by kernel_rfl
@[simp] theorem tyF258 : tyAgg Tryd.prog 101 = some (true, 2) := by kernel_rfl
@[simp] theorem tyF259 : tyField Tryd.prog 101 0 = some (0, false, 1) := by kernel_rfl
@[simp] theorem tyF260 : tyField Tryd.prog 101 1 = some (1, false, 1) := by kernel_rfl
@[simp] theorem tyF261 : tyPlaces Tryd.prog 101 = some [(0, 1), (1, 1)] := by kernel_rfl
@[simp] theorem tyF262 : tyZero Tryd.prog 101 = some [.d (.str ByteArray.empty), .d (.str ByteArray.empty)] := by kernel_rfl
@[simp] theorem tyF263 : tyAgg Tryd.prog 102 = some (false, 1) := by kernel_rfl
@[simp] theorem tyF264 : tyZero Tryd.prog 102 = some [.lit .nilFunc] := by kernel_rfl
@[simp] theorem tyF265 : tyAgg Tryd.prog 103 = some (false, 1) := by kernel_rfl
@[simp] theorem tyF266 : tyZero Tryd.prog 103 = some [.lit .nilFunc] := by kernel_rfl
@[simp] theorem tyF267 : tyAgg Tryd.prog 104 = some (false, 1) := by kernel_rfl
@[simp] theorem tyF268 : tyZero Tryd.prog 104 = some [.d .nil] := by kernel_rfl
@[simp] theorem tyF269 : tyAgg Tryd.prog 105 = some (false, 1) := by kernel_rfl
@[simp] theorem tyF270 : tyZero Tryd.prog 105 = some [.lit .nilFunc] := by kernel_rfl
@[simp] theorem tyF271 : tyAgg Tryd.prog 106 = some (false, 1) := by kernel_rfl
@[simp] theorem tyF272 : tyZero Tryd.prog 106 = some [.lit .nilFunc] := by kernel_rfl
@[simp] theorem tyF273 : tyAgg Tryd.prog 107 = some (false, 1) := by kernel_rfl
@[simp] theorem tyF274 : tyZero Tryd.prog 107 = some [.lit .nilFunc] := by kernel_rfl
@[simp] theorem tyF275 : Tryd.prog.underlying 108 = some (.slice 128) := by kernel_rfl
@[simp] theorem tyF276 : tyAgg Tryd.prog 108 = some (false, 1) := by kernel_rfl
@[simp] theorem tyF277 : tyElem Tryd.prog 108 = some (128, 8) := by kernel_rfl
@[simp] theorem tyF278 : tyOne Tryd.prog 128 = some (8, 136) := by kernel_rfl
@[simp] theorem tyF279 : tyZero Tryd.prog 108 = some [.lit (.slice none 0 0)] := by kernel_rfl
@[simp] theorem tyF280 : tyAgg Tryd.prog 110 = some (false, 1) := by kernel_rfl
@[simp] theorem tyF281 : tyZero Tryd.prog 110 = some [.lit .nilFunc] := by kernel_rfl
@[simp] theorem tyF282 : tyAgg Tryd.prog 111 = some (false, 1) := by kernel_rfl
@[simp] theorem tyF283 : tyZero Tryd.prog 111 = some [.lit .nilFunc] := by kernel_rfl
@[simp] theorem tyF284 : tyAgg Tryd.prog 112 = some (false, 1) := by kernel_rfl
@[simp] theorem tyF285 : tyZero Tryd.prog 112 = some [.lit .nilFunc] := by kernel_rfl
@[simp] theorem tyF286 : tyAgg Tryd.prog 113 = some (false, 1) := by kernel_rfl
@[simp] theorem tyF287 : tyZero Tryd.prog 113 = some [.lit .nilFunc] := by kernel_rfl
@[simp] theorem tyF288 : tyAgg Tryd.prog 114 = some (false, 1) := by kernel_rfl
@[simp] theorem tyF289 : tyZero Tryd.prog 114 = some [.lit .nilFunc] := by kernel_rfl
@[simp] theorem tyF290 : tyAgg Tryd.prog 115 = some (false, 1) := by kernel_rfl
@[simp] theorem tyF291 : tyZero Tryd.prog 115 = some [.lit .nilFunc] := by kernel_rfl
@[simp] theorem tyF292 : tyAgg Tryd.prog 116 = some (false, 1) := by kernel_rfl
@[simp] theorem tyF293 : tyZero Tryd.prog 116 = some [.lit .nilFunc] := by kernel_rfl
@[simp] theorem tyF294 : tyAgg Tryd.prog 117 = some (false, 1) := by kernel_rfl
@[simp] theorem tyF295 : tyZero Tryd.prog 117 = some [.lit .nilFunc] := by kernel_rfl
@[simp] theorem tyF296 : tyAgg Tryd.prog 118 = some (false, 1) := by kernel_rfl
@[simp] theorem tyF297 : tyZero Tryd.prog 118 = some [.lit .nilFunc] := by kernel_rfl
@[simp] theorem tyF298 : tyAgg Tryd.prog 119 = some (false, 1) := by kernel_rfl
@[simp] theorem tyF299 : tyZero Tryd.prog 119 = some [.d .nil] := by kernel_rfl
@[simp] theorem tyF300 : tyAgg Tryd.prog 120 = some (true, 3) := by kernel_rfl
@[simp] theorem tyF301 : tyField Tryd.prog 120 0 = some (0, false, 1) := by kernel_rfl
@[simp] theorem tyF302 : tyField Tryd.prog 120 1 = some (1, false, 1) := by kernel_rfl
@[simp] theorem tyF303 : tyField Tryd.prog 120 2 = some (2, false, 1) := by kernel_rfl
@[simp] theorem tyF304 : tyPlaces Tryd.prog 120 = some [(0, 1), (1, 1), (2, 1)] := by kernel_rfl
@[simp] theorem tyF305 : tyZero Tryd.prog 120 = some [.d (.str ByteArray.empty), .d (.int 0), .d (.int 0)] := by kernel_rfl
@[simp] theorem tyF306 : tyAgg Tryd.prog 121 = some (true, 3) := by kernel_rfl
@[simp] theorem tyF307 : tyField Tryd.prog 121 0 = some (0, false, 1) := by kernel_rfl
@[simp] theorem tyF308 : tyField Tryd.prog 121 1 = some (1, false, 1) := by kernel_rfl
@[simp] theorem tyF309 : tyField Tryd.prog 121 2 = some (2, false, 1) := by kernel_rfl
@[simp] theorem tyF310 : tyPlaces Tryd.prog 121 = some [(0, 1), (1, 1), (2, 1)] := by kernel_rfl
@[simp] theorem tyF311 : tyZero Tryd.prog 121 = some [.d (.str ByteArray.empty), .d (.int 0), .d (.int 0)] := by kernel_rfl
@[simp] theorem tyF312 : tyAgg Tryd.prog 122 = some (false, 1) := by kernel_rfl
@[simp] theorem tyF313 : tyZero Tryd.prog 122 = some [.lit .nilFunc] := by kernel_rfl
@[simp] theorem tyF314 : tyAgg Tryd.prog 123 = some (false, 1) := by kernel_rfl
@[simp] theorem tyF315 : tyZero Tryd.prog 123 = some [.lit .nilFunc] := by kernel_rfl
@[simp] theorem tyF316 : tyAgg Tryd.prog 124 = some (false, 1) := by kernel_rfl
@[simp] theorem tyF317 : tyZero Tryd.prog 124 = some [.lit .nilFunc] := by kernel_rfl
@[simp] theorem tyF318 : tyAgg Tryd.prog 125 = some (false, 1) := by kernel_rfl
@[simp] theorem tyF319 : tyZero Tryd.prog 125 = some [.lit .nilFunc] := by kernel_rfl
@[simp] theorem tyF320 : tyAgg Tryd.prog 126 = some (false, 1) := by kernel_rfl
@[simp] theorem tyF321 : tyZero Tryd.prog 126 = some [.lit .nilFunc] := by kernel_rfl
@[simp] theorem tyF322 : tyAgg Tryd.prog 127 = some (true, 8) := by kernel_rfl
@[simp] theorem tyF323 : tyField Tryd.prog 127 0 = some (0, false, 1) := by kernel_rfl
@[simp] theorem tyF324 : tyField Tryd.prog 127 1 = some (1, true, 7) := by kernel_rfl
@[simp] theorem tyF325 : tyPlaces Tryd.prog 127 = some [(0, 1), (1, 7)] := by kernel_rfl
@[simp] theorem tyF326 : tyZero Tryd.prog 127 = some [.d (.str ByteArray.empty), .d (.int 0), .d (.int 0), .d (.str ByteArray.empty), .d (.str ByteArray.empty), .lit (.slice none 0 0), .lit (.slice none 0 0), .lit (.slice none 0 0)] := by kernel_rfl
@[simp] theorem tyF327 : tyAgg Tryd.prog 128 = some (true, 8) := by kernel_rfl
@[simp] theorem tyF328 : tyField Tryd.prog 128 0 = some (0, false, 1) := by kernel_rfl
@[simp] theorem tyF329 : tyField Tryd.prog 128 1 = some (1, true, 7) := by kernel_rfl
@[simp] theorem tyF330 : tyPlaces Tryd.prog 128 = some [(0, 1), (1, 7)] := by kernel_rfl
@[simp] theorem tyF331 : tyZero Tryd.prog 128 = some [.d (.str ByteArray.empty), .d (.int 0), .d (.int 0), .d (.str ByteArray.empty), .d (.str ByteArray.empty), .lit (.slice none 0 0), .lit (.slice none 0 0), .lit (.slice none 0 0)] := by kernel_rfl
@[simp] theorem tyF332 : tyAgg Tryd.prog 129 = some (false, 1) := by kernel_rfl
@[simp] theorem tyF333 : tyZero Tryd.prog 129 = some [.lit .nilFunc] := by kernel_rfl
@[simp] theorem tyF334 : tyAgg Tryd.prog 130 = some (false, 1) := by kernel_rfl
@[simp] theorem tyF335 : tyZero Tryd.prog 130 = some [.lit .nilFunc] := by kernel_rfl
@[simp] theorem tyF336 : tyAgg Tryd.prog 131 = some (false, 1) := by kernel_rfl
@[simp] theorem tyF337 : tyZero Tryd.prog 131 = some [.lit .nilFunc] := by kernel_rfl
@[simp] theorem tyF338 : tyAgg Tryd.prog 132 = some (false, 1) := by kernel_rfl
@[simp] theorem tyF339 : tyZero Tryd.prog 132 = some [.lit .nilFunc] := by kernel_rfl
@[simp] theorem tyF340 : tyAgg Tryd.prog 133 = some (false, 1) := by kernel_rfl
@[simp] theorem tyF341 : tyZero Tryd.prog 133 = some [.lit .nilFunc] := by kernel_rfl
@[simp] theorem tyF342 : tyAgg Tryd.prog 134 = some (false, 1) := by kernel_rfl
@[simp] theorem tyF343 : tyZero Tryd.prog 134 = some [.lit .nilFunc] := by kernel_rfl
@[simp] theorem tyF344 : tyAgg Tryd.prog 138 = some (false, 1) := by kernel_rfl
@[simp] theorem tyF345 : tyZero Tryd.prog 138 = some [.lit .nilFunc] := by kernel_rfl
@[simp] theorem tyF346 : Tryd.prog.underlying 140 = some (.int .u64) := by kernel_rfl
@[simp] theorem tyF347 : tyAgg Tryd.prog 140 = some (false, 1) := by kernel_rfl
@[simp] theorem tyF348 : tyZero Tryd.prog 140 = some [.d (.num .u64 0)] := by kernel_rfl
@[simp] theorem tyF349 : tyAgg Tryd.prog 141 = some (false, 1) := by kernel_rfl
@[simp] theorem tyF350 : tyZero Tryd.prog 141 = some [.lit .nilFunc] := by kernel_rfl
@[simp] theorem tyF351 : tyAgg Tryd.prog 142 = some (false, 1) := by kernel_rfl
@[simp] theorem tyF352 : tyZero Tryd.prog 142 = some [.lit .nilFunc] := by kernel_rfl
@[simp] theorem tyF353 : Tryd.prog.underlying 143 = some (.slice 5) := by kernel_rfl
@[simp] theorem tyF354 : tyAgg Tryd.prog 143 = some (false, 1) := by kernel_rfl
@[simp] theorem tyF355 : tyElem Tryd.prog 143 = some (5, 1) := by kernel_rfl
@[simp] theorem tyF356 : tyOne Tryd.prog 5 = some (1, 1) := by kernel_rfl
@[simp] theorem tyF357 : tyZv Tryd.prog 5 false = some (.d (.num .u8 0)) := by kernel_rfl
@[simp] theorem tyF358 : tyZero Tryd.prog 143 = some [.lit (.slice none 0 0)] := by kernel_rfl
@[simp] theorem tyF359 : tyAgg Tryd.prog 145 = some (false, 1) := by kernel_rfl
@[simp] theorem tyF360 : tyZero Tryd.prog 145 = some [.lit .nilFunc] := by kernel_rfl
@[simp] theorem tyF361 : tyAgg Tryd.prog 146 = some (false, 1) := by kernel_rfl
@[simp] theorem tyF362 : tyZero Tryd.prog 146 = some [.lit .nilFunc] := by kernel_rfl
@[simp] theorem tyF363 : tyAgg Tryd.prog 147 = some (false, 1) := by kernel_rfl
@[simp] theorem tyF364 : tyZero Tryd.prog 147 = some [.lit .nilFunc] := by kernel_rfl
@[simp] theorem tyF365 : tyAgg Tryd.prog 148 = some (false, 1) := by kernel_rfl
@[simp] theorem tyF366 : tyZero Tryd.prog 148 = some [.lit .nilFunc] := by kernel_rfl
@[simp] theorem tyF367 : Tryd.prog.underlying 150 = some (.int .u32) := by kernel_rfl
@[simp] theorem tyF368 : tyAgg Tryd.prog 150 = some (false, 1) := by kernel_rfl
@[simp] theorem tyF369 : tyZero Tryd.prog 150 = some [.d (.num .u32 0)] := by kernel_rfl
@[simp] theorem tyF370 : tyAgg Tryd.prog 152 = some (false, 1) := by kernel_rfl
@[simp] theorem tyF371 : tyZero Tryd.prog 152 = some [.lit .nilFunc] := by kernel_rfl
@[simp] theorem tyF372 : Tryd.prog.underlying 153 = some (.int .u64) := by kernel_rfl
@[simp] theorem tyF373 : tyAgg Tryd.prog 153 = some (false, 1) := by kernel_rfl
@[simp] theorem tyF374 : tyZero Tryd.prog 153 = some [.d (.num .u64 0)] := by kernel_rfl
@[simp] theorem tyF375 : tyAgg Tryd.prog 154 = some (false, 1) := by kernel_rfl
@[simp] theorem tyF376 : tyZero Tryd.prog 154 = some [.lit .nilFunc] := by kernel_rfl
@[simp] theorem tyF377 : tyAgg Tryd.prog 157 = some (false, 1) := by kernel_rfl
@[simp] theorem tyF378 : tyZero Tryd.prog 157 = some [.lit .nilFunc] := by kernel_rfl
@[simp] theorem tyF379 : tyAgg Tryd.prog 158 = some (false, 1) := by kernel_rfl
@[simp] theorem tyF380 : tyZero Tryd.prog 158 = some [.d .nil] := by kernel_rfl
@[simp] theorem tyF381 : tyAgg Tryd.prog 159 = some (false, 1) := by kernel_rfl
@[simp] theorem tyF382 : tyZero Tryd.prog 159 = some [.lit .nilFunc] := by kernel_rfl
@[simp] theorem tyF383 : tyAgg Tryd.prog 160 = some (false, 1) := by kernel_rfl
@[simp] theorem tyF384 : tyZero Tryd.prog 160 = some [.lit .nilFunc] := by kernel_rfl
@[simp] theorem tyF385 : tyAgg Tryd.prog 161 = some (false, 1) := by kernel_rfl
@[simp] theorem tyF386 : tyZero Tryd.prog 161 = some [.lit .nilFunc] := by kernel_rfl
@[simp] theorem tyF387 : tyAgg Tryd.prog 163 = some (false, 1) := by kernel_rfl
@[simp] theorem tyF388 : tyZero Tryd.prog 163 = some [.lit .nilFunc] := by kernel_rfl
@[simp] theorem tyF389 : tyAgg Tryd.prog 164 = some (true, 3) := by kernel_rfl
@[simp] theorem tyF390 : tyField Tryd.prog 164 0 = some (0, false, 1) := by kernel_rfl
@[simp] theorem tyF391 : tyField Tryd.prog 164 1 = some (1, false, 1) := by kernel_rfl
@[simp] theorem tyF392 : tyField Tryd.prog 164 2 = some (2, false, 1) := by kernel_rfl
@[simp] theorem tyF393 : tyPlaces Tryd.prog 164 = some [(0, 1), (1, 1), (2, 1)] := by kernel_rfl
@[simp] theorem tyF394 : tyAgg Tryd.prog 165 = some (true, 3) := by kernel_rfl
@[simp] theorem tyF395 : tyField Tryd.prog 165 0 = some (0, false, 1) := by kernel_rfl
@[simp] theorem tyF396 : tyField Tryd.prog 165 1 = some (1, false, 1) := by kernel_rfl
@[simp] theorem tyF397 : tyField Tryd.prog 165 2 = some (2, false, 1) := by kernel_rfl
@[simp] theorem tyF398 : tyPlaces Tryd.prog 165 = some [(0, 1), (1, 1), (2, 1)] := by kernel_rfl
@[simp] theorem tyF399 : tyAgg Tryd.prog 166 = some (false, 1) := by kernel_rfl
@[simp] theorem tyF400 : tyZero Tryd.prog 166 = some [.lit .nilFunc] := by kernel_rfl
@[simp] theorem tyF401 : tyAgg Tryd.prog 169 = some (false, 1) := by kernel_rfl
@[simp] theorem tyF402 : tyZero Tryd.prog 169 = some [.lit .nilFunc] := by kernel_rfl
@[simp] theorem tyF403 : tyAgg Tryd.prog 170 = some (false, 1) := by kernel_rfl
@[simp] theorem tyF404 : tyZero Tryd.prog 170 = some [.d .nil] := by kernel_rfl
@[simp] theorem tyF405 : tyAgg Tryd.prog 171 = some (false, 1) := by kernel_rfl
@[simp] theorem tyF406 : tyZero Tryd.prog 171 = some [.d .nil] := by kernel_rfl
@[simp] theorem tyF407 : tyAgg Tryd.prog 172 = some (true, 1) := by kernel_rfl
@[simp] theorem tyF408 : tyField Tryd.prog 172 0 = some (0, false, 1) := by kernel_rfl
@[simp] theorem tyF409 : tyPlaces Tryd.prog 172 = some [(0, 1)] := by kernel_rfl
@[simp] theorem tyF410 : tyZero Tryd.prog 172 = some [.d (.str ByteArray.empty)] := by kernel_rfl
@[simp] theorem tyF411 : tyAgg Tryd.prog 173 = some (true, 1) := by kernel_rfl
@[simp] theorem tyF412 : tyField Tryd.prog 173 0 = some (0, false, 1) := by kernel_rfl
@[simp] theorem tyF413 : tyPlaces Tryd.prog 173 = some [(0, 1)] := by kernel_rfl
@[simp] theorem tyF414 : tyZero Tryd.prog 173 = some [.d (.str ByteArray.empty)] := by kernel_rfl

theorem mixed : Tryd.prog.follows .mixedOrders = true := by kernel_rfl
end Go.Proofs.YtialccgjbanmcaaDoor
