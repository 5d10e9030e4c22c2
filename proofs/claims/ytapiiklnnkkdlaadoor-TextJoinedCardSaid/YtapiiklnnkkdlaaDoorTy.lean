import Derived.Test.YtapiiklnnkkdlaaDoorEng2
import Derived.Test.YtapiiklnnkkdlaaDoorRows
/- What the abstract machine asks of this program's types. Printed by a small program. -/
namespace Go.Proofs.YtapiiklnnkkdlaaDoor
open Go.RowKit
@[simp] theorem tyF0 : tyAgg Tryd.prog 1 = some (false, 1) := by kernel_rfl
@[simp] theorem tyF1 : tyZero Tryd.prog 1 = some [.lit .nilFunc] := by kernel_rfl
@[simp] theorem tyF2 : Tryd.prog.underlying 2 = some (.int .i64) := by kernel_rfl
@[simp] theorem tyF3 : tyAgg Tryd.prog 2 = some (false, 1) := by kernel_rfl
@[simp] theorem tyF4 : tyZero Tryd.prog 2 = some [.d (.int 0)] := by kernel_rfl
@[simp] theorem tyF5 : Tryd.prog.underlying 3 = some (.int .i64) := by kernel_rfl
@[simp] theorem tyF6 : tyAgg Tryd.prog 3 = some (false, 1) := by kernel_rfl
@[simp] theorem tyF7 : tyZero Tryd.prog 3 = some [.d (.int 0)] := by kernel_rfl
@[simp] theorem tyF8 : Tryd.prog.underlying 4 = some .bool := by kernel_rfl
@[simp] theorem tyF9 : tyAgg Tryd.prog 4 = some (false, 1) := by kernel_rfl
@[simp] theorem tyF10 : tyZero Tryd.prog 4 = some [.d (.bool false)] := by kernel_rfl
@[simp] theorem tyF11 : Tryd.prog.underlying 5 = some (.int .u8) := by kernel_rfl
@[simp] theorem tyF12 : tyAgg Tryd.prog 5 = some (false, 1) := by kernel_rfl
@[simp] theorem tyF13 : tyZero Tryd.prog 5 = some [.d (.num .u8 0)] := by kernel_rfl
@[simp] theorem tyF14 : Tryd.prog.underlying 9 = some .string := by kernel_rfl
@[simp] theorem tyF15 : tyAgg Tryd.prog 9 = some (false, 1) := by kernel_rfl
@[simp] theorem tyF16 : tyZero Tryd.prog 9 = some [.d (.str ByteArray.empty)] := by kernel_rfl
@[simp] theorem tyF17 : Tryd.prog.underlying 12 = some (.int .u64) := by kernel_rfl
@[simp] theorem tyF18 : tyAgg Tryd.prog 12 = some (false, 1) := by kernel_rfl
@[simp] theorem tyF19 : tyZero Tryd.prog 12 = some [.d (.num .u64 0)] := by kernel_rfl
@[simp] theorem tyF20 : Tryd.prog.underlying 21 = some (.int .i32) := by kernel_rfl
@[simp] theorem tyF21 : tyAgg Tryd.prog 21 = some (false, 1) := by kernel_rfl
@[simp] theorem tyF22 : tyZero Tryd.prog 21 = some [.d (.num .i32 0)] := by kernel_rfl
@[simp] theorem tyF23 : Tryd.prog.underlying 22 = some (.slice 36) := by kernel_rfl
@[simp] theorem tyF24 : tyAgg Tryd.prog 22 = some (false, 1) := by kernel_rfl
@[simp] theorem tyF25 : tyElem Tryd.prog 22 = some (36, 9) := by kernel_rfl
@[simp] theorem tyF26 : tyOne Tryd.prog 36 = some (9, 160) := by kernel_rfl
@[simp] theorem tyF27 : tyZero Tryd.prog 22 = some [.lit (.slice none 0 0)] := by kernel_rfl
@[simp] theorem tyF28 : tyAgg Tryd.prog 23 = some (false, 1) := by kernel_rfl
@[simp] theorem tyF29 : tyZero Tryd.prog 23 = some [.lit .nilFunc] := by kernel_rfl
@[simp] theorem tyF30 : Tryd.prog.underlying 24 = some (.int .i64) := by kernel_rfl
@[simp] theorem tyF31 : tyAgg Tryd.prog 24 = some (false, 1) := by kernel_rfl
@[simp] theorem tyF32 : tyZero Tryd.prog 24 = some [.d (.int 0)] := by kernel_rfl
@[simp] theorem tyF33 : tyAgg Tryd.prog 25 = some (false, 1) := by kernel_rfl
@[simp] theorem tyF34 : tyZero Tryd.prog 25 = some [.lit .nilFunc] := by kernel_rfl
@[simp] theorem tyF35 : tyAgg Tryd.prog 26 = some (false, 1) := by kernel_rfl
@[simp] theorem tyF36 : tyZero Tryd.prog 26 = some [.lit .nilFunc] := by kernel_rfl
@[simp] theorem tyF37 : tyAgg Tryd.prog 27 = some (false, 1) := by kernel_rfl
@[simp] theorem tyF38 : tyZero Tryd.prog 27 = some [.lit .nilFunc] := by kernel_rfl
@[simp] theorem tyF39 : tyAgg Tryd.prog 28 = some (false, 1) := by kernel_rfl
@[simp] theorem tyF40 : tyZero Tryd.prog 28 = some [.lit .nilFunc] := by kernel_rfl
@[simp] theorem tyF41 : tyAgg Tryd.prog 29 = some (false, 1) := by kernel_rfl
@[simp] theorem tyF42 : tyZero Tryd.prog 29 = some [.lit .nilFunc] := by kernel_rfl
@[simp] theorem tyF43 : Tryd.prog.underlying 30 = some (.slice 9) := by kernel_rfl
@[simp] theorem tyF44 : tyAgg Tryd.prog 30 = some (false, 1) := by kernel_rfl
@[simp] theorem tyF45 : tyElem Tryd.prog 30 = some (9, 1) := by kernel_rfl
@[simp] theorem tyF46 : tyOne Tryd.prog 9 = some (1, 16) := by kernel_rfl
@[simp] theorem tyF47 : tyZv Tryd.prog 9 false = some (.d (.str ByteArray.empty)) := by kernel_rfl
@[simp] theorem tyF48 : tyZero Tryd.prog 30 = some [.lit (.slice none 0 0)] := by kernel_rfl
@[simp] theorem tyF49 : Tryd.prog.underlying 31 = some (.slice 34) := by kernel_rfl
@[simp] theorem tyF50 : tyAgg Tryd.prog 31 = some (false, 1) := by kernel_rfl
@[simp] theorem tyF51 : tyElem Tryd.prog 31 = some (34, 7) := by kernel_rfl
@[simp] theorem tyF52 : tyOne Tryd.prog 34 = some (7, 120) := by kernel_rfl
@[simp] theorem tyF53 : tyZero Tryd.prog 31 = some [.lit (.slice none 0 0)] := by kernel_rfl
@[simp] theorem tyF54 : Tryd.prog.underlying 32 = some (.slice 40) := by kernel_rfl
@[simp] theorem tyF55 : tyAgg Tryd.prog 32 = some (false, 1) := by kernel_rfl
@[simp] theorem tyF56 : tyElem Tryd.prog 32 = some (40, 9) := by kernel_rfl
@[simp] theorem tyF57 : tyOne Tryd.prog 40 = some (9, 152) := by kernel_rfl
@[simp] theorem tyF58 : tyZero Tryd.prog 32 = some [.lit (.slice none 0 0)] := by kernel_rfl
@[simp] theorem tyF59 : tyAgg Tryd.prog 33 = some (true, 7) := by kernel_rfl
@[simp] theorem tyF60 : tyField Tryd.prog 33 0 = some (0, false, 1) := by kernel_rfl
@[simp] theorem tyF61 : tyField Tryd.prog 33 1 = some (1, false, 1) := by kernel_rfl
@[simp] theorem tyF62 : tyField Tryd.prog 33 2 = some (2, false, 1) := by kernel_rfl
@[simp] theorem tyF63 : tyField Tryd.prog 33 3 = some (3, false, 1) := by kernel_rfl
@[simp] theorem tyF64 : tyField Tryd.prog 33 4 = some (4, false, 1) := by kernel_rfl
@[simp] theorem tyF65 : tyField Tryd.prog 33 5 = some (5, false, 1) := by kernel_rfl
@[simp] theorem tyF66 : tyField Tryd.prog 33 6 = some (6, false, 1) := by kernel_rfl
@[simp] theorem tyF67 : tyPlaces Tryd.prog 33 = some [(0, 1), (1, 1), (2, 1), (3, 1), (4, 1), (5, 1), (6, 1)] := by kernel_rfl
@[simp] theorem tyF68 : tyZero Tryd.prog 33 = some [.d (.int 0), .d (.int 0), .d (.str ByteArray.empty), .d (.str ByteArray.empty), .lit (.slice none 0 0), .lit (.slice none 0 0), .lit (.slice none 0 0)] := by kernel_rfl
@[simp] theorem tyF69 : tyAgg Tryd.prog 34 = some (true, 7) := by kernel_rfl
@[simp] theorem tyF70 : tyField Tryd.prog 34 0 = some (0, false, 1) := by kernel_rfl
@[simp] theorem tyF71 : tyField Tryd.prog 34 1 = some (1, false, 1) := by kernel_rfl
@[simp] theorem tyF72 : tyField Tryd.prog 34 2 = some (2, false, 1) := by kernel_rfl
@[simp] theorem tyF73 : tyField Tryd.prog 34 3 = some (3, false, 1) := by kernel_rfl
@[simp] theorem tyF74 : tyField Tryd.prog 34 4 = some (4, false, 1) := by kernel_rfl
@[simp] theorem tyF75 : tyField Tryd.prog 34 5 = some (5, false, 1) := by kernel_rfl
@[simp] theorem tyF76 : tyField Tryd.prog 34 6 = some (6, false, 1) := by kernel_rfl
@[simp] theorem tyF77 : tyPlaces Tryd.prog 34 = some [(0, 1), (1, 1), (2, 1), (3, 1), (4, 1), (5, 1), (6, 1)] := by kernel_rfl
@[simp] theorem tyF78 : tyZero Tryd.prog 34 = some [.d (.int 0), .d (.int 0), .d (.str ByteArray.empty), .d (.str ByteArray.empty), .lit (.slice none 0 0), .lit (.slice none 0 0), .lit (.slice none 0 0)] := by kernel_rfl
@[simp] theorem tyF79 : tyAgg Tryd.prog 35 = some (true, 9) := by kernel_rfl
@[simp] theorem tyF80 : tyField Tryd.prog 35 0 = some (0, false, 1) := by kernel_rfl
@[simp] theorem tyF81 : tyField Tryd.prog 35 1 = some (1, false, 1) := by kernel_rfl
@[simp] theorem tyF82 : tyField Tryd.prog 35 2 = some (2, true, 7) := by kernel_rfl
@[simp] theorem tyF83 : tyPlaces Tryd.prog 35 = some [(0, 1), (1, 1), (2, 7)] := by kernel_rfl
@[simp] theorem tyF84 : tyZero Tryd.prog 35 = some [.d (.str ByteArray.empty), .lit (.slice none 0 0), .d (.int 0), .d (.int 0), .d (.str ByteArray.empty), .d (.str ByteArray.empty), .lit (.slice none 0 0), .lit (.slice none 0 0), .lit (.slice none 0 0)] := by kernel_rfl
@[simp] theorem tyF85 : tyAgg Tryd.prog 36 = some (true, 9) := by kernel_rfl
@[simp] theorem tyF86 : tyField Tryd.prog 36 0 = some (0, false, 1) := by kernel_rfl
@[simp] theorem tyF87 : tyField Tryd.prog 36 1 = some (1, false, 1) := by kernel_rfl
@[simp] theorem tyF88 : tyField Tryd.prog 36 2 = some (2, true, 7) := by kernel_rfl
@[simp] theorem tyF89 : tyPlaces Tryd.prog 36 = some [(0, 1), (1, 1), (2, 7)] := by kernel_rfl
@[simp] theorem tyF90 : tyZero Tryd.prog 36 = some [.d (.str ByteArray.empty), .lit (.slice none 0 0), .d (.int 0), .d (.int 0), .d (.str ByteArray.empty), .d (.str ByteArray.empty), .lit (.slice none 0 0), .lit (.slice none 0 0), .lit (.slice none 0 0)] := by kernel_rfl
@[simp] theorem tyF91 : tyAgg Tryd.prog 37 = some (false, 1) := by kernel_rfl
@[simp] theorem tyF92 : tyMap Tryd.prog 37 = some (4, true, false, 1) := by kernel_rfl
@[simp] theorem tyF93 : tyZv Tryd.prog 4 false = some (.d (.bool false)) := by kernel_rfl
@[simp] theorem tyF94 : tyZero Tryd.prog 37 = some [.lit (.map none)] := by kernel_rfl
@[simp] theorem tyF95 : tyAgg Tryd.prog 38 = some (false, 1) := by kernel_rfl
@[simp] theorem tyF96 : tyZero Tryd.prog 38 = some [.lit .nilFunc] := by kernel_rfl
@[simp] theorem tyF97 : tyAgg Tryd.prog 39 = some (true, 9) := by kernel_rfl
@[simp] theorem tyF98 : tyField Tryd.prog 39 0 = some (0, false, 1) := by kernel_rfl
@[simp] theorem tyF99 : tyField Tryd.prog 39 1 = some (1, false, 1) := by kernel_rfl
@[simp] theorem tyF100 : tyField Tryd.prog 39 2 = some (2, true, 7) := by kernel_rfl
@[simp] theorem tyF101 : tyPlaces Tryd.prog 39 = some [(0, 1), (1, 1), (2, 7)] := by kernel_rfl
@[simp] theorem tyF102 : tyZero Tryd.prog 39 = some [.d (.int 0), .lit (.slice none 0 0), .d (.int 0), .d (.int 0), .d (.str ByteArray.empty), .d (.str ByteArray.empty), .lit (.slice none 0 0), .lit (.slice none 0 0), .lit (.slice none 0 0)] := by kernel_rfl
@[simp] theorem tyF103 : tyAgg Tryd.prog 40 = some (true, 9) := by kernel_rfl
@[simp] theorem tyF104 : tyField Tryd.prog 40 0 = some (0, false, 1) := by kernel_rfl
@[simp] theorem tyF105 : tyField Tryd.prog 40 1 = some (1, false, 1) := by kernel_rfl
@[simp] theorem tyF106 : tyField Tryd.prog 40 2 = some (2, true, 7) := by kernel_rfl
@[simp] theorem tyF107 : tyPlaces Tryd.prog 40 = some [(0, 1), (1, 1), (2, 7)] := by kernel_rfl
@[simp] theorem tyF108 : tyZero Tryd.prog 40 = some [.d (.int 0), .lit (.slice none 0 0), .d (.int 0), .d (.int 0), .d (.str ByteArray.empty), .d (.str ByteArray.empty), .lit (.slice none 0 0), .lit (.slice none 0 0), .lit (.slice none 0 0)] := by kernel_rfl
@[simp] theorem tyF109 : tyAgg Tryd.prog 41 = some (false, 1) := by kernel_rfl
@[simp] theorem tyF110 : tyZero Tryd.prog 41 = some [.lit .nilFunc] := by kernel_rfl
@[simp] theorem tyF111 : tyAgg Tryd.prog 42 = some (false, 1) := by kernel_rfl
@[simp] theorem tyF112 : tyZero Tryd.prog 42 = some [.lit .nilFunc] := by kernel_rfl
@[simp] theorem tyF113 : tyAgg Tryd.prog 43 = some (false, 1) := by kernel_rfl
@[simp] theorem tyF114 : tyZero Tryd.prog 43 = some [.lit .nilFunc] := by kernel_rfl
@[simp] theorem tyF115 : Tryd.prog.underlying 44 = some (.slice 3) := by kernel_rfl
@[simp] theorem tyF116 : tyAgg Tryd.prog 44 = some (false, 1) := by kernel_rfl
@[simp] theorem tyF117 : tyElem Tryd.prog 44 = some (3, 1) := by kernel_rfl
@[simp] theorem tyF118 : tyOne Tryd.prog 3 = some (1, 8) := by kernel_rfl
@[simp] theorem tyF119 : tyZv Tryd.prog 3 false = some (.d (.int 0)) := by kernel_rfl
@[simp] theorem tyF120 : tyZero Tryd.prog 44 = some [.lit (.slice none 0 0)] := by kernel_rfl
@[simp] theorem tyF121 : Tryd.prog.underlying 45 = some (.slice 47) := by kernel_rfl
@[simp] theorem tyF122 : tyAgg Tryd.prog 45 = some (false, 1) := by kernel_rfl
@[simp] theorem tyF123 : tyElem Tryd.prog 45 = some (47, 3) := by kernel_rfl
@[simp] theorem tyF124 : tyOne Tryd.prog 47 = some (3, 40) := by kernel_rfl
@[simp] theorem tyF125 : tyZero Tryd.prog 45 = some [.lit (.slice none 0 0)] := by kernel_rfl
@[simp] theorem tyF126 : tyAgg Tryd.prog 46 = some (true, 3) := by kernel_rfl
@[simp] theorem tyF127 : tyField Tryd.prog 46 0 = some (0, false, 1) := by kernel_rfl
@[simp] theorem tyF128 : tyField Tryd.prog 46 1 = some (1, false, 1) := by kernel_rfl
@[simp] theorem tyF129 : tyField Tryd.prog 46 2 = some (2, false, 1) := by kernel_rfl
@[simp] theorem tyF130 : tyPlaces Tryd.prog 46 = some [(0, 1), (1, 1), (2, 1)] := by kernel_rfl
@[simp] theorem tyF131 : tyZero Tryd.prog 46 = some [.d (.bool false), .d (.int 0), .lit (.slice none 0 0)] := by kernel_rfl
@[simp] theorem tyF132 : tyAgg Tryd.prog 47 = some (true, 3) := by kernel_rfl
@[simp] theorem tyF133 : tyField Tryd.prog 47 0 = some (0, false, 1) := by kernel_rfl
@[simp] theorem tyF134 : tyField Tryd.prog 47 1 = some (1, false, 1) := by kernel_rfl
@[simp] theorem tyF135 : tyField Tryd.prog 47 2 = some (2, false, 1) := by kernel_rfl
@[simp] theorem tyF136 : tyPlaces Tryd.prog 47 = some [(0, 1), (1, 1), (2, 1)] := by kernel_rfl
@[simp] theorem tyF137 : tyZero Tryd.prog 47 = some [.d (.bool false), .d (.int 0), .lit (.slice none 0 0)] := by kernel_rfl
@[simp] theorem tyF138 : tyAgg Tryd.prog 49 = some (false, 1) := by kernel_rfl
@[simp] theorem tyF139 : tyZero Tryd.prog 49 = some [.lit .nilFunc] := by kernel_rfl
@[simp] theorem tyF140 : tyAgg Tryd.prog 50 = some (false, 1) := by kernel_rfl
@[simp] theorem tyF141 : tyZero Tryd.prog 50 = some [.lit .nilFunc] := by kernel_rfl
@[simp] theorem tyF142 : tyAgg Tryd.prog 51 = some (false, 1) := by kernel_rfl
@[simp] theorem tyF143 : tyZero Tryd.prog 51 = some [.lit .nilFunc] := by kernel_rfl
@[simp] theorem tyF144 : tyAgg Tryd.prog 52 = some (false, 1) := by kernel_rfl
@[simp] theorem tyF145 : tyZero Tryd.prog 52 = some [.lit .nilFunc] := by kernel_rfl
@[simp] theorem tyF146 : tyAgg Tryd.prog 53 = some (false, 1) := by kernel_rfl
@[simp] theorem tyF147 : tyZero Tryd.prog 53 = some [.lit .nilFunc] := by kernel_rfl
@[simp] theorem tyF148 : tyAgg Tryd.prog 54 = some (false, 1) := by kernel_rfl
@[simp] theorem tyF149 : tyZero Tryd.prog 54 = some [.lit .nilFunc] := by kernel_rfl
@[simp] theorem tyF150 : tyAgg Tryd.prog 55 = some (false, 1) := by kernel_rfl
@[simp] theorem tyF151 : tyZero Tryd.prog 55 = some [.lit .nilFunc] := by kernel_rfl
@[simp] theorem tyF152 : tyAgg Tryd.prog 56 = some (false, 1) := by kernel_rfl
@[simp] theorem tyF153 : tyZero Tryd.prog 56 = some [.lit .nilFunc] := by kernel_rfl
@[simp] theorem tyF154 : tyAgg Tryd.prog 57 = some (false, 1) := by kernel_rfl
@[simp] theorem tyF155 : tyZero Tryd.prog 57 = some [.lit .nilFunc] := by kernel_rfl
@[simp] theorem tyF156 : tyAgg Tryd.prog 58 = some (false, 1) := by kernel_rfl
@[simp] theorem tyF157 : tyZero Tryd.prog 58 = some [.lit .nilFunc] := by kernel_rfl
@[simp] theorem tyF158 : tyAgg Tryd.prog 59 = some (false, 1) := by kernel_rfl
@[simp] theorem tyF159 : tyZero Tryd.prog 59 = some [.lit .nilFunc] := by kernel_rfl
@[simp] theorem tyF160 : tyAgg Tryd.prog 60 = some (false, 1) := by kernel_rfl
@[simp] theorem tyF161 : tyZero Tryd.prog 60 = some [.lit .nilFunc] := by kernel_rfl
@[simp] theorem tyF162 : tyAgg Tryd.prog 62 = some (false, 1) := by kernel_rfl
@[simp] theorem tyF163 : tyZero Tryd.prog 62 = some [.lit .nilFunc] := by kernel_rfl
@[simp] theorem tyF164 : tyAgg Tryd.prog 63 = some (false, 1) := by kernel_rfl
@[simp] theorem tyF165 : tyZero Tryd.prog 63 = some [.lit .nilFunc] := by kernel_rfl
@[simp] theorem tyF166 : tyAgg Tryd.prog 64 = some (false, 1) := by kernel_rfl
@[simp] theorem tyF167 : tyZero Tryd.prog 64 = some [.lit .nilFunc] := by kernel_rfl
@[simp] theorem tyF168 : tyAgg Tryd.prog 65 = some (false, 1) := by kernel_rfl
@[simp] theorem tyF169 : tyZero Tryd.prog 65 = some [.lit .nilFunc] := by kernel_rfl
@[simp] theorem tyF170 : tyAgg Tryd.prog 66 = some (false, 1) := by kernel_rfl
@[simp] theorem tyF171 : tyZero Tryd.prog 66 = some [.lit .nilFunc] := by kernel_rfl
@[simp] theorem tyF172 : tyAgg Tryd.prog 67 = some (false, 1) := by kernel_rfl
@[simp] theorem tyF173 : tyZero Tryd.prog 67 = some [.lit .nilFunc] := by kernel_rfl
@[simp] theorem tyF174 : tyAgg Tryd.prog 68 = some (false, 1) := by kernel_rfl
@[simp] theorem tyF175 : tyZero Tryd.prog 68 = some [.lit .nilFunc] := by kernel_rfl
@[simp] theorem tyF176 : tyAgg Tryd.prog 69 = some (false, 1) := by kernel_rfl
@[simp] theorem tyF177 : tyZero Tryd.prog 69 = some [.lit .nilFunc] := by kernel_rfl
@[simp] theorem tyF178 : tyAgg Tryd.prog 70 = some (false, 1) := by kernel_rfl
@[simp] theorem tyF179 : tyMap Tryd.prog 70 = some (3, true, false, 1) := by kernel_rfl
@[simp] theorem tyF180 : tyZero Tryd.prog 70 = some [.lit (.map none)] := by kernel_rfl
@[simp] theorem tyF181 : tyAgg Tryd.prog 72 = some (false, 1) := by kernel_rfl
@[simp] theorem tyF182 : tyZero Tryd.prog 72 = some [.lit .nilFunc] := by kernel_rfl
@[simp] theorem tyF183 : tyAgg Tryd.prog 73 = some (false, 1) := by kernel_rfl
@[simp] theorem tyF184 : tyZero Tryd.prog 73 = some [.lit .nilFunc] := by kernel_rfl
@[simp] theorem tyF185 : tyAgg Tryd.prog 74 = some (false, 1) := by kernel_rfl
@[simp] theorem tyF186 : tyZero Tryd.prog 74 = some [.lit .nilFunc] := by kernel_rfl
@[simp] theorem tyF187 : tyAgg Tryd.prog 75 = some (false, 1) := by kernel_rfl
@[simp] theorem tyF188 : tyZero Tryd.prog 75 = some [.lit .nilFunc] := by kernel_rfl
@[simp] theorem tyF189 : tyAgg Tryd.prog 76 = some (false, 1) := by kernel_rfl
@[simp] theorem tyF190 : tyZero Tryd.prog 76 = some [.lit .nilFunc] := by kernel_rfl
@[simp] theorem tyF191 : tyAgg Tryd.prog 77 = some (false, 1) := by kernel_rfl
@[simp] theorem tyF192 : tyZero Tryd.prog 77 = some [.lit .nilFunc] := by kernel_rfl
@[simp] theorem tyF193 : tyAgg Tryd.prog 78 = some (false, 1) := by kernel_rfl
@[simp] theorem tyF194 : tyZero Tryd.prog 78 = some [.lit .nilFunc] := by kernel_rfl
@[simp] theorem tyF195 : tyAgg Tryd.prog 79 = some (false, 1) := by kernel_rfl
@[simp] theorem tyF196 : tyZero Tryd.prog 79 = some [.lit .nilFunc] := by kernel_rfl
@[simp] theorem tyF197 : tyAgg Tryd.prog 80 = some (false, 1) := by kernel_rfl
@[simp] theorem tyF198 : tyZero Tryd.prog 80 = some [.lit .nilFunc] := by kernel_rfl
@[simp] theorem tyF199 : tyAgg Tryd.prog 81 = some (false, 1) := by kernel_rfl
@[simp] theorem tyF200 : tyZero Tryd.prog 81 = some [.lit .nilFunc] := by kernel_rfl
@[simp] theorem tyF201 : tyAgg Tryd.prog 82 = some (false, 1) := by kernel_rfl
@[simp] theorem tyF202 : tyZero Tryd.prog 82 = some [.d .nil] := by kernel_rfl
@[simp] theorem tyF203 : tyAgg Tryd.prog 83 = some (true, 4) := by kernel_rfl
@[simp] theorem tyF204 : tyField Tryd.prog 83 0 = some (0, false, 1) := by kernel_rfl
@[simp] theorem tyF205 : tyField Tryd.prog 83 1 = some (1, false, 1) := by kernel_rfl
@[simp] theorem tyF206 : tyField Tryd.prog 83 2 = some (2, false, 1) := by kernel_rfl
@[simp] theorem tyF207 : tyField Tryd.prog 83 3 = some (3, false, 1) := by kernel_rfl
@[simp] theorem tyF208 : tyPlaces Tryd.prog 83 = some [(0, 1), (1, 1), (2, 1), (3, 1)] := by kernel_rfl
@[simp] theorem tyF209 : tyZero Tryd.prog 83 = some [.lit (.slice none 0 0), .d (.int 0), .d (.int 0), .d (.int 0)] := by kernel_rfl
@[simp] theorem tyF210 : tyAgg Tryd.prog 84 = some (true, 4) := by kernel_rfl
@[simp] theorem tyF211 : tyField Tryd.prog 84 0 = some (0, false, 1) := by kernel_rfl
@[simp] theorem tyF212 : tyField Tryd.prog 84 1 = some (1, false, 1) := by kernel_rfl
@[simp] theorem tyF213 : tyField Tryd.prog 84 2 = some (2, false, 1) := by kernel_rfl
@[simp] theorem tyF214 : tyField Tryd.prog 84 3 = some (3, false, 1) := by kernel_rfl
@[simp] theorem tyF215 : tyPlaces Tryd.prog 84 = some [(0, 1), (1, 1), (2, 1), (3, 1)] := by kernel_rfl
@[simp] theorem tyF216 : tyZero Tryd.prog 84 = some [.lit (.slice none 0 0), .d (.int 0), .d (.int 0), .d (.int 0)] := by kernel_rfl
@[simp] theorem tyF217 : tyAgg Tryd.prog 85 = some (false, 1) := by kernel_rfl
@[simp] theorem tyF218 : tyZero Tryd.prog 85 = some [.lit .nilFunc] := by kernel_rfl
@[simp] theorem tyF219 : tyAgg Tryd.prog 86 = some (false, 1) := by kernel_rfl
@[simp] theorem tyF220 : tyZero Tryd.prog 86 = some [.d .nil] := by kernel_rfl
@[simp] theorem tyF221 : tyAgg Tryd.prog 87 = some (true, 1) := by kernel_rfl
@[simp] theorem tyF222 : tyField Tryd.prog 87 0 = some (0, false, 1) := by kernel_rfl
@[simp] theorem tyF223 : tyPlaces Tryd.prog 87 = some [(0, 1)] := by kernel_rfl
@[simp] theorem tyF224 : tyZero Tryd.prog 87 = some [.d (.int 0)] := by kernel_rfl
@[simp] theorem tyF225 : tyAgg Tryd.prog 88 = some (true, 1) := by kernel_rfl
@[simp] theorem tyF226 : tyField Tryd.prog 88 0 = some (0, false, 1) := by kernel_rfl
@[simp] theorem tyF227 : tyPlaces Tryd.prog 88 = some [(0, 1)] := by kernel_rfl
@[simp] theorem tyF228 : tyZero Tryd.prog 88 = some [.d (.int 0)] := by kernel_rfl
@[simp] theorem tyF229 : tyAgg Tryd.prog 89 = some (false, 1) := by kernel_rfl
@[simp] theorem tyF230 : tyZero Tryd.prog 89 = some [.lit .nilFunc] := by kernel_rfl
@[simp] theorem tyF231 : tyAgg Tryd.prog 90 = some (false, 1) := by kernel_rfl
@[simp] theorem tyF232 : tyZero Tryd.prog 90 = some [.lit .nilFunc] := by kernel_rfl
@[simp] theorem tyF233 : tyAgg Tryd.prog 91 = some (false, 1) := by kernel_rfl
@[simp] theorem tyF234 : tyZero Tryd.prog 91 = some [.lit .nilFunc] := by kernel_rfl
@[simp] theorem tyF235 : tyAgg Tryd.prog 92 = some (false, 1) := by kernel_rfl
@[simp] theorem tyF236 : tyZero Tryd.prog 92 = some [.d .nil] := by kernel_rfl
@[simp] theorem tyF237 : tyAgg Tryd.prog 93 = some (false, 1) := by kernel_rfl
@[simp] theorem tyF238 : tyZero Tryd.prog 93 = some [.lit .nilFunc] := by kernel_rfl
@[simp] theorem tyF239 : tyAgg Tryd.prog 94 = some (true, 2) := by kernel_rfl
@[simp] theorem tyF240 : tyField Tryd.prog 94 0 = some (0, false, 1) := by kernel_rfl
@[simp] theorem tyF241 : tyField Tryd.prog 94 1 = some (1, false, 1) := by kernel_rfl
@[simp] theorem tyF242 : tyPlaces Tryd.prog 94 = some [(0, 1), (1, 1)] := by kernel_rfl
@[simp] theorem tyF243 : tyZero Tryd.prog 94 = some [.lit (.slice none 0 0), .d (.int 0)] := by kernel_rfl
@[simp] theorem tyF244 : tyAgg Tryd.prog 95 = some (true, 2) := by kernel_rfl
@[simp] theorem tyF245 : tyField Tryd.prog 95 0 = some (0, false, 1) := by kernel_rfl
@[simp] theorem tyF246 : tyField Tryd.prog 95 1 = some (1, false, 1) := by kernel_rfl
@[simp] theorem tyF247 : tyPlaces Tryd.prog 95 = some [(0, 1), (1, 1)] := by kernel_rfl
@[simp] theorem tyF248 : tyZero Tryd.prog 95 = some [.lit (.slice none 0 0), .d (.int 0)] := by kernel_rfl
@[simp] theorem tyF249 : tyAgg Tryd.prog 96 = some (false, 1) := by kernel_rfl
@[simp] theorem tyF250 : tyZero Tryd.prog 96 = some [.lit .nilFunc] := by kernel_rfl
@[simp] theorem tyF251 : tyAgg Tryd.prog 97 = some (false, 1) := by kernel_rfl
@[simp] theorem tyF252 : tyZero Tryd.prog 97 = some [.lit .nilFunc] := by kernel_rfl
@[simp] theorem tyF253 : tyAgg Tryd.prog 98 = some (false, 1) := by kernel_rfl
@[simp] theorem tyF254 : tyZero Tryd.prog 98 = some [.lit .nilFunc] := by kernel_rfl
@[simp] theorem tyF255 : tyAgg Tryd.prog 99 = some (false, 1) := by kernel_rfl
@[simp] theorem tyF256 : tyZero Tryd.prog 99 = some [.lit .nilFunc] := by kernel_rfl
@[simp] theorem tyF257 : tyAgg Tryd.prog 100 = some (false, 1) := by kernel_rfl
@[simp] theorem tyF258 : tyZero Tryd.prog 100 = some [.d .nil] := by kernel_rfl
@[simp] theorem tyF259 : tyAgg Tryd.prog 101 = some (true, 3) := by kernel_rfl
@[simp] theorem tyF260 : tyField Tryd.prog 101 0 = some (0, false, 1) := by kernel_rfl
@[simp] theorem tyF261 : tyField Tryd.prog 101 1 = some (1, false, 1) := by kernel_rfl
@[simp] theorem tyF262 : tyField Tryd.prog 101 2 = some (2, false, 1) := by kernel_rfl
@[simp] theorem tyF263 : tyPlaces Tryd.prog 101 = some [(0, 1), (1, 1), (2, 1)] := by kernel_rfl
@[simp] theorem tyF264 : tyZero Tryd.prog 101 = some [.d (.str ByteArray.empty), .d (.int 0), .d (.int 0)] := by kernel_rfl
@[simp] theorem tyF265 : tyAgg Tryd.prog 102 = some (true, 3) := by kernel_rfl
@[simp] theorem tyF266 : tyField Tryd.prog 102 0 = some (0, false, 1) := by kernel_rfl
@[simp] theorem tyF267 : tyField Tryd.prog 102 1 = some (1, false, 1) := by kernel_rfl
@[simp] theorem tyF268 : tyField Tryd.prog 102 2 = some (2, false, 1) := by kernel_rfl
@[simp] theorem tyF269 : tyPlaces Tryd.prog 102 = some [(0, 1), (1, 1), (2, 1)] := by kernel_rfl
@[simp] theorem tyF270 : tyZero Tryd.prog 102 = some [.d (.str ByteArray.empty), .d (.int 0), .d (.int 0)] := by kernel_rfl
@[simp] theorem tyF271 : tyAgg Tryd.prog 103 = some (false, 1) := by kernel_rfl
@[simp] theorem tyF272 : tyZero Tryd.prog 103 = some [.lit .nilFunc] := by kernel_rfl
@[simp] theorem tyF273 : tyAgg Tryd.prog 104 = some (false, 1) := by kernel_rfl
@[simp] theorem tyF274 : tyZero Tryd.prog 104 = some [.lit .nilFunc] := by kernel_rfl
@[simp] theorem tyF275 : tyAgg Tryd.prog 105 = some (false, 1) := by kernel_rfl
@[simp] theorem tyF276 : tyZero Tryd.prog 105 = some [.lit .nilFunc] := by kernel_rfl
@[simp] theorem tyF277 : tyAgg Tryd.prog 106 = some (false, 1) := by kernel_rfl
@[simp] theorem tyF278 : tyZero Tryd.prog 106 = some [.lit .nilFunc] := by kernel_rfl
@[simp] theorem tyF279 : tyAgg Tryd.prog 107 = some (false, 1) := by kernel_rfl
@[simp] theorem tyF280 : tyZero Tryd.prog 107 = some [.lit .nilFunc] := by kernel_rfl
@[simp] theorem tyF281 : tyAgg Tryd.prog 108 = some (false, 1) := by kernel_rfl
@[simp] theorem tyF282 : tyZero Tryd.prog 108 = some [.d .nil] := by kernel_rfl
@[simp] theorem tyF283 : tyAgg Tryd.prog 109 = some (true, 1) := by kernel_rfl
@[simp] theorem tyF284 : tyField Tryd.prog 109 0 = some (0, false, 1) := by kernel_rfl
@[simp] theorem tyF285 : tyPlaces Tryd.prog 109 = some [(0, 1)] := by kernel_rfl
@[simp] theorem tyF286 : tyZero Tryd.prog 109 = some [.d (.int 0)] := by kernel_rfl
@[simp] theorem tyF287 : tyAgg Tryd.prog 110 = some (true, 1) := by kernel_rfl
@[simp] theorem tyF288 : tyField Tryd.prog 110 0 = some (0, false, 1) := by kernel_rfl
@[simp] theorem tyF289 : tyPlaces Tryd.prog 110 = some [(0, 1)] := by kernel_rfl
@[simp] theorem tyF290 : tyZero Tryd.prog 110 = some [.d (.int 0)] := by kernel_rfl
@[simp] theorem tyF291 : tyAgg Tryd.prog 111 = some (false, 1) := by kernel_rfl
@[simp] theorem tyF292 : tyZero Tryd.prog 111 = some [.d .nil] := by kernel_rfl
@[simp] theorem tyF293 : tyAgg Tryd.prog 112 = some (true, 3) := by kernel_rfl
@[simp] theorem tyF294 : tyField Tryd.prog 112 0 = some (0, false, 1) := by kernel_rfl
@[simp] theorem tyF295 : tyField Tryd.prog 112 1 = some (1, false, 1) := by kernel_rfl
@[simp] theorem tyF296 : tyField Tryd.prog 112 2 = some (2, false, 1) := by kernel_rfl
@[simp] theorem tyF297 : tyPlaces Tryd.prog 112 = some [(0, 1), (1, 1), (2, 1)] := by kernel_rfl
@[simp] theorem tyF298 : tyZero Tryd.prog 112 = some [.lit (.slice none 0 0), .lit (.slice none 0 0), .d (.int 0)] := by kernel_rfl
@[simp] theorem tyF299 : tyAgg Tryd.prog 113 = some (true, 3) := by kernel_rfl
@[simp] theorem tyF300 : tyField Tryd.prog 113 0 = some (0, false, 1) := by kernel_rfl
@[simp] theorem tyF301 : tyField Tryd.prog 113 1 = some (1, false, 1) := by kernel_rfl
@[simp] theorem tyF302 : tyField Tryd.prog 113 2 = some (2, false, 1) := by kernel_rfl
@[simp] theorem tyF303 : tyPlaces Tryd.prog 113 = some [(0, 1), (1, 1), (2, 1)] := by kernel_rfl
@[simp] theorem tyF304 : tyZero Tryd.prog 113 = some [.lit (.slice none 0 0), .lit (.slice none 0 0), .d (.int 0)] := by kernel_rfl
@[simp] theorem tyF305 : tyAgg Tryd.prog 114 = some (false, 1) := by kernel_rfl
@[simp] theorem tyF306 : tyZero Tryd.prog 114 = some [.lit .nilFunc] := by kernel_rfl
@[simp] theorem tyF307 : tyAgg Tryd.prog 115 = some (false, 1) := by kernel_rfl
@[simp] theorem tyF308 : tyZero Tryd.prog 115 = some [.d .nil] := by kernel_rfl
@[simp] theorem tyF309 : tyAgg Tryd.prog 116 = some (true, 1) := by kernel_rfl
@[simp] theorem tyF310 : tyField Tryd.prog 116 0 = some (0, false, 1) := by kernel_rfl
@[simp] theorem tyF311 : tyPlaces Tryd.prog 116 = some [(0, 1)] := by kernel_rfl
@[simp] theorem tyF312 : tyZero Tryd.prog 116 = some [.d (.int 0)] := by kernel_rfl
@[simp] theorem tyF313 : tyAgg Tryd.prog 117 = some (true, 1) := by kernel_rfl
@[simp] theorem tyF314 : tyField Tryd.prog 117 0 = some (0, false, 1) := by kernel_rfl
@[simp] theorem tyF315 : tyPlaces Tryd.prog 117 = some [(0, 1)] := by kernel_rfl
@[simp] theorem tyF316 : tyZero Tryd.prog 117 = some [.d (.int 0)] := by kernel_rfl
@[simp] theorem tyF317 : tyAgg Tryd.prog 118 = some (false, 1) := by kernel_rfl
@[simp] theorem tyF318 : tyZero Tryd.prog 118 = some [.lit .nilFunc] := by kernel_rfl
@[simp] theorem tyF319 : tyAgg Tryd.prog 119 = some (false, 1) := by kernel_rfl
@[simp] theorem tyF320 : tyZero Tryd.prog 119 = some [.lit .nilFunc] := by kernel_rfl
@[simp] theorem tyF321 : tyAgg Tryd.prog 120 = some (false, 1) := by kernel_rfl
@[simp] theorem tyF322 : tyZero Tryd.prog 120 = some [.lit .nilFunc] := by kernel_rfl
@[simp] theorem tyF323 : tyAgg Tryd.prog 121 = some (false, 1) := by kernel_rfl
@[simp] theorem tyF324 : tyZero Tryd.prog 121 = some [.lit .nilFunc] := by kernel_rfl
@[simp] theorem tyF325 : tyAgg Tryd.prog 122 = some (false, 1) := by kernel_rfl
@[simp] theorem tyF326 : tyZero Tryd.prog 122 = some [.lit .nilFunc] := by kernel_rfl
@[simp] theorem tyF327 : tyAgg Tryd.prog 123 = some (false, 1) := by kernel_rfl
@[simp] theorem tyF328 : tyZero Tryd.prog 123 = some [.lit .nilFunc] := by kernel_rfl
@[simp] theorem tyF329 : tyAgg Tryd.prog 124 = some (false, 1) := by kernel_rfl
@[simp] theorem tyF330 : tyZero Tryd.prog 124 = some [.d .nil] := by kernel_rfl
@[simp] theorem tyF331 : tyAgg Tryd.prog 125 = some (true, 5) := by kernel_rfl
@[simp] theorem tyF332 : tyField Tryd.prog 125 0 = some (0, false, 1) := by kernel_rfl
@[simp] theorem tyF333 : tyField Tryd.prog 125 1 = some (1, true, 3) := by kernel_rfl
@[simp] theorem tyF334 : tyField Tryd.prog 125 2 = some (4, false, 1) := by kernel_rfl
@[simp] theorem tyF335 : tyPlaces Tryd.prog 125 = some [(0, 1), (1, 3), (4, 1)] := by kernel_rfl
@[simp] theorem tyF336 : tyZero Tryd.prog 125 = some [.d (.str ByteArray.empty), .d (.bool false), .d (.int 0), .lit (.slice none 0 0), .d .nil] := by kernel_rfl
@[simp] theorem tyF337 : tyAgg Tryd.prog 126 = some (true, 5) := by kernel_rfl
@[simp] theorem tyF338 : tyField Tryd.prog 126 0 = some (0, false, 1) := by kernel_rfl
@[simp] theorem tyF339 : tyField Tryd.prog 126 1 = some (1, true, 3) := by kernel_rfl
@[simp] theorem tyF340 : tyField Tryd.prog 126 2 = some (4, false, 1) := by kernel_rfl
@[simp] theorem tyF341 : tyPlaces Tryd.prog 126 = some [(0, 1), (1, 3), (4, 1)] := by kernel_rfl
@[simp] theorem tyF342 : tyZero Tryd.prog 126 = some [.d (.str ByteArray.empty), .d (.bool false), .d (.int 0), .lit (.slice none 0 0), .d .nil] := by kernel_rfl
@[simp] theorem tyF343 : tyAgg Tryd.prog 127 = some (false, 1) := by kernel_rfl
@[simp] theorem tyF344 : tyZero Tryd.prog 127 = some [.lit .nilFunc] := by kernel_rfl
@[simp] theorem tyF345 : tyAgg Tryd.prog 128 = some (false, 1) := by kernel_rfl
@[simp] theorem tyF346 : tyZero Tryd.prog 128 = some [.d .nil] := by kernel_rfl
@[simp] theorem tyF347 : tyAgg Tryd.prog 129 = some (true, 1) := by kernel_rfl
@[simp] theorem tyF348 : tyField Tryd.prog 129 0 = some (0, false, 1) := by kernel_rfl
@[simp] theorem tyF349 : tyPlaces Tryd.prog 129 = some [(0, 1)] := by kernel_rfl
@[simp] theorem tyF350 : tyZero Tryd.prog 129 = some [.d (.int 0)] := by kernel_rfl
@[simp] theorem tyF351 : Tryd.prog.underlying 130 = some (.slice 165) := by kernel_rfl
@[simp] theorem tyF352 : tyAgg Tryd.prog 130 = some (false, 1) := by kernel_rfl
@[simp] theorem tyF353 : tyElem Tryd.prog 130 = some (165, 2) := by kernel_rfl
@[simp] theorem tyF354 : tyOne Tryd.prog 165 = some (2, 32) := by kernel_rfl
@[simp] theorem tyF355 : tyZero Tryd.prog 130 = some [.lit (.slice none 0 0)] := by kernel_rfl
@[simp] theorem tyF356 : tyAgg Tryd.prog 132 = some (false, 1) := by kernel_rfl
@[simp] theorem tyF357 : tyZero Tryd.prog 132 = some [.lit .nilFunc] := by kernel_rfl
@[simp] theorem tyF358 : tyAgg Tryd.prog 133 = some (false, 1) := by kernel_rfl
@[simp] theorem tyF359 : tyZero Tryd.prog 133 = some [.lit .nilFunc] := by kernel_rfl
@[simp] theorem tyF360 : Tryd.prog.underlying 134 = some (.slice 167) := by kernel_rfl
@[simp] theorem tyF361 : tyAgg Tryd.prog 134 = some (false, 1) := by kernel_rfl
@[simp] theorem tyF362 : tyElem Tryd.prog 134 = some (167, 8) := by kernel_rfl
@[simp] theorem tyF363 : tyOne Tryd.prog 167 = some (8, 136) := by kernel_rfl
@[simp] theorem tyF364 : tyZero Tryd.prog 134 = some [.lit (.slice none 0 0)] := by kernel_rfl
@[simp] theorem tyF365 : tyAgg Tryd.prog 136 = some (false, 1) := by kernel_rfl
@[simp] theorem tyF366 : tyZero Tryd.prog 136 = some [.lit .nilFunc] := by kernel_rfl
@[simp] theorem tyF367 : tyAgg Tryd.prog 137 = some (false, 1) := by kernel_rfl
@[simp] theorem tyF368 : tyZero Tryd.prog 137 = some [.lit .nilFunc] := by kernel_rfl
@[simp] theorem tyF369 : tyAgg Tryd.prog 138 = some (false, 1) := by kernel_rfl
@[simp] theorem tyF370 : tyZero Tryd.prog 138 = some [.lit .nilFunc] := by kernel_rfl
@[simp] theorem tyF371 : tyAgg Tryd.prog 139 = some (false, 1) := by kernel_rfl
@[simp] theorem tyF372 : tyZero Tryd.prog 139 = some [.lit .nilFunc] := by kernel_rfl
@[simp] theorem tyF373 : tyAgg Tryd.prog 140 = some (false, 1) := by kernel_rfl
@[simp] theorem tyF374 : tyZero Tryd.prog 140 = some [.lit .nilFunc] := by kernel_rfl
@[simp] theorem tyF375 : tyAgg Tryd.prog 141 = some (false, 1) := by kernel_rfl
@[simp] theorem tyF376 : tyZero Tryd.prog 141 = some [.lit .nilFunc] := by kernel_rfl
@[simp] theorem tyF377 : tyAgg Tryd.prog 142 = some (false, 1) := by kernel_rfl
@[simp] theorem tyF378 : tyZero Tryd.prog 142 = some [.lit .nilFunc] := by kernel_rfl
@[simp] theorem tyF379 : tyAgg Tryd.prog 143 = some (false, 1) := by kernel_rfl
@[simp] theorem tyF380 : tyZero Tryd.prog 143 = some [.lit .nilFunc] := by kernel_rfl
@[simp] theorem tyF381 : tyAgg Tryd.prog 144 = some (false, 1) := by kernel_rfl
@[simp] theorem tyF382 : tyZero Tryd.prog 144 = some [.lit .nilFunc] := by kernel_rfl
@[simp] theorem tyF383 : tyAgg Tryd.prog 145 = some (false, 1) := by kernel_rfl
@[simp] theorem tyF384 : tyZero Tryd.prog 145 = some [.lit .nilFunc] := by kernel_rfl
@[simp] theorem tyF385 : tyAgg Tryd.prog 146 = some (false, 1) := by kernel_rfl
@[simp] theorem tyF386 : tyZero Tryd.prog 146 = some [.lit .nilFunc] := by kernel_rfl
@[simp] theorem tyF387 : tyAgg Tryd.prog 147 = some (false, 1) := by kernel_rfl
@[simp] theorem tyF388 : tyZero Tryd.prog 147 = some [.lit .nilFunc] := by kernel_rfl
@[simp] theorem tyF389 : tyAgg Tryd.prog 148 = some (false, 1) := by kernel_rfl
@[simp] theorem tyF390 : tyZero Tryd.prog 148 = some [.lit .nilFunc] := by kernel_rfl
@[simp] theorem tyF391 : tyAgg Tryd.prog 149 = some (false, 1) := by kernel_rfl
@[simp] theorem tyF392 : tyZero Tryd.prog 149 = some [.lit .nilFunc] := by kernel_rfl
@[simp] theorem tyF393 : tyAgg Tryd.prog 150 = some (false, 1) := by kernel_rfl
@[simp] theorem tyF394 : tyZero Tryd.prog 150 = some [.lit .nilFunc] := by kernel_rfl
@[simp] theorem tyF395 : tyAgg Tryd.prog 151 = some (false, 1) := by kernel_rfl
@[simp] theorem tyF396 : tyZero Tryd.prog 151 = some [.lit .nilFunc] := by kernel_rfl
@[simp] theorem tyF397 : tyAgg Tryd.prog 152 = some (false, 1) := by kernel_rfl
@[simp] theorem tyF398 : tyZero Tryd.prog 152 = some [.lit .nilFunc] := by kernel_rfl
@[simp] theorem tyF399 : tyAgg Tryd.prog 153 = some (false, 1) := by kernel_rfl
@[simp] theorem tyF400 : tyZero Tryd.prog 153 = some [.d .nil] := by kernel_rfl
@[simp] theorem tyF401 : tyAgg Tryd.prog 154 = some (false, 1) := by kernel_rfl
@[simp] theorem tyF402 : tyZero Tryd.prog 154 = some [.lit .nilFunc] := by kernel_rfl
@[simp] theorem tyF403 : tyAgg Tryd.prog 155 = some (false, 1) := by kernel_rfl
@[simp] theorem tyF404 : tyZero Tryd.prog 155 = some [.lit .nilFunc] := by kernel_rfl
@[simp] theorem tyF405 : tyAgg Tryd.prog 156 = some (false, 1) := by kernel_rfl
@[simp] theorem tyF406 : tyZero Tryd.prog 156 = some [.lit .nilFunc] := by kernel_rfl
@[simp] theorem tyF407 : tyAgg Tryd.prog 157 = some (false, 1) := by kernel_rfl
@[simp] theorem tyF408 : tyZero Tryd.prog 157 = some [.lit .nilFunc] := by kernel_rfl
@[simp] theorem tyF409 : tyAgg Tryd.prog 158 = some (false, 1) := by kernel_rfl
@[simp] theorem tyF410 : tyZero Tryd.prog 158 = some [.lit .nilFunc] := by kernel_rfl
@[simp] theorem tyF411 : tyAgg Tryd.prog 159 = some (false, 1) := by kernel_rfl
@[simp] theorem tyF412 : tyZero Tryd.prog 159 = some [.lit .nilFunc] := by kernel_rfl
@[simp] theorem tyF413 : tyAgg Tryd.prog 161 = some (false, 1) := by kernel_rfl
@[simp] theorem tyF414 : tyZero Tryd.prog 161 = some [.lit .nilFunc] := by kernel_rfl
@[simp] theorem tyF415 : tyAgg Tryd.prog 162 = some (false, 1) := by kernel_rfl
@[simp] theorem tyF416 : tyZero Tryd.prog 162 = some [.lit .nilFunc] := by kernel_rfl
@[simp] theorem tyF417 : tyAgg Tryd.prog 163 = some (false, 1) := by kernel_rfl
@[simp] theorem tyF418 : tyZero Tryd.prog 163 = some [.lit .nilFunc] := by kernel_rfl
@[simp] theorem tyF419 : tyAgg Tryd.prog 164 = some (true, 2) := by kernel_rfl
@[simp] theorem tyF420 : tyField Tryd.prog 164 0 = some (0, false, 1) := by kernel_rfl
@[simp] theorem tyF421 : tyField Tryd.prog 164 1 = some (1, false, 1) := by kernel_rfl
@[simp] theorem tyF422 : tyPlaces Tryd.prog 164 = some [(0, 1), (1, 1)] := by kernel_rfl
@[simp] theorem tyF423 : tyZero Tryd.prog 164 = some [.d (.str ByteArray.empty), .d (.str ByteArray.empty)] := by kernel_rfl
@[simp] theorem tyF424 : tyAgg Tryd.prog 165 = some (true, 2) := by kernel_rfl
@[simp] theorem tyF425 : tyField Tryd.prog 165 0 = some (0, false, 1) := by kernel_rfl
@[simp] theorem tyF426 : tyField Tryd.prog 165 1 = some (1, false, 1) := by kernel_rfl
@[simp] theorem tyF427 : tyPlaces Tryd.prog 165 = some [(0, 1), (1, 1)] := by kernel_rfl
@[simp] theorem tyF428 : tyZero Tryd.prog 165 = some [.d (.str ByteArray.empty), .d (.str ByteArray.empty)] := by kernel_rfl
@[simp] theorem tyF429 : tyAgg Tryd.prog 166 = some (true, 8) := by kernel_rfl
@[simp] theorem tyF430 : tyField Tryd.prog 166 0 = some (0, false, 1) := by kernel_rfl
@[simp] theorem tyF431 : tyField Tryd.prog 166 1 = some (1, true, 7) := by kernel_rfl
@[simp] theorem tyF432 : tyPlaces Tryd.prog 166 = some [(0, 1), (1, 7)] := by kernel_rfl
@[simp] theorem tyF433 : tyZero Tryd.prog 166 = some [.d (.str ByteArray.empty), .d (.int 0), .d (.int 0), .d (.str ByteArray.empty), .d (.str ByteArray.empty), .lit (.slice none 0 0), .lit (.slice none 0 0), .lit (.slice none 0 0)] := by kernel_rfl
@[simp] theorem tyF434 : tyAgg Tryd.prog 167 = some (true, 8) := by kernel_rfl
@[simp] theorem tyF435 : tyField Tryd.prog 167 0 = some (0, false, 1) := by kernel_rfl
@[simp] theorem tyF436 : tyField Tryd.prog 167 1 = some (1, true, 7) := by kernel_rfl
@[simp] theorem tyF437 : tyPlaces Tryd.prog 167 = some [(0, 1), (1, 7)] := by kernel_rfl
@[simp] theorem tyF438 : tyZero Tryd.prog 167 = some [.d (.str ByteArray.empty), .d (.int 0), .d (.int 0), .d (.str ByteArray.empty), .d (.str ByteArray.empty), .lit (.slice none 0 0), .lit (.slice none 0 0), .lit (.slice none 0 0)] := by kernel_rfl
@[simp] theorem tyF439 : tyAgg Tryd.prog 168 = some (false, 1) := by kernel_rfl
@[simp] theorem tyF440 : tyZero Tryd.prog 168 = some [.lit .nilFunc] := by kernel_rfl
@[simp] theorem tyF441 : tyAgg Tryd.prog 169 = some (false, 1) := by kernel_rfl
@[simp] theorem tyF442 : tyZero Tryd.prog 169 = some [.lit .nilFunc] := by kernel_rfl
@[simp] theorem tyF443 : tyAgg Tryd.prog 170 = some (false, 1) := by kernel_rfl
@[simp] theorem tyF444 : tyZero Tryd.prog 170 = some [.lit .nilFunc] := by kernel_rfl
@[simp] theorem tyF445 : tyAgg Tryd.prog 174 = some (false, 1) := by kernel_rfl
@[simp] theorem tyF446 : tyZero Tryd.prog 174 = some [.lit .nilFunc] := by kernel_rfl
@[simp] theorem tyF447 : tyAgg Tryd.prog 175 = some (false, 1) := by kernel_rfl
@[simp] theorem tyF448 : tyZero Tryd.prog 175 = some [.lit .nilFunc] := by kernel_rfl
@[simp] theorem tyF449 : tyAgg Tryd.prog 176 = some (false, 1) := by kernel_rfl
@[simp] theorem tyF450 : tyZero Tryd.prog 176 = some [.lit .nilFunc] := by kernel_rfl
@[simp] theorem tyF451 : Tryd.prog.underlying 178 = some (.int .u64) := by kernel_rfl
@[simp] theorem tyF452 : tyAgg Tryd.prog 178 = some (false, 1) := by kernel_rfl
@[simp] theorem tyF453 : tyZero Tryd.prog 178 = some [.d (.num .u64 0)] := by kernel_rfl
@[simp] theorem tyF454 : tyAgg Tryd.prog 179 = some (false, 1) := by kernel_rfl
@[simp] theorem tyF455 : tyZero Tryd.prog 179 = some [.lit .nilFunc] := by kernel_rfl
@[simp] theorem tyF456 : tyAgg Tryd.prog 180 = some (false, 1) := by kernel_rfl
@[simp] theorem tyF457 : tyZero Tryd.prog 180 = some [.lit .nilFunc] := by kernel_rfl
@[simp] theorem tyF458 : Tryd.prog.underlying 181 = some (.slice 5) := by kernel_rfl
@[simp] theorem tyF459 : tyAgg Tryd.prog 181 = some (false, 1) := by kernel_rfl
@[simp] theorem tyF460 : tyElem Tryd.prog 181 = some (5, 1) := by kernel_rfl
@[simp] theorem tyF461 : tyOne Tryd.prog 5 = some (1, 1) := by kernel_rfl
@[simp] theorem tyF462 : tyZv Tryd.prog 5 false = some (.d (.num .u8 0)) := by kernel_rfl
@[simp] theorem tyF463 : tyZero Tryd.prog 181 = some [.lit (.slice none 0 0)] := by kernel_rfl
@[simp] theorem tyF464 : tyAgg Tryd.prog 183 = some (false, 1) := by kernel_rfl
@[simp] theorem tyF465 : tyZero Tryd.prog 183 = some [.lit .nilFunc] := by kernel_rfl
@[simp] theorem tyF466 : tyAgg Tryd.prog 186 = some (false, 1) := by kernel_rfl
@[simp] theorem tyF467 : tyZero Tryd.prog 186 = some [.lit .nilFunc] := by kernel_rfl
@[simp] theorem tyF468 : tyAgg Tryd.prog 187 = some (false, 1) := by kernel_rfl
@[simp] theorem tyF469 : tyZero Tryd.prog 187 = some [.d .nil] := by kernel_rfl
@[simp] theorem tyF470 : tyAgg Tryd.prog 188 = some (false, 1) := by kernel_rfl
@[simp] theorem tyF471 : tyZero Tryd.prog 188 = some [.lit .nilFunc] := by kernel_rfl
@[simp] theorem tyF472 : tyAgg Tryd.prog 189 = some (false, 1) := by kernel_rfl
@[simp] theorem tyF473 : tyZero Tryd.prog 189 = some [.lit .nilFunc] := by kernel_rfl
@[simp] theorem tyF474 : tyAgg Tryd.prog 190 = some (false, 1) := by kernel_rfl
@[simp] theorem tyF475 : tyZero Tryd.prog 190 = some [.lit .nilFunc] := by kernel_rfl
@[simp] theorem tyF476 : tyAgg Tryd.prog 191 = some (false, 1) := by kernel_rfl
@[simp] theorem tyF477 : tyZero Tryd.prog 191 = some [.lit .nilFunc] := by kernel_rfl
@[simp] theorem tyF478 : Tryd.prog.underlying 193 = some (.int .u32) := by kernel_rfl
@[simp] theorem tyF479 : tyAgg Tryd.prog 193 = some (false, 1) := by kernel_rfl
@[simp] theorem tyF480 : tyZero Tryd.prog 193 = some [.d (.num .u32 0)] := by kernel_rfl
@[simp] theorem tyF481 : tyAgg Tryd.prog 195 = some (false, 1) := by kernel_rfl
@[simp] theorem tyF482 : tyZero Tryd.prog 195 = some [.lit .nilFunc] := by kernel_rfl
@[simp] theorem tyF483 : Tryd.prog.underlying 196 = some (.int .u64) := by kernel_rfl
@[simp] theorem tyF484 : tyAgg Tryd.prog 196 = some (false, 1) := by kernel_rfl
@[simp] theorem tyF485 : tyZero Tryd.prog 196 = some [.d (.num .u64 0)] := by kernel_rfl
@[simp] theorem tyF486 : tyAgg Tryd.prog 197 = some (false, 1) := by kernel_rfl
@[simp] theorem tyF487 : tyZero Tryd.prog 197 = some [.lit .nilFunc] := by kernel_rfl
@[simp] theorem tyF488 : tyAgg Tryd.prog 199 = some (false, 1) := by kernel_rfl
@[simp] theorem tyF489 : tyZero Tryd.prog 199 = some [.lit .nilFunc] := by kernel_rfl
@[simp] theorem tyF490 : tyAgg Tryd.prog 200 = some (true, 3) := by kernel_rfl
@[simp] theorem tyF491 : tyField Tryd.prog 200 0 = some (0, false, 1) := by kernel_rfl
@[simp] theorem tyF492 : tyField Tryd.prog 200 1 = some (1, false, 1) := by kernel_rfl
@[simp] theorem tyF493 : tyField Tryd.prog 200 2 = some (2, false, 1) := by kernel_rfl
@[simp] theorem tyF494 : tyPlaces Tryd.prog 200 = some [(0, 1), (1, 1), (2, 1)] := by kernel_rfl
@[simp] theorem tyF495 : tyAgg Tryd.prog 201 = some (true, 3) := by kernel_rfl
@[simp] theorem tyF496 : tyField Tryd.prog 201 0 = some (0, false, 1) := by kernel_rfl
@[simp] theorem tyF497 : tyField Tryd.prog 201 1 = some (1, false, 1) := by kernel_rfl
@[simp] theorem tyF498 : tyField Tryd.prog 201 2 = some (2, false, 1) := by kernel_rfl
@[simp] theorem tyF499 : tyPlaces Tryd.prog 201 = some [(0, 1), (1, 1), (2, 1)] := by kernel_rfl
@[simp] theorem tyF500 : tyAgg Tryd.prog 202 = some (false, 1) := by kernel_rfl
@[simp] theorem tyF501 : tyZero Tryd.prog 202 = some [.lit .nilFunc] := by kernel_rfl
@[simp] theorem tyF502 : tyAgg Tryd.prog 203 = some (false, 1) := by kernel_rfl
@[simp] theorem tyF503 : tyZero Tryd.prog 203 = some [.lit .nilFunc] := by kernel_rfl
@[simp] theorem tyF504 : tyAgg Tryd.prog 204 = some (false, 1) := by kernel_rfl
@[simp] theorem tyF505 : tyZero Tryd.prog 204 = some [.lit .nilFunc] := by kernel_rfl
@[simp] theorem tyF506 : tyAgg Tryd.prog 205 = some (false, 1) := by kernel_rfl
@[simp] theorem tyF507 : tyZero Tryd.prog 205 = some [.d .nil] := by kernel_rfl
@[simp] theorem tyF508 : tyAgg Tryd.prog 206 = some (false, 1) := by kernel_rfl
@[simp] theorem tyF509 : tyZero Tryd.prog 206 = some [.d .nil] := by kernel_rfl
@[simp] theorem tyF510 : tyAgg Tryd.prog 207 = some (true, 1) := by kernel_rfl
@[simp] theorem tyF511 : tyField Tryd.prog 207 0 = some (0, false, 1) := by kernel_rfl
@[simp] theorem tyF512 : tyPlaces Tryd.prog 207 = some [(0, 1)] := by kernel_rfl
@[simp] theorem tyF513 : tyZero Tryd.prog 207 = some [.d (.str ByteArray.empty)] := by kernel_rfl
@[simp] theorem tyF514 : tyAgg Tryd.prog 208 = some (true, 1) := by kernel_rfl
@[simp] theorem tyF515 : tyField Tryd.prog 208 0 = some (0, false, 1) := by kernel_rfl
@[simp] theorem tyF516 : tyPlaces Tryd.prog 208 = some [(0, 1)] := by kernel_rfl
@[simp] theorem tyF517 : tyZero Tryd.prog 208 = some [.d (.str ByteArray.empty)] := by kernel_rfl
theorem mixed : Tryd.prog.follows .mixedOrders = true := by kernel_rfl
end Go.Proofs.YtapiiklnnkkdlaaDoor
