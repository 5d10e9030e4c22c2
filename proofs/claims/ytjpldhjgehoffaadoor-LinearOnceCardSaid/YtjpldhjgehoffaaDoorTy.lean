import Derived.Test.YtjpldhjgehoffaaDoorEng2
import Derived.Test.YtjpldhjgehoffaaDoorRows
namespace Go.Proofs.YtjpldhjgehoffaaDoor
open Go.RowKit
set_option linter.unusedVariables false
set_option linter.unusedSimpArgs false
@[simp] theorem tyF6 : Uq Tryd.prog 3 = some (false,1):=by kernel_rfl
@[simp] theorem tyF15 : Uq Tryd.prog 9 = some (false,1):=by kernel_rfl
@[simp] theorem tyF25 : U8 Tryd.prog 22 = some (34,9):=by kernel_rfl
@[simp] theorem tyF26 : tyOne Tryd.prog 34 = some (9,160):=by kernel_rfl
@[simp] theorem tyF40 : Uq Tryd.prog 28 = some (false,1):=by kernel_rfl
@[simp] theorem tyF41 : U8 Tryd.prog 28 = some (9,1):=by kernel_rfl
@[simp] theorem tyF42 : tyOne Tryd.prog 9 = some (1,16):=by kernel_rfl
@[simp] theorem tyF43 : tyZv Tryd.prog 9 false = some (.d (.str ByteArray.empty)):=by kernel_rfl
@[simp] theorem tyF44 : Gx Tryd.prog 28 = some [.lit (.slice none 0 0)]:=by kernel_rfl
@[simp] theorem tyF46 : Uq Tryd.prog 29 = some (false,1):=by kernel_rfl
@[simp] theorem tyF47 : U8 Tryd.prog 29 = some (32,7):=by kernel_rfl
@[simp] theorem tyF48 : tyOne Tryd.prog 32 = some (7,120):=by kernel_rfl
@[simp] theorem tyF51 : Uq Tryd.prog 30 = some (false,1):=by kernel_rfl
@[simp] theorem tyF52 : U8 Tryd.prog 30 = some (42,9):=by kernel_rfl
@[simp] theorem tyF53 : tyOne Tryd.prog 42 = some (9,152):=by kernel_rfl
@[simp] theorem tyF65 : Uq Tryd.prog 32 = some (true,7):=by kernel_rfl
@[simp] theorem tyF66 : Jq Tryd.prog 32 0 = some (0,false,1):=by kernel_rfl
@[simp] theorem tyF67 : Jq Tryd.prog 32 1 = some (1,false,1):=by kernel_rfl
@[simp] theorem tyF68 : Jq Tryd.prog 32 2 = some (2,false,1):=by kernel_rfl
@[simp] theorem tyF69 : Jq Tryd.prog 32 3 = some (3,false,1):=by kernel_rfl
@[simp] theorem tyF70 : Jq Tryd.prog 32 4 = some (4,false,1):=by kernel_rfl
@[simp] theorem tyF71 : Jq Tryd.prog 32 5 = some (5,false,1):=by kernel_rfl
@[simp] theorem tyF72 : Jq Tryd.prog 32 6 = some (6,false,1):=by kernel_rfl
@[simp] theorem tyF73 : Gj Tryd.prog 32 = some [(0,1),(1,1),(2,1),(3,1),(4,1),(5,1),(6,1)]:=by kernel_rfl
@[simp] theorem tyF74 : Gx Tryd.prog 32 = some [.d (.int 0),.d (.int 0),.d (.str ByteArray.empty),.d (.str ByteArray.empty),.lit (.slice none 0 0),.lit (.slice none 0 0),.lit (.slice none 0 0)]:=by kernel_rfl
@[simp] theorem tyF81 : Uq Tryd.prog 34 = some (true,9):=by kernel_rfl
@[simp] theorem tyF82 : Jq Tryd.prog 34 0 = some (0,false,1):=by kernel_rfl
@[simp] theorem tyF83 : Jq Tryd.prog 34 1 = some (1,false,1):=by kernel_rfl
@[simp] theorem tyF84 : Jq Tryd.prog 34 2 = some (2,true,7):=by kernel_rfl
@[simp] theorem tyF85 : Gj Tryd.prog 34 = some [(0,1),(1,1),(2,7)]:=by kernel_rfl
@[simp] theorem tyF86 : Gx Tryd.prog 34 = some [.d (.str ByteArray.empty),.lit (.slice none 0 0),.d (.int 0),.d (.int 0),.d (.str ByteArray.empty),.d (.str ByteArray.empty),.lit (.slice none 0 0),.lit (.slice none 0 0),.lit (.slice none 0 0)]:=by kernel_rfl
@[simp] theorem tyF93 : Uq Tryd.prog 38 = some (false,1):=by kernel_rfl
@[simp] theorem tyF94 : Nv Tryd.prog 38 = some (3,true,false,1):=by kernel_rfl
@[simp] theorem tyF95 : tyZv Tryd.prog 3 false = some (.d (.int 0)):=by kernel_rfl
@[simp] theorem tyF105 : Uq Tryd.prog 42 = some (true,9):=by kernel_rfl
@[simp] theorem tyF106 : Jq Tryd.prog 42 0 = some (0,false,1):=by kernel_rfl
@[simp] theorem tyF107 : Jq Tryd.prog 42 1 = some (1,false,1):=by kernel_rfl
@[simp] theorem tyF108 : Jq Tryd.prog 42 2 = some (2,true,7):=by kernel_rfl
@[simp] theorem tyF109 : Gj Tryd.prog 42 = some [(0,1),(1,1),(2,7)]:=by kernel_rfl
@[simp] theorem tyF110 : Gx Tryd.prog 42 = some [.d (.int 0),.lit (.slice none 0 0),.d (.int 0),.d (.int 0),.d (.str ByteArray.empty),.d (.str ByteArray.empty),.lit (.slice none 0 0),.lit (.slice none 0 0),.lit (.slice none 0 0)]:=by kernel_rfl
@[simp] theorem tyF113 : U8 Tryd.prog 43 = some (3,1):=by kernel_rfl
@[simp] theorem tyF114 : tyOne Tryd.prog 3 = some (1,8):=by kernel_rfl
@[simp] theorem tyF266 : Jq Tryd.prog 87 0 = some (0,false,1):=by kernel_rfl
@[simp] theorem tyF267 : Gj Tryd.prog 87 = some [(0,1)]:=by kernel_rfl
@[simp] theorem tyF268 : Gx Tryd.prog 87 = some [.d (.int 0)]:=by kernel_rfl
@[simp] theorem tyF315 : Uq Tryd.prog 107 = some (false,1):=by kernel_rfl
@[simp] theorem tyF316 : Nv Tryd.prog 107 = some (9,true,false,1):=by kernel_rfl
@[simp] theorem tyF325 : Jq Tryd.prog 109 0 = some (0,false,1):=by kernel_rfl
@[simp] theorem tyF326 : Jq Tryd.prog 109 1 = some (1,false,1):=by kernel_rfl
@[simp] theorem tyF327 : Jq Tryd.prog 109 2 = some (2,false,1):=by kernel_rfl
@[simp] theorem tyF328 : Gj Tryd.prog 109 = some [(0,1),(1,1),(2,1)]:=by kernel_rfl
@[simp] theorem tyF329 : Gx Tryd.prog 109 = some [.lit (.map none),.lit (.map none),.lit (.map none)]:=by kernel_rfl
@[simp] theorem tyF341 : Jq Tryd.prog 114 0 = some (0,false,1):=by kernel_rfl
@[simp] theorem tyF342 : Gj Tryd.prog 114 = some [(0,1)]:=by kernel_rfl
@[simp] theorem tyF343 : Gx Tryd.prog 114 = some [.d (.int 0)]:=by kernel_rfl
@[simp] theorem tyF441 : Jq Tryd.prog 152 0 = some (0,false,1):=by kernel_rfl
@[simp] theorem tyF442 : Gj Tryd.prog 152 = some [(0,1)]:=by kernel_rfl
@[simp] theorem tyF443 : Gx Tryd.prog 152 = some [.d (.int 0)]:=by kernel_rfl
@[simp] theorem tyF446 : U8 Tryd.prog 153 = some (178,2):=by kernel_rfl
@[simp] theorem tyF447 : tyOne Tryd.prog 178 = some (2,32):=by kernel_rfl
@[simp] theorem tyF455 : U8 Tryd.prog 157 = some (180,8):=by kernel_rfl
@[simp] theorem tyF456 : tyOne Tryd.prog 180 = some (8,136):=by kernel_rfl
@[simp] theorem tyF495 : Uq Tryd.prog 178 = some (true,2):=by kernel_rfl
@[simp] theorem tyF496 : Jq Tryd.prog 178 0 = some (0,false,1):=by kernel_rfl
@[simp] theorem tyF497 : Jq Tryd.prog 178 1 = some (1,false,1):=by kernel_rfl
@[simp] theorem tyF498 : Gj Tryd.prog 178 = some [(0,1),(1,1)]:=by kernel_rfl
@[simp] theorem tyF499 : Gx Tryd.prog 178 = some [.d (.str ByteArray.empty),.d (.str ByteArray.empty)]:=by kernel_rfl
@[simp] theorem tyF506 : Jq Tryd.prog 180 0 = some (0,false,1):=by kernel_rfl
@[simp] theorem tyF507 : Jq Tryd.prog 180 1 = some (1,true,7):=by kernel_rfl
@[simp] theorem tyF508 : Gj Tryd.prog 180 = some [(0,1),(1,7)]:=by kernel_rfl
@[simp] theorem tyF509 : Gx Tryd.prog 180 = some [.d (.str ByteArray.empty),.d (.int 0),.d (.int 0),.d (.str ByteArray.empty),.d (.str ByteArray.empty),.lit (.slice none 0 0),.lit (.slice none 0 0),.lit (.slice none 0 0)]:=by kernel_rfl
@[simp] theorem tyF522 : Uq Tryd.prog 191 = some (false,1):=by kernel_rfl
@[simp] theorem tyF523 : Nv Tryd.prog 191 = some (4,true,false,1):=by kernel_rfl
@[simp] theorem tyF524 : tyZv Tryd.prog 4 false = some (.d (.bool false)):=by kernel_rfl
@[simp] theorem tyF525 : Gx Tryd.prog 191 = some [.lit (.map none)]:=by kernel_rfl
@[simp] theorem tyF526 : Uq Tryd.prog 192 = some (false,1):=by kernel_rfl
@[simp] theorem tyF527 : Gx Tryd.prog 192 = some [.lit .nilFunc]:=by kernel_rfl
theorem mixed : Tryd.prog.follows .mixedOrders = true:=by kernel_rfl
end Go.Proofs.YtjpldhjgehoffaaDoor
