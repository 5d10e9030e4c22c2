import Derived.Test.YtjpldhjgehoffaaDoorEng2
import Derived.Test.YtjpldhjgehoffaaDoorRows
namespace Go.Proofs.YtjpldhjgehoffaaDoor
open Go.RowKit
set_option linter.unusedVariables false
set_option linter.unusedSimpArgs false
@[simp] theorem tyF6 : Uj Tryd.prog 3 = some (false,1):=by kernel_rfl
@[simp] theorem tyF15 : Uj Tryd.prog 9 = some (false,1):=by kernel_rfl
@[simp] theorem tyF25 : Uq Tryd.prog 22 = some (34,9):=by kernel_rfl
@[simp] theorem tyF26 : tyOne Tryd.prog 34 = some (9,160):=by kernel_rfl
@[simp] theorem tyF40 : Uj Tryd.prog 28 = some (false,1):=by kernel_rfl
@[simp] theorem tyF41 : Uq Tryd.prog 28 = some (9,1):=by kernel_rfl
@[simp] theorem tyF42 : tyOne Tryd.prog 9 = some (1,16):=by kernel_rfl
@[simp] theorem tyF43 : tyZv Tryd.prog 9 false = some (.d (.str ByteArray.empty)):=by kernel_rfl
@[simp] theorem tyF44 : H6 Tryd.prog 28 = some [.lit (.slice none 0 0)]:=by kernel_rfl
@[simp] theorem tyF46 : Uj Tryd.prog 29 = some (false,1):=by kernel_rfl
@[simp] theorem tyF47 : Uq Tryd.prog 29 = some (32,7):=by kernel_rfl
@[simp] theorem tyF48 : tyOne Tryd.prog 32 = some (7,120):=by kernel_rfl
@[simp] theorem tyF51 : Uj Tryd.prog 30 = some (false,1):=by kernel_rfl
@[simp] theorem tyF52 : Uq Tryd.prog 30 = some (42,9):=by kernel_rfl
@[simp] theorem tyF53 : tyOne Tryd.prog 42 = some (9,152):=by kernel_rfl
@[simp] theorem tyF65 : Uj Tryd.prog 32 = some (true,7):=by kernel_rfl
@[simp] theorem tyF66 : Jj Tryd.prog 32 0 = some (0,false,1):=by kernel_rfl
@[simp] theorem tyF67 : Jj Tryd.prog 32 1 = some (1,false,1):=by kernel_rfl
@[simp] theorem tyF68 : Jj Tryd.prog 32 2 = some (2,false,1):=by kernel_rfl
@[simp] theorem tyF69 : Jj Tryd.prog 32 3 = some (3,false,1):=by kernel_rfl
@[simp] theorem tyF70 : Jj Tryd.prog 32 4 = some (4,false,1):=by kernel_rfl
@[simp] theorem tyF71 : Jj Tryd.prog 32 5 = some (5,false,1):=by kernel_rfl
@[simp] theorem tyF72 : Jj Tryd.prog 32 6 = some (6,false,1):=by kernel_rfl
@[simp] theorem tyF73 : H7 Tryd.prog 32 = some [(0,1),(1,1),(2,1),(3,1),(4,1),(5,1),(6,1)]:=by kernel_rfl
@[simp] theorem tyF74 : H6 Tryd.prog 32 = some [.d (.int 0),.d (.int 0),.d (.str ByteArray.empty),.d (.str ByteArray.empty),.lit (.slice none 0 0),.lit (.slice none 0 0),.lit (.slice none 0 0)]:=by kernel_rfl
@[simp] theorem tyF81 : Uj Tryd.prog 34 = some (true,9):=by kernel_rfl
@[simp] theorem tyF82 : Jj Tryd.prog 34 0 = some (0,false,1):=by kernel_rfl
@[simp] theorem tyF83 : Jj Tryd.prog 34 1 = some (1,false,1):=by kernel_rfl
@[simp] theorem tyF84 : Jj Tryd.prog 34 2 = some (2,true,7):=by kernel_rfl
@[simp] theorem tyF85 : H7 Tryd.prog 34 = some [(0,1),(1,1),(2,7)]:=by kernel_rfl
@[simp] theorem tyF86 : H6 Tryd.prog 34 = some [.d (.str ByteArray.empty),.lit (.slice none 0 0),.d (.int 0),.d (.int 0),.d (.str ByteArray.empty),.d (.str ByteArray.empty),.lit (.slice none 0 0),.lit (.slice none 0 0),.lit (.slice none 0 0)]:=by kernel_rfl
@[simp] theorem tyF93 : Uj Tryd.prog 38 = some (false,1):=by kernel_rfl
@[simp] theorem tyF94 : M0 Tryd.prog 38 = some (3,true,false,1):=by kernel_rfl
@[simp] theorem tyF95 : tyZv Tryd.prog 3 false = some (.d (.int 0)):=by kernel_rfl
@[simp] theorem tyF105 : Uj Tryd.prog 42 = some (true,9):=by kernel_rfl
@[simp] theorem tyF106 : Jj Tryd.prog 42 0 = some (0,false,1):=by kernel_rfl
@[simp] theorem tyF107 : Jj Tryd.prog 42 1 = some (1,false,1):=by kernel_rfl
@[simp] theorem tyF108 : Jj Tryd.prog 42 2 = some (2,true,7):=by kernel_rfl
@[simp] theorem tyF109 : H7 Tryd.prog 42 = some [(0,1),(1,1),(2,7)]:=by kernel_rfl
@[simp] theorem tyF110 : H6 Tryd.prog 42 = some [.d (.int 0),.lit (.slice none 0 0),.d (.int 0),.d (.int 0),.d (.str ByteArray.empty),.d (.str ByteArray.empty),.lit (.slice none 0 0),.lit (.slice none 0 0),.lit (.slice none 0 0)]:=by kernel_rfl
@[simp] theorem tyF113 : Uq Tryd.prog 43 = some (3,1):=by kernel_rfl
@[simp] theorem tyF114 : tyOne Tryd.prog 3 = some (1,8):=by kernel_rfl
@[simp] theorem tyF266 : Jj Tryd.prog 87 0 = some (0,false,1):=by kernel_rfl
@[simp] theorem tyF267 : H7 Tryd.prog 87 = some [(0,1)]:=by kernel_rfl
@[simp] theorem tyF268 : H6 Tryd.prog 87 = some [.d (.int 0)]:=by kernel_rfl
@[simp] theorem tyF315 : Uj Tryd.prog 107 = some (false,1):=by kernel_rfl
@[simp] theorem tyF316 : M0 Tryd.prog 107 = some (9,true,false,1):=by kernel_rfl
@[simp] theorem tyF325 : Jj Tryd.prog 109 0 = some (0,false,1):=by kernel_rfl
@[simp] theorem tyF326 : Jj Tryd.prog 109 1 = some (1,false,1):=by kernel_rfl
@[simp] theorem tyF327 : Jj Tryd.prog 109 2 = some (2,false,1):=by kernel_rfl
@[simp] theorem tyF328 : H7 Tryd.prog 109 = some [(0,1),(1,1),(2,1)]:=by kernel_rfl
@[simp] theorem tyF329 : H6 Tryd.prog 109 = some [.lit (.map none),.lit (.map none),.lit (.map none)]:=by kernel_rfl
@[simp] theorem tyF341 : Jj Tryd.prog 114 0 = some (0,false,1):=by kernel_rfl
@[simp] theorem tyF342 : H7 Tryd.prog 114 = some [(0,1)]:=by kernel_rfl
@[simp] theorem tyF343 : H6 Tryd.prog 114 = some [.d (.int 0)]:=by kernel_rfl
@[simp] theorem tyF441 : Jj Tryd.prog 152 0 = some (0,false,1):=by kernel_rfl
@[simp] theorem tyF442 : H7 Tryd.prog 152 = some [(0,1)]:=by kernel_rfl
@[simp] theorem tyF443 : H6 Tryd.prog 152 = some [.d (.int 0)]:=by kernel_rfl
@[simp] theorem tyF446 : Uq Tryd.prog 153 = some (178,2):=by kernel_rfl
@[simp] theorem tyF447 : tyOne Tryd.prog 178 = some (2,32):=by kernel_rfl
@[simp] theorem tyF455 : Uq Tryd.prog 157 = some (180,8):=by kernel_rfl
@[simp] theorem tyF456 : tyOne Tryd.prog 180 = some (8,136):=by kernel_rfl
@[simp] theorem tyF495 : Uj Tryd.prog 178 = some (true,2):=by kernel_rfl
@[simp] theorem tyF496 : Jj Tryd.prog 178 0 = some (0,false,1):=by kernel_rfl
@[simp] theorem tyF497 : Jj Tryd.prog 178 1 = some (1,false,1):=by kernel_rfl
@[simp] theorem tyF498 : H7 Tryd.prog 178 = some [(0,1),(1,1)]:=by kernel_rfl
@[simp] theorem tyF499 : H6 Tryd.prog 178 = some [.d (.str ByteArray.empty),.d (.str ByteArray.empty)]:=by kernel_rfl
@[simp] theorem tyF506 : Jj Tryd.prog 180 0 = some (0,false,1):=by kernel_rfl
@[simp] theorem tyF507 : Jj Tryd.prog 180 1 = some (1,true,7):=by kernel_rfl
@[simp] theorem tyF508 : H7 Tryd.prog 180 = some [(0,1),(1,7)]:=by kernel_rfl
@[simp] theorem tyF509 : H6 Tryd.prog 180 = some [.d (.str ByteArray.empty),.d (.int 0),.d (.int 0),.d (.str ByteArray.empty),.d (.str ByteArray.empty),.lit (.slice none 0 0),.lit (.slice none 0 0),.lit (.slice none 0 0)]:=by kernel_rfl
@[simp] theorem tyF522 : Uj Tryd.prog 191 = some (false,1):=by kernel_rfl
@[simp] theorem tyF523 : M0 Tryd.prog 191 = some (4,true,false,1):=by kernel_rfl
@[simp] theorem tyF524 : tyZv Tryd.prog 4 false = some (.d (.bool false)):=by kernel_rfl
@[simp] theorem tyF525 : H6 Tryd.prog 191 = some [.lit (.map none)]:=by kernel_rfl
@[simp] theorem tyF526 : Uj Tryd.prog 192 = some (false,1):=by kernel_rfl
@[simp] theorem tyF527 : H6 Tryd.prog 192 = some [.lit .nilFunc]:=by kernel_rfl
theorem mixed : Tryd.prog.follows .mixedOrders = true:=by kernel_rfl
end Go.Proofs.YtjpldhjgehoffaaDoor
