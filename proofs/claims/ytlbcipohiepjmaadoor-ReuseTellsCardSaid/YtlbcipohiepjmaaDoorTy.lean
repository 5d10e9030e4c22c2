import Derived.Test.YtlbcipohiepjmaaDoorEng2
import Derived.Test.YtlbcipohiepjmaaDoorRows
set_option linter.unusedVariables false
set_option linter.unusedSimpArgs false
namespace Go.Proofs.YtlbcipohiepjmaaDoor
open Go.RowKit
@[simp] theorem tyF6:Ux Tryd.prog 3=some (false,1):=by kernel_rfl
@[simp] theorem tyF15:Ux Tryd.prog 9=some (false,1):=by kernel_rfl
@[simp] theorem tyF25:V3 Tryd.prog 22=some (34,9):=by kernel_rfl
@[simp] theorem tyF26:L9 Tryd.prog 34=some (9,160):=by kernel_rfl
@[simp] theorem tyF40:Ux Tryd.prog 28=some (false,1):=by kernel_rfl
@[simp] theorem tyF41:V3 Tryd.prog 28=some (9,1):=by kernel_rfl
@[simp] theorem tyF42:L9 Tryd.prog 9=some (1,16):=by kernel_rfl
@[simp] theorem tyF44:Gz Tryd.prog 28=some [.lit (.slice none 0 0)]:=by kernel_rfl
@[simp] theorem tyF46:Ux Tryd.prog 29=some (false,1):=by kernel_rfl
@[simp] theorem tyF47:V3 Tryd.prog 29=some (32,7):=by kernel_rfl
@[simp] theorem tyF48:L9 Tryd.prog 32=some (7,120):=by kernel_rfl
@[simp] theorem tyF51:Ux Tryd.prog 30=some (false,1):=by kernel_rfl
@[simp] theorem tyF52:V3 Tryd.prog 30=some (42,9):=by kernel_rfl
@[simp] theorem tyF53:L9 Tryd.prog 42=some (9,152):=by kernel_rfl
@[simp] theorem tyF65:Ux Tryd.prog 32=some (true,7):=by kernel_rfl
@[simp] theorem tyF66:Xk Tryd.prog 32 0=some (0,false,1):=by kernel_rfl
@[simp] theorem tyF67:Xk Tryd.prog 32 1=some (1,false,1):=by kernel_rfl
@[simp] theorem tyF68:Xk Tryd.prog 32 2=some (2,false,1):=by kernel_rfl
@[simp] theorem tyF69:Xk Tryd.prog 32 3=some (3,false,1):=by kernel_rfl
@[simp] theorem tyF70:Xk Tryd.prog 32 4=some (4,false,1):=by kernel_rfl
@[simp] theorem tyF71:Xk Tryd.prog 32 5=some (5,false,1):=by kernel_rfl
@[simp] theorem tyF72:Xk Tryd.prog 32 6=some (6,false,1):=by kernel_rfl
@[simp] theorem tyF73:R6 Tryd.prog 32=some [(0,1),(1,1),(2,1),(3,1),(4,1),(5,1),(6,1)]:=by kernel_rfl
@[simp] theorem tyF74:Gz Tryd.prog 32=some [.d (.int 0),.d (.int 0),.d (.str ByteArray.empty),.d (.str ByteArray.empty),.lit (.slice none 0 0),.lit (.slice none 0 0),.lit (.slice none 0 0)]:=by kernel_rfl
@[simp] theorem tyF81:Ux Tryd.prog 34=some (true,9):=by kernel_rfl
@[simp] theorem tyF82:Xk Tryd.prog 34 0=some (0,false,1):=by kernel_rfl
@[simp] theorem tyF83:Xk Tryd.prog 34 1=some (1,false,1):=by kernel_rfl
@[simp] theorem tyF84:Xk Tryd.prog 34 2=some (2,true,7):=by kernel_rfl
@[simp] theorem tyF85:R6 Tryd.prog 34=some [(0,1),(1,1),(2,7)]:=by kernel_rfl
@[simp] theorem tyF86:Gz Tryd.prog 34=some [.d (.str ByteArray.empty),.lit (.slice none 0 0),.d (.int 0),.d (.int 0),.d (.str ByteArray.empty),.d (.str ByteArray.empty),.lit (.slice none 0 0),.lit (.slice none 0 0),.lit (.slice none 0 0)]:=by kernel_rfl
@[simp] theorem tyF94:Dv Tryd.prog 38=some (3,true,false,1):=by kernel_rfl
@[simp] theorem tyF95:tyZv Tryd.prog 3 false=some (.d (.int 0)):=by kernel_rfl
@[simp] theorem tyF105:Ux Tryd.prog 42=some (true,9):=by kernel_rfl
@[simp] theorem tyF106:Xk Tryd.prog 42 0=some (0,false,1):=by kernel_rfl
@[simp] theorem tyF107:Xk Tryd.prog 42 1=some (1,false,1):=by kernel_rfl
@[simp] theorem tyF108:Xk Tryd.prog 42 2=some (2,true,7):=by kernel_rfl
@[simp] theorem tyF109:R6 Tryd.prog 42=some [(0,1),(1,1),(2,7)]:=by kernel_rfl
@[simp] theorem tyF110:Gz Tryd.prog 42=some [.d (.int 0),.lit (.slice none 0 0),.d (.int 0),.d (.int 0),.d (.str ByteArray.empty),.d (.str ByteArray.empty),.lit (.slice none 0 0),.lit (.slice none 0 0),.lit (.slice none 0 0)]:=by kernel_rfl
@[simp] theorem tyF132:Xk Tryd.prog 52 0=some (0,false,1):=by kernel_rfl
@[simp] theorem tyF133:R6 Tryd.prog 52=some [(0,1)]:=by kernel_rfl
@[simp] theorem tyF134:Gz Tryd.prog 52=some [.d (.int 0)]:=by kernel_rfl
@[simp] theorem tyF146:Xk Tryd.prog 57 0=some (0,false,1):=by kernel_rfl
@[simp] theorem tyF147:R6 Tryd.prog 57=some [(0,1)]:=by kernel_rfl
@[simp] theorem tyF148:Gz Tryd.prog 57=some [.d (.int 0)]:=by kernel_rfl
@[simp] theorem tyF157:V3 Tryd.prog 62=some (3,1):=by kernel_rfl
@[simp] theorem tyF158:L9 Tryd.prog 3=some (1,8):=by kernel_rfl
@[simp] theorem tyF167:Xk Tryd.prog 65 0=some (0,false,1):=by kernel_rfl
@[simp] theorem tyF168:R6 Tryd.prog 65=some [(0,1)]:=by kernel_rfl
@[simp] theorem tyF169:Gz Tryd.prog 65=some [.d (.int 0)]:=by kernel_rfl
@[simp] theorem tyF205:Xk Tryd.prog 80 0=some (0,false,1):=by kernel_rfl
@[simp] theorem tyF206:R6 Tryd.prog 80=some [(0,1)]:=by kernel_rfl
@[simp] theorem tyF207:Gz Tryd.prog 80=some [.d (.int 0)]:=by kernel_rfl
@[simp] theorem tyF210:V3 Tryd.prog 81=some (97,2):=by kernel_rfl
@[simp] theorem tyF211:L9 Tryd.prog 97=some (2,32):=by kernel_rfl
@[simp] theorem tyF219:V3 Tryd.prog 85=some (99,8):=by kernel_rfl
@[simp] theorem tyF220:L9 Tryd.prog 99=some (8,136):=by kernel_rfl
@[simp] theorem tyF245:Ux Tryd.prog 97=some (true,2):=by kernel_rfl
@[simp] theorem tyF246:Xk Tryd.prog 97 0=some (0,false,1):=by kernel_rfl
@[simp] theorem tyF247:Xk Tryd.prog 97 1=some (1,false,1):=by kernel_rfl
@[simp] theorem tyF248:R6 Tryd.prog 97=some [(0,1),(1,1)]:=by kernel_rfl
@[simp] theorem tyF249:Gz Tryd.prog 97=some [.d (.str ByteArray.empty),.d (.str ByteArray.empty)]:=by kernel_rfl
@[simp] theorem tyF256:Xk Tryd.prog 99 0=some (0,false,1):=by kernel_rfl
@[simp] theorem tyF257:Xk Tryd.prog 99 1=some (1,true,7):=by kernel_rfl
@[simp] theorem tyF258:R6 Tryd.prog 99=some [(0,1),(1,7)]:=by kernel_rfl
@[simp] theorem tyF259:Gz Tryd.prog 99=some [.d (.str ByteArray.empty),.d (.int 0),.d (.int 0),.d (.str ByteArray.empty),.d (.str ByteArray.empty),.lit (.slice none 0 0),.lit (.slice none 0 0),.lit (.slice none 0 0)]:=by kernel_rfl
theorem mixed:Tryd.prog.follows .mixedOrders=true:=by kernel_rfl
end Go.Proofs.YtlbcipohiepjmaaDoor
