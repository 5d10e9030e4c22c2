import Derived.Test.YtnddiddkmhiclaaGreatDoorEng2
import Derived.Test.YtnddiddkmhiclaaGreatDoorRows
set_option linter.unusedVariables false
set_option linter.unusedSimpArgs false
namespace Go.Proofs.YtnddiddkmhiclaaGreatDoor
open Go.RowKit
@[simp] theorem tyF6:Vw Tryz.prog 3=some (false,1):=by kernel_rfl
@[simp] theorem tyF7:Uz Tryz.prog 3=some [.d (.int 0)]:=by kernel_rfl
@[simp] theorem tyF9:Vw Tryz.prog 4=some (false,1):=by kernel_rfl
@[simp] theorem tyF15:Vw Tryz.prog 9=some (false,1):=by kernel_rfl
@[simp] theorem tyF24:Vw Tryz.prog 22=some (false,1):=by kernel_rfl
@[simp] theorem tyF25:H7 Tryz.prog 22=some (56,9):=by kernel_rfl
@[simp] theorem tyF26:Zd Tryz.prog 56=some (9,160):=by kernel_rfl
@[simp] theorem tyF30:H7 Tryz.prog 23=some (3,1):=by kernel_rfl
@[simp] theorem tyF31:Zd Tryz.prog 3=some (1,8):=by kernel_rfl
@[simp] theorem tyF32:OQ Tryz.prog 3 false=some (.d (.int 0)):=by kernel_rfl
@[simp] theorem tyF37:Vw Tryz.prog 25=some (false,1):=by kernel_rfl
@[simp] theorem tyF42:Vw Tryz.prog 27=some (false,1):=by kernel_rfl
@[simp] theorem tyF43:H7 Tryz.prog 27=some (29,3):=by kernel_rfl
@[simp] theorem tyF44:Zd Tryz.prog 29=some (3,40):=by kernel_rfl
@[simp] theorem tyF52:Vw Tryz.prog 29=some (true,3):=by kernel_rfl
@[simp] theorem tyF53:Zk Tryz.prog 29 0=some (0,false,1):=by kernel_rfl
@[simp] theorem tyF54:Zk Tryz.prog 29 1=some (1,false,1):=by kernel_rfl
@[simp] theorem tyF55:Zk Tryz.prog 29 2=some (2,false,1):=by kernel_rfl
@[simp] theorem tyF56:Vx Tryz.prog 29=some [(0,1),(1,1),(2,1)]:=by kernel_rfl
@[simp] theorem tyF57:Uz Tryz.prog 29=some [.d (.bool false),.d (.int 0),.lit (.slice none 0 0)]:=by kernel_rfl
@[simp] theorem tyF67:Vw Tryz.prog 31=some (true,8):=by kernel_rfl
@[simp] theorem tyF68:Zk Tryz.prog 31 0=some (0,true,3):=by kernel_rfl
@[simp] theorem tyF69:Zk Tryz.prog 31 1=some (3,false,1):=by kernel_rfl
@[simp] theorem tyF70:Zk Tryz.prog 31 2=some (4,false,1):=by kernel_rfl
@[simp] theorem tyF73:Zk Tryz.prog 31 5=some (7,false,1):=by kernel_rfl
@[simp] theorem tyF74:Vx Tryz.prog 31=some [(0,3),(3,1),(4,1),(5,1),(6,1),(7,1)]:=by kernel_rfl
@[simp] theorem tyF75:Uz Tryz.prog 31=some [.d (.bool false),.d (.int 0),.lit (.slice none 0 0),.d (.int 0),.d (.int 0),.d (.int 0),.d (.int 0),.d (.int 0)]:=by kernel_rfl
@[simp] theorem tyF92:H7 Tryz.prog 41=some (48,2):=by kernel_rfl
@[simp] theorem tyF93:Zd Tryz.prog 48=some (2,16):=by kernel_rfl
@[simp] theorem tyF105:Vx Tryz.prog 43=some [(0,1),(1,1),(2,1)]:=by kernel_rfl
@[simp] theorem tyF106:Uz Tryz.prog 43=some [.d (.int 0),.d (.int 0),.lit (.slice none 0 0)]:=by kernel_rfl
@[simp] theorem tyF109:H7 Tryz.prog 44=some (43,3):=by kernel_rfl
@[simp] theorem tyF110:Zd Tryz.prog 43=some (3,40):=by kernel_rfl
@[simp] theorem tyF120:Vw Tryz.prog 46=some (true,5):=by kernel_rfl
@[simp] theorem tyF122:Zk Tryz.prog 46 1=some (1,false,1):=by kernel_rfl
@[simp] theorem tyF123:Zk Tryz.prog 46 2=some (2,false,1):=by kernel_rfl
@[simp] theorem tyF124:Zk Tryz.prog 46 3=some (3,false,1):=by kernel_rfl
@[simp] theorem tyF125:Zk Tryz.prog 46 4=some (4,false,1):=by kernel_rfl
@[simp] theorem tyF126:Vx Tryz.prog 46=some [(0,1),(1,1),(2,1),(3,1),(4,1)]:=by kernel_rfl
@[simp] theorem tyF127:Uz Tryz.prog 46=some [.lit (.slice none 0 0),.d (.int 0),.d (.int 0),.d (.int 0),.d (.int 0)]:=by kernel_rfl
@[simp] theorem tyF133:Vw Tryz.prog 48=some (true,2):=by kernel_rfl
@[simp] theorem tyF134:Zk Tryz.prog 48 0=some (0,false,1):=by kernel_rfl
@[simp] theorem tyF135:Zk Tryz.prog 48 1=some (1,false,1):=by kernel_rfl
@[simp] theorem tyF136:Vx Tryz.prog 48=some [(0,1),(1,1)]:=by kernel_rfl
@[simp] theorem tyF137:Uz Tryz.prog 48=some [.d (.int 0),.d (.int 0)]:=by kernel_rfl
@[simp] theorem tyF139:Ko Tryz.prog 49=some (3,true,false,1):=by kernel_rfl
@[simp] theorem tyF142:Vw Tryz.prog 50=some (false,1):=by kernel_rfl
@[simp] theorem tyF143:H7 Tryz.prog 50=some (9,1):=by kernel_rfl
@[simp] theorem tyF144:Zd Tryz.prog 9=some (1,16):=by kernel_rfl
@[simp] theorem tyF146:Uz Tryz.prog 50=some [.lit (.slice none 0 0)]:=by kernel_rfl
@[simp] theorem tyF148:Vw Tryz.prog 51=some (false,1):=by kernel_rfl
@[simp] theorem tyF149:H7 Tryz.prog 51=some (54,7):=by kernel_rfl
@[simp] theorem tyF150:Zd Tryz.prog 54=some (7,120):=by kernel_rfl
@[simp] theorem tyF153:Vw Tryz.prog 52=some (false,1):=by kernel_rfl
@[simp] theorem tyF154:H7 Tryz.prog 52=some (87,9):=by kernel_rfl
@[simp] theorem tyF155:Zd Tryz.prog 87=some (9,152):=by kernel_rfl
@[simp] theorem tyF167:Vw Tryz.prog 54=some (true,7):=by kernel_rfl
@[simp] theorem tyF168:Zk Tryz.prog 54 0=some (0,false,1):=by kernel_rfl
@[simp] theorem tyF169:Zk Tryz.prog 54 1=some (1,false,1):=by kernel_rfl
@[simp] theorem tyF170:Zk Tryz.prog 54 2=some (2,false,1):=by kernel_rfl
@[simp] theorem tyF171:Zk Tryz.prog 54 3=some (3,false,1):=by kernel_rfl
@[simp] theorem tyF172:Zk Tryz.prog 54 4=some (4,false,1):=by kernel_rfl
@[simp] theorem tyF173:Zk Tryz.prog 54 5=some (5,false,1):=by kernel_rfl
@[simp] theorem tyF174:Zk Tryz.prog 54 6=some (6,false,1):=by kernel_rfl
@[simp] theorem tyF175:Vx Tryz.prog 54=some [(0,1),(1,1),(2,1),(3,1),(4,1),(5,1),(6,1)]:=by kernel_rfl
@[simp] theorem tyF176:Uz Tryz.prog 54=some [.d (.int 0),.d (.int 0),.d (.str .empty),.d (.str .empty),.lit (.slice none 0 0),.lit (.slice none 0 0),.lit (.slice none 0 0)]:=by kernel_rfl
@[simp] theorem tyF183:Vw Tryz.prog 56=some (true,9):=by kernel_rfl
@[simp] theorem tyF184:Zk Tryz.prog 56 0=some (0,false,1):=by kernel_rfl
@[simp] theorem tyF185:Zk Tryz.prog 56 1=some (1,false,1):=by kernel_rfl
@[simp] theorem tyF186:Zk Tryz.prog 56 2=some (2,true,7):=by kernel_rfl
@[simp] theorem tyF187:Vx Tryz.prog 56=some [(0,1),(1,1),(2,7)]:=by kernel_rfl
@[simp] theorem tyF188:Uz Tryz.prog 56=some [.d (.str .empty),.lit (.slice none 0 0),.d (.int 0),.d (.int 0),.d (.str .empty),.d (.str .empty),.lit (.slice none 0 0),.lit (.slice none 0 0),.lit (.slice none 0 0)]:=by kernel_rfl
@[simp] theorem tyF208:Zk Tryz.prog 64 0=some (0,false,1):=by kernel_rfl
@[simp] theorem tyF209:Zk Tryz.prog 64 1=some (1,true,5):=by kernel_rfl
@[simp] theorem tyF210:Zk Tryz.prog 64 2=some (6,false,1):=by kernel_rfl
@[simp] theorem tyF211:Zk Tryz.prog 64 3=some (7,false,1):=by kernel_rfl
@[simp] theorem tyF212:Zk Tryz.prog 64 4=some (8,false,1):=by kernel_rfl
@[simp] theorem tyF213:Vx Tryz.prog 64=some [(0,1),(1,5),(6,1),(7,1),(8,1)]:=by kernel_rfl
@[simp] theorem tyF214:Uz Tryz.prog 64=some [.lit (.slice none 0 0),.lit (.slice none 0 0),.d (.int 0),.d (.int 0),.d (.int 0),.d (.int 0),.d (.int 0),.d (.int 0),.d (.int 0)]:=by kernel_rfl
@[simp] theorem tyF243:Vw Tryz.prog 75=some (false,1):=by kernel_rfl
@[simp] theorem tyF244:Uz Tryz.prog 75=some [.d .nil]:=by kernel_rfl
@[simp] theorem tyF252:Zk Tryz.prog 77 0=some (0,false,1):=by kernel_rfl
@[simp] theorem tyF253:Zk Tryz.prog 77 1=some (1,false,1):=by kernel_rfl
@[simp] theorem tyF254:Zk Tryz.prog 77 2=some (2,false,1):=by kernel_rfl
@[simp] theorem tyF255:Vx Tryz.prog 77=some [(0,1),(1,1),(2,1)]:=by kernel_rfl
@[simp] theorem tyF256:Uz Tryz.prog 77=some [.d (.str .empty),.d (.int 0),.d (.int 0)]:=by kernel_rfl
@[simp] theorem tyF265:Vw Tryz.prog 82=some (false,1):=by kernel_rfl
@[simp] theorem tyF266:Uz Tryz.prog 82=some [.lit .nilFunc]:=by kernel_rfl
@[simp] theorem tyF277:Vw Tryz.prog 87=some (true,9):=by kernel_rfl
@[simp] theorem tyF278:Zk Tryz.prog 87 0=some (0,false,1):=by kernel_rfl
@[simp] theorem tyF279:Zk Tryz.prog 87 1=some (1,false,1):=by kernel_rfl
@[simp] theorem tyF280:Zk Tryz.prog 87 2=some (2,true,7):=by kernel_rfl
@[simp] theorem tyF281:Vx Tryz.prog 87=some [(0,1),(1,1),(2,7)]:=by kernel_rfl
@[simp] theorem tyF282:Uz Tryz.prog 87=some [.d (.int 0),.lit (.slice none 0 0),.d (.int 0),.d (.int 0),.d (.str .empty),.d (.str .empty),.lit (.slice none 0 0),.lit (.slice none 0 0),.lit (.slice none 0 0)]:=by kernel_rfl
@[simp] theorem tyF289:Vw Tryz.prog 91=some (false,1):=by kernel_rfl
@[simp] theorem tyF298:Zk Tryz.prog 93 0=some (0,false,1):=by kernel_rfl
@[simp] theorem tyF299:Zk Tryz.prog 93 1=some (1,true,2):=by kernel_rfl
@[simp] theorem tyF300:Zk Tryz.prog 93 2=some (3,false,1):=by kernel_rfl
@[simp] theorem tyF301:Vx Tryz.prog 93=some [(0,1),(1,2),(3,1)]:=by kernel_rfl
@[simp] theorem tyF302:Uz Tryz.prog 93=some [.d (.str .empty),.d (.int 0),.d (.int 0),.d .nil]:=by kernel_rfl
@[simp] theorem tyF322:Zk Tryz.prog 102 0=some (0,false,1):=by kernel_rfl
@[simp] theorem tyF323:Vx Tryz.prog 102=some [(0,1)]:=by kernel_rfl
@[simp] theorem tyF324:Uz Tryz.prog 102=some [.d (.int 0)]:=by kernel_rfl
@[simp] theorem tyF336:Zk Tryz.prog 107 0=some (0,false,1):=by kernel_rfl
@[simp] theorem tyF337:Vx Tryz.prog 107=some [(0,1)]:=by kernel_rfl
@[simp] theorem tyF338:Uz Tryz.prog 107=some [.d (.int 0)]:=by kernel_rfl
@[simp] theorem tyF362:Zk Tryz.prog 118 0=some (0,false,1):=by kernel_rfl
@[simp] theorem tyF363:Vx Tryz.prog 118=some [(0,1)]:=by kernel_rfl
@[simp] theorem tyF364:Uz Tryz.prog 118=some [.d (.int 0)]:=by kernel_rfl
@[simp] theorem tyF367:H7 Tryz.prog 119=some (149,2):=by kernel_rfl
@[simp] theorem tyF368:Zd Tryz.prog 149=some (2,32):=by kernel_rfl
@[simp] theorem tyF376:H7 Tryz.prog 123=some (151,8):=by kernel_rfl
@[simp] theorem tyF377:Zd Tryz.prog 151=some (8,136):=by kernel_rfl
@[simp] theorem tyF420:Vw Tryz.prog 149=some (true,2):=by kernel_rfl
@[simp] theorem tyF421:Zk Tryz.prog 149 0=some (0,false,1):=by kernel_rfl
@[simp] theorem tyF422:Zk Tryz.prog 149 1=some (1,false,1):=by kernel_rfl
@[simp] theorem tyF423:Vx Tryz.prog 149=some [(0,1),(1,1)]:=by kernel_rfl
@[simp] theorem tyF424:Uz Tryz.prog 149=some [.d (.str .empty),.d (.str .empty)]:=by kernel_rfl
@[simp] theorem tyF431:Zk Tryz.prog 151 0=some (0,false,1):=by kernel_rfl
@[simp] theorem tyF432:Zk Tryz.prog 151 1=some (1,true,7):=by kernel_rfl
@[simp] theorem tyF433:Vx Tryz.prog 151=some [(0,1),(1,7)]:=by kernel_rfl
@[simp] theorem tyF434:Uz Tryz.prog 151=some [.d (.str .empty),.d (.int 0),.d (.int 0),.d (.str .empty),.d (.str .empty),.lit (.slice none 0 0),.lit (.slice none 0 0),.lit (.slice none 0 0)]:=by kernel_rfl
theorem mixed:Tryz.prog.follows .mixedOrders=true:=by kernel_rfl
end Go.Proofs.YtnddiddkmhiclaaGreatDoor
