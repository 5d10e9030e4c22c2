import Derived.Test.YtjpldhjgehoffaaGreatDoorEng2
import Derived.Test.YtjpldhjgehoffaaGreatDoorRows
namespace Go.Proofs.YtjpldhjgehoffaaGreatDoor
open Go.RowKit
set_option linter.unusedVariables false
set_option linter.unusedSimpArgs false
@[simp] theorem tyF6:U4 Tryz.prog 3=some (false,1):=by kernel_rfl
@[simp] theorem tyF15:U4 Tryz.prog 9=some (false,1):=by kernel_rfl
@[simp] theorem tyF25:Ux Tryz.prog 22=some (47,9):=by kernel_rfl
@[simp] theorem tyF26:tyOne Tryz.prog 47=some (9,160):=by kernel_rfl
@[simp] theorem tyF30:Ux Tryz.prog 23=some (3,1):=by kernel_rfl
@[simp] theorem tyF31:tyOne Tryz.prog 3=some (1,8):=by kernel_rfl
@[simp] theorem tyF32:tyZv Tryz.prog 3 false=some (.d (.int 0)):=by kernel_rfl
@[simp] theorem tyF37:U4 Tryz.prog 25=some (false,1):=by kernel_rfl
@[simp] theorem tyF96:U4 Tryz.prog 41=some (false,1):=by kernel_rfl
@[simp] theorem tyF97:Ux Tryz.prog 41=some (9,1):=by kernel_rfl
@[simp] theorem tyF98:tyOne Tryz.prog 9=some (1,16):=by kernel_rfl
@[simp] theorem tyF99:tyZv Tryz.prog 9 false=some (.d (.str ByteArray.empty)):=by kernel_rfl
@[simp] theorem tyF100:G5 Tryz.prog 41=some [.lit (.slice none 0 0)]:=by kernel_rfl
@[simp] theorem tyF102:U4 Tryz.prog 42=some (false,1):=by kernel_rfl
@[simp] theorem tyF103:Ux Tryz.prog 42=some (45,7):=by kernel_rfl
@[simp] theorem tyF104:tyOne Tryz.prog 45=some (7,120):=by kernel_rfl
@[simp] theorem tyF107:U4 Tryz.prog 43=some (false,1):=by kernel_rfl
@[simp] theorem tyF108:Ux Tryz.prog 43=some (90,9):=by kernel_rfl
@[simp] theorem tyF109:tyOne Tryz.prog 90=some (9,152):=by kernel_rfl
@[simp] theorem tyF121:U4 Tryz.prog 45=some (true,7):=by kernel_rfl
@[simp] theorem tyF122:Xv Tryz.prog 45 0=some (0,false,1):=by kernel_rfl
@[simp] theorem tyF123:Xv Tryz.prog 45 1=some (1,false,1):=by kernel_rfl
@[simp] theorem tyF124:Xv Tryz.prog 45 2=some (2,false,1):=by kernel_rfl
@[simp] theorem tyF125:Xv Tryz.prog 45 3=some (3,false,1):=by kernel_rfl
@[simp] theorem tyF126:Xv Tryz.prog 45 4=some (4,false,1):=by kernel_rfl
@[simp] theorem tyF127:Xv Tryz.prog 45 5=some (5,false,1):=by kernel_rfl
@[simp] theorem tyF128:Xv Tryz.prog 45 6=some (6,false,1):=by kernel_rfl
@[simp] theorem tyF129:H5 Tryz.prog 45=some [(0,1),(1,1),(2,1),(3,1),(4,1),(5,1),(6,1)]:=by kernel_rfl
@[simp] theorem tyF130:G5 Tryz.prog 45=some [.d (.int 0),.d (.int 0),.d (.str ByteArray.empty),.d (.str ByteArray.empty),.lit (.slice none 0 0),.lit (.slice none 0 0),.lit (.slice none 0 0)]:=by kernel_rfl
@[simp] theorem tyF137:U4 Tryz.prog 47=some (true,9):=by kernel_rfl
@[simp] theorem tyF138:Xv Tryz.prog 47 0=some (0,false,1):=by kernel_rfl
@[simp] theorem tyF139:Xv Tryz.prog 47 1=some (1,false,1):=by kernel_rfl
@[simp] theorem tyF140:Xv Tryz.prog 47 2=some (2,true,7):=by kernel_rfl
@[simp] theorem tyF141:H5 Tryz.prog 47=some [(0,1),(1,1),(2,7)]:=by kernel_rfl
@[simp] theorem tyF142:G5 Tryz.prog 47=some [.d (.str ByteArray.empty),.lit (.slice none 0 0),.d (.int 0),.d (.int 0),.d (.str ByteArray.empty),.d (.str ByteArray.empty),.lit (.slice none 0 0),.lit (.slice none 0 0),.lit (.slice none 0 0)]:=by kernel_rfl
@[simp] theorem tyF203:U4 Tryz.prog 63=some (false,1):=by kernel_rfl
@[simp] theorem tyF204:Fv Tryz.prog 63=some (3,true,false,1):=by kernel_rfl
@[simp] theorem tyF264:U4 Tryz.prog 84=some (false,1):=by kernel_rfl
@[simp] theorem tyF265:Fv Tryz.prog 84=some (9,true,false,1):=by kernel_rfl
@[simp] theorem tyF274:Xv Tryz.prog 86 0=some (0,false,1):=by kernel_rfl
@[simp] theorem tyF275:Xv Tryz.prog 86 1=some (1,false,1):=by kernel_rfl
@[simp] theorem tyF276:Xv Tryz.prog 86 2=some (2,false,1):=by kernel_rfl
@[simp] theorem tyF277:H5 Tryz.prog 86=some [(0,1),(1,1),(2,1)]:=by kernel_rfl
@[simp] theorem tyF278:G5 Tryz.prog 86=some [.lit (.map none),.lit (.map none),.lit (.map none)]:=by kernel_rfl
@[simp] theorem tyF289:U4 Tryz.prog 90=some (true,9):=by kernel_rfl
@[simp] theorem tyF290:Xv Tryz.prog 90 0=some (0,false,1):=by kernel_rfl
@[simp] theorem tyF291:Xv Tryz.prog 90 1=some (1,false,1):=by kernel_rfl
@[simp] theorem tyF292:Xv Tryz.prog 90 2=some (2,true,7):=by kernel_rfl
@[simp] theorem tyF293:H5 Tryz.prog 90=some [(0,1),(1,1),(2,7)]:=by kernel_rfl
@[simp] theorem tyF294:G5 Tryz.prog 90=some [.d (.int 0),.lit (.slice none 0 0),.d (.int 0),.d (.int 0),.d (.str ByteArray.empty),.d (.str ByteArray.empty),.lit (.slice none 0 0),.lit (.slice none 0 0),.lit (.slice none 0 0)]:=by kernel_rfl
@[simp] theorem tyF297:U4 Tryz.prog 92=some (false,1):=by kernel_rfl
@[simp] theorem tyF298:G5 Tryz.prog 92=some [.d .nil]:=by kernel_rfl
@[simp] theorem tyF306:Xv Tryz.prog 94 0=some (0,false,1):=by kernel_rfl
@[simp] theorem tyF307:Xv Tryz.prog 94 1=some (1,false,1):=by kernel_rfl
@[simp] theorem tyF308:Xv Tryz.prog 94 2=some (2,false,1):=by kernel_rfl
@[simp] theorem tyF309:H5 Tryz.prog 94=some [(0,1),(1,1),(2,1)]:=by kernel_rfl
@[simp] theorem tyF310:G5 Tryz.prog 94=some [.d (.str ByteArray.empty),.d (.int 0),.d (.int 0)]:=by kernel_rfl
@[simp] theorem tyF364:Xv Tryz.prog 117 0=some (0,false,1):=by kernel_rfl
@[simp] theorem tyF365:H5 Tryz.prog 117=some [(0,1)]:=by kernel_rfl
@[simp] theorem tyF366:G5 Tryz.prog 117=some [.d (.int 0)]:=by kernel_rfl
@[simp] theorem tyF424:Xv Tryz.prog 141 0=some (0,false,1):=by kernel_rfl
@[simp] theorem tyF425:H5 Tryz.prog 141=some [(0,1)]:=by kernel_rfl
@[simp] theorem tyF426:G5 Tryz.prog 141=some [.d (.int 0)]:=by kernel_rfl
@[simp] theorem tyF429:Ux Tryz.prog 142=some (179,2):=by kernel_rfl
@[simp] theorem tyF430:tyOne Tryz.prog 179=some (2,32):=by kernel_rfl
@[simp] theorem tyF438:Ux Tryz.prog 146=some (181,8):=by kernel_rfl
@[simp] theorem tyF439:tyOne Tryz.prog 181=some (8,136):=by kernel_rfl
@[simp] theorem tyF492:U4 Tryz.prog 179=some (true,2):=by kernel_rfl
@[simp] theorem tyF493:Xv Tryz.prog 179 0=some (0,false,1):=by kernel_rfl
@[simp] theorem tyF494:Xv Tryz.prog 179 1=some (1,false,1):=by kernel_rfl
@[simp] theorem tyF495:H5 Tryz.prog 179=some [(0,1),(1,1)]:=by kernel_rfl
@[simp] theorem tyF496:G5 Tryz.prog 179=some [.d (.str ByteArray.empty),.d (.str ByteArray.empty)]:=by kernel_rfl
@[simp] theorem tyF503:Xv Tryz.prog 181 0=some (0,false,1):=by kernel_rfl
@[simp] theorem tyF504:Xv Tryz.prog 181 1=some (1,true,7):=by kernel_rfl
@[simp] theorem tyF505:H5 Tryz.prog 181=some [(0,1),(1,7)]:=by kernel_rfl
@[simp] theorem tyF506:G5 Tryz.prog 181=some [.d (.str ByteArray.empty),.d (.int 0),.d (.int 0),.d (.str ByteArray.empty),.d (.str ByteArray.empty),.lit (.slice none 0 0),.lit (.slice none 0 0),.lit (.slice none 0 0)]:=by kernel_rfl
@[simp] theorem tyF513:U4 Tryz.prog 185=some (false,1):=by kernel_rfl
@[simp] theorem tyF514:Fv Tryz.prog 185=some (4,true,false,1):=by kernel_rfl
@[simp] theorem tyF515:tyZv Tryz.prog 4 false=some (.d (.bool false)):=by kernel_rfl
@[simp] theorem tyF516:G5 Tryz.prog 185=some [.lit (.map none)]:=by kernel_rfl
@[simp] theorem tyF517:U4 Tryz.prog 186=some (false,1):=by kernel_rfl
@[simp] theorem tyF518:G5 Tryz.prog 186=some [.lit .nilFunc]:=by kernel_rfl
theorem mixed:Tryz.prog.follows .mixedOrders=true:=by kernel_rfl
end Go.Proofs.YtjpldhjgehoffaaGreatDoor
