import Derived.Shelf.SlMaps.Clone
import Derived.Shelf.Sort.Plain
import Derived.Shelf.Slices.In.SortNone
import Derived.Shelf.Slices.CompactS
import Derived.Shelf.Strconv.Itoa0
import Derived.Shelf.Strconv.Itoa1
import Derived.Shelf.LaysM
import Derived.Shelf.Strconv.Itoa2
import Derived.Shelf.Strconv.Itoa3
import Derived.Shelf.LaysC
import Derived.Shelf.Strconv.AtoiAll
import Derived.Shelf.Strconv.ErrVarAll
import Derived.Test.YtjpldhjgehoffaaGreatDoorProg
import Derived.Test.YtjpldhjgehoffaaGreatDoorEng2
import Derived.Maps.RangeRun
import Derived.Test.YtjpldhjgehoffaaGreatDoorEng1
import Derived.Test.YtjpldhjgehoffaaGreatDoorRows
import Derived.SizedLaws
import Derived.Deep.Slices
import Derived.Carry
import Derived.JoinedOf
import Derived.KernelRfl
namespace Go.Proofs
open Go.Shelf
def Tryz.laysM171_ren:Go.Shelf.Ren:=⟨fun|171=>67|243=>103|246=>126|283=>145|284=>146|285=>147|286=>148|129=>158|317=>157|318=>159|319=>160|320=>161|337=>175|338=>176|n=>n,fun|3=>3|9=>9|2=>2|4=>4|171=>202|0=>0|53=>203|37=>206|5=>5|173=>207|212=>221|51=>222|20=>20|213=>223|46=>211|232=>251|233=>252|n=>n,fun|17=>0|18=>3|19=>4|n=>n⟩
theorem Tryz.laysM171:Go.Proofs.LaysM.n171 Tryz.prog Tryz.laysM171_ren:={
 mixed:=by kernel_rfl
 f129:=Tryz.func158.trans (congrArg some (by kernel_rfl))
 f171:=Tryz.func67.trans (congrArg some (by kernel_rfl))
 f243:=Tryz.func103.trans (congrArg some (by kernel_rfl))
 f246:=Tryz.func126.trans (congrArg some (by kernel_rfl))
 f283:=Tryz.func145.trans (congrArg some (by kernel_rfl))
 f284:=Tryz.func146.trans (congrArg some (by kernel_rfl))
 f285:=Tryz.func147.trans (congrArg some (by kernel_rfl))
 f286:=Tryz.func148.trans (congrArg some (by kernel_rfl))
 f317:=Tryz.func157.trans (congrArg some (by kernel_rfl))
 f318:=Tryz.func159.trans (congrArg some (by kernel_rfl))
 f319:=Tryz.func160.trans (congrArg some (by kernel_rfl))
 f320:=Tryz.func161.trans (congrArg some (by kernel_rfl))
 f337:=Tryz.func175.trans (congrArg some (by kernel_rfl))
 f338:=Tryz.func176.trans (congrArg some (by kernel_rfl))
 t0:=Tryz.underlying0
 a0:=Tryz.isAgg0
 z0:=Tryz.sizeOf0
 v0:=Tryz.zeroValue0
 t2:=Tryz.underlying2
 a2:=Tryz.isAgg2
 z2:=Tryz.sizeOf2
 v2:=Tryz.zeroValue2
 t3:=Tryz.underlying3
 a3:=Tryz.isAgg3
 z3:=Tryz.sizeOf3
 v3:=Tryz.zeroValue3
 t4:=Tryz.underlying4
 a4:=Tryz.isAgg4
 z4:=Tryz.sizeOf4
 v4:=Tryz.zeroValue4
 t5:=Tryz.underlying5
 a5:=Tryz.isAgg5
 z5:=Tryz.sizeOf5
 v5:=Tryz.zeroValue5
 t9:=Tryz.underlying9
 a9:=Tryz.isAgg9
 z9:=Tryz.sizeOf9
 v9:=Tryz.zeroValue9
 t20:=Tryz.underlying20
 a20:=Tryz.isAgg20
 z20:=Tryz.sizeOf20
 v20:=Tryz.zeroValue20
 t37:=Tryz.underlying206
 a37:=Tryz.isAgg206
 z37:=Tryz.sizeOf206
 v37:=Tryz.zeroValue206
 t46:=Tryz.underlying211
 a46:=Tryz.isAgg211
 z46:=Tryz.sizeOf211
 v46:=Tryz.zeroValue211
 t51:=Tryz.underlying222
 a51:=Tryz.isAgg222
 z51:=Tryz.sizeOf222
 v51:=Tryz.zeroValue222
 t53:=Tryz.underlying203
 a53:=Tryz.isAgg203
 z53:=Tryz.sizeOf203
 v53:=Tryz.zeroValue203
 t171:=Tryz.underlying202
 a171:=Tryz.isAgg202
 z171:=Tryz.sizeOf202
 v171:=Tryz.zeroValue202
 t173:=Tryz.underlying207
 a173:=Tryz.isAgg207
 z173:=Tryz.sizeOf207
 v173:=Tryz.zeroValue207
 t212:=Tryz.underlying221
 a212:=Tryz.isAgg221
 z212:=Tryz.sizeOf221
 v212:=Tryz.zeroValue221
 t213:=Tryz.underlying223
 a213:=Tryz.isAgg223
 z213:=Tryz.sizeOf223
 t232:=Tryz.underlying251
 a232:=Tryz.isAgg251
 z232:=Tryz.sizeOf251
 v232:=Tryz.zeroValue251
 t233:=Tryz.underlying252
 a233:=Tryz.isAgg252
 z233:=Tryz.sizeOf252
 v233:=Tryz.zeroValue252
 g17:=by kernel_rfl
 g18:=by kernel_rfl
 g19:=by kernel_rfl
 i0:=by kernel_rfl
 i2:=by kernel_rfl
 i3:=by kernel_rfl
 i4:=by kernel_rfl
 i5:=by kernel_rfl
 i9:=by kernel_rfl
 i20:=by kernel_rfl
 i37:=by kernel_rfl
 i46:=by kernel_rfl
 i51:=by kernel_rfl
 i53:=by kernel_rfl
 i171:=by kernel_rfl
 i173:=by kernel_rfl
 i212:=by kernel_rfl
 i232:=by kernel_rfl
 i233:=by kernel_rfl
 m17:=by kernel_rfl
 m18:=by kernel_rfl
 m19:=by kernel_rfl }
open Go.RowKit Go.Sort Go.Lib in
theorem Tryz.strconv_Itoa (n:Int) (h0: -9223372036854775808≤n) (h1:n≤9223372036854775807) (w:World) (htab:Lib.TabIs Tryz.prog w "internal/strconv.uint64pow10" .u64 Lib.pow10Tab):
  Calls Tryz.prog 67 #[.int .i64 n] w fun e w'=>e= .returned (.string ⟨(Lib.itoa n).toArray⟩)∧∃k os,w'=grow (w.drewN k) os:=Any.strconv_Itoa Tryz.laysM171 n h0 h1 w htab
def Tryz.laysC172_ren:Go.Shelf.Ren:=⟨fun|172=>114|244=>137|245=>138|247=>152|279=>153|280=>154|281=>155|282=>156|287=>172|316=>173|171=>67|205=>174|321=>183|322=>184|243=>103|246=>126|283=>145|284=>146|285=>147|286=>148|129=>158|317=>157|318=>159|319=>160|320=>161|337=>175|338=>176|n=>n,fun|9=>9|3=>3|75=>167|76=>168|4=>4|5=>5|167=>213|37=>206|0=>0|85=>214|2=>2|168=>216|53=>203|175=>234|46=>211|210=>238|127=>247|145=>250|143=>248|21=>21|171=>202|173=>207|212=>221|51=>222|20=>20|213=>223|232=>251|233=>252|80=>95|n=>n,fun|15=>1|16=>2|17=>0|18=>3|19=>4|n=>n⟩
theorem Tryz.laysC172:Go.Proofs.LaysC.n172 Tryz.prog Tryz.laysC172_ren:={
 mixed:=by kernel_rfl
 f129:=Tryz.func158.trans (congrArg some (by kernel_rfl))
 f171:=Tryz.func67.trans (congrArg some (by kernel_rfl))
 f172:=Tryz.func114.trans (congrArg some (by kernel_rfl))
 f205:=Tryz.func174.trans (congrArg some (by kernel_rfl))
 f243:=Tryz.func103.trans (congrArg some (by kernel_rfl))
 f244:=Tryz.func137.trans (congrArg some (by kernel_rfl))
 f245:=Tryz.func138.trans (congrArg some (by kernel_rfl))
 f246:=Tryz.func126.trans (congrArg some (by kernel_rfl))
 f247:=Tryz.func152.trans (congrArg some (by kernel_rfl))
 f279:=Tryz.func153.trans (congrArg some (by kernel_rfl))
 f280:=Tryz.func154.trans (congrArg some (by kernel_rfl))
 f281:=Tryz.func155.trans (congrArg some (by kernel_rfl))
 f282:=Tryz.func156.trans (congrArg some (by kernel_rfl))
 f283:=Tryz.func145.trans (congrArg some (by kernel_rfl))
 f284:=Tryz.func146.trans (congrArg some (by kernel_rfl))
 f285:=Tryz.func147.trans (congrArg some (by kernel_rfl))
 f286:=Tryz.func148.trans (congrArg some (by kernel_rfl))
 f287:=Tryz.func172.trans (congrArg some (by kernel_rfl))
 f316:=Tryz.func173.trans (congrArg some (by kernel_rfl))
 f317:=Tryz.func157.trans (congrArg some (by kernel_rfl))
 f318:=Tryz.func159.trans (congrArg some (by kernel_rfl))
 f319:=Tryz.func160.trans (congrArg some (by kernel_rfl))
 f320:=Tryz.func161.trans (congrArg some (by kernel_rfl))
 f321:=Tryz.func183.trans (congrArg some (by kernel_rfl))
 f322:=Tryz.func184.trans (congrArg some (by kernel_rfl))
 f337:=Tryz.func175.trans (congrArg some (by kernel_rfl))
 f338:=Tryz.func176.trans (congrArg some (by kernel_rfl))
 t0:=Tryz.underlying0
 a0:=Tryz.isAgg0
 z0:=Tryz.sizeOf0
 v0:=Tryz.zeroValue0
 t2:=Tryz.underlying2
 a2:=Tryz.isAgg2
 z2:=Tryz.sizeOf2
 v2:=Tryz.zeroValue2
 t3:=Tryz.underlying3
 a3:=Tryz.isAgg3
 z3:=Tryz.sizeOf3
 v3:=Tryz.zeroValue3
 t4:=Tryz.underlying4
 a4:=Tryz.isAgg4
 z4:=Tryz.sizeOf4
 v4:=Tryz.zeroValue4
 t5:=Tryz.underlying5
 a5:=Tryz.isAgg5
 z5:=Tryz.sizeOf5
 v5:=Tryz.zeroValue5
 t9:=Tryz.underlying9
 a9:=Tryz.isAgg9
 z9:=Tryz.sizeOf9
 v9:=Tryz.zeroValue9
 t20:=Tryz.underlying20
 a20:=Tryz.isAgg20
 z20:=Tryz.sizeOf20
 v20:=Tryz.zeroValue20
 t21:=Tryz.underlying21
 a21:=Tryz.isAgg21
 z21:=Tryz.sizeOf21
 v21:=Tryz.zeroValue21
 t37:=Tryz.underlying206
 a37:=Tryz.isAgg206
 z37:=Tryz.sizeOf206
 v37:=Tryz.zeroValue206
 t46:=Tryz.underlying211
 a46:=Tryz.isAgg211
 z46:=Tryz.sizeOf211
 v46:=Tryz.zeroValue211
 t51:=Tryz.underlying222
 a51:=Tryz.isAgg222
 z51:=Tryz.sizeOf222
 v51:=Tryz.zeroValue222
 t53:=Tryz.underlying203
 a53:=Tryz.isAgg203
 z53:=Tryz.sizeOf203
 v53:=Tryz.zeroValue203
 t75:=Tryz.underlying167
 a75:=Tryz.isAgg167
 z75:=Tryz.sizeOf167
 v75:=Tryz.zeroValue167
 t76:=Tryz.underlying168
 a76:=Tryz.isAgg168
 z76:=Tryz.sizeOf168
 v76:=Tryz.zeroValue168
 t85:=Tryz.underlying214
 a85:=Tryz.isAgg214
 z85:=Tryz.sizeOf214
 v85:=Tryz.zeroValue214
 t127:=Tryz.underlying247
 a127:=Tryz.isAgg247
 z127:=Tryz.sizeOf247
 v127:=Tryz.zeroValue247
 t143:=Tryz.underlying248
 a143:=Tryz.isAgg248
 z143:=Tryz.sizeOf248
 v143:=Tryz.zeroValue248
 t145:=Tryz.underlying250
 a145:=Tryz.isAgg250
 z145:=Tryz.sizeOf250
 v145:=Tryz.zeroValue250
 t167:=Tryz.underlying213
 a167:=Tryz.isAgg213
 z167:=Tryz.sizeOf213
 v167:=Tryz.zeroValue213
 t168:=Tryz.underlying216
 a168:=Tryz.isAgg216
 z168:=Tryz.sizeOf216
 v168:=Tryz.zeroValue216
 t171:=Tryz.underlying202
 a171:=Tryz.isAgg202
 z171:=Tryz.sizeOf202
 v171:=Tryz.zeroValue202
 t173:=Tryz.underlying207
 a173:=Tryz.isAgg207
 z173:=Tryz.sizeOf207
 v173:=Tryz.zeroValue207
 t175:=Tryz.underlying234
 a175:=Tryz.isAgg234
 z175:=Tryz.sizeOf234
 v175:=Tryz.zeroValue234
 t210:=Tryz.underlying238
 a210:=Tryz.isAgg238
 z210:=Tryz.sizeOf238
 v210:=Tryz.zeroValue238
 t212:=Tryz.underlying221
 a212:=Tryz.isAgg221
 z212:=Tryz.sizeOf221
 v212:=Tryz.zeroValue221
 t213:=Tryz.underlying223
 a213:=Tryz.isAgg223
 z213:=Tryz.sizeOf223
 t232:=Tryz.underlying251
 a232:=Tryz.isAgg251
 z232:=Tryz.sizeOf251
 v232:=Tryz.zeroValue251
 t233:=Tryz.underlying252
 a233:=Tryz.isAgg252
 z233:=Tryz.sizeOf252
 v233:=Tryz.zeroValue252
 g15:=by kernel_rfl
 g16:=by kernel_rfl
 g17:=by kernel_rfl
 g18:=by kernel_rfl
 g19:=by kernel_rfl
 t80:=Tryz.underlying95
 a80:=Tryz.isAgg95
 z80:=Tryz.sizeOf95
 v80:=Tryz.zeroValue95
 i0:=by kernel_rfl
 i2:=by kernel_rfl
 i3:=by kernel_rfl
 i4:=by kernel_rfl
 i5:=by kernel_rfl
 i9:=by kernel_rfl
 i20:=by kernel_rfl
 i21:=by kernel_rfl
 i37:=by kernel_rfl
 i46:=by kernel_rfl
 i51:=by kernel_rfl
 i53:=by kernel_rfl
 i75:=by kernel_rfl
 i76:=by kernel_rfl
 i80:=by kernel_rfl
 i85:=by kernel_rfl
 i127:=by kernel_rfl
 i143:=by kernel_rfl
 i145:=by kernel_rfl
 i167:=by kernel_rfl
 i168:=by kernel_rfl
 i171:=by kernel_rfl
 i173:=by kernel_rfl
 i175:=by kernel_rfl
 i210:=by kernel_rfl
 i212:=by kernel_rfl
 i232:=by kernel_rfl
 i233:=by kernel_rfl
 m15:=by kernel_rfl
 m16:=by kernel_rfl
 m17:=by kernel_rfl
 m18:=by kernel_rfl
 m19:=by kernel_rfl
 c0:=by kernel_rfl
 c2:=by kernel_rfl
 c3:=by kernel_rfl
 c4:=by kernel_rfl
 c5:=by kernel_rfl
 c9:=by kernel_rfl
 c20:=by kernel_rfl
 c21:=by kernel_rfl
 c37:=by kernel_rfl
 c46:=by kernel_rfl
 c51:=by kernel_rfl
 c53:=by kernel_rfl
 c75:=by kernel_rfl
 c76:=by kernel_rfl
 c80:=by kernel_rfl
 c85:=by kernel_rfl
 c127:=by kernel_rfl
 c143:=by kernel_rfl
 c145:=by kernel_rfl
 c167:=by kernel_rfl
 c168:=by kernel_rfl
 c171:=by kernel_rfl
 c173:=by kernel_rfl
 c175:=by kernel_rfl
 c210:=by kernel_rfl
 c212:=by kernel_rfl
 c213:=by kernel_rfl
 c232:=by kernel_rfl
 c233:=by kernel_rfl }
open Go.RowKit in
theorem Tryz.strconv_Atoi_ok (s:ByteArray) (hmax:s.size≤9223372036854775806) (v:Int) (h:Lib.atoiAll s.data.toList= .ok v) (w:World):
  Calls Tryz.prog 114 #[.string s] w fun e w'=>e= .returned (.tuple #[.int .i64 v,.nilIface])∧(w'=w∨∃t,w'=Lib.bytesWorld w 5 t):=Any.strconv_Atoi_ok Tryz.laysC172 s hmax v h w
open Go.RowKit in
theorem Tryz.strconv_Atoi_syntax_var (s:ByteArray) (hlim:s.size≤281474976710656) (h:Lib.atoiAll s.data.toList=Lib.atoiAll []) (tp:TypeId) (p:Value) (w:World) (hvar:w.var? Tryz.prog "strconv.ErrSyntax" =some #[.iface tp p]):
  Calls Tryz.prog 114 #[.string s] w fun e w'=>∃N,e= .returned (.tuple #[.int .i64 0,.iface 216 (.pointer (some ⟨N,0,none⟩))])∧w.heap.size≤N∧w'.heap[N]? =some (.cells #[.string ⟨#[65,116,111,105]⟩,.string s,.iface tp p] 238 (0,0))∧Below w.heap.size w w':=Any.strconv_Atoi_syntax_var Tryz.laysC172 s hlim h tp p w hvar
open Go.RowKit in
theorem Tryz.strconv_Atoi_range_var (s:ByteArray) (hlim:s.size≤281474976710656) (h:Lib.atoiAll s.data.toList= .range) (tp:TypeId) (p:Value) (w:World) (hvar:w.var? Tryz.prog "strconv.ErrRange" =some #[.iface tp p]):
  Calls Tryz.prog 114 #[.string s] w fun e w'=>∃N,e= .returned (.tuple #[.int .i64 (Lib.atoiSat s.data.toList),.iface 216 (.pointer (some ⟨N,0,none⟩))])∧w.heap.size≤N∧w'.heap[N]? =some (.cells #[.string ⟨#[65,116,111,105]⟩,.string s,.iface tp p] 238 (0,0))∧Below w.heap.size w w':=Any.strconv_Atoi_range_var Tryz.laysC172 s hlim h tp p w hvar
def Tryz.lays190_ren:Go.Shelf.Ren:=⟨fun|190=>129|125=>150|258=>149|128=>171|129=>158|302=>162|303=>163|304=>164|305=>165|306=>166|307=>167|308=>168|309=>169|310=>170|333=>177|329=>178|330=>179|334=>180|335=>181|336=>182|344=>185|n=>n,fun|31=>41|9=>9|3=>3|46=>211|0=>0|51=>222|53=>203|4=>4|183=>227|182=>226|131=>64|5=>5|218=>240|222=>244|228=>253|229=>254|n=>n,fun|n=>n⟩
theorem Tryz.lays190:Go.Proofs.Lays.n190 Tryz.prog Tryz.lays190_ren:={
 mixed:=by kernel_rfl
 f125:=Tryz.func150.trans (congrArg some (by kernel_rfl))
 f128:=Tryz.func171.trans (congrArg some (by kernel_rfl))
 f129:=Tryz.func158.trans (congrArg some (by kernel_rfl))
 f190:=Tryz.func129.trans (congrArg some (by kernel_rfl))
 f258:=Tryz.func149.trans (congrArg some (by kernel_rfl))
 f302:=Tryz.func162.trans (congrArg some (by kernel_rfl))
 f303:=Tryz.func163.trans (congrArg some (by kernel_rfl))
 f304:=Tryz.func164.trans (congrArg some (by kernel_rfl))
 f305:=Tryz.func165.trans (congrArg some (by kernel_rfl))
 f306:=Tryz.func166.trans (congrArg some (by kernel_rfl))
 f307:=Tryz.func167.trans (congrArg some (by kernel_rfl))
 f308:=Tryz.func168.trans (congrArg some (by kernel_rfl))
 f309:=Tryz.func169.trans (congrArg some (by kernel_rfl))
 f310:=Tryz.func170.trans (congrArg some (by kernel_rfl))
 f329:=Tryz.func178.trans (congrArg some (by kernel_rfl))
 f330:=Tryz.func179.trans (congrArg some (by kernel_rfl))
 f333:=Tryz.func177.trans (congrArg some (by kernel_rfl))
 f334:=Tryz.func180.trans (congrArg some (by kernel_rfl))
 f335:=Tryz.func181.trans (congrArg some (by kernel_rfl))
 f336:=Tryz.func182.trans (congrArg some (by kernel_rfl))
 f344:=Tryz.func185.trans (congrArg some (by kernel_rfl))
 t0:=Tryz.underlying0
 a0:=Tryz.isAgg0
 z0:=Tryz.sizeOf0
 v0:=Tryz.zeroValue0
 t3:=Tryz.underlying3
 a3:=Tryz.isAgg3
 z3:=Tryz.sizeOf3
 v3:=Tryz.zeroValue3
 t4:=Tryz.underlying4
 a4:=Tryz.isAgg4
 z4:=Tryz.sizeOf4
 v4:=Tryz.zeroValue4
 t5:=Tryz.underlying5
 a5:=Tryz.isAgg5
 z5:=Tryz.sizeOf5
 v5:=Tryz.zeroValue5
 t9:=Tryz.underlying9
 a9:=Tryz.isAgg9
 z9:=Tryz.sizeOf9
 v9:=Tryz.zeroValue9
 t31:=Tryz.underlying41
 a31:=Tryz.isAgg41
 z31:=Tryz.sizeOf41
 v31:=Tryz.zeroValue41
 t46:=Tryz.underlying211
 a46:=Tryz.isAgg211
 z46:=Tryz.sizeOf211
 v46:=Tryz.zeroValue211
 t51:=Tryz.underlying222
 a51:=Tryz.isAgg222
 z51:=Tryz.sizeOf222
 v51:=Tryz.zeroValue222
 t53:=Tryz.underlying203
 a53:=Tryz.isAgg203
 z53:=Tryz.sizeOf203
 v53:=Tryz.zeroValue203
 t131:=Tryz.underlying64
 a131:=Tryz.isAgg64
 z131:=Tryz.sizeOf64
 v131:=Tryz.zeroValue64
 t182:=Tryz.underlying226
 a182:=Tryz.isAgg226
 z182:=Tryz.sizeOf226
 v182:=Tryz.zeroValue226
 t183:=Tryz.underlying227
 a183:=Tryz.isAgg227
 z183:=Tryz.sizeOf227
 v183:=Tryz.zeroValue227
 t218:=Tryz.underlying240
 a218:=Tryz.isAgg240
 z218:=Tryz.sizeOf240
 v218:=Tryz.zeroValue240
 t222:=Tryz.underlying244
 a222:=Tryz.isAgg244
 z222:=Tryz.sizeOf244
 v222:=Tryz.zeroValue244
 t228:=Tryz.underlying253
 a228:=Tryz.isAgg253
 z228:=Tryz.sizeOf253
 v228:=Tryz.zeroValue253
 t229:=Tryz.underlying254
 a229:=Tryz.isAgg254
 z229:=Tryz.sizeOf254
 v229:=Tryz.zeroValue254 }
open Go.Sort Go.RowKit in
theorem Tryz.slices_Sort_string (blk off cap:Nat) (ss:List (List UInt8)) (w:World) (hH:Holds encStr w blk off ss.toArray) (hblk:blk<w.heap.size) (hsz:ss.length<4611686018427387904):
  Calls Tryz.prog 129 #[.slice (some ⟨blk,off,none⟩) ss.length cap] w fun e w'=>
   e= .returned (.tuple #[])∧∃n os,w'=grow (putRow encStr (Sort.ahead w n) blk off (ss.mergeSort fun x y=>decide (x≤y)).toArray) os:=Any.slices_Sort_string Tryz.lays190 blk off cap ss w hH hblk hsz
def Tryz.lays194_ren:Go.Shelf.Ren:=⟨fun|194=>130|n=>n,fun|31=>41|9=>9|3=>3|4=>4|0=>0|n=>n,fun|n=>n⟩
theorem Tryz.lays194:Go.Proofs.Lays.n194 Tryz.prog Tryz.lays194_ren:={
 mixed:=by kernel_rfl
 f194:=Tryz.func130.trans (congrArg some (by kernel_rfl))
 t0:=Tryz.underlying0
 a0:=Tryz.isAgg0
 z0:=Tryz.sizeOf0
 v0:=Tryz.zeroValue0
 t3:=Tryz.underlying3
 a3:=Tryz.isAgg3
 z3:=Tryz.sizeOf3
 v3:=Tryz.zeroValue3
 t4:=Tryz.underlying4
 a4:=Tryz.isAgg4
 z4:=Tryz.sizeOf4
 v4:=Tryz.zeroValue4
 t9:=Tryz.underlying9
 a9:=Tryz.isAgg9
 z9:=Tryz.sizeOf9
 v9:=Tryz.zeroValue9
 t31:=Tryz.underlying41
 a31:=Tryz.isAgg41
 z31:=Tryz.sizeOf41
 v31:=Tryz.zeroValue41 }
open Go.RowKit Go.Lib Go.Sort in
theorem Tryz.slices_Compact_string (blk off cap:Nat) (zs:List (List UInt8)) (w:World) (hH:Holds encStr w blk off zs.toArray) (hsz:zs.length≤9223372036854775807) (hcap:zs.length≤cap):
  Calls Tryz.prog 130 #[.slice (some ⟨blk,off,none⟩) zs.length cap] w fun e w'=>e= .returned (.slice (some ⟨blk,off,none⟩) (Lib.compact zs).length cap)∧∃q,w'=putRow encStr (Sort.ahead w q) blk off (Lib.compact zs++List.replicate (zs.length-(Lib.compact zs).length) []).toArray:=Any.slices_Compact_string Tryz.lays194 blk off cap zs w hH hsz hcap
open Go.RowKit Go.Lib Go.Sort in
theorem Tryz.slices_Compact_string_empty (a:Option Addr) (cap:Nat) (w:World):
  Calls Tryz.prog 130 #[.slice a 0 cap] w fun e w'=>e= .returned (.slice a 0 cap)∧w'=w:=Any.slices_Compact_string_empty Tryz.lays194 a cap w
open Go.RowKit Go.Sort in
theorem Tryz.slices_Sort_string_none (p:Option Addr) (cap:Nat) (w:World):
  Calls Tryz.prog 129 #[.slice p 0 cap] w fun e w'=>e= .returned (.tuple #[])∧w'=w:=Any.slices_Sort_string_none Tryz.lays190 p cap w
def Tryz.cloneSS_ren:Go.Shelf.Ren:=⟨fun|5=>105|7=>127|n=>n,fun|23=>84|25=>9|3=>9|4=>4|20=>20|n=>n,fun|n=>n⟩
theorem Tryz.cloneSS:Go.Proofs.SlLaysW.n5 Tryz.prog Tryz.cloneSS_ren:={
 mixed:=by kernel_rfl
 f5:=⟨Tryz.f105.name,by decide,Tryz.func105.trans (congrArg some (by kernel_rfl))⟩
 f7:=Tryz.func127.trans (congrArg some (by kernel_rfl))
 t4:=Tryz.underlying4
 a4:=Tryz.isAgg4
 z4:=Tryz.sizeOf4
 v4:=Tryz.zeroValue4
 t20:=Tryz.underlying20
 a20:=Tryz.isAgg20
 z20:=Tryz.sizeOf20
 v20:=Tryz.zeroValue20
 t23:=Tryz.underlying84
 a23:=Tryz.isAgg84
 z23:=Tryz.sizeOf84
 v23:=Tryz.zeroValue84 }
def Tryz.cloneSI_ren:Go.Shelf.Ren:=⟨fun|5=>133|7=>127|n=>n,fun|23=>63|25=>9|3=>3|4=>4|20=>20|n=>n,fun|n=>n⟩
theorem Tryz.cloneSI:Go.Proofs.SlLaysW.n5 Tryz.prog Tryz.cloneSI_ren:={
 mixed:=by kernel_rfl
 f5:=⟨Tryz.f133.name,by decide,Tryz.func133.trans (congrArg some (by kernel_rfl))⟩
 f7:=Tryz.func127.trans (congrArg some (by kernel_rfl))
 t4:=Tryz.underlying4
 a4:=Tryz.isAgg4
 z4:=Tryz.sizeOf4
 v4:=Tryz.zeroValue4
 t20:=Tryz.underlying20
 a20:=Tryz.isAgg20
 z20:=Tryz.sizeOf20
 v20:=Tryz.zeroValue20
 t23:=Tryz.underlying63
 a23:=Tryz.isAgg63
 z23:=Tryz.sizeOf63
 v23:=Tryz.zeroValue63 }
end Go.Proofs
namespace Go.Proofs.YtjpldhjgehoffaaGreatDoor
open Go.RowKit
open Go.ChangeMaps (setBlock)
set_option linter.unusedVariables false
set_option linter.unusedSimpArgs false
def Uq (P:Program) (ops:Array Oper) (l:List Oper) (Q:Exit→AS→Prop) (s:AS):Prop:=
 ∀C a w,St C s a w→wpList P ops (fun e a' w'=>∃s',Q e s'∧St C s' a' w') l a w
theorem AWp.ops {P:Program} {Q:Exit→AS→Prop} {s:AS} {id:Nat} {l:List Oper} (h:Uq P l.toArray l Q s):AWp P (.region id l.toArray false) Q s:=
 fun C a w hs=>wp_region_lit (h C a w hs)
section
variable {P:Program} {Q:Exit→AS→Prop} {s:AS} {ops:Array Oper}
theorem Uq.nil (h:Q .normal s):Uq P ops [] Q s:=fun C a w hs=>⟨s,h,hs⟩
theorem Uq.le {l:List Oper} {s':AS} (hl:Le s s') (h:Uq P ops l Q s'):Uq P ops l Q s:=fun C a w hs=>h C a w (hl C a w hs)
theorem Uq.run {l1 l2:List Oper} (zs:List Nat) (hints:List Hint) {k:Nat} {rs:List Rc} {s':AS} {p:Prop} (hr:Iz P ops zs l1 k hints s=some (rs,s',p)) (hp:p) (h:Uq P ops l2 Q s'):Uq P ops (l1++l2) Q s:=fun C a w hs=>by
 obtain⟨h1,h2,h3,h4⟩:=runD_ok l1 k hints s s' rs p hr hp;have key:∀(rs:List Rc) (s:AS) (a:Act) (w:World),Trace P ops rs s→runR rs s=s'→(∀r∈rs,r.p)→St C s a w→wpList P ops (fun e a' w'=>∃s',Q e s'∧St C s' a' w') (rs.map (·.o)++l2) a w:=fun rs=>by
  induction rs with
  |nil=>intro s a w _ h2 _ hs;simp only[runR]at h2;subst h2;exact h C a w hs
  |cons r rs ih=>
   intro s a w h1 h2 h4 hs;exact wpList_step fun K hK=>Jk.wp h1.1 (fun _=>h4 r (by simp)) hs fun a' w' hs'=>hK a' w' (ih (Zq s r) a' w' h1.2 h2 (fun x hx=>h4 x (by simp[hx])) hs')
 rw[←h3];exact key rs s a w h1 h2 h4 hs
theorem wanted_none {o:Oper} (hg:o.guard=none) (y:Nat→Option Bool):Region.wanted o y=true:=by
 unfold Region.wanted;rw[hg]
theorem Uq.value {o:Oper} {rest:List Oper} (hg:o.guard=none) (h:∀C a w,St C s a w→∃v w' s',(execOp a.eval o).run P w= .ok (.value v) w'∧St C s' (a.put o.dst v) w'∧Uq P ops rest Q s'):Uq P ops (o::rest) Q s:=fun C a w hs=>by
 refine wpList_step fun K hK=>?_
 obtain⟨v,w',s',h1,h2,h3⟩:=h C a w hs;rw[wanted_none hg];simp only[if_true];unfold Oper.wp;rw[h1];exact hK _ _ (h3 C _ _ h2)
end
section
variable {C:Cx} {w:World} {ok:Nat→Prop} {g:Gh} {m:Me}
theorem MS.newIter (hM:MS C w ok g m) (d:Nat) (hd:kept d=false) (b clock:Nat) (seen:List Nat):
  ∃g',g'.bl d=some w.heap.size∧MS C (w.alloc (.mapIter (some b) clock seen.toArray clock)) ok g' (X5 m (Jw [(d,some (.raw (.iter b clock seen)))]) (Z5 [d]) (Q4 [(d,some (.raw (.iter b clock seen)))]))∧
   ∀c v,c.has (Z5 [d])=false→VR w ok g m c v→VR (w.alloc (.mapIter (some b) clock seen.toArray clock)) ok g' (X5 m (Jw [(d,some (.raw (.iter b clock seen)))]) (Z5 [d]) (Q4 [(d,some (.raw (.iter b clock seen)))])) c v:=by
 refine⟨⟨fun i=>if d==i then some w.heap.size else g.bl i,fun i=>if d==i then 0 else g.cp i⟩,by simp,?_⟩;refine MS.eff hM _ _ _ ?_ ?_ ?_ ?_ ?_ ?_ ?_ ?_ ?_ ?_ ?_ ?_ rfl rfl rfl
 ·intro i hi;rw[Kw]at hi;rw[Z9];exact hi
 ·intro i x' hU hN;rw[Z9]at hU;have hdi:d=i:=by simpa using hU
  subst hdi;simp[Q4]at hN;subst hN;exact⟨w.heap.size,by simp,heap_alloc_new w _⟩
 ·intro i hi;rw[Kw]at hi;simp[hi]
 ·intro i x' hU hq;rw[Z9]at hU;rw[Kw]at hq;rw[hU]at hq;cases hq
 ·intro i y b hU hy hb;exact Below.heap_alloc w _ b (hM.own i y b hy hb).2.1
 ·intro b hb;exact Below.heap_alloc w _ b (hM.okb b hb).1
 ·exact fun b hb=>hb
 ·exact fun b hb=>.inl hb
 ·intro i y b hU hN hb;rw[Z9]at hU;simp only[hU,if_true,Option.some.injEq]at hb;subst hb;refine⟨fun h=>by have:=(hM.okb _ h).1;omega,by simp,.inl hM.size,fun j xj hUj hj hb=>?_,fun j xj hUj _ _=>?_⟩
  ·have:=(hM.own j xj _ hj hb).2.1;omega
  ·rw[Z9]at hUj;have e1:d=i:=by simpa using hU
   have e2:d=j:=by simpa using hUj
   rw[←e1,←e2]
 ·intro i hi;rw[Kw]at hi;have e1:d=i:=by simpa using hi
  rw[←e1];exact hd
 ·simp
 ·intro b hb _;exact Below.heap_alloc w _ b (by have:=hM.size;omega)
end
section
variable {P:Program} {Q:Exit→AS→Prop} {s:AS} {ops:Array Oper}
theorem Uq.range {o:Oper} {rest:List Oper} {d t:Nat} {x:Operand} {i b n clock:Nat} {ks ag:Bool} {ents:List (Nat×D×List D)} {kt vt:TypeId} (hop:o.op= .range t x) (hg:o.guard=none) (hd:o.dst=some d) (hdn:d<s.n) (h5:Nat.ble 500 d=false)
  (hx:evA s.fr x= .mp i) (hm:Q4 s.mem i=some (.raw (.U8 b ks ag n clock ents))) (hu:P.underlying t=some (.map kt vt))
  (h:Uq P ops rest Q (s.after (some d) (.ptr d 0) ⟨[d],[(d,some (.raw (.iter b clock [])))]⟩)):Uq P ops (o::rest) Q s:=by
 refine Uq.value hg fun C a w hs=>?_
 obtain⟨ok,g,hM,h1,h2,h3⟩:=hs;have hev:=Qq0 (a:=a) h3 x;rw[hx]at hev;obtain⟨b',hb',hv⟩:=hev.Qj9 hm;obtain⟨hb,es,hw,hB⟩:=hM.obj _ _ hm;obtain rfl:b=b':=by rw[hb]at hb';exact Option.some.inj hb'
 have hk:kept d=false:=by
  unfold kept;have:¬500≤d:=fun e=>by rw[Nat.ble_eq_true_of_le e]at h5;cases h5
  cases hh:Nat.ble 1000 d with
  |false=>rfl
  |true=>have:=Nat.le_of_ble_eq_true hh;omega
 obtain⟨g',hg',hM',hv'⟩:=MS.newIter hM d hk b clock [];refine⟨.pointer (some ⟨w.heap.size,0,none⟩),w.alloc (.mapIter (some b) clock #[] clock),_,?_,?_,h⟩
 ·have:(Instr.range t (a.eval x)).run P w= .ok (.pointer (some ⟨w.heap.size,0,none⟩)) (w.alloc (.mapIter (some b) clock #[] clock)):=by
   rw[hv];exact run_range_map w t kt vt b es clock hu hw
  simp only[execOp,hop];simp[this]
 ·rw[hd];refine St.after (ok:=ok) (g:=g) (ok':=ok) (g':=g') h1 h2 h3 (some d) (fun e he=>by cases he;exact hdn) _ _ _ ⟨hM',hv'⟩ fun _=>?_
  refine .ptr _ _ _ rfl fun y hy=>⟨w.heap.size,hg',rfl⟩
theorem Uq.next {o:Oper} {rest:List Oper} {d:Nat} {it:Operand} {i j b n clock:Nat} {ks ag:Bool} {seen:List Nat} {ents:List (Nat×D×List D)} (hop:o.op= .next it false) (hg:o.guard=none) (hd:o.dst=some d) (hdn:d<s.n)
  (hx:evA s.fr it= .ptr i 0) (hi:Q4 s.mem i=some (.raw (.iter b clock seen))) (hm:Q4 s.mem j=some (.raw (.U8 b ks ag n clock ents)))
  (hover:(∀p∈ents,p.1∈seen)→Uq P ops rest Q (s.after (some d) (.tuple [.d (.bool false)]) ⟨[],[]⟩))
  (hstep:∀p∈ents,p.1 ∉ seen→Uq P ops rest Q (s.after (some d) (.tuple [.d (.bool true),.d p.2.1,N7 ag p.2.2]) ⟨[],[(i,some (.raw (.iter b clock (seen++[p.1]))))]⟩)):Uq P ops (o::rest) Q s:=by
 refine Uq.value hg fun C a w hs=>?_
 obtain⟨ok,g,hM,h1,h2,h3⟩:=hs;have hev:=Qq0 (a:=a) h3 it;rw[hx]at hev;obtain⟨bi,hbi,hv⟩:=hev.ptr_inv hi;obtain⟨bi',hbi',hwi⟩:=hM.obj _ _ hi;obtain rfl:bi=bi':=by rw[hbi]at hbi';exact Option.some.inj hbi'
 obtain⟨hb,es,hw,hB⟩:=hM.obj _ _ hm;have hdst:∀e,some d=some e→e<s.n:=fun e he=>by cases he;exact hdn
 rcases run_next_at (P:=P) w o.type bi b clock clock seen.toArray es clock hwi hw hB.st.1 (Nat.le_refl _)with⟨h0,hrun⟩|⟨e,he,w1,hw1,hrun⟩
 ·refine⟨.tuple #[.bool false],w,_,?_,?_,hover fun p hp=>?_⟩
  ·simp only[execOp,hop,hv];simp[hrun]
  ·rw[hd];refine St.after (ok:=ok) (g:=g) (ok':=ok) (g':=g) h1 h2 h3 (some d) hdst _ _ _ ?_ fun _=>?_
   ·rw[F9];exact⟨hM,fun c v _ h=>h⟩
   ·refine .tuple _ _ rfl fun k c v hc hv=>?_
    rcases k with _|k
    ·simp at hc hv;subst hc;subst hv;exact .d _ _ (.bool _)
    ·simp at hc
  ·obtain⟨k,hk⟩:=List.mem_iff_getElem?.1 hp;have hkl:k<es.size:=by rw[←hB.size];exact(List.getElem?_eq_some_iff.1 hk).1
   have hke:es[k]? =some es[k]:=Array.getElem?_eq_getElem hkl;obtain⟨k1,_⟩:=hB.at' k _ p hke hk;have hemp:leftOf es seen.toArray= #[]:=Array.eq_empty_of_size_eq_zero h0;unfold leftOf at hemp;rw[Array.filter_eq_empty_iff]at hemp;have:=hemp es[k] (Array.getElem_mem hkl);rw[k1];simpa using this
 ·have he':e∈es.toList∧e.born ∉ seen:=by
   unfold leftOf at he;simp at he;exact⟨by simpa using he.1,he.2⟩
  obtain⟨k,hk⟩:=List.mem_iff_getElem?.1 he'.1;rw[Array.getElem?_toList]at hk;have hkl:k<ents.length:=by rw[hB.size];exact(Array.getElem?_eq_some_iff.1 hk).1
  have hp:ents[k]? =some ents[k]:=List.getElem?_eq_getElem hkl;have hpm:ents[k]∈ents:=List.getElem_mem hkl;generalize ents[k]=p at hp hpm;obtain⟨k1,k2,k3⟩:=hB.at' k e p hk hp;have hw1M:MS C w1 ok g (Q4 s.mem)∧(∀c v,VR w ok g (Q4 s.mem) c v→VR w1 ok g (Q4 s.mem) c v)∧w1.heap=w.heap:=by
   rcases hw1 with rfl|rfl
   ·exact⟨hM,fun c v h=>h,rfl⟩
   ·have hk':∀p:Addr,ok p.block→World.cell? w.drew p=w.cell? p:=fun _ _=>rfl
    have hm':∀o x',(fun _=>false) o=false→Q4 s.mem o=some x'→∃x,Q4 s.mem o=some x∧x.like x'∧g.bl o=g.bl o∧g.cp o=g.cp o:=fun o x' _ hx=>⟨x',hx,Qz.D9 _,rfl,rfl⟩
    refine⟨⟨fun o x hx=>(hM.obj o x hx).mono (fun _=>false) ?_ (fun _ _=>rfl) rfl rfl hk' (fun _ h=>h) hm',hM.inj,hM.own,hM.okb,hM.okk,hM.size,hM.heap,hM.keep,hM.os,hM.tape,hM.output,hM.gi,hM.gb⟩,fun c v h=>h.mono (fun _=>false) (AV.V3 (fun _=>rfl) _) hk' (fun _ h=>h) hm',rfl⟩;cases x with
    |arr e sz rows=>trivial
    |map ks ag n ents=>trivial
    |raw r=>trivial
    |blk t cs=>
     have:∀l:List AV,AV.K6 (fun _=>false) l=false:=fun l=>by
      induction l with
      |nil=>rfl
      |cons c r ih=>simp only[AV.K6,ih,AV.V3 (fun _=>rfl) c,Bool.or_self]
     exact this cs
  obtain⟨hM1,hV1,hh⟩:=hw1M;have hput:=MS.putRaw hM1 i hbi hi (x':=.raw (.iter b clock (seen++[p.1]))) trivial (ob:=.mapIter (some b) clock (seen.toArray.push e.born) clock) rfl
   ⟨bi,hbi,by rw[k1];simp only[setBlock];rw[Array.getElem?_setIfInBounds_self_of_lt (by rw[hh];exact(Array.getElem?_eq_some_iff.1 hwi).1)];simp⟩
  refine⟨.tuple #[.bool true,e.key,e.val],setBlock w1 bi (.mapIter (some b) clock (seen.toArray.push e.born) clock),_,?_,?_,hstep p hpm (by rw[k1];exact he'.2)⟩
  ·simp only[execOp,hop,hv];simp[hrun]
  ·rw[hd];refine St.after (ok:=ok) (g:=g) (ok':=ok) (g':=g) h1 h2 h3 (some d) hdst _ _ _ ⟨hput.1,fun c v hc hv'=>hput.2 c v hc (hV1 c v hv')⟩ fun _=>?_
   have hcell:∀q:Addr,ok q.block→World.cell? (setBlock w1 bi (.mapIter (some b) clock (seen.toArray.push e.born) clock)) q=w.cell? q:=fun q hq=>by
    refine World.J6 ?_;have hne:q.block≠bi:=fun e=>(hM.own i _ bi hi hbi).1 (e▸hq)
    simp only[setBlock];rw[Array.getElem?_setIfInBounds_ne (Ne.symm hne),hh]
   refine .tuple _ _ rfl fun k c v hc hv=>?_
   rcases k with _|_|_|k
   ·simp at hc hv;subst hc;subst hv;exact .d _ _ (.bool _)
   ·simp at hc hv;subst hc;subst hv;exact .d _ _ (k2.keep hcell)
   ·simp at hc hv;subst hc;subst hv;exact rowAV_ok (k3.keep hcell)
   ·simp at hc
theorem Uq.entry {o:Oper} {rest:List Oper} {d:Nat} {it:Operand} {i j b n clock k:Nat} {ks ag:Bool} {seen:List Nat} {ents:List (Nat×D×List D)} {key:D} {row:List D} (hop:o.op= .entry it) (hg:o.guard=none) (hd:o.dst=some d) (hdn:d<s.n)
  (hx:evA s.fr it= .ptr i 0) (hi:Q4 s.mem i=some (.raw (.iter b clock (seen++[k])))) (hm:Q4 s.mem j=some (.raw (.U8 b ks ag n clock ents))) (hp:(k,key,row)∈ents)
  (h:Uq P ops rest Q (s.after (some d) (.tuple [.d key,N7 ag row]) ⟨[],[]⟩)):Uq P ops (o::rest) Q s:=by
 refine Uq.value hg fun C a w hs=>?_
 obtain⟨ok,g,hM,h1,h2,h3⟩:=hs;have hev:=Qq0 (a:=a) h3 it;rw[hx]at hev;obtain⟨bi,hbi,hv⟩:=hev.ptr_inv hi;obtain⟨bi',hbi',hwi⟩:=hM.obj _ _ hi;obtain rfl:bi=bi':=by rw[hbi]at hbi';exact Option.some.inj hbi'
 obtain⟨hb,es,hw,hB⟩:=hM.obj _ _ hm;obtain⟨q,hq⟩:=List.mem_iff_getElem?.1 hp;have hql:q<es.size:=by rw[←hB.size];exact(List.getElem?_eq_some_iff.1 hq).1
 have hqe:es[q]? =some es[q]:=Array.getElem?_eq_getElem hql;have hqm:es[q]∈es.toList:=by simp
 generalize es[q]=e at hqe hqm;obtain⟨k1,k2,k3⟩:=hB.at' q _ _ hqe hq;dsimp only at k1 k2 k3;have hrun:=run_entry_at (P:=P) w bi b clock seen.toArray es clock e (by rw[hwi,k1];simp) hw hqm hB.st.2.1;refine⟨.tuple #[e.key,e.val],w,_,?_,?_,h⟩
 ·simp only[execOp,hop,hv];simp[hrun]
 ·rw[hd];refine St.after (ok:=ok) (g:=g) (ok':=ok) (g':=g) h1 h2 h3 (some d) (fun e he=>by cases he;exact hdn) _ _ _ ?_ fun _=>?_
  ·rw[F9];exact⟨hM,fun c v _ h=>h⟩
  ·rw[F9];refine .tuple _ _ rfl fun k c v hc hv=>?_
   rcases k with _|_|k
   ·simp at hc hv;subst hc;subst hv;exact .d _ _ k2
   ·simp at hc hv;subst hc;subst hv;exact rowAV_ok k3
   ·simp at hc
theorem St.known {C:Cx} {a:Act} {w:World} (o:Nat) {x:Qz} (hs:St C s a w) (hx:Q4 s.mem o=some x):
  ∃ok g,OR w ok g (Q4 s.mem) o x∧∀x',x.like x'→(∀m',OR w ok g m' o x')→St C ⟨s.n,s.fr,(o,some x')::s.mem⟩ a w:=by
 obtain⟨ok,g,hM,h1,h2,h3⟩:=hs;refine⟨ok,g,hM.obj _ _ hx,fun x' hl hO=>?_⟩;have hget:∀i,Q4 ((o,some x')::s.mem) i=if o==i then some x' else Q4 s.mem i:=fun i=>by simp only[Q4]
 have hm:∀i y',(fun _=>false) i=false→Q4 ((o,some x')::s.mem) i=some y'→∃y,Q4 s.mem i=some y∧y.like y'∧g.bl i=g.bl i∧g.cp i=g.cp i:=fun i y' _ hy=>by
  rw[hget]at hy;split at hy
  ·rename_i e;obtain rfl:o=i:=by simpa using e
   cases hy;exact⟨x,hx,hl,rfl,rfl⟩
  ·exact⟨y',hy,Qz.D9 _,rfl,rfl⟩
 have hsome:∀i y,Q4 ((o,some x')::s.mem) i=some y→∃z,Q4 s.mem i=some z:=fun i y hy=>by
  obtain⟨z,hz,_⟩:=hm i y rfl hy;exact⟨z,hz⟩
 refine⟨ok,g,⟨fun i y hy=>?_,fun i j xi xj b hi hj hbi hbj=>?_,fun i y b hy hb=>?_,hM.okb,hM.okk,hM.size,hM.heap,hM.keep,hM.os,hM.tape,hM.output,hM.gi,hM.gb⟩,h1,h2,fun t=>(h3 t).mono (fun _=>false) (AV.V3 (fun _=>rfl) _) (fun _ _=>rfl) (fun _ h=>h) hm⟩
 ·have hy':=hy;rw[hget]at hy;split at hy
  ·rename_i e;obtain rfl:o=i:=by simpa using e
   cases hy;exact hO _
  ·refine(hM.obj i y hy).mono (fun _=>false) ?_ (fun _ _=>rfl) rfl rfl (fun _ _=>rfl) (fun _ h=>h) hm;cases y with
   |arr e sz rows=>trivial
   |map ks ag n ents=>trivial
   |raw r=>trivial
   |blk t cs=>
    have:∀l:List AV,AV.K6 (fun _=>false) l=false:=fun l=>by
     induction l with
     |nil=>rfl
     |cons c r ih=>simp only[AV.K6,ih,AV.V3 (fun _=>rfl) c,Bool.or_self]
    exact this cs
 ·obtain⟨zi,hzi⟩:=hsome i xi hi;obtain⟨zj,hzj⟩:=hsome j xj hj;exact hM.inj i j zi zj b hzi hzj hbi hbj
 ·obtain⟨z,hz⟩:=hsome i y hy;exact hM.own i z b hz hb
theorem AWp.birthsC {c:Code} (o:Nat) {ks ag:Bool} {n:Nat} {ents:List (D×List D)} (hx:Q4 s.mem o=some (.map ks ag n ents))
  (h:∀(b clock:Nat) (bents:List (Nat×D×List D)),(bents.map (·.2)).Perm ents→(bents.map (·.1)).Nodup→(∀p∈bents,p.1<clock)→AWp P c Q ⟨s.n,s.fr,(o,some (.raw (.U8 b ks ag n clock bents)))::s.mem⟩):AWp P c Q s:=fun C a w hs=>by
 obtain⟨ok,g,hO,hK⟩:=St.known o hs hx;obtain⟨b,es,clock,k1,k2,k3⟩:=hO;obtain⟨l,l1,l2,l3⟩:=k3.perm
 let bents:List (Nat×D×List D):=(es.toList.map (·.born)).zip l
 have hlen:(es.toList.map (·.born)).length=l.length:=by simp[l2]
 have hfst:bents.map (·.1)=es.toList.map (·.born):=by
  show(List.zip _ _).map Prod.fst=_;rw[List.map_fst_zip (by omega)]
 have hsnd:bents.map (·.2)=l:=by
  show(List.zip _ _).map Prod.snd=_;rw[List.map_snd_zip (by omega)]
 have hmem:∀p∈bents,p.2∈l:=fun p hp=>by rw[←hsnd];exact List.mem_map.2 ⟨p,hp,rfl⟩
 have hpw:l.Pairwise fun p q=>D.keq p.1 q.1=false:=(l1.pairwise_iff fun {a b} hab=>by rw[D.Tk];exact hab).2 k3.nodup
 refine h b clock bents (by rw[hsnd];exact l1) (by rw[hfst];exact k3.st.2.1) (fun p hp=>?_) C a w (hK _ trivial fun m'=>⟨k1,es,k2,k3.st,fun p hp=>k3.keys p.2 (l1.mem_iff.1 (hmem p hp)),?_,?_,fun i e p he hp=>?_⟩)
 ·have hm:p.1∈es.toList.map (·.born):=by rw[←hfst];exact List.mem_map.2 ⟨p,hp,rfl⟩
  obtain⟨e,he,hpe⟩:=List.mem_map.1 hm;rw[←hpe];exact k3.st.1 e he
 ·rw[←hsnd]at hpw;exact List.pairwise_map.1 hpw
 ·show(List.zip _ _).length=_;rw[List.length_zip,hlen,Nat.min_self,l2]
 ·have hp1:l[i]? =some p.2:=by rw[←hsnd,List.getElem?_map,hp];rfl
  have hp2:(es.toList.map (·.born))[i]? =some p.1:=by rw[←hfst,List.getElem?_map,hp];rfl
  rw[List.getElem?_map,Array.getElem?_toList,he]at hp2;exact⟨by simpa using hp2.symm,l3 i e p.2 he hp1⟩
theorem AWp.U8 {c:Code} (o:Nat) {ks ag:Bool} {n:Nat} {ents:List (D×List D)} (hx:Q4 s.mem o=some (.map ks ag n ents))
  (h:∀(b clock:Nat) (bents:List (Nat×D×List D)),(bents.map (·.2)).Perm ents→(bents.map (·.1)).Nodup→AWp P c Q ⟨s.n,s.fr,(o,some (.raw (.U8 b ks ag n clock bents)))::s.mem⟩):AWp P c Q s:=
 AWp.birthsC o hx fun b clock bents h1 h2 _=>h b clock bents h1 h2
theorem Le.unbirth (o:Nat) {b clock:Nat} {ks ag:Bool} {n:Nat} {bents:List (Nat×D×List D)} {ents:List (D×List D)} (hx:Q4 s.mem o=some (.raw (.U8 b ks ag n clock bents))) (hp:(bents.map (·.2)).Perm ents):
  Le s ⟨s.n,s.fr,(o,some (.map ks ag n ents))::s.mem⟩:=fun C a w hs=>by
 obtain⟨ok,g,hO,hK⟩:=St.known o hs hx;obtain⟨k1,es,k2,k3⟩:=hO;refine hK _ trivial fun m'=>⟨b,es,clock,k1,k2,Fx.reorder ⟨k3.st,fun p hp'=>?_,?_,bents.map (·.2),List.Perm.refl _,by rw[List.length_map,k3.size],fun i e p he hpi=>?_⟩ hp⟩
 ·obtain⟨q,hq,rfl⟩:=List.mem_map.1 hp';exact k3.keys q hq
 ·exact List.pairwise_map.2 k3.nodup
 ·rw[List.getElem?_map]at hpi;obtain⟨q,hq,rfl⟩:=Option.map_eq_some_iff.1 hpi;exact(k3.at' i e q he hq).2
end
def swN (o p i:Nat):Nat:=if i==o then p else if i==p then o else i
theorem Nz (o p i:Nat):swN o p (swN o p i)=i:=by
 unfold swN;simp only[beq_iff_eq];repeat' split
 all_goals omega
theorem AV.ren_sw (o p:Nat) (c:AV):(c.ren (swN o p)).ren (swN o p)=c:=
 AV.rec (motive_1:=fun c=>(c.ren (swN o p)).ren (swN o p)=c) (motive_2:=fun l=>E5 (swN o p) (E5 (swN o p) l)=l) (by rfl) (fun _=>rfl) (fun _=>rfl) (fun _=>rfl) (fun i k=>by simp only[AV.ren,Nz]) (fun i k n=>by simp only[AV.ren,Nz]) (fun i k n=>by simp only[AV.ren,Nz]) (fun i=>by simp only[AV.ren,Nz])
  (fun cs h=>by simp only[AV.ren,h]) (fun cs h=>by simp only[AV.ren,h]) (fun _ cs h=>by simp only[AV.ren,h]) rfl (fun x r h1 h2=>by simp only[E5,h1,h2]) c
theorem renL_sw (o p:Nat) (l:List AV):E5 (swN o p) (E5 (swN o p) l)=l:=by
 have:=AV.ren_sw o p (.agg l);simpa only[AV.ren,AV.agg.injEq]using this
theorem Qz.ren_sw (o p:Nat) (x:Qz):(x.ren (swN o p)).ren (swN o p)=x:=by
 cases x<;> simp only[Qz.ren,renL_sw]
def AS.swap (s:AS) (o p:Nat):AS:=⟨s.n,s.fr.map fun x=>(x.1,x.2.ren (swN o p)),s.mem.map fun x=>(swN o p x.1,x.2.map (Qz.ren (swN o p)))⟩
theorem frGet_swap (o p:Nat) (f:List (Nat×AV)) (t:Nat):Zj (f.map fun x=>(x.1,x.2.ren (swN o p))) t=(Zj f t).ren (swN o p):=by
 induction f with
 |nil=>rfl
 |cons x r ih=>
  simp only[List.map_cons,Zj,ih];split<;> rfl
theorem memGet_swap (o p:Nat) (f:List (Nat×Option Qz)) (t:Nat):Q4 (f.map fun x=>(swN o p x.1,x.2.map (Qz.ren (swN o p)))) t=(Q4 f (swN o p t)).map (Qz.ren (swN o p)):=by
 induction f with
 |nil=>rfl
 |cons x r ih=>
  have e:(swN o p x.1==t)=(x.1==swN o p t):=by
   rw[Bool.eq_iff_iff,beq_iff_eq,beq_iff_eq];constructor
   ·rintro rfl;rw[Nz]
   ·intro h;rw[h,Nz]
  simp only[List.map_cons,Q4,ih,e];split<;> rfl
theorem swN_big {o p i:Nat} (ho:Nat.ble 500 o=false) (hp:Nat.ble 500 p=false) (hi:500≤i):swN o p i=i:=by
 have h1:¬500≤o:=fun h=>by rw[Nat.ble_eq_true_of_le h]at ho;cases ho
 have h2:¬500≤p:=fun h=>by rw[Nat.ble_eq_true_of_le h]at hp;cases hp
 unfold swN;simp only[beq_iff_eq];repeat' split
 all_goals omega
theorem Le.swap (s:AS) (o p:Nat) (ho:Nat.ble 500 o=false) (hp:Nat.ble 500 p=false):Le s (s.swap o p):=by
 rintro C a w ⟨ok,g,hM,h1,h2,h3⟩;have em:Q4 (s.swap o p).mem=fun i=>(Q4 s.mem (swN o p i)).map (Qz.ren (swN o p)):=funext fun i=>memGet_swap o p s.mem i
 have inv:∀{i x},Q4 (s.swap o p).mem i=some x→Q4 s.mem (swN o p i)=some (x.ren (swN o p)):=fun {i x} h=>by
  rw[em]at h;obtain⟨y,hy,rfl⟩:=Option.map_eq_some_iff.1 h;rw[hy,Qz.ren_sw]
 let g':Gh:=⟨fun i=>g.bl (swN o p i),fun i=>g.cp (swN o p i)⟩
 have vr:∀{c v},VR w ok g (Q4 s.mem) c v→VR w ok g' (Q4 (s.swap o p).mem) (c.ren (swN o p)) v:=fun {c v} h=>by
  refine VR.unren (g:=g) (M:=Q4 s.mem) (swN o p) (fun i x hx=>⟨inv hx,rfl,rfl⟩) ?_;rw[AV.ren_sw];exact h
 refine⟨ok,g',⟨fun i x hx=>?_,fun i j xi xj b hi hj hbi hbj=>?_,fun i x b hx hb=>?_,hM.okb,hM.okk,hM.size,hM.heap,fun i hi=>?_,hM.os,hM.tape,hM.output,hM.gi,hM.gb⟩,h1,h2,fun t=>?_⟩
 ·have hO:=hM.obj _ _ (inv hx);cases x with
  |blk t cs=>
   obtain⟨b,vs,k1,k2,k3,k4,k5⟩:=hO;refine⟨b,vs,k1,k2,by simpa[D6]using k3,fun j c v hc hv=>?_,k5⟩;have:=vr (k4 j (c.ren (swN o p)) v (by rw[D6,List.getElem?_map,hc];rfl) hv)
   rwa [AV.ren_sw]at this
  |arr e sz rows=>exact hO
  |map ks ag n ents=>exact hO
  |raw r=>exact RawR.at' hO rfl
 ·have:=hM.inj _ _ _ _ b (inv hi) (inv hj) hbi hbj;rw[←Nz o p i,this,Nz]
 ·obtain⟨k1,k2,k3⟩:=hM.own _ _ b (inv hx) hb;refine⟨k1,k2,?_⟩;rcases k3 with k3|⟨k3,k4⟩
  ·exact .inl k3
  ·refine .inr ⟨k3,?_⟩;rcases Nat.lt_or_ge i 500 with hi|hi
   ·exfalso;have h5:=swN_big ho hp k4;rw[Nz]at h5;omega
   ·exact hi
 ·have h5:swN o p i=i:=swN_big ho hp (by have:=Nat.le_of_ble_eq_true hi;omega);simp only[g',h5];exact hM.keep i hi
 ·have e:Zj (s.swap o p).fr t=(Zj s.fr t).ren (swN o p):=frGet_swap o p s.fr t;rw[e];exact vr (h3 t)
theorem Le.give (s:AS) (o p:Nat) (ho:Nat.ble 500 o=false) (hp:kept p=false) (hm:Q4 s.mem p=none):Le s (s.swap o p):=by
 rintro C a w ⟨ok,g,hM,h1,h2,h3⟩;have hol:o<500:=Nat.lt_of_not_le fun h=>by rw[Nat.ble_eq_true_of_le h]at ho;cases ho
 have hpl:p<1000:=Nat.lt_of_not_le fun h=>by unfold kept at hp;rw[Nat.ble_eq_true_of_le h]at hp;cases hp
 have em:Q4 (s.swap o p).mem=fun i=>(Q4 s.mem (swN o p i)).map (Qz.ren (swN o p)):=funext fun i=>memGet_swap o p s.mem i
 have inv:∀{i x},Q4 (s.swap o p).mem i=some x→Q4 s.mem (swN o p i)=some (x.ren (swN o p)):=fun {i x} h=>by
  rw[em]at h;obtain⟨y,hy,rfl⟩:=Option.map_eq_some_iff.1 h;rw[hy,Qz.ren_sw]
 let g':Gh:=⟨fun i=>g.bl (swN o p i),fun i=>g.cp (swN o p i)⟩
 have vr:∀{c v},VR w ok g (Q4 s.mem) c v→VR w ok g' (Q4 (s.swap o p).mem) (c.ren (swN o p)) v:=fun {c v} h=>by
  refine VR.unren (g:=g) (M:=Q4 s.mem) (swN o p) (fun i x hx=>⟨inv hx,rfl,rfl⟩) ?_;rw[AV.ren_sw];exact h
 have big:∀{i},i≠o→i≠p→swN o p i=i:=fun {i} h1 h2=>by
  unfold swN;simp only[beq_iff_eq,h1,h2,if_false]
 refine⟨ok,g',⟨fun i x hx=>?_,fun i j xi xj b hi hj hbi hbj=>?_,fun i x b hx hb=>?_,hM.okb,hM.okk,hM.size,hM.heap,fun i hi=>?_,hM.os,hM.tape,hM.output,hM.gi,hM.gb⟩,h1,h2,fun t=>?_⟩
 ·have hO:=hM.obj _ _ (inv hx);cases x with
  |blk t cs=>
   obtain⟨b,vs,k1,k2,k3,k4,k5⟩:=hO;refine⟨b,vs,k1,k2,by simpa[D6]using k3,fun j c v hc hv=>?_,k5⟩;have:=vr (k4 j (c.ren (swN o p)) v (by rw[D6,List.getElem?_map,hc];rfl) hv)
   rwa [AV.ren_sw]at this
  |arr e sz rows=>exact hO
  |map ks ag n ents=>exact hO
  |raw r=>exact RawR.at' hO rfl
 ·have:=hM.inj _ _ _ _ b (inv hi) (inv hj) hbi hbj;rw[←Nz o p i,this,Nz]
 ·obtain⟨k1,k2,k3⟩:=hM.own _ _ b (inv hx) hb;refine⟨k1,k2,?_⟩;rcases k3 with k3|⟨k3,k4⟩
  ·exact .inl k3
  ·by_cases e1:i=o
   ·subst e1;exfalso;have:=inv hx;rw[show swN i p i=p by unfold swN;simp,hm]at this;cases this
   ·by_cases e2:i=p
    ·subst e2;exfalso;rw[show swN o i i=o by unfold swN;simp[e1]]at k4;omega
    ·rw[big e1 e2]at k4;exact .inr ⟨k3,k4⟩
 ·have hi':1000≤i:=Nat.le_of_ble_eq_true hi;have h5:swN o p i=i:=big (by omega) (by omega);simp only[g',h5];exact hM.keep i hi
 ·have e:Zj (s.swap o p).fr t=(Zj s.fr t).ren (swN o p):=frGet_swap o p s.fr t;rw[e];exact vr (h3 t)
theorem AWp.Uk {P:Program} {c:Code} {Q:Exit→AS→Prop} {s s':AS} (l:List Nat) (h:Uk l s=some s') (k:AWp P c Q s'):AWp P c Q s:=AWp.le (Le.Uk l h) k
theorem Z4.nilArgs {P:Program} {k:Nat} {args:List AV} {r:Nat→AV} {x:Option Qz} (h:Z4 P k (args.map AV.Xk) r x):Z4 P k args r x:=by
 refine⟨h.ent,h.rcl,h.nil,h.arr,fun d w ok vals hg hok hl hv=>h.run d w ok vals hg hok (by simpa using hl) fun i c v hc hv'=>?_⟩;rw[List.getElem?_map]at hc;obtain⟨c',hc',rfl⟩:=Option.map_eq_some_iff.1 hc;exact(hv i c' v hc' hv').Xk
theorem Qv.nilArgs {P:Program} {k:Nat} {args:List AV} {m m':Mo} {r:AV} (h:Qv P k (args.map AV.Xk) m r m'):Qv P k args m r m':=by
 refine⟨h.ent,fun w ok g vals hM hl hv=>h.run w ok g vals hM (by simpa using hl) fun i c v hc hv'=>?_⟩;rw[List.getElem?_map]at hc;obtain⟨c',hc',rfl⟩:=Option.map_eq_some_iff.1 hc;exact(hv i c' v hc' hv').Xk
end Go.Proofs.YtjpldhjgehoffaaGreatDoor
namespace Go.Proofs.YtjpldhjgehoffaaGreatDoor
open Go.RowKit Go.ChangeShapes Go.WideShapes
set_option linter.unusedVariables false
inductive RT (P:Program):TypeId→List D→Prop where
 |int {t:TypeId} (n:Int) (h:P.underlying t=some (.int .i64)) (lo: -9223372036854775808≤n) (hi:n≤9223372036854775807):RT P t [.int n]
 |bool {t:TypeId} (b:Bool) (h:P.underlying t=some .bool):RT P t [.bool b]
 |str {t:TypeId} (s:ByteArray) (h:P.underlying t=some .string) (hs:s.size≤reachBytes):RT P t [.str s]
 |sl {t e:TypeId} (rows:List (List D)) (h:P.underlying t=some (.slice e)) (hl:rows.length * P.bytesOf e≤reachBytes) (hr:∀r∈rows,RT P e r):RT P t [.sl rows]
 |struct {t:TypeId} {fs:Array Field} (parts:List (List D)) (h:P.underlying t=some (.struct fs)) (hl:parts.length=fs.size)
   (hf:∀(i:Nat) (f:Field) (p:List D),fs[i]? =some f→parts[i]? =some p→RT P f.type p):RT P t parts.flatten
mutual
def D.bulk:D→Nat
 | .str s=>s.size+1
 | .sl rows=>D.Qx4 rows+1
 | .ptr row=>D.Vk row+1
 |_=>1
def D.Vk:List D→Nat
 |[]=>0
 |d::r=>D.bulk d+D.Vk r
def D.Qx4:List (List D)→Nat
 |[]=>0
 |r::l=>D.Vk r+D.Qx4 l
end
theorem bulkRow_append (a b:List D):D.Vk (a++b)=D.Vk a+D.Vk b:=by
 induction a with
 |nil=>simp[D.Vk]
 |cons d r ih=>simp only[List.cons_append,D.Vk,ih];omega
def tiled (P:Program):Nat→List Field→Nat→Bool
 |n,[],m=>n==m
 |n,f::r,m=>f.offset==n && tiled P (n+P.cellsOf f.type) r m
def plainSet (P:Program) (S:List TypeId):Bool:=
 S.all fun t=>match P.underlying t with
  |some (.int .i64)=>true
  |some .bool=>true
  |some .string=>true
  |some (.slice e)=>S.contains e && decide (0<P.cellsOf e)
  |some (.struct fs)=>fs.toList.all (fun f=>S.contains f.type) && tiled P 0 fs.toList (P.cellsOf t)
  |_=>false
section
variable {H:Type} {enc:TypeId×Value→H} {P:Program} {w:World} {spare:Nat→Bool} {held:Bool}
def Reads (w:World) (cs:List Value) (ds:List D):Prop:=
 ds.length=cs.length∧∀(i:Nat) (d:D) (v:Value),ds[i]? =some d→cs[i]? =some v→Rep w (fun b=>b<w.heap.size) d v
theorem Reads.one {d:D} {v:Value} (h:Rep w (fun b=>b<w.heap.size) d v):Reads w [v] [d]:=by
 refine⟨rfl,fun i d' v' h1 h2=>?_⟩;match i with
 |0=>simp only[List.getElem?_cons_zero,Option.some.injEq]at h1 h2;subst h1;subst h2;exact h
 |i+1=>simp at h1
theorem Reads.append {cs cs':List Value} {ds ds':List D} (h:Reads w cs ds) (h':Reads w cs' ds'):Reads w (cs++cs') (ds++ds'):=by
 refine⟨by simp[h.1,h'.1],fun i d v h1 h2=>?_⟩;by_cases hi:i<ds.length
 ·rw[List.getElem?_append_left hi]at h1;rw[List.getElem?_append_left (by rw[←h.1];exact hi)]at h2;exact h.2 i d v h1 h2
 ·rw[List.getElem?_append_right (by omega)]at h1;rw[List.getElem?_append_right (by rw[←h.1];omega),←h.1]at h2;exact h'.2 _ d v h1 h2
theorem cell?_block_lt {p:Addr} {v:Value} (h:w.cell? p=some v):p.block<w.heap.size:=by
 unfold World.cell? at h;rcases Nat.lt_or_ge p.block w.heap.size with h1|h1
 ·exact h1
 ·rw[Array.getElem?_eq_none h1]at h;cases h
theorem weights_all {t:TypeId} {ds:List (DataW H)} {i:Nat} {d:DataW H} (h:(DataW.weightsAll P t ds).all (·≤reachBytes)=true) (hi:ds[i]? =some d):(d.weights P t).all (·≤reachBytes)=true:=by
 induction ds generalizing i with
 |nil=>simp at hi
 |cons x r ih=>
  simp only[DataW.weightsAll,List.all_append,Bool.and_eq_true]at h;match i with
  |0=>simp only[List.getElem?_cons_zero,Option.some.injEq]at hi;subst hi;exact h.1
  |i+1=>exact ih h.2 (by simpa using hi)
theorem weights_each {ts:List TypeId} {ds:List (DataW H)} {i:Nat} {t:TypeId} {d:DataW H} (h:(DataW.weightsEach P ts ds).all (·≤reachBytes)=true) (ht:ts[i]? =some t) (hi:ds[i]? =some d):(d.weights P t).all (·≤reachBytes)=true:=by
 refine List.all_eq_true.2 fun n hn=>?_
 exact List.all_eq_true.1 h n (DataW.weights_mem_each ht hi n hn)
theorem rep_of_trod {S:List TypeId} (hS:plainSet P S=true):∀(fuel:Nat) (t:TypeId) (cs:List Value) (x:DataW H×List MemPlace),t∈S→DataW.trod enc P w 0 spare held fuel t cs=some x→
  (x.1.weights P t).all (·≤reachBytes)=true→∃ds,Reads w cs ds∧RT P t ds∧D.Vk ds≤Rows.uptoBulk x.1:=by
 intro fuel;induction fuel with
 |zero=>intro t cs x _ h;simp[DataW.trod]at h
 |succ n ih=>
  intro t cs x hT h hw;have hp:=List.all_eq_true.1 hS t hT;cases hu:P.underlying t with
  |none=>simp[hu]at hp
  |some u=>
   rw[hu]at hp;cases u with
   |int k=>
    cases k<;> first|(simp at hp;done)|skip
    obtain⟨m,rfl,rfl,hwf⟩:=DataW.trod_int hu h;have hb: -9223372036854775808≤m∧m≤9223372036854775807:=by simpa[Lit.wf,IntKind.min,IntKind.max,IntKind.signed,IntKind.bits]using hwf
    exact⟨[.int m],Reads.one (.int m hb.1 hb.2),.int m hu hb.1 hb.2,by simp[D.Vk,D.bulk,Rows.uptoBulk]⟩
   |bool=>
    obtain⟨b,rfl,rfl⟩:=DataW.trod_bool hu h;exact⟨[.bool b],Reads.one (.bool b),.bool b hu,by simp[D.Vk,D.bulk,Rows.uptoBulk]⟩
   |string=>
    obtain⟨s,rfl,rfl,hs⟩:=DataW.trod_string hu h;refine⟨[.str s],Reads.one (.str s hs),.str s hu ?_,by simp[D.Vk,D.bulk,Rows.uptoBulk]⟩;simpa[DataW.weights]using hw
   |slice e=>
    simp only[Bool.and_eq_true,decide_eq_true_eq]at hp;have heS:e∈S:=by simpa using hp.1
    rcases DataW.trod_slice hu h with⟨rfl,rfl⟩|⟨a,len,cap,elems,rest,n',hn,rfl,rfl,hb,hl,hm,hlen,hel,_,_⟩
    ·exact⟨[.sl []],Reads.one (.empty none 0 (fun _=>rfl) (Nat.zero_le _)),.sl [] hu (by simp) (by simp),by simp[D.Vk,D.bulk,D.Qx4,Rows.uptoBulk]⟩
    ·cases hn;simp only[DataW.weights,hu,List.all_cons,List.all_append,Bool.and_eq_true,decide_eq_true_eq,List.length_map]at hw;obtain⟨hw1,hw2,_⟩:=hw;have hex:∀i,i<len→∃q:List Value×List D,q.1.length=P.cellsOf e∧(∀j,j<P.cellsOf e→w.cell? ((a.add (i * P.cellsOf e)).add j)=q.1[j]?)∧Reads w q.1 q.2∧RT P e q.2∧∀y,elems[i]? =some y→D.Vk q.2≤Rows.uptoBulk y.1:=by
      intro i hi;have hb:=hel i hi;rw[List.getElem?_eq_getElem (by omega)]at hb;obtain⟨cs',h1,h2⟩:=Option.bind_eq_some_iff.1 hb;obtain⟨_,h3,h4⟩:=World.cells?_some h1;obtain⟨ds,h5,h6,h7⟩:=ih e cs' _ heS h2 (weights_all hw2 (i:=i) (by rw[List.getElem?_map,List.getElem?_eq_getElem (by omega)];rfl));exact⟨(cs',ds),h3,h4,h5,h6,fun y hy=>by rw[List.getElem?_eq_getElem (by omega)]at hy;cases hy;exact h7⟩
     obtain⟨q,hq⟩:=Deep.choose_lt hex;have hrows:∀(i:Nat) (r:List D),((List.range len).map fun i=>(q i).2)[i]? =some r→i<len∧r=(q i).2:=by
      intro i r hr;rw[List.getElem?_map]at hr;rcases Nat.lt_or_ge i len with hi|hi
      ·rw[List.getElem?_range hi]at hr;exact⟨hi,(Option.some.inj hr).symm⟩
      ·rw[List.getElem?_eq_none (by simpa using hi)]at hr;cases hr
     have hbk:∀(l:List (DataW H×List MemPlace)) (k:Nat),(∀i,i<l.length→∀y,l[i]? =some y→D.Vk (q (k+i)).2≤Rows.uptoBulk y.1)→D.Qx4 ((List.range' k l.length).map fun i=>(q i).2)≤Rows.uptoBulkAll (l.map (·.1)):=by
      intro l;induction l with
      |nil=>intro k _;simp[D.Qx4]
      |cons y l ihl=>
       intro k hq';simp only[List.length_cons,List.range'_succ,List.map_cons,D.Qx4,Rows.uptoBulkAll];have h1:=hq' 0 (by simp) y rfl;have h2:=ihl (k+1) fun i hi z hz=>by have:=hq' (i+1) (by simpa using hi) z (by simpa using hz);rw[show k+1+i=k+(i+1)from by omega];exact this
       rw[Nat.add_zero]at h1;omega
     have hb0:=hbk elems 0 fun i hi y hy=>by rw[Nat.zero_add];exact(hq i (by omega)).2.2.2.2 y hy
     rw[hlen,←List.range_eq_range']at hb0;refine⟨[.sl ((List.range len).map fun i=>(q i).2)],Reads.one ?_,.sl _ hu ?_ ?_,by simp only[D.Vk,D.bulk,Rows.uptoBulk];omega⟩
     ·rcases Nat.eq_zero_or_pos len with rfl|hpos
      ·exact .empty (some a) cap (by simp) hm
      ·obtain⟨b,o,sp⟩:=a;have hc0:=hq 0 hpos;have hv0:∃v,(q 0).1[0]? =some v:=⟨(q 0).1[0]'(by rw[hc0.1];exact hp.2),List.getElem?_eq_getElem _⟩
       obtain⟨v0,hv0⟩:=hv0;have hcell0:=(hc0.2.1 0 hp.2).trans hv0;have hsp:sp=none:=by simpa[Addr.add]using World.cell?_spot hcell0
       subst hsp;have hblt:=cell?_block_lt hcell0;have hrep:=Rep.sl (w:=w) (ok:=fun b=>b<w.heap.size) ((List.range len).map fun i=>(q i).2) (P.cellsOf e) b o cap (fun i j=>(q i).1.getD j .nilIface) (by simp;omega) (by simpa using hl) hm
        (fun i r hr=>by obtain⟨hi,rfl⟩:=hrows i r hr;rw[(hq i hi).2.2.1.1,(hq i hi).1]) (by simpa[Addr.add]using hblt) ?_ ?_
       ·simpa using hrep
       ·intro i j hi hj;have hi':i<len:=by simpa using hi
        have:=(hq i hi').2.1 j hj;rw[Deep.add_add,add_plain]at this;rw[this,List.getD,List.getElem?_eq_getElem (by rw[(hq i hi').1];exact hj)];rfl
       ·intro i j r d hr hd;obtain⟨hi,rfl⟩:=hrows i r hr;have hj:j<(q i).2.length:=(List.getElem?_eq_some_iff.1 hd).1;rw[(hq i hi).2.2.1.1]at hj;refine(hq i hi).2.2.1.2 j d _ hd ?_;rw[List.getD,List.getElem?_eq_getElem hj];rfl
     ·have:len * P.bytesOf e≤(elems.length+rest.length) * P.bytesOf e:=Nat.mul_le_mul_right _ (by omega);simp;omega
     ·intro r hr;obtain⟨i,hi⟩:=List.mem_iff_getElem?.1 hr;obtain⟨hi',rfl⟩:=hrows i r hi;exact(hq i hi').2.2.2.1
   |struct fs=>
    simp only[Bool.and_eq_true]at hp;obtain⟨xs,n',hn,rfl,hcl,hxl,hf⟩:=DataW.trod_struct hu h;cases hn;simp only[DataW.weights,hu]at hw;have key:∀(l:List Field) (k pos:Nat),(∀i,l[i]? =fs[k+i]?)→tiled P pos l (P.cellsOf t)=true→pos≤cs.length→∃parts:List (List D),parts.length=l.length∧Reads w (cs.drop pos) parts.flatten∧D.Vk parts.flatten≤Rows.uptoBulkAll ((xs.drop k).map (·.1))∧
      ∀(i:Nat) (f:Field) (p:List D),l[i]? =some f→parts[i]? =some p→RT P f.type p:=by
     intro l;induction l with
     |nil=>
      intro k pos _ ht hpos;simp only[tiled,beq_iff_eq]at ht;refine⟨[],rfl,?_,by simp[D.Vk],by simp⟩;rw[List.drop_of_length_le (by omega)];exact⟨rfl,by simp⟩
     |cons f r ihl=>
      intro k pos hl ht hpos;simp only[tiled,Bool.and_eq_true,beq_iff_eq]at ht;have hfk:fs[k]? =some f:=by have:=hl 0;simpa using this.symm
      have hfS:f.type∈S:=by
       have:=List.all_eq_true.1 hp.1 f (by have:=Array.mem_of_getElem? hfk;simpa using this);simpa using this
      have hx:=hf k f hfk;have hkx:k<xs.length:=by rw[hxl];exact(Array.getElem?_eq_some_iff.1 hfk).1
      rw[List.getElem?_eq_getElem hkx,ht.1]at hx;obtain⟨ds,h5,h6,h6b⟩:=ih f.type _ _ hfS hx (weights_each hw (i:=k) (by rw[List.getElem?_map];simp[hfk]) (by rw[List.getElem?_map,List.getElem?_eq_getElem hkx];rfl));have hle:pos+P.cellsOf f.type≤cs.length:=by
       have hm:∀(l:List Field) (p m:Nat),tiled P p l m=true→p≤m:=by
        intro l;induction l with
        |nil=>intro p m h;simp only[tiled,beq_iff_eq]at h;omega
        |cons g r ih=>intro p m h;simp only[tiled,Bool.and_eq_true]at h;have:=ih _ _ h.2;omega
       rw[hcl];exact hm _ _ _ ht.2
      obtain⟨parts,h7,h8,h8b,h9⟩:=ihl (k+1) (pos+P.cellsOf f.type) (fun i=>by have:=hl (i+1);rw[List.getElem?_cons_succ]at this;rw[this];congr 1;omega) ht.2 hle;refine⟨ds::parts,by simp[h7],?_,?_,?_⟩
      ·have e:cs.drop pos=(cs.drop pos).take (P.cellsOf f.type)++cs.drop (pos+P.cellsOf f.type):=by
        rw[←List.drop_drop,List.take_append_drop]
       rw[e,List.flatten_cons];exact h5.append h8
      ·rw[List.flatten_cons,bulkRow_append,List.drop_eq_getElem_cons hkx];simp only[List.map_cons,Rows.uptoBulkAll];omega
      ·intro i g p hg hpp;match i with
       |0=>simp only[List.getElem?_cons_zero,Option.some.injEq]at hg hpp;subst hg;subst hpp;exact h6
       |i+1=>exact h9 i g p (by simpa using hg) (by simpa using hpp)
    obtain⟨parts,h7,h8,h8b,h9⟩:=key fs.toList 0 0 (fun i=>by simp) hp.2 (Nat.zero_le _);refine⟨parts.flatten,by simpa using h8,.struct parts hu (by simpa using h7) fun i f p hfi hpi=>h9 i f p (by simpa using hfi) hpi,?_⟩;simp only[Rows.uptoBulk];simp only[List.drop_zero]at h8b;omega
   |_=>simp at hp
end
end Go.Proofs.YtjpldhjgehoffaaGreatDoor
namespace Go.Proofs.YtjpldhjgehoffaaGreatDoor
open Go.RowKit Go.ChangeShapes Go.WideShapes
set_option linter.unusedVariables false
inductive Mq (P:Program):TypeId→AV→Prop where
 |one {t:TypeId} {d:D} (h:RT P t [d]) (hn:∀fs,P.underlying t≠some (.struct fs)):Mq P t (.d d)
 |agg {t:TypeId} {ds:List D} {fs:Array Field} (h:RT P t ds) (hs:P.underlying t=some (.struct fs)):Mq P t (.agg (ds.map .d))
def AV.bulk:AV→Nat
 | .d x=>x.bulk
 | .agg cs=>D.Vk ((Sw cs).getD [])
 |_=>0
def avBulk:List AV→Nat
 |[]=>0
 |c::r=>c.bulk+avBulk r
theorem toDs_map (ds:List D):Sw (ds.map .d)=some ds:=by
 induction ds with
 |nil=>rfl
 |cons d r ih=>simp only[List.map_cons,Sw,toD1,ih]
def Qv7 (P:Program):List TypeId→List AV→Prop
 |[],[]=>True
 |t::ts,c::cs=>Mq P t c∧Qv7 P ts cs
 |_,_=>False
section
variable {H:Type} {enc:TypeId×Value→H} {P:Program} {w W W':World}
theorem reads_vr {cs:List Value} {ds:List D} (h:Reads w cs ds) (i:Nat) (c:AV) (v:Value) (hc:(ds.map AV.d)[i]? =some c) (hv:cs[i]? =some v):VR w (fun b=>b<w.heap.size) noG noM c v:=by
 rw[List.getElem?_map]at hc;cases hd:ds[i]? with
 |none=>rw[hd]at hc;cases hc
 |some d=>
  rw[hd]at hc;cases hc;exact .d d v (h.2 i d v hd hv)
theorem reads_cell {cs:List Value} {ds:List D} (h:Reads w cs ds) (i:Nat) (v:Value) (hv:cs[i]? =some v):v.oneCell'=true:=by
 have hi:i<ds.length:=by rw[h.1];exact(List.getElem?_eq_some_iff.1 hv).1
 exact(h.2 i ds[i] v (List.getElem?_eq_getElem hi) hv).oneCell
theorem arg_of_trod {S:List TypeId} (hS:plainSet P S=true) {spare:Nat→Bool} {held:Bool} {t:TypeId} {v:Value} {d:DataW H} {ps:List MemPlace} (hT:t∈S) {base:Nat} (hval:Value.okWide P w .any base t v)
  (h:DataW.Trod enc P w 0 spare held t v d ps) (hw:(d.weights P t).all (·≤reachBytes)=true):∃c,Mq P t c∧VR w (fun b=>b<w.heap.size) noG noM c v∧c.bulk≤Rows.uptoBulk d:=by
 obtain⟨n,hn⟩:=h;obtain⟨ds,h1,h2,hbk⟩:=rep_of_trod hS n t _ _ hT hn hw;have hone:(∀fs,P.underlying t≠some (.struct fs))→v.cells= #[v]→∃c,Mq P t c∧VR w (fun b=>b<w.heap.size) noG noM c v∧c.bulk≤Rows.uptoBulk d:=fun hns hcells=>by
  rw[hcells]at h1;have hl:=h1.1;match ds,hl with
  |[d],_=>exact⟨.d d,.one h2 hns,.d d v (h1.2 0 d v rfl rfl),by simpa[D.Vk,AV.bulk]using hbk⟩
 have hp:=List.all_eq_true.1 hS t hT;cases hu:P.underlying t with
 |none=>simp[hu]at hp
 |some u=>
  cases u with
  |int k=>obtain⟨_,rfl⟩:=okWide_int hu hval;exact hone (by simp[hu]) rfl
  |bool=>obtain⟨_,rfl⟩:=okWide_bool hu hval;exact hone (by simp[hu]) rfl
  |string=>obtain⟨_,rfl⟩:=okWide_string hu hval;exact hone (by simp[hu]) rfl
  |slice e=>obtain⟨_,_,_,rfl⟩:=okWide_slice hu hval;exact hone (by simp[hu]) rfl
  |struct fs=>
   obtain⟨cs,rfl,_⟩:=okWide_struct hu hval;have h1':Reads w cs.toList ds:=h1;refine⟨.agg (ds.map .d),.agg h2 hu,.agg _ _ (by have:=h1'.1;simpa using this) (fun i c v hc hv=>?_) (fun i v hv=>?_),by simp only[AV.bulk,toDs_map,Option.getD_some];exact hbk⟩
   ·exact reads_vr h1' i c v hc (by simpa using hv)
   ·exact reads_cell h1' i v (by simpa using hv)
  |_=>simp[hu]at hp
theorem args_of_trod {S:List TypeId} (hS:plainSet P S=true) {spare:Nat→Bool} {held:Bool} {base:Nat}:∀{ts:List TypeId} {vs:List Value} {ds:List (DataW H)} {ps:List MemPlace},(∀t∈ts,t∈S)→
  (∀(j:Nat) t v,ts[j]? =some t→vs[j]? =some v→Value.okWide P w .any base t v)→DataW.TrodAll enc P w 0 spare held ts vs ds ps→(DataW.weightsEach P ts ds).all (·≤reachBytes)=true→
  ∃cs,Qv7 P ts cs∧cs.length=vs.length∧(∀(i:Nat) (c:AV) (v:Value),cs[i]? =some c→vs[i]? =some v→VR w (fun b=>b<w.heap.size) noG noM c v)∧avBulk cs≤Rows.uptoBulkAll ds
 |[],[],[],_,_,_,_,_=>⟨[],trivial,rfl,fun i c v h=>by simp at h,by simp[avBulk]⟩
 |t::ts,v::vs,d::ds,ps,hT,hval,⟨p,q,h1,h2,e⟩,hw=>by
  simp only[DataW.weightsEach,List.all_append,Bool.and_eq_true]at hw;obtain⟨c,k1,k2,k2b⟩:=arg_of_trod hS (hT t (List.mem_cons_self ..)) (hval 0 t v rfl rfl) h1 hw.1;obtain⟨cs,k3,k4,k5,k6⟩:=args_of_trod hS (fun t ht=>hT t (List.mem_cons_of_mem _ ht)) (fun j t v ht hv=>hval (j+1) t v (by simpa using ht) (by simpa using hv)) h2 hw.2;refine⟨c::cs,⟨k1,k3⟩,by simp[k4],fun i c' v' hc hv=>?_,by simp only[avBulk,Rows.uptoBulkAll];omega⟩;match i with
  |0=>simp only[List.getElem?_cons_zero,Option.some.injEq]at hc hv;subst hc;subst hv;exact k2
  |i+1=>exact k5 i c' v' (by simpa using hc) (by simpa using hv)
theorem trodAll_below (hl:laidOutB P=true) (hb:Below W.heap.size W W'):∀{ts:List TypeId} {vs:List Value} {ds:List (DataW H)} {ps:List MemPlace},(∀t∈ts,P.readableRec t=true∧t<P.types.size)→
  DataW.TrodAll enc P W 0 (fun _=>true) true ts vs ds ps→(∀x∈ps,x.block<W.heap.size)→DataW.TrodAll enc P W' 0 (fun b=>decide (b<W.heap.size)) true ts vs ds ps
 |[],[],[],_,_,h,_=>h
 |t::ts,v::vs,d::ds,ps,hT,⟨p,q,h1,h2,e⟩,hlt=>by
  subst e;exact⟨p,q,Below.trod hl (hT t (List.mem_cons_self ..)).1 (hT t (List.mem_cons_self ..)).2 h1 hb (fun x hx=>hlt x (List.mem_append_left _ hx)),
   trodAll_below hl hb (fun t ht=>hT t (List.mem_cons_of_mem _ ht)) h2 (fun x hx=>hlt x (List.mem_append_right _ hx)),rfl⟩
theorem trodAll_len:∀{ts:List TypeId} {vs:List Value} {ds:List (DataW H)} {ps:List MemPlace} {b:Nat} {sp:Nat→Bool} {hd:Bool},DataW.TrodAll enc P W b sp hd ts vs ds ps→ds.length=ts.length
 |[],[],[],_,_,_,_,_=>rfl
 |t::ts,v::vs,d::ds,ps,_,_,_,⟨p,q,h1,h2,e⟩=>by simp[trodAll_len h2]
theorem law_contract {S:List TypeId} (hS:plainSet P S=true) {k:Nat} {fn:Func} (hp:∀t∈fn.params.toList,t∈S) {s:ChangeSpec} (hv:s.vars=[]) {tb:TypeId} (hrt:fn.resultTypes= #[tb]) (hub:P.underlying tb=some .bool)
  (hl:laidOutB P=true) (hr:∀t∈fn.params.toList,P.readableRec t=true∧t<P.types.size)
  (hs:∀ds:List (DataW H),ds.length=fn.params.toList.length→s.fn H ds={ results:=[.lit (.bool true)],args:=ds })
  {B:Nat} (hspec:∀cs:List AV,Qv7 P fn.params.toList cs→avBulk cs≤B→Z4 P k cs (fun _=>.d (.bool true)) none)
  {base:Nat} {args:Array Value} {ds gs:List (DataW H)} {before:List MemPlace} (hbulk:Rows.uptoBulkAll ds≤B) (hval:∀(j:Nat) t v,fn.params[j]? =some t→args[j]? =some v→Value.okWide P W .any base t v)
  (hW:DataW.Whole enc P fn.params.toList s.vars false W args.toList ds gs before) (hw:(DataW.weightsEach P (fn.params.toList++s.plain.varTypes P) (ds++gs)).all (·≤reachBytes)=true) (hgi:GI W):
  Calls P k args W fun e W'=>∃v,e= .returned v∧s.post enc P fn false true false false W args v W':=by
 have hW':=hW;obtain⟨p,q,hA,hV,rfl,hfz,hnd⟩:=hW;rw[hv]at hV;obtain⟨hgs,rfl⟩:=trodVars_none hV;subst hgs;have hlen:=trodAll_len hA;have hw':(DataW.weightsEach P fn.params.toList ds).all (·≤reachBytes)=true:=by
  refine List.all_eq_true.2 fun n hn=>List.all_eq_true.1 hw n ?_
  rw[List.append_nil];have:∀(ts us:List TypeId) (ds:List (DataW H)),n∈DataW.weightsEach P ts ds→n∈DataW.weightsEach P (ts++us) ds:=by
   intro ts;induction ts with
   |nil=>intro us ds h;simp[DataW.weightsEach]at h
   |cons t r ih=>
    intro us ds h;cases ds with
    |nil=>simp[DataW.weightsEach]at h
    |cons d ds=>
     simp only[List.cons_append,DataW.weightsEach,List.mem_append]at h⊢;exact h.imp id (ih us ds)
  exact this _ _ _ hn
 obtain⟨cs,h1,h2,h3,h4⟩:=args_of_trod hS (base:=base) hp (fun j t v ht hv=>hval j t v (by simpa using ht) (by simpa using hv)) hA hw';refine((hspec cs h1 (by omega)).run 0 W (fun b=>b<W.heap.size) args hgi (fun b hb=>hb) (by simpa using h2) (fun i c v hc hv=>h3 i c v hc (by simpa using hv))).mono ?_;rintro e W' ⟨v,ok',g',rfl,hB,_,_,hvr,_⟩;have hvt:v= .bool true:=by
  cases hvr with
  |d _ _ h=>cases h;rfl
 subst hvt;have hlt:∀x∈p++[],x.block<W.heap.size:=hW'.lt;refine⟨_,rfl,ds,[],p++[],[],p++[],[],hW',?_,?_,?_,hB.frame _,fun h=>by cases h⟩
 ·rw[List.append_nil,hs ds hlen,hrt];exact trodAll_cons_mk (shut_bool hub _) trodAll_mk0
 ·rw[List.append_nil,hs ds hlen,List.append_nil];exact trodAll_below hl hB hr hA (by simpa using hlt)
 ·rw[List.append_nil,hs ds hlen,hv];rfl
end
end Go.Proofs.YtjpldhjgehoffaaGreatDoor
namespace Go.Proofs.YtjpldhjgehoffaaGreatDoor
set_option linter.unusedVariables false
section
variable {P:Program} {t e:TypeId} {ds:List D} {c:AV}
theorem RT.J7 (h:RT P t ds) (hu:P.underlying t=some (.int .i64)):∃n:Int,ds=[.int n]∧-9223372036854775808≤n∧n≤9223372036854775807:=by
 cases h<;> simp_all
theorem RT.M7 (h:RT P t ds) (hu:P.underlying t=some .bool):∃b:Bool,ds=[.bool b]:=by
 cases h<;> simp_all
theorem RT.R9 (h:RT P t ds) (hu:P.underlying t=some .string):∃s:ByteArray,ds=[.str s]∧s.size≤reachBytes:=by
 cases h<;> simp_all
theorem RT.sl_inv (h:RT P t ds) (hu:P.underlying t=some (.slice e)):∃rows:List (List D),ds=[.sl rows]∧rows.length * P.bytesOf e≤reachBytes∧∀r∈rows,RT P e r:=by
 cases h with
 |sl rows h hl hr=>
  rw[hu]at h;cases h;exact⟨rows,rfl,hl,hr⟩
 |_=>simp_all
theorem RT.struct_inv {fs:Array Field} (h:RT P t ds) (hu:P.underlying t=some (.struct fs)):∃parts:List (List D),ds=parts.flatten∧parts.length=fs.size∧
  ∀(i:Nat) (f:Field) (p:List D),fs[i]? =some f→parts[i]? =some p→RT P f.type p:=by
 cases h with
 |struct parts h hl hf=>
  rw[hu]at h;cases h;exact⟨parts,rfl,hl,hf⟩
 |_=>simp_all
theorem RT.struct3_inv {f0 f1 f2:Field} (h:RT P t ds) (hu:P.underlying t=some (.struct #[f0,f1,f2])):∃p0 p1 p2,ds=p0++(p1++p2)∧RT P f0.type p0∧RT P f1.type p1∧RT P f2.type p2:=by
 obtain⟨parts,rfl,hl,hf⟩:=h.struct_inv hu;match parts,hl with
 |[p0,p1,p2],_=>exact⟨p0,p1,p2,by simp,hf 0 f0 p0 rfl rfl,hf 1 f1 p1 rfl rfl,hf 2 f2 p2 rfl rfl⟩
theorem rows_inv {α:Type} {row:α→List D} {p:α→Prop}:∀{rows:List (List D)},(∀r∈rows,∃x,r=row x∧p x)→∃l:List α,rows=l.map row∧∀x∈l,p x
 |[],_=>⟨[],rfl,by simp⟩
 |r::rs,h=>by
  obtain⟨x,rfl,hx⟩:=h r (List.mem_cons_self ..);obtain⟨l,rfl,hl⟩:=rows_inv (rows:=rs) fun r hr=>h r (List.mem_cons_of_mem _ hr)
  exact⟨x::l,rfl,by simpa using⟨hx,hl⟩⟩
theorem RT.list_inv {α:Type} {row:α→List D} {p:α→Prop} (hinv:∀r,RT P e r→∃x,r=row x∧p x) (h:RT P t ds) (hu:P.underlying t=some (.slice e)):
  ∃l:List α,ds=[.sl (l.map row)]∧l.length * P.bytesOf e≤reachBytes∧∀x∈l,p x:=by
 obtain⟨rows,rfl,hl,hr⟩:=h.sl_inv hu;obtain⟨l,rfl,hp⟩:=rows_inv fun r h=>hinv r (hr r h)
 exact⟨l,rfl,by simpa using hl,hp⟩
theorem RT.strs_inv (h:RT P t ds) (hu:P.underlying t=some (.slice e)) (he:P.underlying e=some .string):
  ∃l:List ByteArray,ds=[.sl (l.map fun n=>[.str n])]∧l.length * P.bytesOf e≤reachBytes∧∀n∈l,n.size≤reachBytes:=
 RT.list_inv (fun r hr=>hr.R9 he) h hu
theorem Mq.one_inv (h:Mq P t c) (hn:∀fs,P.underlying t≠some (.struct fs)):∃d,c= .d d∧RT P t [d]:=by
 cases h with
 |one h _=>exact⟨_,rfl,h⟩
 |agg h hs=>exact absurd hs (hn _)
theorem Mq.Qv6 {fs:Array Field} (h:Mq P t c) (hu:P.underlying t=some (.struct fs)):∃ds,c= .agg (ds.map .d)∧RT P t ds:=by
 cases h with
 |one h hn=>exact absurd hu (hn _)
 |agg h hs=>exact⟨_,rfl,h⟩
theorem Mq.int (h:Mq P t c) (hu:P.underlying t=some (.int .i64)):∃n:Int,c= .d (.int n)∧-9223372036854775808≤n∧n≤9223372036854775807:=by
 obtain⟨d,rfl,hd⟩:=h.one_inv (by simp[hu]);obtain⟨n,hn,h1,h2⟩:=hd.J7 hu;exact⟨n,by simpa using hn,h1,h2⟩
theorem Mq.bool (h:Mq P t c) (hu:P.underlying t=some .bool):∃b:Bool,c= .d (.bool b):=by
 obtain⟨d,rfl,hd⟩:=h.one_inv (by simp[hu]);obtain⟨n,hn⟩:=hd.M7 hu;exact⟨n,by simpa using hn⟩
theorem Mq.str (h:Mq P t c) (hu:P.underlying t=some .string):∃s:ByteArray,c= .d (.str s)∧s.size≤reachBytes:=by
 obtain⟨d,rfl,hd⟩:=h.one_inv (by simp[hu]);obtain⟨n,hn,h1⟩:=hd.R9 hu;exact⟨n,by simpa using hn,h1⟩
theorem Mq.list {α:Type} {row:α→List D} {p:α→Prop} (h:Mq P t c) (hinv:∀r,RT P e r→∃x,r=row x∧p x) (hu:P.underlying t=some (.slice e)):
  ∃l:List α,c= .d (.sl (l.map row))∧l.length * P.bytesOf e≤reachBytes∧∀x∈l,p x:=by
 obtain⟨d,rfl,hd⟩:=h.one_inv (by simp[hu]);obtain⟨l,hn,h1⟩:=RT.list_inv hinv hd hu;exact⟨l,by simpa using hn,h1⟩
theorem Qv7.cons_inv {ts:List TypeId} {cs:List AV} (h:Qv7 P (t::ts) cs):∃c r,cs=c::r∧Mq P t c∧Qv7 P ts r:=by
 cases cs with
 |nil=>exact h.elim
 |cons c r=>exact⟨c,r,rfl,h.1,h.2⟩
theorem Qv7.nil_inv {cs:List AV} (h:Qv7 P [] cs):cs=[]:=by
 cases cs with
 |nil=>rfl
 |cons c r=>exact h.elim
end
end Go.Proofs.YtjpldhjgehoffaaGreatDoor
