/- Numerals and keys, texts. -/
import Derived.Test.YtlflbkpmfhhikaaGreatDoorJKC
import Derived.Test.YtlflbkpmfhhikaaGreatDoorJKD
import Derived.Test.YtlflbkpmfhhikaaGreatDoorJTS
import Derived.Shelf.Small.Wraps
import Derived.Shelf.LaysM
import Derived.Shelf.LaysC
import Derived.Shelf.Strconv.AtoiAll
import Derived.Shelf.Strconv.ErrVarAll
import Derived.Shelf.Strings.Search1
import Derived.Shelf.Strings.Search2
import Derived.Shelf.Sort.Plain
import Derived.Shelf.Slices.CompactS
import Derived.Shelf.Slices.In.SortNone
import Derived.Ground.Names2Prog
import Derived.Test.YtlflbkpmfhhikaaGreatDoorProg
import Derived.Shelf.Strconv.Itoa3
import Derived.Laws.BitsLemmas
namespace Go.Proofs
open Go.Shelf
def Tryz.lays103_ren:Go.Shelf.Ren:=⟨fun | 103=>159 | 210=>187 | 206=>202 | n=>n,fun | 9=>9 | 4=>4 | 24=>286 | 3=>3 | n=>n,fun | n=>n⟩
theorem Tryz.lays103:Go.Proofs.Lays.n103 Tryz.prog Tryz.lays103_ren:={
 mixed:=by kernel_rfl
 f103:=Tryz.func159.trans (congrArg some (by kernel_rfl))
 f206:=Tryz.func202.trans (congrArg some (by kernel_rfl))
 f210:=Tryz.func187.trans (congrArg some (by kernel_rfl))
 t3:=Tryz.underlying3
 a3:=Tryz.isAgg3
 z3:=Tryz.sizeOf3
 v3:=Tryz.zeroValue3
 t4:=Tryz.underlying4
 a4:=Tryz.isAgg4
 z4:=Tryz.sizeOf4
 v4:=Tryz.zeroValue4
 t9:=Tryz.underlying9
 a9:=Tryz.isAgg9
 z9:=Tryz.sizeOf9
 v9:=Tryz.zeroValue9
 t24:=Tryz.underlying286
 a24:=Tryz.isAgg286
 z24:=Tryz.sizeOf286
 v24:=Tryz.zeroValue286}
open Go.RowKit in
theorem Tryz.strings_CutPrefix (s p:ByteArray) (w:World):
  Calls Tryz.prog 159 #[.string s,.string p] w fun e w'=>e= .returned (.tuple #[.string ⟨(Lib.trimPrefix s.data.toList p.data.toList).toArray⟩,.bool (Lib.hasPrefix s.data.toList p.data.toList)])∧w'=w:=Any.strings_CutPrefix Tryz.lays103 s p w
def Tryz.laysC172_ren:Go.Shelf.Ren:=⟨fun | 172=>185 | 244=>199 | 245=>200 | 247=>209 | 279=>210 | 280=>211 | 281=>212 | 282=>213 | 287=>217 | 316=>218 | 171=>186 | 205=>219 | 321=>224 | 322=>225 | 243=>201 | 246=>214 | 283=>220 | 284=>221 | 285=>222 | 286=>223 | 129=>170 | 317=>226 | 318=>227 | 319=>228 | 320=>229 | 337=>230 | 338=>231 | n=>n,fun | 9=>9 | 3=>3 | 75=>311 | 76=>312 | 4=>4 | 5=>5 | 167=>330 | 37=>328 | 0=>0 | 85=>331 | 2=>2 | 168=>333 | 53=>299 | 175=>339 | 46=>234 | 210=>343 | 127=>350 | 145=>353 | 143=>351 | 21=>21 | 171=>345 | 173=>347 | 212=>355 | 51=>297 | 20=>20 | 213=>356 | 232=>357 | 233=>358 | 80=>359 | n=>n,fun | 15=>1 | 16=>2 | 17=>3 | 18=>4 | 19=>5 | n=>n⟩
theorem Tryz.laysC172:Go.Proofs.LaysC.n172 Tryz.prog Tryz.laysC172_ren:={
 mixed:=by kernel_rfl
 f129:=Tryz.func170.trans (congrArg some (by kernel_rfl))
 f171:=Tryz.func186.trans (congrArg some (by kernel_rfl))
 f172:=Tryz.func185.trans (congrArg some (by kernel_rfl))
 f205:=Tryz.func219.trans (congrArg some (by kernel_rfl))
 f243:=Tryz.func201.trans (congrArg some (by kernel_rfl))
 f244:=Tryz.func199.trans (congrArg some (by kernel_rfl))
 f245:=Tryz.func200.trans (congrArg some (by kernel_rfl))
 f246:=Tryz.func214.trans (congrArg some (by kernel_rfl))
 f247:=Tryz.func209.trans (congrArg some (by kernel_rfl))
 f279:=Tryz.func210.trans (congrArg some (by kernel_rfl))
 f280:=Tryz.func211.trans (congrArg some (by kernel_rfl))
 f281:=Tryz.func212.trans (congrArg some (by kernel_rfl))
 f282:=Tryz.func213.trans (congrArg some (by kernel_rfl))
 f283:=Tryz.func220.trans (congrArg some (by kernel_rfl))
 f284:=Tryz.func221.trans (congrArg some (by kernel_rfl))
 f285:=Tryz.func222.trans (congrArg some (by kernel_rfl))
 f286:=Tryz.func223.trans (congrArg some (by kernel_rfl))
 f287:=Tryz.func217.trans (congrArg some (by kernel_rfl))
 f316:=Tryz.func218.trans (congrArg some (by kernel_rfl))
 f317:=Tryz.func226.trans (congrArg some (by kernel_rfl))
 f318:=Tryz.func227.trans (congrArg some (by kernel_rfl))
 f319:=Tryz.func228.trans (congrArg some (by kernel_rfl))
 f320:=Tryz.func229.trans (congrArg some (by kernel_rfl))
 f321:=Tryz.func224.trans (congrArg some (by kernel_rfl))
 f322:=Tryz.func225.trans (congrArg some (by kernel_rfl))
 f337:=Tryz.func230.trans (congrArg some (by kernel_rfl))
 f338:=Tryz.func231.trans (congrArg some (by kernel_rfl))
 t0:=Tryz.underlying0
 a0:=Tryz.isAgg0
 z0:=Tryz.sizeOf0
 v0:=Tryz.zeroValue0
 t2:=Tryz.underlying2
 a2:=Tryz.isAgg2
 z2:=Tryz.sizeOf2
 v2:=Tryz.zeroValue2
 t3:=Tryz.underlying3
 a3:=Tryz.isAgg3
 z3:=Tryz.sizeOf3
 v3:=Tryz.zeroValue3
 t4:=Tryz.underlying4
 a4:=Tryz.isAgg4
 z4:=Tryz.sizeOf4
 v4:=Tryz.zeroValue4
 t5:=Tryz.underlying5
 a5:=Tryz.isAgg5
 z5:=Tryz.sizeOf5
 v5:=Tryz.zeroValue5
 t9:=Tryz.underlying9
 a9:=Tryz.isAgg9
 z9:=Tryz.sizeOf9
 v9:=Tryz.zeroValue9
 t20:=Tryz.underlying20
 a20:=Tryz.isAgg20
 z20:=Tryz.sizeOf20
 v20:=Tryz.zeroValue20
 t21:=Tryz.underlying21
 a21:=Tryz.isAgg21
 z21:=Tryz.sizeOf21
 v21:=Tryz.zeroValue21
 t37:=Tryz.underlying328
 a37:=Tryz.isAgg328
 z37:=Tryz.sizeOf328
 v37:=Tryz.zeroValue328
 t46:=Tryz.underlying234
 a46:=Tryz.isAgg234
 z46:=Tryz.sizeOf234
 v46:=Tryz.zeroValue234
 t51:=Tryz.underlying297
 a51:=Tryz.isAgg297
 z51:=Tryz.sizeOf297
 v51:=Tryz.zeroValue297
 t53:=Tryz.underlying299
 a53:=Tryz.isAgg299
 z53:=Tryz.sizeOf299
 v53:=Tryz.zeroValue299
 t75:=Tryz.underlying311
 a75:=Tryz.isAgg311
 z75:=Tryz.sizeOf311
 v75:=Tryz.zeroValue311
 t76:=Tryz.underlying312
 a76:=Tryz.isAgg312
 z76:=Tryz.sizeOf312
 v76:=Tryz.zeroValue312
 t85:=Tryz.underlying331
 a85:=Tryz.isAgg331
 z85:=Tryz.sizeOf331
 v85:=Tryz.zeroValue331
 t127:=Tryz.underlying350
 a127:=Tryz.isAgg350
 z127:=Tryz.sizeOf350
 v127:=Tryz.zeroValue350
 t143:=Tryz.underlying351
 a143:=Tryz.isAgg351
 z143:=Tryz.sizeOf351
 v143:=Tryz.zeroValue351
 t145:=Tryz.underlying353
 a145:=Tryz.isAgg353
 z145:=Tryz.sizeOf353
 v145:=Tryz.zeroValue353
 t167:=Tryz.underlying330
 a167:=Tryz.isAgg330
 z167:=Tryz.sizeOf330
 v167:=Tryz.zeroValue330
 t168:=Tryz.underlying333
 a168:=Tryz.isAgg333
 z168:=Tryz.sizeOf333
 v168:=Tryz.zeroValue333
 t171:=Tryz.underlying345
 a171:=Tryz.isAgg345
 z171:=Tryz.sizeOf345
 v171:=Tryz.zeroValue345
 t173:=Tryz.underlying347
 a173:=Tryz.isAgg347
 z173:=Tryz.sizeOf347
 v173:=Tryz.zeroValue347
 t175:=Tryz.underlying339
 a175:=Tryz.isAgg339
 z175:=Tryz.sizeOf339
 v175:=Tryz.zeroValue339
 t210:=Tryz.underlying343
 a210:=Tryz.isAgg343
 z210:=Tryz.sizeOf343
 v210:=Tryz.zeroValue343
 t212:=Tryz.underlying355
 a212:=Tryz.isAgg355
 z212:=Tryz.sizeOf355
 v212:=Tryz.zeroValue355
 t213:=Tryz.underlying356
 a213:=Tryz.isAgg356
 z213:=Tryz.sizeOf356
 t232:=Tryz.underlying357
 a232:=Tryz.isAgg357
 z232:=Tryz.sizeOf357
 v232:=Tryz.zeroValue357
 t233:=Tryz.underlying358
 a233:=Tryz.isAgg358
 z233:=Tryz.sizeOf358
 v233:=Tryz.zeroValue358
 g15:=by kernel_rfl
 g16:=by kernel_rfl
 g17:=by kernel_rfl
 g18:=by kernel_rfl
 g19:=by kernel_rfl
 t80:=Tryz.underlying359
 a80:=Tryz.isAgg359
 z80:=Tryz.sizeOf359
 v80:=Tryz.zeroValue359
 i0:=by kernel_rfl
 i2:=by kernel_rfl
 i3:=by kernel_rfl
 i4:=by kernel_rfl
 i5:=by kernel_rfl
 i9:=by kernel_rfl
 i20:=by kernel_rfl
 i21:=by kernel_rfl
 i37:=by kernel_rfl
 i46:=by kernel_rfl
 i51:=by kernel_rfl
 i53:=by kernel_rfl
 i75:=by kernel_rfl
 i76:=by kernel_rfl
 i80:=by kernel_rfl
 i85:=by kernel_rfl
 i127:=by kernel_rfl
 i143:=by kernel_rfl
 i145:=by kernel_rfl
 i167:=by kernel_rfl
 i168:=by kernel_rfl
 i171:=by kernel_rfl
 i173:=by kernel_rfl
 i175:=by kernel_rfl
 i210:=by kernel_rfl
 i212:=by kernel_rfl
 i232:=by kernel_rfl
 i233:=by kernel_rfl
 m15:=by kernel_rfl
 m16:=by kernel_rfl
 m17:=by kernel_rfl
 m18:=by kernel_rfl
 m19:=by kernel_rfl
 c0:=by kernel_rfl
 c2:=by kernel_rfl
 c3:=by kernel_rfl
 c4:=by kernel_rfl
 c5:=by kernel_rfl
 c9:=by kernel_rfl
 c20:=by kernel_rfl
 c21:=by kernel_rfl
 c37:=by kernel_rfl
 c46:=by kernel_rfl
 c51:=by kernel_rfl
 c53:=by kernel_rfl
 c75:=by kernel_rfl
 c76:=by kernel_rfl
 c80:=by kernel_rfl
 c85:=by kernel_rfl
 c127:=by kernel_rfl
 c143:=by kernel_rfl
 c145:=by kernel_rfl
 c167:=by kernel_rfl
 c168:=by kernel_rfl
 c171:=by kernel_rfl
 c173:=by kernel_rfl
 c175:=by kernel_rfl
 c210:=by kernel_rfl
 c212:=by kernel_rfl
 c213:=by kernel_rfl
 c232:=by kernel_rfl
 c233:=by kernel_rfl}
open Go.RowKit in
theorem Tryz.strconv_Atoi_ok (s:ByteArray) (hmax:s.size≤9223372036854775806) (v:Int) (h:Lib.atoiAll s.data.toList= .ok v) (w:World):
  Calls Tryz.prog 185 #[.string s] w fun e w'=>e= .returned (.tuple #[.int .i64 v,.nilIface])∧(w'=w∨∃t,w'=Lib.bytesWorld w 5 t):=Any.strconv_Atoi_ok Tryz.laysC172 s hmax v h w
def Tryz.lays219_ren:Go.Shelf.Ren:=⟨fun | 219=>198 | 217=>205 | 225=>206 | 224=>207 | 267=>208 | 266=>215 | 314=>216 | n=>n,fun | 9=>9 | 3=>3 | 4=>4 | 5=>5 | 46=>234 | 146=>337 | 51=>297 | n=>n,fun | 1=>0 | n=>n⟩
theorem Tryz.lays219:Go.Proofs.Lays.n219 Tryz.prog Tryz.lays219_ren:={
 mixed:=by kernel_rfl
 f217:=Tryz.func205.trans (congrArg some (by kernel_rfl))
 f219:=Tryz.func198.trans (congrArg some (by kernel_rfl))
 f224:=Tryz.func207.trans (congrArg some (by kernel_rfl))
 f225:=Tryz.func206.trans (congrArg some (by kernel_rfl))
 f266:=Tryz.func215.trans (congrArg some (by kernel_rfl))
 f267:=Tryz.func208.trans (congrArg some (by kernel_rfl))
 f314:=Tryz.func216.trans (congrArg some (by kernel_rfl))
 t3:=Tryz.underlying3
 a3:=Tryz.isAgg3
 z3:=Tryz.sizeOf3
 v3:=Tryz.zeroValue3
 t4:=Tryz.underlying4
 a4:=Tryz.isAgg4
 z4:=Tryz.sizeOf4
 v4:=Tryz.zeroValue4
 t5:=Tryz.underlying5
 a5:=Tryz.isAgg5
 z5:=Tryz.sizeOf5
 v5:=Tryz.zeroValue5
 t9:=Tryz.underlying9
 a9:=Tryz.isAgg9
 z9:=Tryz.sizeOf9
 v9:=Tryz.zeroValue9
 t46:=Tryz.underlying234
 a46:=Tryz.isAgg234
 z46:=Tryz.sizeOf234
 v46:=Tryz.zeroValue234
 t51:=Tryz.underlying297
 a51:=Tryz.isAgg297
 z51:=Tryz.sizeOf297
 v51:=Tryz.zeroValue297
 t146:=Tryz.underlying337
 a146:=Tryz.isAgg337
 z146:=Tryz.sizeOf337
 v146:=Tryz.zeroValue337
 g1:=by kernel_rfl}
open Go.RowKit Go.Lib in
theorem Tryz.stringslite_Index_one (s:ByteArray) (c:UInt8) (w:World):
  Calls Tryz.prog 198 #[.string s,.string ⟨#[c]⟩] w fun e w'=>e= .returned (.int .i64 (Lib.indexByte s.data.toList c))∧w'=w:=Any.stringslite_Index_one Tryz.lays219 s c w
def Tryz.lays190_ren:Go.Shelf.Ren:=⟨fun | 190=>115 | 125=>145 | 258=>144 | 128=>169 | 129=>170 | 302=>160 | 303=>161 | 304=>162 | 305=>163 | 306=>164 | 307=>165 | 308=>166 | 309=>167 | 310=>168 | 333=>188 | 329=>189 | 330=>190 | 334=>191 | 335=>192 | 336=>193 | 344=>203 | n=>n,fun | 31=>48 | 9=>9 | 3=>3 | 46=>234 | 0=>0 | 51=>297 | 53=>299 | 4=>4 | 183=>290 | 182=>289 | 131=>220 | 5=>5 | 218=>315 | 222=>319 | 228=>325 | 229=>306 | n=>n,fun | n=>n⟩
theorem Tryz.lays190:Go.Proofs.Lays.n190 Tryz.prog Tryz.lays190_ren:={
 mixed:=by kernel_rfl
 f125:=Tryz.func145.trans (congrArg some (by kernel_rfl))
 f128:=Tryz.func169.trans (congrArg some (by kernel_rfl))
 f129:=Tryz.func170.trans (congrArg some (by kernel_rfl))
 f190:=Tryz.func115.trans (congrArg some (by kernel_rfl))
 f258:=Tryz.func144.trans (congrArg some (by kernel_rfl))
 f302:=Tryz.func160.trans (congrArg some (by kernel_rfl))
 f303:=Tryz.func161.trans (congrArg some (by kernel_rfl))
 f304:=Tryz.func162.trans (congrArg some (by kernel_rfl))
 f305:=Tryz.func163.trans (congrArg some (by kernel_rfl))
 f306:=Tryz.func164.trans (congrArg some (by kernel_rfl))
 f307:=Tryz.func165.trans (congrArg some (by kernel_rfl))
 f308:=Tryz.func166.trans (congrArg some (by kernel_rfl))
 f309:=Tryz.func167.trans (congrArg some (by kernel_rfl))
 f310:=Tryz.func168.trans (congrArg some (by kernel_rfl))
 f329:=Tryz.func189.trans (congrArg some (by kernel_rfl))
 f330:=Tryz.func190.trans (congrArg some (by kernel_rfl))
 f333:=Tryz.func188.trans (congrArg some (by kernel_rfl))
 f334:=Tryz.func191.trans (congrArg some (by kernel_rfl))
 f335:=Tryz.func192.trans (congrArg some (by kernel_rfl))
 f336:=Tryz.func193.trans (congrArg some (by kernel_rfl))
 f344:=Tryz.func203.trans (congrArg some (by kernel_rfl))
 t0:=Tryz.underlying0
 a0:=Tryz.isAgg0
 z0:=Tryz.sizeOf0
 v0:=Tryz.zeroValue0
 t3:=Tryz.underlying3
 a3:=Tryz.isAgg3
 z3:=Tryz.sizeOf3
 v3:=Tryz.zeroValue3
 t4:=Tryz.underlying4
 a4:=Tryz.isAgg4
 z4:=Tryz.sizeOf4
 v4:=Tryz.zeroValue4
 t5:=Tryz.underlying5
 a5:=Tryz.isAgg5
 z5:=Tryz.sizeOf5
 v5:=Tryz.zeroValue5
 t9:=Tryz.underlying9
 a9:=Tryz.isAgg9
 z9:=Tryz.sizeOf9
 v9:=Tryz.zeroValue9
 t31:=Tryz.underlying48
 a31:=Tryz.isAgg48
 z31:=Tryz.sizeOf48
 v31:=Tryz.zeroValue48
 t46:=Tryz.underlying234
 a46:=Tryz.isAgg234
 z46:=Tryz.sizeOf234
 v46:=Tryz.zeroValue234
 t51:=Tryz.underlying297
 a51:=Tryz.isAgg297
 z51:=Tryz.sizeOf297
 v51:=Tryz.zeroValue297
 t53:=Tryz.underlying299
 a53:=Tryz.isAgg299
 z53:=Tryz.sizeOf299
 v53:=Tryz.zeroValue299
 t131:=Tryz.underlying220
 a131:=Tryz.isAgg220
 z131:=Tryz.sizeOf220
 v131:=Tryz.zeroValue220
 t182:=Tryz.underlying289
 a182:=Tryz.isAgg289
 z182:=Tryz.sizeOf289
 v182:=Tryz.zeroValue289
 t183:=Tryz.underlying290
 a183:=Tryz.isAgg290
 z183:=Tryz.sizeOf290
 v183:=Tryz.zeroValue290
 t218:=Tryz.underlying315
 a218:=Tryz.isAgg315
 z218:=Tryz.sizeOf315
 v218:=Tryz.zeroValue315
 t222:=Tryz.underlying319
 a222:=Tryz.isAgg319
 z222:=Tryz.sizeOf319
 v222:=Tryz.zeroValue319
 t228:=Tryz.underlying325
 a228:=Tryz.isAgg325
 z228:=Tryz.sizeOf325
 v228:=Tryz.zeroValue325
 t229:=Tryz.underlying306
 a229:=Tryz.isAgg306
 z229:=Tryz.sizeOf306
 v229:=Tryz.zeroValue306}
open Go.Sort Go.RowKit in
theorem Tryz.slices_Sort_string (blk off cap:Nat) (ss:List (List UInt8)) (w:World) (hH:Holds encStr w blk off ss.toArray) (hblk:blk<w.heap.size) (hsz:ss.length<4611686018427387904):
  Calls Tryz.prog 115 #[.slice (some ⟨blk,off,none⟩) ss.length cap] w fun e w'=>
   e= .returned (.tuple #[])∧∃n os,w'=grow (putRow encStr (Sort.ahead w n) blk off (ss.mergeSort fun x y=>decide (x≤y)).toArray) os:=Any.slices_Sort_string Tryz.lays190 blk off cap ss w hH hblk hsz
def Tryz.lays194_ren:Go.Shelf.Ren:=⟨fun | 194=>134 | n=>n,fun | 31=>48 | 9=>9 | 3=>3 | 4=>4 | 0=>0 | n=>n,fun | n=>n⟩
theorem Tryz.lays194:Go.Proofs.Lays.n194 Tryz.prog Tryz.lays194_ren:={
 mixed:=by kernel_rfl
 f194:=Tryz.func134.trans (congrArg some (by kernel_rfl))
 t0:=Tryz.underlying0
 a0:=Tryz.isAgg0
 z0:=Tryz.sizeOf0
 v0:=Tryz.zeroValue0
 t3:=Tryz.underlying3
 a3:=Tryz.isAgg3
 z3:=Tryz.sizeOf3
 v3:=Tryz.zeroValue3
 t4:=Tryz.underlying4
 a4:=Tryz.isAgg4
 z4:=Tryz.sizeOf4
 v4:=Tryz.zeroValue4
 t9:=Tryz.underlying9
 a9:=Tryz.isAgg9
 z9:=Tryz.sizeOf9
 v9:=Tryz.zeroValue9
 t31:=Tryz.underlying48
 a31:=Tryz.isAgg48
 z31:=Tryz.sizeOf48
 v31:=Tryz.zeroValue48}
open Go.RowKit Go.Lib Go.Sort in
theorem Tryz.slices_Compact_string (blk off cap:Nat) (zs:List (List UInt8)) (w:World) (hH:Holds encStr w blk off zs.toArray) (hsz:zs.length≤9223372036854775807) (hcap:zs.length≤cap):
  Calls Tryz.prog 134 #[.slice (some ⟨blk,off,none⟩) zs.length cap] w fun e w'=>e= .returned (.slice (some ⟨blk,off,none⟩) (Lib.compact zs).length cap)∧∃q,w'=putRow encStr (Sort.ahead w q) blk off (Lib.compact zs++List.replicate (zs.length - (Lib.compact zs).length) []).toArray:=Any.slices_Compact_string Tryz.lays194 blk off cap zs w hH hsz hcap
open Go.RowKit Go.Lib Go.Sort in
theorem Tryz.slices_Compact_string_empty (a:Option Addr) (cap:Nat) (w:World):
  Calls Tryz.prog 134 #[.slice a 0 cap] w fun e w'=>e= .returned (.slice a 0 cap)∧w'=w:=Any.slices_Compact_string_empty Tryz.lays194 a cap w
open Go.RowKit Go.Sort in
theorem Tryz.slices_Sort_string_none (p:Option Addr) (cap:Nat) (w:World):
  Calls Tryz.prog 115 #[.slice p 0 cap] w fun e w'=>e= .returned (.tuple #[])∧w'=w:=Any.slices_Sort_string_none Tryz.lays190 p cap w
end Go.Proofs
set_option linter.unusedVariables false
set_option linter.unusedSimpArgs false
namespace Go.Proofs.YtlflbkpmfhhikaaGreatDoor
open Go Go.Sx Go.Proofs
abbrev I (n:Int):Value:= .int .i64 n
theorem bdec {p q:Prop} [Decidable p] [Decidable q] (h:p↔q):Value.bool (decide p)=Value.bool (decide q):=by rw [decide_eq_decide.2 h]
instance eqTxn:TEq3 Tryz.prog 47:=⟨by kernel_rfl,fun a b c d e f w=>by
  have u3:=Tryz.underlying3
  have a3:=Tryz.isAgg3
  have z3:=Tryz.sizeOf3
  have hS:Tryz.prog.underlying 47=some (.struct (Tryz.prog.fieldsOf 47)):=by kernel_rfl
  have hp:Tryz.prog.stoodInHeld 47=false:=by kernel_rfl
  rw [show (10000:Nat)=9999+1 from rfl,run_equalIn_agg w 9999 47 _ _ hS hp]
  simp only [Program.fieldsOf,Tryz.underlying47]
  go_simp
  by_cases h1:a=d<;>by_cases h2:b=e<;>by_cases h3:c=f<;>simp [h1,h2,h3]⟩
instance :TKey3 Tryz.prog 47 where
  toTEq3:=eqTxn
  und:=⟨_,Tryz.underlying47⟩
  chk e a b c w:=by
    have u3:=Tryz.underlying3
    have a3:=Tryz.isAgg3
    have z3:=Tryz.sizeOf3
    rw [show (10000:Nat)=9998+1+1 from rfl,Instr.checkKey]
    simp only [Sem.run_bind,run_underlying Tryz.underlying47,Result.andThen_ok]
    rw [←Array.forIn_toList]
    simp only [List.forIn_cons,List.forIn_nil]
    go_simp
    have hc:∀(x:Int) (w:World),(Instr.checkKey e 9999 3 (.int .i64 x)).run Tryz.prog w= .ok () w:=fun x w=>by
      rw [show (9999:Nat)=9998+1 from rfl,Instr.checkKey];simp [run_underlying u3]
    simp only [hc,Result.andThen_ok]
theorem v110_ {P:Prop} (h:P:=by
 exact ⟨rfl,rfl,k,hk0,hno,.inr ⟨hk1,hp,rfl⟩⟩):P:=h
theorem v113_ {P:Prop} (h:P:=by
 rw [e2,List.drop_left,Nat.zero_add,←hAl,List.append_assoc A,List.take_left,List.append_assoc]):P:=h
theorem v120_ {P:Prop} (h:P:=by
 simp only;rw [hft];simp only [hp,List.filter_cons,List.filter_nil,if_true];exact hA.snoc hc):P:=h
theorem v124_ {P:Prop} (h:P:=by
 simp only [List.length_append,hJ,hcl];rw [show k+1 - i=(k - i)+1 by omega,Nat.add_mul]):P:=h
theorem v148_ {P:Prop} (h:P:=by
 refine walk ?_;refine fin0 ?_;exact v50_):P:=h
theorem v149_ {P:Prop} (h:P:=by
 obtain ⟨⟨cs,⟨b,c,e,_,hl,_,h⟩,_⟩,_⟩:=h0
 cases e
 rcases h with h | ⟨b,off,h,_⟩
 ·exact List.eq_nil_of_length_eq_zero h
 ·cases h):P:=h
theorem v150_ {P:Prop} (h:P:=by
 refine walk ?_;refine zo_ rfl rfl h0.1 (by simpa using h0.2) fun base cap=>?_;refine walk ?_;refine finB [_] ?_;exact ⟨rfl,rfl⟩):P:=h
theorem v32_ {P:Prop} (h:P:=by
 refine Ct.go fun R=>?_;obtain ⟨b0,c0,rfl,hc0,hd0⟩:=h0.1.shape;refine walk ?_;refine ze_ rfl (fun h=>?_) (fun h=>?_)
 ·subst h;refine walk ?_
  obtain rfl:xs=[]:=by
   exact v149_
  refine finB [ownS rStr 1 16 9 H (.slice none 0 0) []] ?_ (hs:=ownS_nil);exact ⟨rfl,rfl⟩
 ·refine walk ?_;refine QW_ (w:=16) rStr rfl fun b=>?_;exact v150_):P:=h
theorem v33_ {P:Prop} (h:P:=by
 refine Ct.go fun R=>?_;obtain ⟨b0,c0,rfl,hc0,hd0⟩:=h0.1.shape;refine walk ?_;refine ze_ rfl (fun h=>?_) (fun h=>?_)
 ·subst h;refine walk ?_
  obtain rfl:xs=[]:=by
   exact v149_
  refine finB [ownS rInt 1 8 3 H (.slice none 0 0) []] ?_ (hs:=ownS_nil);exact ⟨rfl,rfl⟩
 ·refine walk ?_;refine QW_ (w:=8) rInt rfl fun b=>?_;exact v150_):P:=h
theorem v45_ {P:Prop} (h:P:=by
 rw [e];have hle:(xs.filter fun x=> !p x).length≤xs.length:=List.length_filter_le _ _;refine Sub.trans (zJ_ (m:=i) (cap:=cp) hAl (by omega) g2 ?_) ?_
 ·rw [List.length_append,List.length_append,hAl,hz,←Nat.add_assoc,←Nat.add_mul];rw [show i+(xs.length - i)=xs.length by omega];rw [List.length_append,g3] at g4;exact g4
 ·rw [hi];exact (qR_ hA (Nat.le_trans (Nat.mul_le_mul_right _ hle) hsm)).trans subA):P:=h
theorem v50_ {P:Prop} (h:P:=by
 exact ⟨rfl,rfl,rfl⟩):P:=h
theorem v51_ {P:Prop} (h:P:=by
 refine walk ?_;refine Zb_ hL (k+1) ⟨by omega,fun i h hi=>?_⟩;rcases Nat.lt_or_ge i k with h' | h'
 ·exact hno i h h'
 ·obtain rfl:i=k:=by omega
  simpa using hp):P:=h
theorem v57_ {P:Prop} (h:P:=by
 refine ⟨hj1,?_,?_,Nat.lt_succ_self _,?_,?_⟩
 ·simp only;rw [hfj];exact hr.take hj
 ·simp only;rw [hfj];simp;omega
 ·simp only [List.length_take,List.length_drop];omega
 ·have h5:=hr.one;simp only [List.all_eq_true] at h5⊢;exact fun x hx=>h5 x (List.mem_of_mem_drop (List.mem_of_mem_take hx))):P:=h
theorem v65_ {P:Prop} (h:P:=by
 rw [List.take_succ_eq_append_getElem hj1,List.filter_append,List.filter_eq_self.2 fun x hx=>?_]
 ·simp [hpj]
 ·obtain ⟨i,hi,rfl⟩:=List.getElem_of_mem hx;simp only [List.length_take] at hi;simp [List.getElem_take,hno i (by omega) (by omega)]):P:=h
theorem v73_ {P:Prop} (h:P:=by
 exact ⟨rfl,rfl,xs.length,Nat.le_refl _,fun i h hi=>hno i h (by omega),.inl ⟨rfl,rfl⟩⟩):P:=h
theorem v80_ {P:Prop} (h:P:=by
 simp only [List.all_append,Bool.and_eq_true];refine ⟨?_,RdOk.one hc⟩;simp only [List.all_eq_true] at hJ1⊢;exact fun x hx=>hJ1 x (List.mem_of_mem_drop hx)):P:=h
theorem v82_ {P:Prop} (h:P:=by
 rw [hr',hcr,hcl,Nat.zero_add,←hAl];simp only [List.append_assoc];rw [List.take_left,←List.drop_drop,List.drop_left,List.drop_append_of_le_length hJs]):P:=h
theorem v85_ {P:Prop} (h:P:=by
 rw [show (A++J).length+o - (A++J).length=o by omega,List.append_assoc,List.getElem?_append_left (List.getElem?_eq_some_iff.1 ho).1];exact ho):P:=h
theorem v95_ {P:Prop} (h:P:=by
 refine ⟨?_,rfl⟩;rw [List.filter_eq_self.2 fun x hx=>?_];obtain ⟨i,hi,rfl⟩:=List.getElem_of_mem hx;simp [hno i hi hi]):P:=h
end Go.Proofs.YtlflbkpmfhhikaaGreatDoor
set_option maxHeartbeats 16000000
set_option maxRecDepth 100000
namespace Go.Proofs.YtlflbkpmfhhikaaGreatDoor
open Go Go.Sx Go.Proofs
theorem Zac_ {W0:World} {H:Heap} {v:Value} {xs:List ByteArray} (h0:SlB rStr 1 16 H v xs):
  Ct Tryz.prog 30 #[v] W0 H [] (fun r H' B=>B=[ownS rStr 1 16 9 H r xs]∧H'=H):=by
 exact v32_
theorem zcM_ {W0:World} {H:Heap} {n:Nat} (hn:n*16≤Qb_):
  Ct Tryz.prog 156 #[nilS,I n] W0 H [] (fun r H' B=>B=[ownS rStr 1 16 9 H r []]∧H'=H):=by
 refine Ct.go fun R=>?_;simp only [Qb_] at hn;have e0:(n:Int) - (((0:Nat):Int) - ((0:Nat):Int))=n:=by omega
 by_cases h0:n=0
 ·subst h0;refine walk ?_;refine finB [ownS rStr 1 16 9 H nilS []] ?_ (hs:=ownS_nil);exact ⟨rfl,rfl⟩
 ·refine walk ?_;rw [e0];refine ZdK_ rfl rfl (by omega) (by omega) (by omega) fun b cap cs h1 h2 h3=>?_;refine walk ?_;refine finB [ownS rStr 1 16 9 H (.slice (some ⟨b,0,none⟩) 0 cap) []] ?_ (hs:=QdK_ (by simpa using h3) h2);exact ⟨rfl,rfl⟩
def qz_ (xss:List (List ByteArray)):Nat:=(xss.map List.length).sum
theorem Zbc_ {xss:List (List ByteArray)} {x:List ByteArray}:qz_ (xss++[x])=qz_ xss+x.length:=by simp [qz_]
theorem Zav_ {xss:List (List ByteArray)} {k:Nat}:qz_ (xss.take k)≤qz_ xss:=by
 have:qz_ xss=qz_ (xss.take k)+qz_ (xss.drop k):=by
  unfold qz_;rw [←List.sum_append,←List.map_append,List.take_append_drop]
 omega
theorem zdH_ {xss:List (List ByteArray)}:xss.flatten.length=qz_ xss:=by simp [qz_,List.length_flatten]
theorem zS_ {W0:World} {H:Heap} {v:Value} {xss:List (List ByteArray)} (h0:SlR (rSl rStr 1 16) 1 H v xss) (hs:qz_ xss*16≤Qb_):
  Ct Tryz.prog 133 #[v] W0 H [] (fun r H' B=>B=[ownS rStr 1 16 9 H r xss.flatten]∧H'=H):=by
 refine Ct.go fun R=>?_;obtain ⟨b0,c0,rfl,hc0,hd0⟩:=h0.shape;have hs':=hs;simp only [Qb_] at hs';refine walk ?_;refine Qc_ (σ:=Nat×Int) (fun s=>s.1≤xss.length∧s.2=qz_ (xss.take s.1)) (fun s=>[(0,.slice b0 xss.length c0),(3,I s.2),(9,.slice b0 xss.length c0),(10,I xss.length),(11,I s.1)]) (fun _=>H) (fun _=>R) (fun s=>xss.length - s.1) (0,0) ⟨Nat.zero_le _,rfl⟩ fun ⟨k,z⟩ ⟨hk0,hz⟩ K hL=>?_;simp only at hk0 hz;dsimp only;have hst:=Zav_ (xss:=xss) (k:=k);refine walk ?_;refine ze_ rfl (fun hk=>?_) (fun hk=>?_)
 ·have hk1:k<xss.length:=by omega
  have hst2:=Zav_ (xss:=xss) (k:=k+1);have hsn:qz_ (xss.take (k+1))=qz_ (xss.take k)+xss[k].length:=by rw [List.take_succ_eq_append_getElem hk1,Zbc_]
  refine walk ?_;refine Zd_ rfl rfl h0 hk1 fun b o c hr hc=>?_;obtain ⟨w,rfl,hw⟩:=hc;obtain ⟨b2,c2,rfl,_,_⟩:=hw.1.shape;refine walk ?_;exact Zb_ hL (k+1,z+(xss[k].length:Nat)) ⟨by simp only;omega,by simp only;rw [hsn,hz];omega⟩
 ·clear hL;obtain rfl:k=xss.length:=by omega
  rw [List.take_length] at hz;subst hz;refine walk ?_;refine Za_ (vs:=[nilS,I (qz_ xss)]) rfl rfl (zcM_ hs) fun r1 H1 B hl1 ⟨eB,eH⟩=>?_;subst eB eH;refine walk ?_;refine Qc_ (σ:=Nat×Value) (fun s=>s.1≤xss.length) (fun s=>[(6,s.2),(25,.slice b0 xss.length c0),(26,I xss.length),(27,I s.1)]) (fun _=>H1) (fun s=>ownS rStr 1 16 9 H1 s.2 (xss.take s.1).flatten::R) (fun s=>xss.length - s.1) (0,r1) (Nat.zero_le _) fun ⟨k,v⟩ hk0 K hL=>?_;simp only at hk0;dsimp only;refine walk ?_;refine ze_ rfl (fun hk=>?_) (fun hk=>?_)
  ·have hk1:k<xss.length:=by omega
   have hst2:=Zav_ (xss:=xss) (k:=k+1);have hsn:qz_ (xss.take (k+1))=qz_ (xss.take k)+xss[k].length:=by rw [List.take_succ_eq_append_getElem hk1,Zbc_]
   refine walk ?_;refine Zd_ rfl rfl h0 hk1 fun b o c hr hc=>?_;obtain ⟨w,rfl,hw⟩:=hc;obtain ⟨b2,c2,rfl,_,_⟩:=hw.1.shape;refine walk ?_;refine zo_ rfl rfl hw.1 (by rw [zdH_];simp only [Qb_];omega) fun d1 e1=>?_;refine walk ?_;refine Zb_ hL (k+1,_) (by simp only;omega) (hs:=?_);dsimp only;rw [List.take_succ_eq_append_getElem hk1,List.flatten_append,List.length_append.symm];simp only [List.flatten_cons,List.flatten_nil,List.append_nil];exact Sub.refl _
  ·clear hL;obtain rfl:k=xss.length:=by omega
   rw [List.take_length];refine walk ?_;refine finB [ownS rStr 1 16 9 H1 v xss.flatten] ?_;exact ⟨rfl,rfl⟩
end Go.Proofs.YtlflbkpmfhhikaaGreatDoor
namespace Go.Proofs.YtlflbkpmfhhikaaGreatDoor
open Go Go.Sx Go.Proofs Go.Sort
section
variable {P:Program} {f:FuncId} {W0:World} {H H0:Heap} {T:Nat} {v:Value}
abbrev enS:ByteArray→Value:=fun x=> .string x
theorem qdh_ (xs:List ByteArray):xs.map enS=(xs.map fun s=>s.data.toList).map encStr:=by
 rw [List.map_map];rfl
theorem ZdG_ {xs : List ByteArray} (hsort : ∀ (blk off cap : Nat) (zs : List (List UInt8)) (w : World), Holds encStr w blk off zs.toArray → blk < w.heap.size → zs.length < 4611686018427387904 →
   Calls P f #[.slice (some ⟨blk,off,none⟩) zs.length cap] w fun e w'=>e= .returned (.tuple #[])∧∃n os,w'=grow (Go.Sort.putRow encStr (Sort.ahead w n) blk off (zs.mergeSort fun x y=>decide (x≤y)).toArray) os)
  (hnone:∀(p:Option Addr) (cap:Nat) (w:World),Calls P f #[.slice p 0 cap] w fun e w'=>e= .returned (.tuple #[])∧w'=w):
  Ct P f #[v] W0 H [ownS rStr 1 16 T H0 v xs] (fun r H' B=>r= .tuple #[]∧B=[ownS rStr 1 16 T H0 v (sortT xs)]∧H'=H):=by
 intro w R hS;obtain ⟨hA,hR,⟨cs,⟨hr,hw⟩,ho⟩,r,d,dA,dR,lA,lR⟩:=hS.parts;obtain ⟨hcs,hok⟩:=RL.map1 hr;obtain ⟨hl,hc⟩:=ho;have hlen:(sortT xs).length=xs.length:=by simp [sortT]
 have hok':∀x∈sortT xs,x.size≤Qb_:=fun x hx=>by
  obtain ⟨l,hl1,rfl⟩:=List.mem_map.1 hx;rw [List.mem_mergeSort] at hl1;obtain ⟨q,hq,rfl⟩:=List.mem_map.1 hl1;exact hok q hq
 have hrowS:(sortT xs).map enS=((xs.map fun s=>s.data.toList).mergeSort fun x y=>decide (x≤y)).map encStr:=by
  simp only [sortT,List.map_map];rfl
 rcases hc with ⟨h0,b,rfl⟩ | ⟨b,cap,sp,rfl,hp0,h1,h2,h3,h4⟩
 ·have hx:xs=[]:=List.eq_nil_of_length_eq_zero h0;subst hx;refine (hnone b 0 w).mono ?_;rintro e w' ⟨rfl,rfl⟩;exact ⟨_,H,_,rfl,.refl _,⟨rfl,rfl,rfl⟩,by simpa [sortT] using hS⟩
 ·have hcs2:cs=(xs.map fun s=>s.data.toList).map encStr:=hcs.trans (qdh_ xs);subst hcs2;have hS':St W0 H w (row b T ((xs.map fun s=>s.data.toList).map encStr++sp)::R):=St.of_parts hS.env hS.ro h4 r d dA dR lA lR;have hso:=hsort b 0 cap (xs.map fun s=>s.data.toList) w hS'.holds (Qbm_ (w:=w) (b:=b) hS'.ptRead.1) (by simp only [Qb_] at hw;simp;omega);rw [List.length_map] at hso;refine hso.mono ?_;rintro e w' ⟨rfl,n,os,rfl⟩;have hS2:=hS'.putRow (n:=n) (os:=os) (ys:=(xs.map fun s=>s.data.toList).mergeSort (fun x y=>decide (x≤y))) (by simp);rw [←hrowS] at hS2;refine ⟨_,H,[ownS rStr 1 16 T H0 (.slice (some ⟨b,0,none⟩) xs.length cap) (sortT xs)],rfl,.refl _,⟨rfl,rfl,rfl⟩,hS2.sub ?_⟩;rintro h ⟨k1,k2,a,rr,q,l1,l2⟩;refine ⟨k1,k2,⟨_,⟨RL.mk1 (R:=rStr) (val:=fun x=> .string x) hok',by rw [hlen];exact hw⟩,by simp [hlen],.inr ⟨b,cap,sp,by rw [hlen],hp0,by rw [hlen];exact h1,h2,?_,a⟩⟩,rr,q,l1,l2⟩;simpa [hlen] using h3
def compT (xs:List ByteArray):List ByteArray:=(Lib.compact (xs.map fun s=>s.data.toList)).map sb
theorem zdh_ (xs:List ByteArray):(compT xs).length≤xs.length:=by
 have:=zck_ (xs.map fun s=>s.data.toList);simpa [compT] using this
theorem zch_ {xs : List ByteArray} (hcomp : ∀ (blk off cap : Nat) (zs : List (List UInt8)) (w : World), Holds encStr w blk off zs.toArray → zs.length ≤ 9223372036854775807 → zs.length ≤ cap →
   Calls P f #[.slice (some ⟨blk,off,none⟩) zs.length cap] w fun e w'=>e= .returned (.slice (some ⟨blk,off,none⟩) (Lib.compact zs).length cap)∧∃q,w'=Go.Sort.putRow encStr (Sort.ahead w q) blk off (Lib.compact zs++List.replicate (zs.length - (Lib.compact zs).length) []).toArray)
  (hnone:∀(a:Option Addr) (cap:Nat) (w:World),Calls P f #[.slice a 0 cap] w fun e w'=>e= .returned (.slice a 0 cap)∧w'=w):
  Ct P f #[v] W0 H [ownS rStr 1 16 T H0 v xs] (fun r H' B=>B=[ownS rStr 1 16 T H0 r (compT xs)]∧H'=H):=by
 intro w R hS;obtain ⟨hA,hR,⟨cs,⟨hr,hw⟩,ho⟩,r,d,dA,dR,lA,lR⟩:=hS.parts;obtain ⟨hcs,hok⟩:=RL.map1 hr;obtain ⟨hl,hc⟩:=ho
 have hok':∀x∈compT xs,x.size≤Qb_:=fun x hx=>by
  obtain ⟨l,hl1,rfl⟩:=List.mem_map.1 hx;obtain ⟨q,hq,rfl⟩:=List.mem_map.1 (Qck_.1 hl1);exact hok q hq
 have hlen:=zdh_ xs;have hlc:(compT xs).length=(Lib.compact (xs.map fun s=>s.data.toList)).length:=by simp [compT]
 rcases hc with ⟨h0,b,rfl⟩ | ⟨b,cap,sp,rfl,hp0,h1,h2,h3,h4⟩
 ·have hx:xs=[]:=List.eq_nil_of_length_eq_zero h0;subst hx;refine (hnone b 0 w).mono ?_;rintro e w' ⟨rfl,rfl⟩;exact ⟨_,H,_,rfl,.refl _,⟨rfl,rfl⟩,hS⟩
 ·have hcs2:cs=(xs.map fun s=>s.data.toList).map encStr:=hcs.trans (qdh_ xs);subst hcs2;have hS':St W0 H w (row b T ((xs.map fun s=>s.data.toList).map encStr++sp)::R):=St.of_parts hS.env hS.ro h4 r d dA dR lA lR;have hco:=hcomp b 0 cap (xs.map fun s=>s.data.toList) w hS'.holds (by simp only [Qb_] at hw;simp;omega) (by simpa using h1);rw [List.length_map] at hco;refine hco.mono ?_;rintro e w' ⟨rfl,q,rfl⟩;have hS2:=hS'.putRow (n:=q) (os:=#[]) (ys:=Lib.compact (xs.map fun (s:ByteArray)=>s.data.toList)++List.replicate (xs.length - (Lib.compact (xs.map fun (s:ByteArray)=>s.data.toList)).length) []) (by simp;omega);rw [grow_empty] at hS2;refine ⟨_,H,[ownS rStr 1 16 T H0 (.slice (some ⟨b,0,none⟩) (compT xs).length cap) (compT xs)],by rw [hlc],.refl _,⟨rfl,rfl⟩,hS2.sub ?_⟩;rintro h ⟨k1,k2,a,rr,qq,l1,l2⟩;refine ⟨k1,k2,⟨_,⟨RL.mk1 (R:=rStr) (val:=fun x=> .string x) hok',by omega⟩,by simp,.inr ⟨b,cap,(List.replicate (xs.length - (compT xs).length) ([]:List UInt8)).map encStr++sp,rfl,hp0,by omega,h2,?_,?_⟩⟩,rr,qq,l1,l2⟩
  ·simp at h3⊢;omega
  ·have:(compT xs).map (fun x=>Value.string x)++((List.replicate (xs.length - (compT xs).length) ([]:List UInt8)).map encStr++sp)=(Lib.compact (xs.map fun (s:ByteArray)=>s.data.toList)++List.replicate (xs.length - (Lib.compact (xs.map fun (s:ByteArray)=>s.data.toList)).length) []).map encStr++sp:=by
    rw [←hlc];simp [compT]
   rw [this];exact a
end
theorem qdH_ {W0:World} {H H0:Heap} {v:Value} {xs:List ByteArray}:
  Ct Tryz.prog 115 #[v] W0 H [ownS rStr 1 16 9 H0 v xs] (fun r H' B=>r= .tuple #[]∧B=[ownS rStr 1 16 9 H0 v (sortT xs)]∧H'=H):=ZdG_ Tryz.slices_Sort_string Tryz.slices_Sort_string_none
theorem Qch_ {W0:World} {H H0:Heap} {v:Value} {xs:List ByteArray}:
  Ct Tryz.prog 134 #[v] W0 H [ownS rStr 1 16 9 H0 v xs] (fun r H' B=>B=[ownS rStr 1 16 9 H0 r (compT xs)]∧H'=H):=zch_ Tryz.slices_Compact_string Tryz.slices_Compact_string_empty
end Go.Proofs.YtlflbkpmfhhikaaGreatDoor
namespace Go.Proofs
open Go.Shelf
def Tryz.laysM171_ren:Go.Shelf.Ren:=⟨fun | 171=>186 | 243=>201 | 246=>214 | 283=>220 | 284=>221 | 285=>222 | 286=>223 | 129=>170 | 317=>226 | 318=>227 | 319=>228 | 320=>229 | 337=>230 | 338=>231 | n=>n,fun | 3=>3 | 9=>9 | 2=>2 | 4=>4 | 171=>345 | 0=>0 | 53=>299 | 37=>328 | 5=>5 | 173=>347 | 212=>355 | 51=>297 | 20=>20 | 213=>356 | 46=>234 | 232=>357 | 233=>358 | n=>n,fun | 17=>3 | 18=>4 | 19=>5 | n=>n⟩
theorem Tryz.laysM171:Go.Proofs.LaysM.n171 Tryz.prog Tryz.laysM171_ren:={
 mixed:=by kernel_rfl
 f129:=Tryz.func170.trans (congrArg some (by kernel_rfl))
 f171:=Tryz.func186.trans (congrArg some (by kernel_rfl))
 f243:=Tryz.func201.trans (congrArg some (by kernel_rfl))
 f246:=Tryz.func214.trans (congrArg some (by kernel_rfl))
 f283:=Tryz.func220.trans (congrArg some (by kernel_rfl))
 f284:=Tryz.func221.trans (congrArg some (by kernel_rfl))
 f285:=Tryz.func222.trans (congrArg some (by kernel_rfl))
 f286:=Tryz.func223.trans (congrArg some (by kernel_rfl))
 f317:=Tryz.func226.trans (congrArg some (by kernel_rfl))
 f318:=Tryz.func227.trans (congrArg some (by kernel_rfl))
 f319:=Tryz.func228.trans (congrArg some (by kernel_rfl))
 f320:=Tryz.func229.trans (congrArg some (by kernel_rfl))
 f337:=Tryz.func230.trans (congrArg some (by kernel_rfl))
 f338:=Tryz.func231.trans (congrArg some (by kernel_rfl))
 t0:=Tryz.underlying0
 a0:=Tryz.isAgg0
 z0:=Tryz.sizeOf0
 v0:=Tryz.zeroValue0
 t2:=Tryz.underlying2
 a2:=Tryz.isAgg2
 z2:=Tryz.sizeOf2
 v2:=Tryz.zeroValue2
 t3:=Tryz.underlying3
 a3:=Tryz.isAgg3
 z3:=Tryz.sizeOf3
 v3:=Tryz.zeroValue3
 t4:=Tryz.underlying4
 a4:=Tryz.isAgg4
 z4:=Tryz.sizeOf4
 v4:=Tryz.zeroValue4
 t5:=Tryz.underlying5
 a5:=Tryz.isAgg5
 z5:=Tryz.sizeOf5
 v5:=Tryz.zeroValue5
 t9:=Tryz.underlying9
 a9:=Tryz.isAgg9
 z9:=Tryz.sizeOf9
 v9:=Tryz.zeroValue9
 t20:=Tryz.underlying20
 a20:=Tryz.isAgg20
 z20:=Tryz.sizeOf20
 v20:=Tryz.zeroValue20
 t37:=Tryz.underlying328
 a37:=Tryz.isAgg328
 z37:=Tryz.sizeOf328
 v37:=Tryz.zeroValue328
 t46:=Tryz.underlying234
 a46:=Tryz.isAgg234
 z46:=Tryz.sizeOf234
 v46:=Tryz.zeroValue234
 t51:=Tryz.underlying297
 a51:=Tryz.isAgg297
 z51:=Tryz.sizeOf297
 v51:=Tryz.zeroValue297
 t53:=Tryz.underlying299
 a53:=Tryz.isAgg299
 z53:=Tryz.sizeOf299
 v53:=Tryz.zeroValue299
 t171:=Tryz.underlying345
 a171:=Tryz.isAgg345
 z171:=Tryz.sizeOf345
 v171:=Tryz.zeroValue345
 t173:=Tryz.underlying347
 a173:=Tryz.isAgg347
 z173:=Tryz.sizeOf347
 v173:=Tryz.zeroValue347
 t212:=Tryz.underlying355
 a212:=Tryz.isAgg355
 z212:=Tryz.sizeOf355
 v212:=Tryz.zeroValue355
 t213:=Tryz.underlying356
 a213:=Tryz.isAgg356
 z213:=Tryz.sizeOf356
 t232:=Tryz.underlying357
 a232:=Tryz.isAgg357
 z232:=Tryz.sizeOf357
 v232:=Tryz.zeroValue357
 t233:=Tryz.underlying358
 a233:=Tryz.isAgg358
 z233:=Tryz.sizeOf358
 v233:=Tryz.zeroValue358
 g17:=by kernel_rfl
 g18:=by kernel_rfl
 g19:=by kernel_rfl
 i0:=by kernel_rfl
 i2:=by kernel_rfl
 i3:=by kernel_rfl
 i4:=by kernel_rfl
 i5:=by kernel_rfl
 i9:=by kernel_rfl
 i20:=by kernel_rfl
 i37:=by kernel_rfl
 i46:=by kernel_rfl
 i51:=by kernel_rfl
 i53:=by kernel_rfl
 i171:=by kernel_rfl
 i173:=by kernel_rfl
 i212:=by kernel_rfl
 i232:=by kernel_rfl
 i233:=by kernel_rfl
 m17:=by kernel_rfl
 m18:=by kernel_rfl
 m19:=by kernel_rfl}
open Go.RowKit Go.Sort Go.Lib in
theorem Tryz.strconv_Itoa (n : Int) (h0 : -9223372036854775808 ≤ n) (h1 : n ≤ 9223372036854775807) (w : World) (htab : Lib.TabIs Tryz.prog w "internal/strconv.uint64pow10" .u64 Lib.pow10Tab) :
    Calls Tryz.prog 186 #[.int .i64 n] w fun e w'=>e= .returned (.string ⟨(Lib.itoa n).toArray⟩)∧∃k os,w'=grow (w.drewN k) os:=Any.strconv_Itoa Tryz.laysM171 n h0 h1 w htab
end Go.Proofs
namespace Go.Proofs.YtlflbkpmfhhikaaGreatDoor
open Go Go.Sx Go.Proofs
def nd:Nat→List UInt8
  | 0=>[]
  | n+1=>nd ((n+1)/10)++[UInt8.ofNat (48+(n+1) % 10)]
decreasing_by omega
theorem qak_ {n:Nat} (h:n≠0):nd n=nd (n/10)++[UInt8.ofNat (48+n % 10)]:=by
 cases n with
 | zero=>exact absurd rfl h
 | succ n=>rw [nd]
theorem qcE_:∀{k n:Nat},n<10^k→(nd n).length≤k
 | k,0,_=>by simp [nd]
 | 0,n+1,h=>by simp at h
 | k+1,n+1,h=>by
  rw [qak_ (by omega),List.length_append];have:(n+1)/10<10^k:=by rw [Nat.pow_succ] at h;omega
  have:=qcE_ this;simp;omega
def dgs (n:Int):List UInt8:=if n=0 then [48] else if n<0 then [45]++nd n.natAbs else nd n.natAbs
theorem zbf_ {n:Int} (h:fits n):(dgs n).length≤20:=by
 have h1:(nd n.natAbs).length≤19:=qcE_ (by unfold fits at h;omega);unfold dgs;split
 ·simp
 ·split
  ·simp;omega
  ·omega
theorem v68_ {P:Prop} (h:P:=by
 refine walk ?_;refine Zb_ hL (k.tdiv 10,[UInt8.ofNat (48+k.natAbs % 10)]++s) ⟨by simp only;unfold fits at hd4;exact hd4,?_⟩ (hμ:=by simp only;omega);simp only;rw [hs,hstep,hd2,List.append_assoc]):P:=h
theorem QS_ {W0:World} {H:Heap} {n:Int} (hf:fits n):
  Ct Tryz.prog 197 #[I n] W0 H [] (fun r H' B=>r= .string (sb (dgs n))∧B=[]∧H'=H):=by
 refine Ct.go fun R=>?_;unfold fits at hf;by_cases h0:n=0
 ·refine walk ?_;refine fin0 ?_;exact ⟨by unfold dgs;rw [if_pos h0],rfl,rfl⟩
 refine walk ?_;refine Qc_ (σ:=Int×List UInt8) (fun s=>(-9223372036854775808≤s.1∧s.1≤9223372036854775807)∧nd n.natAbs=nd s.1.natAbs++s.2) (fun s=>[(0,I n),(3,.string (sb s.2)),(4,I s.1)]) (fun _=>H) (fun _=>R) (fun s=>s.1.natAbs) (n,[]) ⟨hf,by simp⟩ fun ⟨k,s⟩ ⟨hk,hs⟩ K hL=>?_;simp only at hk hs;dsimp only;refine walk ?_;refine ze_ rfl (fun hk0=>?_) (fun hk0=>?_)
 ·have hd1:(k.tmod 10).natAbs=k.natAbs % 10:=Int.natAbs_tmod k 10;have hd2:(k.tdiv 10).natAbs=k.natAbs/10:=Int.natAbs_tdiv k 10;have hd3: -9≤k.tmod 10∧k.tmod 10≤9:=by omega
  have hd4:fits (k.tdiv 10):=by unfold fits;omega
  have hg10:(0:Int)<10∧fits (k.tdiv 10):=⟨by omega,hd4⟩;have hln:(nd n.natAbs).length≤19:=qcE_ (by omega);haveI hsl:LenLe s 19:=⟨by rw [hs] at hln;simp at hln;omega⟩;have hstep:=qak_ (n:=k.natAbs) (by omega);refine walk ?_;generalize k.tmod 10=d at*;refine ze_ rfl (fun hneg=>?_) (fun hneg=>?_)
  ·refine walk ?_;refine zaw_ rfl rfl fun pb _=>?_;refine Qdk_ [IntKind.u8.wrap (48+ -d)] rfl rfl .here ?_;have hw:(IntKind.u8.wrap (48+ -d)).toNat=48+k.natAbs % 10:=by rw [IntKind.wrap_u8];omega
   rw [show ([IntKind.u8.wrap (48+ -d)].map fun n=>UInt8.ofNat n.toNat)=[UInt8.ofNat (48+k.natAbs % 10)] by simp only [List.map_cons,List.map_nil,hw]];exact v68_
  ·refine walk ?_;refine zaw_ rfl rfl fun pb _=>?_;refine Qdk_ [IntKind.u8.wrap (48+d)] rfl rfl .here ?_;have hw:(IntKind.u8.wrap (48+d)).toNat=48+k.natAbs % 10:=by rw [IntKind.wrap_u8];omega
   rw [show ([IntKind.u8.wrap (48+d)].map fun n=>UInt8.ofNat n.toNat)=[UInt8.ofNat (48+k.natAbs % 10)] by simp only [List.map_cons,List.map_nil,hw]];exact v68_
 ·clear hL;have hk1:k=0:=Classical.not_not.1 hk0;subst hk1;simp only [Int.natAbs_zero,nd,List.nil_append] at hs;by_cases hneg:n<0
  ·haveI hsl:LenLe s 19:=⟨by rw [←hs];exact qcE_ (by omega)⟩;refine walk ?_;refine fin0 ?_;exact ⟨by unfold dgs;rw [if_neg h0,if_pos hneg,hs],rfl,rfl⟩
  ·refine walk ?_;refine fin0 ?_;exact ⟨by unfold dgs;rw [if_neg h0,if_neg hneg,hs],rfl,rfl⟩
def qaf_ (c t:Int):List UInt8:=[99]++dgs c++[64]++dgs t
def ZS_ (a b t:Int):List UInt8:=[112]++dgs (min a b)++[45]++dgs (max a b)++[64]++dgs t
theorem zbR_ {W0:World} {H:Heap} {c t:Int} (h1:fits c) (h2:fits t):
  Ct Tryz.prog 181 #[I c,I t] W0 H [] (fun r H' B=>r= .string (sb (qaf_ c t))∧B=[]∧H'=H):=by
 refine Ct.go fun R=>?_;haveI l1:LenLe (dgs c) 20:=⟨zbf_ h1⟩;haveI l2:LenLe (dgs t) 20:=⟨zbf_ h2⟩;refine walk ?_;refine Zf_ rfl rfl (QS_ h1) ?_;refine walk ?_;refine Zf_ rfl rfl (QS_ h2) ?_;exact v148_
theorem Zdm_ {W0:World} {H:Heap} {a b t:Int} (h1:fits a) (h2:fits b) (h3:fits t) (hab:¬b<a):
  Ct Tryz.prog 182 #[I a,I b,I t] W0 H [] (fun r H' B=>r= .string (sb (ZS_ a b t))∧B=[]∧H'=H):=by
 refine Ct.go fun R=>?_;haveI l1:LenLe (dgs a) 20:=⟨zbf_ h1⟩;haveI l2:LenLe (dgs b) 20:=⟨zbf_ h2⟩;haveI l3:LenLe (dgs t) 20:=⟨zbf_ h3⟩;refine walk ?_;refine Zf_ rfl rfl (QS_ h1) ?_;refine walk ?_;refine Zf_ rfl rfl (QS_ h2) ?_;refine walk ?_;refine Zf_ rfl rfl (QS_ h3) ?_;refine walk ?_;refine fin0 ?_;refine ⟨?_,rfl,rfl⟩;unfold ZS_;rw [show min a b=a by omega,show max a b=b by omega]
theorem qdn_ {W0:World} {H:Heap} {a b t:Int} (h1:fits a) (h2:fits b) (h3:fits t):
  Ct Tryz.prog 182 #[I a,I b,I t] W0 H [] (fun r H' B=>r= .string (sb (ZS_ a b t))∧B=[]∧H'=H):=by
 by_cases hab:b<a
 ·refine Ct.go fun R=>?_;refine walk ?_;refine Zf_ rfl rfl (Zdm_ (a:=b) (b:=a) h2 h1 h3 (by omega)) ?_;refine walk ?_;refine fin0 ?_;refine ⟨?_,rfl,rfl⟩;unfold ZS_;rw [Int.min_comm,Int.max_comm]
 ·exact Zdm_ h1 h2 h3 hab
def isDig (b:UInt8):Prop:=48≤b.toNat∧b.toNat≤57
def dval (l:List UInt8):Nat:=l.foldl (fun a b=>a*10+(b.toNat - 48)) 0
theorem zdn_ {l:List UInt8} {b:UInt8}:dval (l++[b])=dval l*10+(b.toNat - 48):=by simp [dval]
theorem zbD_ {k:Nat}:(UInt8.ofNat (48+k % 10)).toNat=48+k % 10:=by
 rw [UInt8.toNat_ofNat'];omega
theorem qeq_ (n:Nat):dval (nd n)=n:=by
 induction n using Nat.strongRecOn with
 | ind n ih=>
  by_cases h:n=0
  ·subst h;simp [nd,dval]
  ·rw [qak_ h,zdn_,ih (n/10) (by omega),zbD_];omega
theorem zeq_ (n:Nat):∀b∈nd n,isDig b:=by
 induction n using Nat.strongRecOn with
 | ind n ih=>
  by_cases h:n=0
  ·subst h;simp [nd]
  ·rw [qak_ h];intro b hb;rcases List.mem_append.1 hb with hb | hb
   ·exact ih (n/10) (by omega) b hb
   ·rw [List.mem_singleton.1 hb];unfold isDig;rw [zbD_];omega
theorem zak_ {n:Int} (h:0≤n):∀b∈dgs n,isDig b:=by
 unfold dgs;split
 ·intro b hb;rw [List.mem_singleton.1 hb];unfold isDig;decide
 ·rw [if_neg (by omega)];exact zeq_ _
theorem Qdn_ {n:Int} (h:0≤n):dval (dgs n)=n.toNat:=by
 unfold dgs;split
 ·next e=>subst e;decide
 ·rw [if_neg (by omega),qeq_];omega
theorem QaK_ {a b:Int} (ha:0≤a) (hb:0≤b) (h:dgs a=dgs b):a=b:=by
 have h1:=Qdn_ ha;rw [h,Qdn_ hb] at h1;omega
theorem zcE_ {s:UInt8} (hs:¬isDig s):∀{u u' v v':List UInt8},(∀b∈u,isDig b)→(∀b∈u',isDig b)→u++s::v=u'++s::v'→u=u'∧v=v'
 | [],[],v,v',_,_,h=>by simpa using h
 | [],b::u',v,v',_,h2,h=>by
  simp only [List.nil_append,List.cons_append,List.cons.injEq] at h;exact absurd (h.1▸h2 b (by simp)) hs
 | b::u,[],v,v',h1,_,h=>by
  simp only [List.nil_append,List.cons_append,List.cons.injEq] at h;exact absurd (h.1▸h1 b (by simp)) hs
 | b::u,b'::u',v,v',h1,h2,h=>by
  simp only [List.cons_append,List.cons.injEq] at h;obtain ⟨e1,e2⟩:=zcE_ hs (fun x hx=>h1 x (by simp [hx])) (fun x hx=>h2 x (by simp [hx])) h.2;exact ⟨by rw [h.1,e1],e2⟩
theorem qdM_ {c c' t t':Int} (h1:0≤c) (h2:0≤c') (h3:0≤t) (h4:0≤t') (h:qaf_ c t=qaf_ c' t'):c=c'∧t=t':=by
 simp only [qaf_,List.append_assoc,List.cons_append,List.nil_append,List.cons.injEq,true_and] at h;obtain ⟨e1,e2⟩:=zcE_ (s:=64) (by unfold isDig;decide) (zak_ h1) (zak_ h2) h;exact ⟨QaK_ h1 h2 e1,QaK_ h3 h4 e2⟩
theorem zdM_ {a b a' b' t t':Int} (h1:0≤a) (h2:0≤b) (h3:0≤a') (h4:0≤b') (h5:0≤t) (h6:0≤t') (h:ZS_ a b t=ZS_ a' b' t'):(min a b=min a' b'∧max a b=max a' b')∧t=t':=by
 simp only [ZS_,List.append_assoc,List.cons_append,List.nil_append,List.cons.injEq,true_and] at h;obtain ⟨e1,e2⟩:=zcE_ (s:=45) (by unfold isDig;decide) (zak_ (by omega)) (zak_ (by omega)) h;obtain ⟨e3,e4⟩:=zcE_ (s:=64) (by unfold isDig;decide) (zak_ (by omega)) (zak_ (by omega)) e2;exact ⟨⟨QaK_ (by omega) (by omega) e1,QaK_ (by omega) (by omega) e3⟩,QaK_ h5 h6 e4⟩
theorem QbR_ {c t a b t':Int}:qaf_ c t≠ZS_ a b t':=by
 intro h;simp only [qaf_,ZS_,List.append_assoc,List.cons_append,List.nil_append,List.cons.injEq] at h;exact absurd h.1 (by decide)
theorem QcC_ {a b:List UInt8} (h:sb a=sb b):a=b:=by
 unfold sb at h;simpa using h
abbrev zz_ (t:Int):Prop:=0≤t∧t≤1073741824
theorem zaF_ {W0:World} {H:Heap} {t:Int}:
  Ct Tryz.prog 183 #[I t] W0 H [] (fun r H' B=>r= .bool (decide (zz_ t))∧B=[]∧H'=H):=by
 refine Ct.go fun R=>?_;refine QB_ ?_;refine fin0 ?_;exact ⟨bdec (by unfold zz_;omega),rfl,rfl⟩
theorem zdR_:∀{u:Nat},u≠0→Lib.decDigits u=nd u:=fun {u}=>by
 induction u using Nat.strongRecOn with
 | ind u ih=>
  intro h;rw [Lib.decDigits,qak_ h];split
  ·next h1=>
   rw [show u/10=0 by omega,show u % 10=u by omega];simp [nd]
  ·next h1=>rw [ih (u/10) (by omega) (by omega)]
theorem QdM_ {n:Int}:Lib.itoa n=dgs n:=by
 unfold Lib.itoa dgs;by_cases h0:n=0
 ·subst h0;rw [if_neg (by omega),if_pos rfl];simp [Lib.decDigits]
 rw [if_neg h0];by_cases h1:n<0
 ·rw [if_pos h1,if_pos h1,zdR_ (by omega)];rfl
 ·rw [if_neg h1,if_neg h1,zdR_ (by omega),show n.toNat=n.natAbs by omega]
theorem Zdn_ {W0:World} {H:Heap} {n:Int} (hT:TabH Tryz.prog H) (hn:fits n):
  Ct Tryz.prog 186 #[I n] W0 H [] (fun r H' B=>r= .string (sb (dgs n))∧B=[]∧H'=H):=by
 have h:=Zeb_ (W0:=W0) hT hn Tryz.strconv_Itoa;rw [QdM_] at h;exact h
end Go.Proofs.YtlflbkpmfhhikaaGreatDoor
