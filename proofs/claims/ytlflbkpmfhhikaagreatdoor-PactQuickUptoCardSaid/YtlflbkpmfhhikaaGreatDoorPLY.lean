/- What the five listed package variables give; the start that fits. -/
import Derived.Test.YtlflbkpmfhhikaaGreatDoorPKB
import Derived.Test.YtlflbkpmfhhikaaGreatDoorPKC
import Derived.Test.YtlflbkpmfhhikaaGreatDoorPLP
import Derived.Shelf.Small.Wraps
import Derived.Shelf.LaysM
import Derived.Shelf.LaysC
import Derived.Shelf.Strconv.AtoiAll
import Derived.Shelf.Strconv.ErrVarAll
import Derived.Shelf.Strings.Search1
import Derived.Shelf.Strings.Search2
import Derived.Shelf.Sort.Plain
import Derived.Shelf.Slices.CompactS
import Derived.Shelf.Slices.In.SortNone
import Derived.Ground.Names2Prog
import Derived.Test.YtlflbkpmfhhikaaGreatDoorProg
import Derived.Lib.SmallJoins
import Derived.Lib.AtoiAllCases
import Derived.Test.YtlflbkpmfhhikaaGreatDoorRows
import Derived.Stop.LaidErr
import Derived.LaidMore
import Derived.LaidHandle
import Derived.MakeChecks
namespace Go.Proofs
open Go.Shelf
def Tryz.lays103_ren : Go.Shelf.Ren := ⟨fun | 103 => 159 | 210 => 187 | 206 => 202 | n => n, fun | 9 => 9 | 4 => 4 | 24 => 286 | 3 => 3 | n => n, fun | n => n⟩
theorem Tryz.lays103 : Go.Proofs.Lays.n103 Tryz.prog Tryz.lays103_ren := {
  mixed := by kernel_rfl
  f103 := Tryz.func159.trans (congrArg some (by kernel_rfl))
  f206 := Tryz.func202.trans (congrArg some (by kernel_rfl))
  f210 := Tryz.func187.trans (congrArg some (by kernel_rfl))
  t3 := Tryz.underlying3
  a3 := Tryz.isAgg3
  z3 := Tryz.sizeOf3
  v3 := Tryz.zeroValue3
  t4 := Tryz.underlying4
  a4 := Tryz.isAgg4
  z4 := Tryz.sizeOf4
  v4 := Tryz.zeroValue4
  t9 := Tryz.underlying9
  a9 := Tryz.isAgg9
  z9 := Tryz.sizeOf9
  v9 := Tryz.zeroValue9
  t24 := Tryz.underlying286
  a24 := Tryz.isAgg286
  z24 := Tryz.sizeOf286
  v24 := Tryz.zeroValue286 }
open Go.RowKit in
theorem Tryz.strings_CutPrefix (s p : ByteArray) (w : World) :
    Calls Tryz.prog 159 #[.string s, .string p] w fun e w' => e = .returned (.tuple #[.string ⟨(Lib.trimPrefix s.data.toList p.data.toList).toArray⟩, .bool (Lib.hasPrefix s.data.toList p.data.toList)]) ∧ w' = w := Any.strings_CutPrefix Tryz.lays103 s p w
def Tryz.laysC172_ren : Go.Shelf.Ren := ⟨fun | 172 => 185 | 244 => 199 | 245 => 200 | 247 => 209 | 279 => 210 | 280 => 211 | 281 => 212 | 282 => 213 | 287 => 217 | 316 => 218 | 171 => 186 | 205 => 219 | 321 => 224 | 322 => 225 | 243 => 201 | 246 => 214 | 283 => 220 | 284 => 221 | 285 => 222 | 286 => 223 | 129 => 170 | 317 => 226 | 318 => 227 | 319 => 228 | 320 => 229 | 337 => 230 | 338 => 231 | n => n, fun | 9 => 9 | 3 => 3 | 75 => 311 | 76 => 312 | 4 => 4 | 5 => 5 | 167 => 330 | 37 => 328 | 0 => 0 | 85 => 331 | 2 => 2 | 168 => 333 | 53 => 299 | 175 => 339 | 46 => 234 | 210 => 343 | 127 => 350 | 145 => 353 | 143 => 351 | 21 => 21 | 171 => 345 | 173 => 347 | 212 => 355 | 51 => 297 | 20 => 20 | 213 => 356 | 232 => 357 | 233 => 358 | 80 => 359 | n => n, fun | 15 => 1 | 16 => 2 | 17 => 3 | 18 => 4 | 19 => 5 | n => n⟩
theorem Tryz.laysC172 : Go.Proofs.LaysC.n172 Tryz.prog Tryz.laysC172_ren := {
  mixed := by kernel_rfl
  f129 := Tryz.func170.trans (congrArg some (by kernel_rfl))
  f171 := Tryz.func186.trans (congrArg some (by kernel_rfl))
  f172 := Tryz.func185.trans (congrArg some (by kernel_rfl))
  f205 := Tryz.func219.trans (congrArg some (by kernel_rfl))
  f243 := Tryz.func201.trans (congrArg some (by kernel_rfl))
  f244 := Tryz.func199.trans (congrArg some (by kernel_rfl))
  f245 := Tryz.func200.trans (congrArg some (by kernel_rfl))
  f246 := Tryz.func214.trans (congrArg some (by kernel_rfl))
  f247 := Tryz.func209.trans (congrArg some (by kernel_rfl))
  f279 := Tryz.func210.trans (congrArg some (by kernel_rfl))
  f280 := Tryz.func211.trans (congrArg some (by kernel_rfl))
  f281 := Tryz.func212.trans (congrArg some (by kernel_rfl))
  f282 := Tryz.func213.trans (congrArg some (by kernel_rfl))
  f283 := Tryz.func220.trans (congrArg some (by kernel_rfl))
  f284 := Tryz.func221.trans (congrArg some (by kernel_rfl))
  f285 := Tryz.func222.trans (congrArg some (by kernel_rfl))
  f286 := Tryz.func223.trans (congrArg some (by kernel_rfl))
  f287 := Tryz.func217.trans (congrArg some (by kernel_rfl))
  f316 := Tryz.func218.trans (congrArg some (by kernel_rfl))
  f317 := Tryz.func226.trans (congrArg some (by kernel_rfl))
  f318 := Tryz.func227.trans (congrArg some (by kernel_rfl))
  f319 := Tryz.func228.trans (congrArg some (by kernel_rfl))
  f320 := Tryz.func229.trans (congrArg some (by kernel_rfl))
  f321 := Tryz.func224.trans (congrArg some (by kernel_rfl))
  f322 := Tryz.func225.trans (congrArg some (by kernel_rfl))
  f337 := Tryz.func230.trans (congrArg some (by kernel_rfl))
  f338 := Tryz.func231.trans (congrArg some (by kernel_rfl))
  t0 := Tryz.underlying0
  a0 := Tryz.isAgg0
  z0 := Tryz.sizeOf0
  v0 := Tryz.zeroValue0
  t2 := Tryz.underlying2
  a2 := Tryz.isAgg2
  z2 := Tryz.sizeOf2
  v2 := Tryz.zeroValue2
  t3 := Tryz.underlying3
  a3 := Tryz.isAgg3
  z3 := Tryz.sizeOf3
  v3 := Tryz.zeroValue3
  t4 := Tryz.underlying4
  a4 := Tryz.isAgg4
  z4 := Tryz.sizeOf4
  v4 := Tryz.zeroValue4
  t5 := Tryz.underlying5
  a5 := Tryz.isAgg5
  z5 := Tryz.sizeOf5
  v5 := Tryz.zeroValue5
  t9 := Tryz.underlying9
  a9 := Tryz.isAgg9
  z9 := Tryz.sizeOf9
  v9 := Tryz.zeroValue9
  t20 := Tryz.underlying20
  a20 := Tryz.isAgg20
  z20 := Tryz.sizeOf20
  v20 := Tryz.zeroValue20
  t21 := Tryz.underlying21
  a21 := Tryz.isAgg21
  z21 := Tryz.sizeOf21
  v21 := Tryz.zeroValue21
  t37 := Tryz.underlying328
  a37 := Tryz.isAgg328
  z37 := Tryz.sizeOf328
  v37 := Tryz.zeroValue328
  t46 := Tryz.underlying234
  a46 := Tryz.isAgg234
  z46 := Tryz.sizeOf234
  v46 := Tryz.zeroValue234
  t51 := Tryz.underlying297
  a51 := Tryz.isAgg297
  z51 := Tryz.sizeOf297
  v51 := Tryz.zeroValue297
  t53 := Tryz.underlying299
  a53 := Tryz.isAgg299
  z53 := Tryz.sizeOf299
  v53 := Tryz.zeroValue299
  t75 := Tryz.underlying311
  a75 := Tryz.isAgg311
  z75 := Tryz.sizeOf311
  v75 := Tryz.zeroValue311
  t76 := Tryz.underlying312
  a76 := Tryz.isAgg312
  z76 := Tryz.sizeOf312
  v76 := Tryz.zeroValue312
  t85 := Tryz.underlying331
  a85 := Tryz.isAgg331
  z85 := Tryz.sizeOf331
  v85 := Tryz.zeroValue331
  t127 := Tryz.underlying350
  a127 := Tryz.isAgg350
  z127 := Tryz.sizeOf350
  v127 := Tryz.zeroValue350
  t143 := Tryz.underlying351
  a143 := Tryz.isAgg351
  z143 := Tryz.sizeOf351
  v143 := Tryz.zeroValue351
  t145 := Tryz.underlying353
  a145 := Tryz.isAgg353
  z145 := Tryz.sizeOf353
  v145 := Tryz.zeroValue353
  t167 := Tryz.underlying330
  a167 := Tryz.isAgg330
  z167 := Tryz.sizeOf330
  v167 := Tryz.zeroValue330
  t168 := Tryz.underlying333
  a168 := Tryz.isAgg333
  z168 := Tryz.sizeOf333
  v168 := Tryz.zeroValue333
  t171 := Tryz.underlying345
  a171 := Tryz.isAgg345
  z171 := Tryz.sizeOf345
  v171 := Tryz.zeroValue345
  t173 := Tryz.underlying347
  a173 := Tryz.isAgg347
  z173 := Tryz.sizeOf347
  v173 := Tryz.zeroValue347
  t175 := Tryz.underlying339
  a175 := Tryz.isAgg339
  z175 := Tryz.sizeOf339
  v175 := Tryz.zeroValue339
  t210 := Tryz.underlying343
  a210 := Tryz.isAgg343
  z210 := Tryz.sizeOf343
  v210 := Tryz.zeroValue343
  t212 := Tryz.underlying355
  a212 := Tryz.isAgg355
  z212 := Tryz.sizeOf355
  v212 := Tryz.zeroValue355
  t213 := Tryz.underlying356
  a213 := Tryz.isAgg356
  z213 := Tryz.sizeOf356
  t232 := Tryz.underlying357
  a232 := Tryz.isAgg357
  z232 := Tryz.sizeOf357
  v232 := Tryz.zeroValue357
  t233 := Tryz.underlying358
  a233 := Tryz.isAgg358
  z233 := Tryz.sizeOf358
  v233 := Tryz.zeroValue358
  g15 := by kernel_rfl
  g16 := by kernel_rfl
  g17 := by kernel_rfl
  g18 := by kernel_rfl
  g19 := by kernel_rfl
  t80 := Tryz.underlying359
  a80 := Tryz.isAgg359
  z80 := Tryz.sizeOf359
  v80 := Tryz.zeroValue359
  i0 := by kernel_rfl
  i2 := by kernel_rfl
  i3 := by kernel_rfl
  i4 := by kernel_rfl
  i5 := by kernel_rfl
  i9 := by kernel_rfl
  i20 := by kernel_rfl
  i21 := by kernel_rfl
  i37 := by kernel_rfl
  i46 := by kernel_rfl
  i51 := by kernel_rfl
  i53 := by kernel_rfl
  i75 := by kernel_rfl
  i76 := by kernel_rfl
  i80 := by kernel_rfl
  i85 := by kernel_rfl
  i127 := by kernel_rfl
  i143 := by kernel_rfl
  i145 := by kernel_rfl
  i167 := by kernel_rfl
  i168 := by kernel_rfl
  i171 := by kernel_rfl
  i173 := by kernel_rfl
  i175 := by kernel_rfl
  i210 := by kernel_rfl
  i212 := by kernel_rfl
  i232 := by kernel_rfl
  i233 := by kernel_rfl
  m15 := by kernel_rfl
  m16 := by kernel_rfl
  m17 := by kernel_rfl
  m18 := by kernel_rfl
  m19 := by kernel_rfl
  c0 := by kernel_rfl
  c2 := by kernel_rfl
  c3 := by kernel_rfl
  c4 := by kernel_rfl
  c5 := by kernel_rfl
  c9 := by kernel_rfl
  c20 := by kernel_rfl
  c21 := by kernel_rfl
  c37 := by kernel_rfl
  c46 := by kernel_rfl
  c51 := by kernel_rfl
  c53 := by kernel_rfl
  c75 := by kernel_rfl
  c76 := by kernel_rfl
  c80 := by kernel_rfl
  c85 := by kernel_rfl
  c127 := by kernel_rfl
  c143 := by kernel_rfl
  c145 := by kernel_rfl
  c167 := by kernel_rfl
  c168 := by kernel_rfl
  c171 := by kernel_rfl
  c173 := by kernel_rfl
  c175 := by kernel_rfl
  c210 := by kernel_rfl
  c212 := by kernel_rfl
  c213 := by kernel_rfl
  c232 := by kernel_rfl
  c233 := by kernel_rfl }
open Go.RowKit in
theorem Tryz.strconv_Atoi_ok (s : ByteArray) (hmax : s.size ≤ 9223372036854775806) (v : Int) (h : Lib.atoiAll s.data.toList = .ok v) (w : World) :
    Calls Tryz.prog 185 #[.string s] w fun e w' => e = .returned (.tuple #[.int .i64 v, .nilIface]) ∧ (w' = w ∨ ∃ t, w' = Lib.bytesWorld w 5 t) := Any.strconv_Atoi_ok Tryz.laysC172 s hmax v h w
def Tryz.lays219_ren : Go.Shelf.Ren := ⟨fun | 219 => 198 | 217 => 205 | 225 => 206 | 224 => 207 | 267 => 208 | 266 => 215 | 314 => 216 | n => n, fun | 9 => 9 | 3 => 3 | 4 => 4 | 5 => 5 | 46 => 234 | 146 => 337 | 51 => 297 | n => n, fun | 1 => 0 | n => n⟩
theorem Tryz.lays219 : Go.Proofs.Lays.n219 Tryz.prog Tryz.lays219_ren := {
  mixed := by kernel_rfl
  f217 := Tryz.func205.trans (congrArg some (by kernel_rfl))
  f219 := Tryz.func198.trans (congrArg some (by kernel_rfl))
  f224 := Tryz.func207.trans (congrArg some (by kernel_rfl))
  f225 := Tryz.func206.trans (congrArg some (by kernel_rfl))
  f266 := Tryz.func215.trans (congrArg some (by kernel_rfl))
  f267 := Tryz.func208.trans (congrArg some (by kernel_rfl))
  f314 := Tryz.func216.trans (congrArg some (by kernel_rfl))
  t3 := Tryz.underlying3
  a3 := Tryz.isAgg3
  z3 := Tryz.sizeOf3
  v3 := Tryz.zeroValue3
  t4 := Tryz.underlying4
  a4 := Tryz.isAgg4
  z4 := Tryz.sizeOf4
  v4 := Tryz.zeroValue4
  t5 := Tryz.underlying5
  a5 := Tryz.isAgg5
  z5 := Tryz.sizeOf5
  v5 := Tryz.zeroValue5
  t9 := Tryz.underlying9
  a9 := Tryz.isAgg9
  z9 := Tryz.sizeOf9
  v9 := Tryz.zeroValue9
  t46 := Tryz.underlying234
  a46 := Tryz.isAgg234
  z46 := Tryz.sizeOf234
  v46 := Tryz.zeroValue234
  t51 := Tryz.underlying297
  a51 := Tryz.isAgg297
  z51 := Tryz.sizeOf297
  v51 := Tryz.zeroValue297
  t146 := Tryz.underlying337
  a146 := Tryz.isAgg337
  z146 := Tryz.sizeOf337
  v146 := Tryz.zeroValue337
  g1 := by kernel_rfl }
open Go.RowKit Go.Lib in
theorem Tryz.stringslite_Index_one (s : ByteArray) (c : UInt8) (w : World) :
    Calls Tryz.prog 198 #[.string s, .string ⟨#[c]⟩] w fun e w' => e = .returned (.int .i64 (Lib.indexByte s.data.toList c)) ∧ w' = w := Any.stringslite_Index_one Tryz.lays219 s c w
def Tryz.lays190_ren : Go.Shelf.Ren := ⟨fun | 190 => 115 | 125 => 145 | 258 => 144 | 128 => 169 | 129 => 170 | 302 => 160 | 303 => 161 | 304 => 162 | 305 => 163 | 306 => 164 | 307 => 165 | 308 => 166 | 309 => 167 | 310 => 168 | 333 => 188 | 329 => 189 | 330 => 190 | 334 => 191 | 335 => 192 | 336 => 193 | 344 => 203 | n => n, fun | 31 => 48 | 9 => 9 | 3 => 3 | 46 => 234 | 0 => 0 | 51 => 297 | 53 => 299 | 4 => 4 | 183 => 290 | 182 => 289 | 131 => 220 | 5 => 5 | 218 => 315 | 222 => 319 | 228 => 325 | 229 => 306 | n => n, fun | n => n⟩
theorem Tryz.lays190 : Go.Proofs.Lays.n190 Tryz.prog Tryz.lays190_ren := {
  mixed := by kernel_rfl
  f125 := Tryz.func145.trans (congrArg some (by kernel_rfl))
  f128 := Tryz.func169.trans (congrArg some (by kernel_rfl))
  f129 := Tryz.func170.trans (congrArg some (by kernel_rfl))
  f190 := Tryz.func115.trans (congrArg some (by kernel_rfl))
  f258 := Tryz.func144.trans (congrArg some (by kernel_rfl))
  f302 := Tryz.func160.trans (congrArg some (by kernel_rfl))
  f303 := Tryz.func161.trans (congrArg some (by kernel_rfl))
  f304 := Tryz.func162.trans (congrArg some (by kernel_rfl))
  f305 := Tryz.func163.trans (congrArg some (by kernel_rfl))
  f306 := Tryz.func164.trans (congrArg some (by kernel_rfl))
  f307 := Tryz.func165.trans (congrArg some (by kernel_rfl))
  f308 := Tryz.func166.trans (congrArg some (by kernel_rfl))
  f309 := Tryz.func167.trans (congrArg some (by kernel_rfl))
  f310 := Tryz.func168.trans (congrArg some (by kernel_rfl))
  f329 := Tryz.func189.trans (congrArg some (by kernel_rfl))
  f330 := Tryz.func190.trans (congrArg some (by kernel_rfl))
  f333 := Tryz.func188.trans (congrArg some (by kernel_rfl))
  f334 := Tryz.func191.trans (congrArg some (by kernel_rfl))
  f335 := Tryz.func192.trans (congrArg some (by kernel_rfl))
  f336 := Tryz.func193.trans (congrArg some (by kernel_rfl))
  f344 := Tryz.func203.trans (congrArg some (by kernel_rfl))
  t0 := Tryz.underlying0
  a0 := Tryz.isAgg0
  z0 := Tryz.sizeOf0
  v0 := Tryz.zeroValue0
  t3 := Tryz.underlying3
  a3 := Tryz.isAgg3
  z3 := Tryz.sizeOf3
  v3 := Tryz.zeroValue3
  t4 := Tryz.underlying4
  a4 := Tryz.isAgg4
  z4 := Tryz.sizeOf4
  v4 := Tryz.zeroValue4
  t5 := Tryz.underlying5
  a5 := Tryz.isAgg5
  z5 := Tryz.sizeOf5
  v5 := Tryz.zeroValue5
  t9 := Tryz.underlying9
  a9 := Tryz.isAgg9
  z9 := Tryz.sizeOf9
  v9 := Tryz.zeroValue9
  t31 := Tryz.underlying48
  a31 := Tryz.isAgg48
  z31 := Tryz.sizeOf48
  v31 := Tryz.zeroValue48
  t46 := Tryz.underlying234
  a46 := Tryz.isAgg234
  z46 := Tryz.sizeOf234
  v46 := Tryz.zeroValue234
  t51 := Tryz.underlying297
  a51 := Tryz.isAgg297
  z51 := Tryz.sizeOf297
  v51 := Tryz.zeroValue297
  t53 := Tryz.underlying299
  a53 := Tryz.isAgg299
  z53 := Tryz.sizeOf299
  v53 := Tryz.zeroValue299
  t131 := Tryz.underlying220
  a131 := Tryz.isAgg220
  z131 := Tryz.sizeOf220
  v131 := Tryz.zeroValue220
  t182 := Tryz.underlying289
  a182 := Tryz.isAgg289
  z182 := Tryz.sizeOf289
  v182 := Tryz.zeroValue289
  t183 := Tryz.underlying290
  a183 := Tryz.isAgg290
  z183 := Tryz.sizeOf290
  v183 := Tryz.zeroValue290
  t218 := Tryz.underlying315
  a218 := Tryz.isAgg315
  z218 := Tryz.sizeOf315
  v218 := Tryz.zeroValue315
  t222 := Tryz.underlying319
  a222 := Tryz.isAgg319
  z222 := Tryz.sizeOf319
  v222 := Tryz.zeroValue319
  t228 := Tryz.underlying325
  a228 := Tryz.isAgg325
  z228 := Tryz.sizeOf325
  v228 := Tryz.zeroValue325
  t229 := Tryz.underlying306
  a229 := Tryz.isAgg306
  z229 := Tryz.sizeOf306
  v229 := Tryz.zeroValue306 }
open Go.Sort Go.RowKit in
theorem Tryz.slices_Sort_string (blk off cap : Nat) (ss : List (List UInt8)) (w : World) (hH : Holds encStr w blk off ss.toArray) (hblk : blk < w.heap.size) (hsz : ss.length < 4611686018427387904) :
    Calls Tryz.prog 115 #[.slice (some ⟨blk, off, none⟩) ss.length cap] w fun e w' =>
      e = .returned (.tuple #[]) ∧ ∃ n os, w' = grow (putRow encStr (Sort.ahead w n) blk off (ss.mergeSort fun x y => decide (x ≤ y)).toArray) os := Any.slices_Sort_string Tryz.lays190 blk off cap ss w hH hblk hsz
def Tryz.lays194_ren : Go.Shelf.Ren := ⟨fun | 194 => 134 | n => n, fun | 31 => 48 | 9 => 9 | 3 => 3 | 4 => 4 | 0 => 0 | n => n, fun | n => n⟩
theorem Tryz.lays194 : Go.Proofs.Lays.n194 Tryz.prog Tryz.lays194_ren := {
  mixed := by kernel_rfl
  f194 := Tryz.func134.trans (congrArg some (by kernel_rfl))
  t0 := Tryz.underlying0
  a0 := Tryz.isAgg0
  z0 := Tryz.sizeOf0
  v0 := Tryz.zeroValue0
  t3 := Tryz.underlying3
  a3 := Tryz.isAgg3
  z3 := Tryz.sizeOf3
  v3 := Tryz.zeroValue3
  t4 := Tryz.underlying4
  a4 := Tryz.isAgg4
  z4 := Tryz.sizeOf4
  v4 := Tryz.zeroValue4
  t9 := Tryz.underlying9
  a9 := Tryz.isAgg9
  z9 := Tryz.sizeOf9
  v9 := Tryz.zeroValue9
  t31 := Tryz.underlying48
  a31 := Tryz.isAgg48
  z31 := Tryz.sizeOf48
  v31 := Tryz.zeroValue48 }
open Go.RowKit Go.Lib Go.Sort in
theorem Tryz.slices_Compact_string (blk off cap : Nat) (zs : List (List UInt8)) (w : World) (hH : Holds encStr w blk off zs.toArray) (hsz : zs.length ≤ 9223372036854775807) (hcap : zs.length ≤ cap) :
    Calls Tryz.prog 134 #[.slice (some ⟨blk, off, none⟩) zs.length cap] w fun e w' => e = .returned (.slice (some ⟨blk, off, none⟩) (Lib.compact zs).length cap) ∧ ∃ q, w' = putRow encStr (Sort.ahead w q) blk off (Lib.compact zs ++ List.replicate (zs.length - (Lib.compact zs).length) []).toArray := Any.slices_Compact_string Tryz.lays194 blk off cap zs w hH hsz hcap
open Go.RowKit Go.Lib Go.Sort in
theorem Tryz.slices_Compact_string_empty (a : Option Addr) (cap : Nat) (w : World) :
    Calls Tryz.prog 134 #[.slice a 0 cap] w fun e w' => e = .returned (.slice a 0 cap) ∧ w' = w := Any.slices_Compact_string_empty Tryz.lays194 a cap w
open Go.RowKit Go.Sort in
theorem Tryz.slices_Sort_string_none (p : Option Addr) (cap : Nat) (w : World) :
    Calls Tryz.prog 115 #[.slice p 0 cap] w fun e w' => e = .returned (.tuple #[]) ∧ w' = w := Any.slices_Sort_string_none Tryz.lays190 p cap w
end Go.Proofs
set_option linter.unusedVariables false
set_option linter.unusedSimpArgs false
namespace Go.Proofs.YtlflbkpmfhhikaaGreatDoor
open Go Go.Sx Go.Proofs
instance : TIf Tryz.prog 311 := ⟨_, Tryz.underlying311⟩
def cutB (c : UInt8) : List UInt8 → List UInt8 × List UInt8 × Bool
  | [] => ([], [], false)
  | b :: r => if b = c then ([], r, true) else (b :: (cutB c r).1, (cutB c r).2.1, (cutB c r).2.2)
theorem cutB_at {c : UInt8} {v : List UInt8} : ∀ {u : List UInt8}, c ∉ u → cutB c (u ++ c :: v) = (u, v, true)
  | [], _ => by simp [cutB]
  | b :: u, h => by
    have h1 : ¬ b = c := fun e => h (List.mem_cons.2 (.inl e.symm))
    have ih := cutB_at (v := v) (u := u) (fun e => h (List.mem_cons.2 (.inr e)))
    simp only [List.cons_append, cutB, ih, if_neg h1]
theorem cutB_ok {c : UInt8} : ∀ {l : List UInt8}, (cutB c l).2.2 = true → l = (cutB c l).1 ++ c :: (cutB c l).2.1
  | [], h => by cases h
  | b :: r, h => by
    unfold cutB at h ⊢
    split
    · next e => subst e; rfl
    · next e => rw [if_neg e] at h; simp only [List.cons_append]; rw [← cutB_ok (l := r) h]
theorem cutB_len {c : UInt8} : ∀ {l : List UInt8}, (cutB c l).1.length ≤ l.length ∧ (cutB c l).2.1.length ≤ l.length
  | [] => by simp [cutB]
  | b :: r => by
    have := cutB_len (c := c) (l := r)
    unfold cutB; split
    · simp
    · simp only [List.length_cons]; omega
theorem cutB_idx {c : UInt8} : ∀ {l : List UInt8}, (Lib.indexByte l c = -1 ∧ cutB c l = (l, [], false)) ∨ ∃ j : Nat, j < l.length ∧ Lib.indexByte l c = j ∧ cutB c l = (l.take j, l.drop (j + 1), true)
  | [] => .inl ⟨rfl, rfl⟩
  | b :: r => by
    by_cases e : b = c
    · subst e; exact .inr ⟨0, by simp, by simp [Lib.indexByte], by simp [cutB]⟩
    · have hb : (b == c) = false := by simpa using e
      rcases cutB_idx (c := c) (l := r) with ⟨h1, h2⟩ | ⟨j, h0, h1, h2⟩
      · exact .inl ⟨by simp [Lib.indexByte, hb, h1], by simp [cutB, e, h2]⟩
      · refine .inr ⟨j + 1, by simp; omega, ?_, by simp [cutB, e, h2]⟩
        have h3 : ¬ ((j : Int) = -1) := by omega
        simp [Lib.indexByte, hb, h1, h3]
def preB (c : UInt8) : List UInt8 → List UInt8 × Bool
  | [] => ([], false)
  | b :: r => if b = c then (r, true) else (b :: r, false)
theorem preB_lib {c : UInt8} {l : List UInt8} : Lib.trimPrefix l [c] = (preB c l).1 ∧ Lib.hasPrefix l [c] = (preB c l).2 := by
  cases l with
  | nil => simp [Lib.trimPrefix, Lib.hasPrefix, preB]
  | cons b r =>
    unfold preB Lib.trimPrefix Lib.hasPrefix
    by_cases e : b = c
    · subst e; simp [List.isPrefixOf]
    · have h1 : (c == b) = false := by simpa using fun h : c = b => e h.symm
      have h2 : [c].isPrefixOf (b :: r) = false := by simp [List.isPrefixOf, h1]
      simp [e, h2]
theorem preB_len {c : UInt8} {l : List UInt8} : (preB c l).1.length ≤ l.length := by
  cases l with
  | nil => simp [preB]
  | cons b r => by_cases e : b = c <;> simp [preB, e]
theorem preB_ok {c : UInt8} {l : List UInt8} (h : (preB c l).2 = true) : l = c :: (preB c l).1 := by
  cases l with
  | nil => cases h
  | cons b r =>
    by_cases e : b = c
    · subst e; simp [preB]
    · simp [preB, e] at h
theorem idx1_spec {W0 : World} {H : Heap} {l : List UInt8} {c : UInt8} :
    Ct Tryz.prog 198 #[.string (sb l), .string (sb [c])] W0 H [] (fun r H' B => r = I (Lib.indexByte l c) ∧ B = [] ∧ H' = H) :=
  ct_pure fun w _ => (Tryz.stringslite_Index_one (sb l) c w).mono fun e w' ⟨h1, h2⟩ => ⟨by rw [h1, sb_data], h2 ▸ .refl _ _⟩
instance : TFn Tryz.prog 184 := ⟨Tryz.call184⟩
instance : TBody Tryz.prog 184 Tryz.f184 (Tryz.f184.body.getD .skip) 23 := ⟨Tryz.func184, rfl, Tryz.ntmps184⟩
instance : TFn Tryz.prog 198 := ⟨Tryz.call198⟩
def cutV (c : UInt8) (l : List UInt8) : Value := .tuple #[.string (sb (cutB c l).1), .string (sb (cutB c l).2.1), .bool (cutB c l).2.2]
theorem cut0_spec {W0 : World} {H : Heap} {l : List UInt8} {c : UInt8} (hl : l.length ≤ cap47) :
    Ct Tryz.prog 184 #[.string (sb l), .string (sb [c])] W0 H [] (fun r H' B => r = cutV c l ∧ B = [] ∧ H' = H) := by
  refine Ct.go fun R => ?_
  simp only [cap47] at hl
  refine walk ?_
  refine ops_pcall rfl rfl idx1_spec ?_
  rcases cutB_idx (c := c) (l := l) with ⟨h1, h2⟩ | ⟨j, h0, h1, h2⟩
  · rw [h1]
    refine walk ?_
    refine fin0 ?_
    exact ⟨by unfold cutV; rw [h2], rfl, rfl⟩
  · rw [h1]
    refine walk ?_
    rw [show ((sb [c]).size : Int) = 1 from rfl]
    refine walk ?_
    refine fin0 ?_
    exact ⟨by unfold cutV; rw [h2], rfl, rfl⟩
theorem cutS_spec {W0 : World} {H : Heap} {l : List UInt8} {c : UInt8} (hl : l.length ≤ cap47) :
    Ct Tryz.prog 157 #[.string (sb l), .string (sb [c])] W0 H [] (fun r H' B => r = cutV c l ∧ B = [] ∧ H' = H) := by
  refine Ct.go fun R => ?_
  refine walk ?_
  refine ops_pcall rfl rfl (cut0_spec hl) ?_
  unfold cutV
  refine walk ?_
  refine fin0 ?_
  exact ⟨rfl, rfl, rfl⟩
theorem preS_spec {W0 : World} {H : Heap} {l : List UInt8} {c : UInt8} :
    Ct Tryz.prog 159 #[.string (sb l), .string (sb [c])] W0 H [] (fun r H' B => r = .tuple #[.string (sb (preB c l).1), .bool (preB c l).2] ∧ B = [] ∧ H' = H) :=
  ct_pure fun w _ => (Tryz.strings_CutPrefix (sb l) (sb [c]) w).mono fun e w' ⟨h1, h2⟩ => ⟨by rw [h1, sb_data, sb_data, preB_lib.1, preB_lib.2], h2 ▸ .refl _ _⟩
structure PkH (H : Heap) : Prop where
  tab : TabH Tryz.prog H
  syn : ∃ tp p, VarH Tryz.prog H "strconv.ErrSyntax" [.iface tp p]
  ran : ∃ tp p, VarH Tryz.prog H "strconv.ErrRange" [.iface tp p]
theorem PkH.mono {H H' : Heap} (h : PkH H) (hl : H.le H') : PkH H' := ⟨h.tab.mono hl, let ⟨a, b, c⟩ := h.syn; ⟨a, b, c.mono hl⟩, let ⟨a, b, c⟩ := h.ran; ⟨a, b, c.mono hl⟩⟩
def AtoiP (l : List UInt8) (r : Value) : Prop := (∃ v, Lib.atoiAll l = .ok v ∧ r = .tuple #[I v, .nilIface]) ∨ ((∀ v, Lib.atoiAll l ≠ .ok v) ∧ ∃ n t u, r = .tuple #[I n, .iface t u])
theorem atoi_spec {W0 : World} {H : Heap} {l : List UInt8} (hP : PkH H) (hl : l.length ≤ cap47) :
    Ct Tryz.prog 185 #[.string (sb l)] W0 H [] (fun r H' B => AtoiP l r ∧ B = [] ∧ H' = H) := by
  have hs : (sb l).size ≤ 281474976710656 := by rw [sb_size]; simp only [cap47] at hl; omega
  refine ct_pureP fun w hw => ?_
  cases h : Lib.atoiAll l
  · next v =>
    refine (Tryz.strconv_Atoi_ok (sb l) (by omega) v (by rw [sb_data]; exact h) w).mono fun e w' ⟨h1, h2⟩ => ⟨_, h1, .inl ⟨v, h, rfl⟩, ?_⟩
    rcases h2 with rfl | ⟨t, rfl⟩
    · exact .refl _ _
    · exact Joins.below_bytesWorld _ w _ _ (Nat.le_refl _)
  · obtain ⟨tp, p, hv⟩ := hP.syn
    refine (Any.strconv_Atoi_syntax_var Tryz.laysC172 (sb l) hs (by rw [sb_data]; exact h) tp p w (hv.var hw)).mono fun e w' ⟨N, h1, _, _, h2⟩ => ⟨_, h1, .inr ⟨fun v e => (by rw [h] at e; cases e), _, _, _, rfl⟩, h2⟩
  · obtain ⟨tp, p, hv⟩ := hP.ran
    refine (Any.strconv_Atoi_range_var Tryz.laysC172 (sb l) hs (by rw [sb_data]; exact h) tp p w (hv.var hw)).mono fun e w' ⟨N, h1, _, _, h2⟩ => ⟨_, h1, .inr ⟨fun v e => (by rw [h] at e; cases e), _, _, _, rfl⟩, h2⟩
theorem parse_app {v : List UInt8} : ∀ {u : List UInt8} {a b : Nat}, Lib.parseUint10 a u = .ok b → Lib.parseUint10 a (u ++ v) = Lib.parseUint10 b v
  | [], a, b, h => by simp only [Lib.parseUint10] at h; cases h; rfl
  | c :: u, a, b, h => by
    simp only [Lib.parseUint10, List.cons_append] at h ⊢
    split at h
    · next h1 =>
      rw [if_pos h1]
      split at h
      · cases h
      · next h2 =>
        rw [if_neg h2]
        split at h
        · cases h
        · next h3 => rw [if_neg h3]; exact parse_app h
    · cases h
theorem parse_nd : ∀ {n : Nat}, n < 10000000000000000000 → Lib.parseUint10 0 (nd n) = .ok n := fun {n} => by
  induction n using Nat.strongRecOn with
  | ind n ih =>
    intro hn
    by_cases h0 : n = 0
    · subst h0; simp [nd, Lib.parseUint10]
    · have hd := dig_nat (k := n)
      rw [nd_step h0, parse_app (ih (n / 10) (by omega) (by omega))]
      simp only [Lib.parseUint10]
      rw [hd, if_pos (by omega), if_neg (by omega), if_neg (by omega)]
      congr 1; omega
theorem atoi_dgs {v : Int} (h0 : 0 ≤ v) (h1 : v ≤ 1073741824) : Lib.atoiAll (dgs v) = .ok v := by
  have hp : Lib.parseUint10 0 (dgs v) = .ok v.toNat := by
    unfold dgs
    split
    · next h => subst h; simp [Lib.parseUint10]
    · rw [if_neg (by omega), show v.natAbs = v.toNat by omega]; exact parse_nd (by omega)
  have hd := dgs_dig h0
  cases hl : dgs v with
  | nil =>
    exfalso
    unfold dgs at hl
    split at hl
    · cases hl
    · rw [if_neg (by omega), nd_step (by omega)] at hl; simp at hl
  | cons c r =>
    rw [hl] at hp hd
    have hc := hd c (by simp)
    unfold isDig at hc
    have hm : Lib.parseMag (c :: r) = .ok v.toNat := by unfold Lib.parseMag; rw [if_neg (by simp)]; exact hp
    unfold Lib.atoiAll
    simp only
    rw [if_neg (by omega), hm]
    simp only
    rw [if_neg (by omega), if_neg (by omega), if_neg (by omega)]
    congr 1; omega
open Classical in
noncomputable def numL (l : List UInt8) : Option Int := if h : ∃ v, (0 ≤ v ∧ v ≤ 1073741824) ∧ dgs v = l then some h.choose else none
theorem numL_iff {l : List UInt8} {v : Int} : numL l = some v ↔ (0 ≤ v ∧ v ≤ 1073741824) ∧ dgs v = l := by
  unfold numL
  constructor
  · intro h
    split at h
    · next hh => cases h; exact hh.choose_spec
    · cases h
  · intro h
    have hh : ∃ v, (0 ≤ v ∧ v ≤ 1073741824) ∧ dgs v = l := ⟨v, h⟩
    rw [dif_pos hh]
    have h2 := hh.choose_spec
    rw [dgs_inj h2.1.1 h.1.1 (h2.2.trans h.2.symm)]
def NumP (l : List UInt8) (r : Value) : Prop := ∃ n, r = .tuple #[I n, .bool (numL l).isSome] ∧ ∀ v, numL l = some v → n = v
theorem number_spec {W0 : World} {H : Heap} {l : List UInt8} (hP : PkH H) (hl : l.length ≤ cap47) :
    Ct Tryz.prog 158 #[.string (sb l)] W0 H [] (fun r H' B => NumP l r ∧ B = [] ∧ H' = H) := by
  refine Ct.go fun R => ?_
  refine walk ?_
  refine ops_call rfl rfl (atoi_spec hP hl) fun r1 H1 B hl1 ⟨hr, eB, eH⟩ => ?_
  subst eB eH
  rcases hr with ⟨v, h, rfl⟩ | ⟨hno, n, t, u, rfl⟩
  · have hb := Lib.atoiAll_bounds h
    have hf : fits v := by unfold fits; omega
    refine walkG ?_
    refine ops_gcall rfl rfl (fun hg => itoa_spec hP.tab hf) ?_
    refine walkG ?_
    refine fin0 ?_
    refine ⟨⟨v, ?_, fun v' h' => ?_⟩, rfl, rfl⟩
    · by_cases h2 : (0 ≤ v ∧ v ≤ 1073741824) ∧ dgs v = l
      · rw [numL_iff.2 h2, decide_eq_true (p := _ ∧ _) ⟨h2.1, by rw [h2.2]⟩]; rfl
      · have hnone : numL l = none := by
          cases h3 : numL l with
          | none => rfl
          | some v' =>
            obtain ⟨h4, h5⟩ := numL_iff.1 h3
            have h6 := atoi_dgs h4.1 h4.2
            rw [h5, h] at h6
            cases h6
            exact absurd ⟨h4, h5⟩ h2
        rw [hnone, decide_eq_false (p := _ ∧ _) (fun h3 => h2 ⟨h3.1, sb_inj h3.2⟩)]; rfl
    · obtain ⟨h1, h2⟩ := numL_iff.1 h'
      have h3 := atoi_dgs h1.1 h1.2
      rw [h2, h] at h3
      cases h3; rfl
  · have hnone : numL l = none := by
      cases h : numL l with
      | none => rfl
      | some v =>
        obtain ⟨h1, h2⟩ := numL_iff.1 h
        exact absurd (by rw [← h2]; exact atoi_dgs h1.1 h1.2) (hno v)
    refine walkG ?_
    refine fin0 ?_
    exact ⟨⟨n, by rw [hnone]; rfl, fun v h => (by rw [hnone] at h; cases h)⟩, rfl, rfl⟩
def isKey (l : List UInt8) (k : Int × Int × Int) : Prop := (k.2.1 = -1 ∧ tickI k.1 ∧ tickI k.2.2 ∧ l = slotL k.1 k.2.2) ∨ (tickI k.1 ∧ tickI k.2.1 ∧ k.1 < k.2.1 ∧ tickI k.2.2 ∧ l = passL k.1 k.2.1 k.2.2)
theorem isKey.uniq {l : List UInt8} {k k' : Int × Int × Int} (h : isKey l k) (h' : isKey l k') : k = k' := by
  obtain ⟨a, b, t⟩ := k
  obtain ⟨a', b', t'⟩ := k'
  simp only [isKey, tickI] at h h'
  rcases h with ⟨h1, h2, h3, h4⟩ | ⟨h1, h2, h3, h4, h5⟩
  · rcases h' with ⟨g1, g2, g3, g4⟩ | ⟨g1, g2, g3, g4, g5⟩
    · obtain ⟨e1, e2⟩ := slot_inj h2.1 g2.1 h3.1 g3.1 (h4.symm.trans g4)
      rw [e1, e2, h1, g1]
    · exact absurd (h4.symm.trans g5) slot_pass
  · rcases h' with ⟨g1, g2, g3, g4⟩ | ⟨g1, g2, g3, g4, g5⟩
    · exact absurd (g4.symm.trans h5) slot_pass
    · obtain ⟨⟨e1, e2⟩, e3⟩ := pass_inj h1.1 h2.1 g1.1 g2.1 h4.1 g4.1 (h5.symm.trans g5)
      rw [show a = a' by omega, show b = b' by omega, e3]
def ReadP (l : List UInt8) (r : Value) : Prop := (∃ k, isKey l k ∧ r = .tuple #[.agg #[I k.1, I k.2.1, I k.2.2], .bool true]) ∨ ((∀ k, ¬ isKey l k) ∧ r = .tuple #[.agg #[I 0, I 0, I 0], .bool false])
theorem no_dig {c : UInt8} (hc : ¬ isDig c) {n : Int} (h : 0 ≤ n) : c ∉ dgs n := fun e => hc (dgs_dig h c e)
theorem nd64 : ¬ isDig 64 := by unfold isDig; decide
theorem nd45 : ¬ isDig 45 := by unfold isDig; decide
theorem numL_dgs {n : Int} (h : tickI n) : numL (dgs n) = some n := numL_iff.2 ⟨h, rfl⟩
theorem slot_cut {c t : Int} (h : tickI c) : cutB 64 (slotL c t) = (99 :: dgs c, dgs t, true) := by
  have : slotL c t = (99 :: dgs c) ++ 64 :: dgs t := by simp [slotL]
  rw [this, cutB_at]
  intro e
  rcases List.mem_cons.1 e with e | e
  · cases e
  · exact no_dig nd64 h.1 e
theorem pass_cut {a b t : Int} (ha : tickI a) (hb : tickI b) (hab : a < b) : cutB 64 (passL a b t) = (112 :: (dgs a ++ 45 :: dgs b), dgs t, true) ∧ cutB 45 (dgs a ++ 45 :: dgs b) = (dgs a, dgs b, true) := by
  have : passL a b t = (112 :: (dgs a ++ 45 :: dgs b)) ++ 64 :: dgs t := by
    unfold passL; rw [show min a b = a by omega, show max a b = b by omega]; simp
  refine ⟨?_, cutB_at (no_dig nd45 ha.1)⟩
  rw [this, cutB_at]
  intro e
  rcases List.mem_cons.1 e with e | e
  · cases e
  · rcases List.mem_append.1 e with e | e
    · exact no_dig nd64 ha.1 e
    · rcases List.mem_cons.1 e with e | e
      · cases e
      · exact no_dig nd64 hb.1 e
theorem key_parts {l : List UInt8} {k : Int × Int × Int} (h : isKey l k) : (cutB 64 l).2.2 = true ∧ numL (cutB 64 l).2.1 = some k.2.2 ∧
    ((k.2.1 = -1 ∧ preB 99 (cutB 64 l).1 = (dgs k.1, true) ∧ numL (dgs k.1) = some k.1) ∨ ((preB 99 (cutB 64 l).1).2 = false ∧ (preB 112 (cutB 64 l).1).2 = true ∧ (cutB 45 (preB 112 (cutB 64 l).1).1).2.2 = true ∧ numL (cutB 45 (preB 112 (cutB 64 l).1).1).1 = some k.1 ∧ numL (cutB 45 (preB 112 (cutB 64 l).1).1).2.1 = some k.2.1 ∧ k.1 < k.2.1)) := by
  rcases h with ⟨h1, h2, h3, rfl⟩ | ⟨h1, h2, h3, h4, rfl⟩
  · rw [slot_cut h2]
    exact ⟨rfl, numL_dgs h3, .inl ⟨h1, by simp [preB], numL_dgs h2⟩⟩
  · obtain ⟨e1, e2⟩ := pass_cut (t := k.2.2) h1 h2 h3
    rw [e1]
    refine ⟨rfl, numL_dgs h4, .inr ⟨by simp [preB], by simp [preB], ?_, ?_, ?_, h3⟩⟩ <;> simp only [preB, if_pos] <;> rw [e2]
    · exact numL_dgs h1
    · exact numL_dgs h2
theorem cap_le {a b : Nat} (h : a ≤ b) (hb : b ≤ cap47) : a ≤ cap47 := Nat.le_trans h hb
set_option maxHeartbeats 16000000 in
theorem read_spec {W0 : World} {H : Heap} {l : List UInt8} (hP : PkH H) (hl : l.length ≤ cap47) :
    Ct Tryz.prog 135 #[.string (sb l)] W0 H [] (fun r H' B => ReadP l r ∧ B = [] ∧ H' = H) := by
  refine Ct.go fun R => ?_
  have lc := cutB_len (c := 64) (l := l)
  have hk := fun k => key_parts (l := l) (k := k)
  have hok := cutB_ok (c := 64) (l := l)
  refine walk ?_
  refine ops_alloc rfl fun p2 _ => ?_
  refine walk ?_
  refine ops_pcall rfl rfl (cutS_spec (c := 64) hl) ?_
  unfold cutV
  obtain ⟨pl, tl, ok, hcc⟩ : ∃ pl tl ok, cutB 64 l = (pl, tl, ok) := ⟨_, _, _, rfl⟩
  simp only [hcc] at lc hk hok ⊢
  refine walk ?_
  refine ops_call rfl rfl (number_spec hP (cap_le lc.2 hl)) fun r1 H1 B hl1 ⟨⟨tick, er, htick⟩, eB, eH⟩ => ?_
  subst er eB eH
  refine walkG ?_
  refine ex_if rfl (fun hq => ?_) (fun hq => ?_)
  · have hno : ∀ k, ¬ isKey l k := fun k h => by
      have h1 := hk k h
      rcases hq with h2 | h2
      · rw [h1.1] at h2; cases h2
      · rw [h1.2.1] at h2; cases h2
    refine walk ?_
    refine fin0 ?_
    exact ⟨.inr ⟨hno, rfl⟩, rfl, rfl⟩
  have hok1 : ok = true := by cases ok with | true => rfl | false => exact absurd (.inl rfl) hq
  subst hok1
  obtain ⟨t, ht⟩ : ∃ t, numL tl = some t := by
    cases h : numL tl with
    | some t => exact ⟨t, rfl⟩
    | none => exact absurd (.inr (by rw [h]; rfl)) hq
  obtain rfl := htick t ht
  obtain ⟨tt, et⟩ := numL_iff.1 ht
  have hll := hok rfl
  refine walk ?_
  refine ops_pcall rfl rfl (preS_spec (c := 99) (l := pl)) ?_
  have lp := preB_len (c := 99) (l := pl)
  have hp := preB_ok (c := 99) (l := pl)
  obtain ⟨cell, pre, hpre⟩ : ∃ cell pre, preB 99 pl = (cell, pre) := ⟨_, _, rfl⟩
  simp only [hpre] at lp hp hk ⊢
  cases pre with
  | true =>
    refine walk ?_
    refine ops_call rfl rfl (number_spec hP (cap_le lp (cap_le lc.1 hl))) fun r2 H2 B hl2 ⟨⟨n, er, hn⟩, eB, eH⟩ => ?_
    subst er eB eH
    cases hc : numL cell with
    | none =>
      have hno : ∀ k, ¬ isKey l k := fun k h => by
        rcases (hk k h).2.2 with ⟨_, e, f⟩ | ⟨e, _⟩
        · have e := congrArg Prod.fst e
          simp only at e
          rw [e] at hc; rw [hc] at f; cases f
        · cases e
      rw [show Option.isSome (none : Option Int) = false from rfl]
      refine walk ?_
      refine fin0 ?_
      exact ⟨.inr ⟨hno, rfl⟩, rfl, rfl⟩
    | some c =>
      obtain rfl := hn c hc
      obtain ⟨tc, ec⟩ := numL_iff.1 hc
      rw [show Option.isSome (some n) = true from rfl]
      refine walk ?_
      refine fin0 ?_
      refine ⟨.inl ⟨(n, -1, tick), .inl ⟨rfl, tc, tt, ?_⟩, rfl⟩, rfl, rfl⟩
      rw [hll, hp rfl, ← ec, ← et]; simp [slotL]
  | false =>
    refine walk ?_
    refine ops_pcall rfl rfl (preS_spec (c := 112) (l := pl)) ?_
    have lp2 := preB_len (c := 112) (l := pl)
    have hp2 := preB_ok (c := 112) (l := pl)
    obtain ⟨two, pass, hpass⟩ : ∃ two pass, preB 112 pl = (two, pass) := ⟨_, _, rfl⟩
    simp only [hpass] at lp2 hp2 hk ⊢
    refine walk ?_
    refine ops_pcall rfl rfl (cutS_spec (c := 45) (l := two) (cap_le lp2 (cap_le lc.1 hl))) ?_
    unfold cutV
    have lc2 := cutB_len (c := 45) (l := two)
    have hok2 := cutB_ok (c := 45) (l := two)
    obtain ⟨one, other, ok2, hcc2⟩ : ∃ one other ok2, cutB 45 two = (one, other, ok2) := ⟨_, _, _, rfl⟩
    simp only [hcc2] at lc2 hok2 hk ⊢
    refine walk ?_
    refine ops_call rfl rfl (number_spec hP (cap_le lc2.1 (cap_le lp2 (cap_le lc.1 hl)))) fun r3 H3 B hl3 ⟨⟨a, er, ha⟩, eB, eH⟩ => ?_
    subst er eB eH
    refine walk ?_
    refine ops_call rfl rfl (number_spec hP (cap_le lc2.2 (cap_le lp2 (cap_le lc.1 hl)))) fun r4 H4 B hl4 ⟨⟨b, er, hb⟩, eB, eH⟩ => ?_
    subst er eB eH
    refine walkG ?_
    refine ex_if rfl (fun hq2 => ?_) (fun hq2 => ?_)
    · have hno : ∀ k, ¬ isKey l k := fun k h => by
        rcases (hk k h).2.2 with ⟨_, e, _⟩ | ⟨_, e1, e2, e3, e4, e5⟩
        · cases e
        · have := ha _ e3
          have := hb _ e4
          rw [e1, e2, e3, e4] at hq2
          rcases hq2 with (((h | h) | h) | h) | h
          · cases h
          · cases h
          · cases h
          · cases h
          · omega
      refine walk ?_
      refine fin0 ?_
      exact ⟨.inr ⟨hno, rfl⟩, rfl, rfl⟩
    · have hpa : pass = true := by cases pass with | true => rfl | false => exact absurd (.inl (.inl (.inl (.inl rfl)))) hq2
      have hoa : ok2 = true := by cases ok2 with | true => rfl | false => exact absurd (.inl (.inl (.inl (.inr rfl)))) hq2
      subst hpa hoa
      obtain ⟨a', ha'⟩ : ∃ a', numL one = some a' := by
        cases h : numL one with
        | some t => exact ⟨t, rfl⟩
        | none => exact absurd (.inl (.inl (.inr (by rw [h]; rfl)))) hq2
      obtain ⟨b', hb'⟩ : ∃ b', numL other = some b' := by
        cases h : numL other with
        | some t => exact ⟨t, rfl⟩
        | none => exact absurd (.inl (.inr (by rw [h]; rfl))) hq2
      obtain rfl := ha a' ha'
      obtain rfl := hb b' hb'
      obtain ⟨ta, ea⟩ := numL_iff.1 ha'
      obtain ⟨tb, eb⟩ := numL_iff.1 hb'
      have hab : a < b := by
        by_cases h : b ≤ a
        · exact absurd (.inr h) hq2
        · omega
      refine walk ?_
      refine fin0 ?_
      refine ⟨.inl ⟨(a, b, tick), .inr ⟨ta, tb, hab, tt, ?_⟩, rfl⟩, rfl, rfl⟩
      rw [hll, hp2 rfl, hok2 rfl, ← ea, ← eb, ← et]
      unfold passL
      rw [show min a b = a by omega, show max a b = b by omega]
      simp
end Go.Proofs.YtlflbkpmfhhikaaGreatDoor
namespace Go.Proofs.YtlflbkpmfhhikaaGreatDoor
open Go Go.Sx Go.Proofs Go.ChangeShapes Go.WideShapes Go.ChangeAt Go.RowKit
theorem own0 : ownKnob Tryz.prog.godebug = none := by kernel_rfl
theorem laid0 : laidOutB Tryz.prog = true := by kernel_rfl
theorem varH_of {W : World} {name : String} {cs : List Value} (h : W.var? Tryz.prog name = some cs.toArray) : VarH Tryz.prog (hp W) name cs := by
  unfold World.var? at h
  cases hg : Tryz.prog.globalNamed name with
  | none => rw [hg] at h; cases h
  | some g =>
    rw [hg] at h
    simp only [Option.bind_some] at h
    split at h
    · next cs' T f hc => cases h; exact ⟨g, T, f, hg, hc⟩
    · cases h
theorem tab_of {W : World} {r : List (String × DataW Unit)} (h : laidMet Tryz.prog (("internal/strconv.uint64pow10", Rows.laid_internal_strconv_uint64pow10) :: r) W) : TabH Tryz.prog (hp W) := by
  exact varH_of (Lib.tabIs_of_head (g := 3) (k := .u64) (zs := Lib.pow10Tab) (rest := r) (t := 355) (e := 299) (n := 20) (by kernel_rfl) (by kernel_rfl) Tryz.underlying355 Tryz.underlying299 (by kernel_rfl) (by kernel_rfl) h)
def laid5 : List (String × DataW Unit) := [("math/bits.deBruijn32tab", Rows.laid_math_bits_deBruijn32tab), ("math/bits.deBruijn64tab", Rows.laid_math_bits_deBruijn64tab), ("internal/strconv.uint64pow10", Rows.laid_internal_strconv_uint64pow10), ("strconv.ErrRange", Rows.laid_strconv_ErrRange), ("strconv.ErrSyntax", Rows.laid_strconv_ErrSyntax)]
theorem star0 : "*" ++ "errors.errorString" = "*errors.errorString" := by decide
theorem errRow (u : TypeId) (h : Tryz.prog.typeName? 3 u = some "*errors.errorString") : u = 351 :=
  typeName_ptr_named (nm := "errors.errorString") (by rw [star0]; kernel_rfl) (by kernel_rfl) (by decide) u (by rw [star0]; exact h)
theorem tab5 {W : World} (h : laidMetH Tryz.prog laid5 W) : PkH (hp W) := by
  rw [MakeChecks.laidMetH_plain _ _ _ (by kernel_rfl)] at h
  have h2 := laidMet.tail (laidMet.tail h)
  have h3 := laidMet.tail h2
  have h4 := laidMet.tail h3
  obtain ⟨a0, s0, hv0, -, -, -⟩ := laid_sentinel (g := 2) h3 (by kernel_rfl) (by kernel_rfl) Tryz.underlying311 errRow Tryz.underlying351 Tryz.underlying353 rfl rfl Tryz.underlying9 (by kernel_rfl) (by kernel_rfl)
  obtain ⟨a1, s1, hv1, -, -, -⟩ := laid_sentinel (g := 1) h4 (by kernel_rfl) (by kernel_rfl) Tryz.underlying311 errRow Tryz.underlying351 Tryz.underlying353 rfl rfl Tryz.underlying9 (by kernel_rfl) (by kernel_rfl)
  exact ⟨tab_of h2, ⟨_, _, varH_of hv1⟩, ⟨_, _, varH_of hv0⟩⟩
theorem door5 (os : Os) (args : Array Value) : laidMetH Tryz.prog laid5 ((World.doorLaid Tryz.prog 62 os).forCall (fun _ _ => 0) ⟨#[], args, []⟩).memory :=
  laidMetH_of_parts3 (fuel := 8) (laidMet_of_run' 8 (by kernel_rfl) (by kernel_rfl)) (by kernel_rfl) (by kernel_rfl)
end Go.Proofs.YtlflbkpmfhhikaaGreatDoor
