/-
  DERIVED: THE SHELF's CONTRACTS AT THIS DUMP, IN PLAIN WORDS (tools/lay-plain.mjs out of 'TryzShelf.lean', which tools/lay-shelf.mjs wrote): THE SAME DECLARATIONS UNDER THE SAME NAMES: 'import', 'namespace', 'open', 'def', 'theorem' AND NOTHING ELSE: no command of the shelf's: FOR A HAND-IN. Each laying: the table of numbers ('.._ren') and one theorem, a field a fact of the dump's own or the kernel's comparison; each contract: ONE APPLICATION.
-/
import Derived.Shelf.Small.Wraps
import Derived.Shelf.LaysM
import Derived.Shelf.LaysC
import Derived.Shelf.Strconv.AtoiAll
import Derived.Shelf.Strconv.ErrVarAll
import Derived.Shelf.Strings.Search1
import Derived.Shelf.Strings.Search2
import Derived.Shelf.Sort.Plain
import Derived.Shelf.Slices.CompactS
import Derived.Shelf.Slices.In.SortNone
import Derived.Ground.Names2Prog
import Derived.Test.YtjgjcakeimkkdaaGreatDoorProg
namespace Go.Proofs
open Go.Shelf
def Tryz.lays103_ren : Go.Shelf.Ren := ⟨fun | 103 => 87 | 210 => 116 | 206 => 136 | n => n, fun | 9 => 9 | 4 => 4 | 24 => 167 | 3 => 3 | n => n, fun | n => n⟩
theorem Tryz.lays103 : Go.Proofs.Lays.n103 Tryz.prog Tryz.lays103_ren := {
  mixed := by kernel_rfl
  f103 := Tryz.func87.trans (congrArg some (by kernel_rfl))
  f206 := Tryz.func136.trans (congrArg some (by kernel_rfl))
  f210 := Tryz.func116.trans (congrArg some (by kernel_rfl))
  t3 := Tryz.underlying3
  a3 := Tryz.isAgg3
  z3 := Tryz.sizeOf3
  v3 := Tryz.zeroValue3
  t4 := Tryz.underlying4
  a4 := Tryz.isAgg4
  z4 := Tryz.sizeOf4
  v4 := Tryz.zeroValue4
  t9 := Tryz.underlying9
  a9 := Tryz.isAgg9
  z9 := Tryz.sizeOf9
  v9 := Tryz.zeroValue9
  t24 := Tryz.underlying167
  a24 := Tryz.isAgg167
  z24 := Tryz.sizeOf167
  v24 := Tryz.zeroValue167 }
open Go.RowKit in
/-- strings.CutPrefix: "CutPrefix returns s without the provided leading prefix string and reports whether it found the prefix. If s doesn't start with prefix, CutPrefix returns s, false. If prefix is the empty string, CutPrefix returns s, true.": IT RETURNS '(Lib.trimPrefix s p, Lib.hasPrefix s p)'; the world is as it was. (LAID: no walk: one application.) -/
theorem Tryz.strings_CutPrefix (s p : ByteArray) (w : World) :
    Calls Tryz.prog 87 #[.string s, .string p] w fun e w' => e = .returned (.tuple #[.string ⟨(Lib.trimPrefix s.data.toList p.data.toList).toArray⟩, .bool (Lib.hasPrefix s.data.toList p.data.toList)]) ∧ w' = w := Any.strings_CutPrefix Tryz.lays103 s p w
def Tryz.laysC172_ren : Go.Shelf.Ren := ⟨fun | 172 => 114 | 244 => 133 | 245 => 134 | 247 => 145 | 279 => 146 | 280 => 147 | 281 => 148 | 282 => 149 | 287 => 154 | 316 => 155 | 171 => 115 | 205 => 156 | 321 => 161 | 322 => 162 | 243 => 135 | 246 => 150 | 283 => 157 | 284 => 158 | 285 => 159 | 286 => 160 | 129 => 112 | 317 => 163 | 318 => 164 | 319 => 165 | 320 => 166 | 337 => 167 | 338 => 168 | n => n, fun | 9 => 9 | 3 => 3 | 75 => 196 | 76 => 197 | 4 => 4 | 5 => 5 | 167 => 220 | 37 => 215 | 0 => 0 | 85 => 221 | 2 => 2 | 168 => 223 | 53 => 194 | 175 => 230 | 46 => 163 | 210 => 234 | 127 => 241 | 145 => 244 | 143 => 242 | 21 => 21 | 171 => 236 | 173 => 238 | 212 => 246 | 51 => 192 | 20 => 20 | 213 => 247 | 232 => 248 | 233 => 249 | 80 => 250 | n => n, fun | 15 => 1 | 16 => 2 | 17 => 3 | 18 => 4 | 19 => 5 | n => n⟩
theorem Tryz.laysC172 : Go.Proofs.LaysC.n172 Tryz.prog Tryz.laysC172_ren := {
  mixed := by kernel_rfl
  f129 := Tryz.func112.trans (congrArg some (by kernel_rfl))
  f171 := Tryz.func115.trans (congrArg some (by kernel_rfl))
  f172 := Tryz.func114.trans (congrArg some (by kernel_rfl))
  f205 := Tryz.func156.trans (congrArg some (by kernel_rfl))
  f243 := Tryz.func135.trans (congrArg some (by kernel_rfl))
  f244 := Tryz.func133.trans (congrArg some (by kernel_rfl))
  f245 := Tryz.func134.trans (congrArg some (by kernel_rfl))
  f246 := Tryz.func150.trans (congrArg some (by kernel_rfl))
  f247 := Tryz.func145.trans (congrArg some (by kernel_rfl))
  f279 := Tryz.func146.trans (congrArg some (by kernel_rfl))
  f280 := Tryz.func147.trans (congrArg some (by kernel_rfl))
  f281 := Tryz.func148.trans (congrArg some (by kernel_rfl))
  f282 := Tryz.func149.trans (congrArg some (by kernel_rfl))
  f283 := Tryz.func157.trans (congrArg some (by kernel_rfl))
  f284 := Tryz.func158.trans (congrArg some (by kernel_rfl))
  f285 := Tryz.func159.trans (congrArg some (by kernel_rfl))
  f286 := Tryz.func160.trans (congrArg some (by kernel_rfl))
  f287 := Tryz.func154.trans (congrArg some (by kernel_rfl))
  f316 := Tryz.func155.trans (congrArg some (by kernel_rfl))
  f317 := Tryz.func163.trans (congrArg some (by kernel_rfl))
  f318 := Tryz.func164.trans (congrArg some (by kernel_rfl))
  f319 := Tryz.func165.trans (congrArg some (by kernel_rfl))
  f320 := Tryz.func166.trans (congrArg some (by kernel_rfl))
  f321 := Tryz.func161.trans (congrArg some (by kernel_rfl))
  f322 := Tryz.func162.trans (congrArg some (by kernel_rfl))
  f337 := Tryz.func167.trans (congrArg some (by kernel_rfl))
  f338 := Tryz.func168.trans (congrArg some (by kernel_rfl))
  t0 := Tryz.underlying0
  a0 := Tryz.isAgg0
  z0 := Tryz.sizeOf0
  v0 := Tryz.zeroValue0
  t2 := Tryz.underlying2
  a2 := Tryz.isAgg2
  z2 := Tryz.sizeOf2
  v2 := Tryz.zeroValue2
  t3 := Tryz.underlying3
  a3 := Tryz.isAgg3
  z3 := Tryz.sizeOf3
  v3 := Tryz.zeroValue3
  t4 := Tryz.underlying4
  a4 := Tryz.isAgg4
  z4 := Tryz.sizeOf4
  v4 := Tryz.zeroValue4
  t5 := Tryz.underlying5
  a5 := Tryz.isAgg5
  z5 := Tryz.sizeOf5
  v5 := Tryz.zeroValue5
  t9 := Tryz.underlying9
  a9 := Tryz.isAgg9
  z9 := Tryz.sizeOf9
  v9 := Tryz.zeroValue9
  t20 := Tryz.underlying20
  a20 := Tryz.isAgg20
  z20 := Tryz.sizeOf20
  v20 := Tryz.zeroValue20
  t21 := Tryz.underlying21
  a21 := Tryz.isAgg21
  z21 := Tryz.sizeOf21
  v21 := Tryz.zeroValue21
  t37 := Tryz.underlying215
  a37 := Tryz.isAgg215
  z37 := Tryz.sizeOf215
  v37 := Tryz.zeroValue215
  t46 := Tryz.underlying163
  a46 := Tryz.isAgg163
  z46 := Tryz.sizeOf163
  v46 := Tryz.zeroValue163
  t51 := Tryz.underlying192
  a51 := Tryz.isAgg192
  z51 := Tryz.sizeOf192
  v51 := Tryz.zeroValue192
  t53 := Tryz.underlying194
  a53 := Tryz.isAgg194
  z53 := Tryz.sizeOf194
  v53 := Tryz.zeroValue194
  t75 := Tryz.underlying196
  a75 := Tryz.isAgg196
  z75 := Tryz.sizeOf196
  v75 := Tryz.zeroValue196
  t76 := Tryz.underlying197
  a76 := Tryz.isAgg197
  z76 := Tryz.sizeOf197
  v76 := Tryz.zeroValue197
  t85 := Tryz.underlying221
  a85 := Tryz.isAgg221
  z85 := Tryz.sizeOf221
  v85 := Tryz.zeroValue221
  t127 := Tryz.underlying241
  a127 := Tryz.isAgg241
  z127 := Tryz.sizeOf241
  v127 := Tryz.zeroValue241
  t143 := Tryz.underlying242
  a143 := Tryz.isAgg242
  z143 := Tryz.sizeOf242
  v143 := Tryz.zeroValue242
  t145 := Tryz.underlying244
  a145 := Tryz.isAgg244
  z145 := Tryz.sizeOf244
  v145 := Tryz.zeroValue244
  t167 := Tryz.underlying220
  a167 := Tryz.isAgg220
  z167 := Tryz.sizeOf220
  v167 := Tryz.zeroValue220
  t168 := Tryz.underlying223
  a168 := Tryz.isAgg223
  z168 := Tryz.sizeOf223
  v168 := Tryz.zeroValue223
  t171 := Tryz.underlying236
  a171 := Tryz.isAgg236
  z171 := Tryz.sizeOf236
  v171 := Tryz.zeroValue236
  t173 := Tryz.underlying238
  a173 := Tryz.isAgg238
  z173 := Tryz.sizeOf238
  v173 := Tryz.zeroValue238
  t175 := Tryz.underlying230
  a175 := Tryz.isAgg230
  z175 := Tryz.sizeOf230
  v175 := Tryz.zeroValue230
  t210 := Tryz.underlying234
  a210 := Tryz.isAgg234
  z210 := Tryz.sizeOf234
  v210 := Tryz.zeroValue234
  t212 := Tryz.underlying246
  a212 := Tryz.isAgg246
  z212 := Tryz.sizeOf246
  v212 := Tryz.zeroValue246
  t213 := Tryz.underlying247
  a213 := Tryz.isAgg247
  z213 := Tryz.sizeOf247
  t232 := Tryz.underlying248
  a232 := Tryz.isAgg248
  z232 := Tryz.sizeOf248
  v232 := Tryz.zeroValue248
  t233 := Tryz.underlying249
  a233 := Tryz.isAgg249
  z233 := Tryz.sizeOf249
  v233 := Tryz.zeroValue249
  g15 := by kernel_rfl
  g16 := by kernel_rfl
  g17 := by kernel_rfl
  g18 := by kernel_rfl
  g19 := by kernel_rfl
  t80 := Tryz.underlying250
  a80 := Tryz.isAgg250
  z80 := Tryz.sizeOf250
  v80 := Tryz.zeroValue250
  i0 := by kernel_rfl
  i2 := by kernel_rfl
  i3 := by kernel_rfl
  i4 := by kernel_rfl
  i5 := by kernel_rfl
  i9 := by kernel_rfl
  i20 := by kernel_rfl
  i21 := by kernel_rfl
  i37 := by kernel_rfl
  i46 := by kernel_rfl
  i51 := by kernel_rfl
  i53 := by kernel_rfl
  i75 := by kernel_rfl
  i76 := by kernel_rfl
  i80 := by kernel_rfl
  i85 := by kernel_rfl
  i127 := by kernel_rfl
  i143 := by kernel_rfl
  i145 := by kernel_rfl
  i167 := by kernel_rfl
  i168 := by kernel_rfl
  i171 := by kernel_rfl
  i173 := by kernel_rfl
  i175 := by kernel_rfl
  i210 := by kernel_rfl
  i212 := by kernel_rfl
  i232 := by kernel_rfl
  i233 := by kernel_rfl
  m15 := by kernel_rfl
  m16 := by kernel_rfl
  m17 := by kernel_rfl
  m18 := by kernel_rfl
  m19 := by kernel_rfl
  c0 := by kernel_rfl
  c2 := by kernel_rfl
  c3 := by kernel_rfl
  c4 := by kernel_rfl
  c5 := by kernel_rfl
  c9 := by kernel_rfl
  c20 := by kernel_rfl
  c21 := by kernel_rfl
  c37 := by kernel_rfl
  c46 := by kernel_rfl
  c51 := by kernel_rfl
  c53 := by kernel_rfl
  c75 := by kernel_rfl
  c76 := by kernel_rfl
  c80 := by kernel_rfl
  c85 := by kernel_rfl
  c127 := by kernel_rfl
  c143 := by kernel_rfl
  c145 := by kernel_rfl
  c167 := by kernel_rfl
  c168 := by kernel_rfl
  c171 := by kernel_rfl
  c173 := by kernel_rfl
  c175 := by kernel_rfl
  c210 := by kernel_rfl
  c212 := by kernel_rfl
  c213 := by kernel_rfl
  c232 := by kernel_rfl
  c233 := by kernel_rfl }
open Go.RowKit in
/-- strconv.Atoi, AT EVERY STRING THAT SPELLS AN int ('Lib.atoiAll .. = .ok v'; of whatever length: leading zeros count): v, AND NO ERROR. The world: as it was, or with the one new row that '[]byte(..)' lays. (LAID: no walk: one application.) -/
theorem Tryz.strconv_Atoi_ok (s : ByteArray) (hmax : s.size ≤ 9223372036854775806) (v : Int) (h : Lib.atoiAll s.data.toList = .ok v) (w : World) :
    Calls Tryz.prog 114 #[.string s] w fun e w' => e = .returned (.tuple #[.int .i64 v, .nilIface]) ∧ (w' = w ∨ ∃ t, w' = Lib.bytesWorld w 5 t) := Any.strconv_Atoi_ok Tryz.laysC172 s hmax v h w
def Tryz.lays219_ren : Go.Shelf.Ren := ⟨fun | 219 => 132 | 217 => 141 | 225 => 142 | 224 => 143 | 267 => 144 | 266 => 152 | 314 => 153 | n => n, fun | 9 => 9 | 3 => 3 | 4 => 4 | 5 => 5 | 46 => 163 | 146 => 228 | 51 => 192 | n => n, fun | 1 => 0 | n => n⟩
theorem Tryz.lays219 : Go.Proofs.Lays.n219 Tryz.prog Tryz.lays219_ren := {
  mixed := by kernel_rfl
  f217 := Tryz.func141.trans (congrArg some (by kernel_rfl))
  f219 := Tryz.func132.trans (congrArg some (by kernel_rfl))
  f224 := Tryz.func143.trans (congrArg some (by kernel_rfl))
  f225 := Tryz.func142.trans (congrArg some (by kernel_rfl))
  f266 := Tryz.func152.trans (congrArg some (by kernel_rfl))
  f267 := Tryz.func144.trans (congrArg some (by kernel_rfl))
  f314 := Tryz.func153.trans (congrArg some (by kernel_rfl))
  t3 := Tryz.underlying3
  a3 := Tryz.isAgg3
  z3 := Tryz.sizeOf3
  v3 := Tryz.zeroValue3
  t4 := Tryz.underlying4
  a4 := Tryz.isAgg4
  z4 := Tryz.sizeOf4
  v4 := Tryz.zeroValue4
  t5 := Tryz.underlying5
  a5 := Tryz.isAgg5
  z5 := Tryz.sizeOf5
  v5 := Tryz.zeroValue5
  t9 := Tryz.underlying9
  a9 := Tryz.isAgg9
  z9 := Tryz.sizeOf9
  v9 := Tryz.zeroValue9
  t46 := Tryz.underlying163
  a46 := Tryz.isAgg163
  z46 := Tryz.sizeOf163
  v46 := Tryz.zeroValue163
  t51 := Tryz.underlying192
  a51 := Tryz.isAgg192
  z51 := Tryz.sizeOf192
  v51 := Tryz.zeroValue192
  t146 := Tryz.underlying228
  a146 := Tryz.isAgg228
  z146 := Tryz.sizeOf228
  v146 := Tryz.zeroValue228
  g1 := by kernel_rfl }
open Go.RowKit Go.Lib in
/-- internal/stringslite.Index (what strings.Index calls) AT A substr OF ONE BYTE c: IT RETURNS 'Lib.indexByte s c'; the world is as it was. (LAID: no walk: one application.) -/
theorem Tryz.stringslite_Index_one (s : ByteArray) (c : UInt8) (w : World) :
    Calls Tryz.prog 132 #[.string s, .string ⟨#[c]⟩] w fun e w' => e = .returned (.int .i64 (Lib.indexByte s.data.toList c)) ∧ w' = w := Any.stringslite_Index_one Tryz.lays219 s c w
def Tryz.lays190_ren : Go.Shelf.Ren := ⟨fun | 190 => 53 | 125 => 84 | 258 => 83 | 128 => 111 | 129 => 112 | 302 => 102 | 303 => 103 | 304 => 104 | 305 => 105 | 306 => 106 | 307 => 107 | 308 => 108 | 309 => 109 | 310 => 110 | 333 => 126 | 329 => 127 | 330 => 128 | 334 => 129 | 335 => 130 | 336 => 131 | 344 => 140 | n => n, fun | 31 => 30 | 9 => 9 | 3 => 3 | 46 => 163 | 0 => 0 | 51 => 192 | 53 => 194 | 4 => 4 | 183 => 185 | 182 => 184 | 131 => 86 | 5 => 5 | 218 => 205 | 222 => 209 | 228 => 216 | 229 => 179 | n => n, fun | n => n⟩
theorem Tryz.lays190 : Go.Proofs.Lays.n190 Tryz.prog Tryz.lays190_ren := {
  mixed := by kernel_rfl
  f125 := Tryz.func84.trans (congrArg some (by kernel_rfl))
  f128 := Tryz.func111.trans (congrArg some (by kernel_rfl))
  f129 := Tryz.func112.trans (congrArg some (by kernel_rfl))
  f190 := Tryz.func53.trans (congrArg some (by kernel_rfl))
  f258 := Tryz.func83.trans (congrArg some (by kernel_rfl))
  f302 := Tryz.func102.trans (congrArg some (by kernel_rfl))
  f303 := Tryz.func103.trans (congrArg some (by kernel_rfl))
  f304 := Tryz.func104.trans (congrArg some (by kernel_rfl))
  f305 := Tryz.func105.trans (congrArg some (by kernel_rfl))
  f306 := Tryz.func106.trans (congrArg some (by kernel_rfl))
  f307 := Tryz.func107.trans (congrArg some (by kernel_rfl))
  f308 := Tryz.func108.trans (congrArg some (by kernel_rfl))
  f309 := Tryz.func109.trans (congrArg some (by kernel_rfl))
  f310 := Tryz.func110.trans (congrArg some (by kernel_rfl))
  f329 := Tryz.func127.trans (congrArg some (by kernel_rfl))
  f330 := Tryz.func128.trans (congrArg some (by kernel_rfl))
  f333 := Tryz.func126.trans (congrArg some (by kernel_rfl))
  f334 := Tryz.func129.trans (congrArg some (by kernel_rfl))
  f335 := Tryz.func130.trans (congrArg some (by kernel_rfl))
  f336 := Tryz.func131.trans (congrArg some (by kernel_rfl))
  f344 := Tryz.func140.trans (congrArg some (by kernel_rfl))
  t0 := Tryz.underlying0
  a0 := Tryz.isAgg0
  z0 := Tryz.sizeOf0
  v0 := Tryz.zeroValue0
  t3 := Tryz.underlying3
  a3 := Tryz.isAgg3
  z3 := Tryz.sizeOf3
  v3 := Tryz.zeroValue3
  t4 := Tryz.underlying4
  a4 := Tryz.isAgg4
  z4 := Tryz.sizeOf4
  v4 := Tryz.zeroValue4
  t5 := Tryz.underlying5
  a5 := Tryz.isAgg5
  z5 := Tryz.sizeOf5
  v5 := Tryz.zeroValue5
  t9 := Tryz.underlying9
  a9 := Tryz.isAgg9
  z9 := Tryz.sizeOf9
  v9 := Tryz.zeroValue9
  t31 := Tryz.underlying30
  a31 := Tryz.isAgg30
  z31 := Tryz.sizeOf30
  v31 := Tryz.zeroValue30
  t46 := Tryz.underlying163
  a46 := Tryz.isAgg163
  z46 := Tryz.sizeOf163
  v46 := Tryz.zeroValue163
  t51 := Tryz.underlying192
  a51 := Tryz.isAgg192
  z51 := Tryz.sizeOf192
  v51 := Tryz.zeroValue192
  t53 := Tryz.underlying194
  a53 := Tryz.isAgg194
  z53 := Tryz.sizeOf194
  v53 := Tryz.zeroValue194
  t131 := Tryz.underlying86
  a131 := Tryz.isAgg86
  z131 := Tryz.sizeOf86
  v131 := Tryz.zeroValue86
  t182 := Tryz.underlying184
  a182 := Tryz.isAgg184
  z182 := Tryz.sizeOf184
  v182 := Tryz.zeroValue184
  t183 := Tryz.underlying185
  a183 := Tryz.isAgg185
  z183 := Tryz.sizeOf185
  v183 := Tryz.zeroValue185
  t218 := Tryz.underlying205
  a218 := Tryz.isAgg205
  z218 := Tryz.sizeOf205
  v218 := Tryz.zeroValue205
  t222 := Tryz.underlying209
  a222 := Tryz.isAgg209
  z222 := Tryz.sizeOf209
  v222 := Tryz.zeroValue209
  t228 := Tryz.underlying216
  a228 := Tryz.isAgg216
  z228 := Tryz.sizeOf216
  v228 := Tryz.zeroValue216
  t229 := Tryz.underlying179
  a229 := Tryz.isAgg179
  z229 := Tryz.sizeOf179
  v229 := Tryz.zeroValue179 }
open Go.Sort Go.RowKit in
theorem Tryz.slices_Sort_string (blk off cap : Nat) (ss : List (List UInt8)) (w : World) (hH : Holds encStr w blk off ss.toArray) (hblk : blk < w.heap.size) (hsz : ss.length < 4611686018427387904) :
    Calls Tryz.prog 53 #[.slice (some ⟨blk, off, none⟩) ss.length cap] w fun e w' =>
      e = .returned (.tuple #[]) ∧ ∃ n os, w' = grow (putRow encStr (Sort.ahead w n) blk off (ss.mergeSort fun x y => decide (x ≤ y)).toArray) os := Any.slices_Sort_string Tryz.lays190 blk off cap ss w hH hblk hsz
def Tryz.lays194_ren : Go.Shelf.Ren := ⟨fun | 194 => 54 | n => n, fun | 31 => 30 | 9 => 9 | 3 => 3 | 4 => 4 | 0 => 0 | n => n, fun | n => n⟩
theorem Tryz.lays194 : Go.Proofs.Lays.n194 Tryz.prog Tryz.lays194_ren := {
  mixed := by kernel_rfl
  f194 := Tryz.func54.trans (congrArg some (by kernel_rfl))
  t0 := Tryz.underlying0
  a0 := Tryz.isAgg0
  z0 := Tryz.sizeOf0
  v0 := Tryz.zeroValue0
  t3 := Tryz.underlying3
  a3 := Tryz.isAgg3
  z3 := Tryz.sizeOf3
  v3 := Tryz.zeroValue3
  t4 := Tryz.underlying4
  a4 := Tryz.isAgg4
  z4 := Tryz.sizeOf4
  v4 := Tryz.zeroValue4
  t9 := Tryz.underlying9
  a9 := Tryz.isAgg9
  z9 := Tryz.sizeOf9
  v9 := Tryz.zeroValue9
  t31 := Tryz.underlying30
  a31 := Tryz.isAgg30
  z31 := Tryz.sizeOf30
  v31 := Tryz.zeroValue30 }
open Go.RowKit Go.Lib Go.Sort in
/-- slices.Compact at []string: "Compact replaces consecutive runs of equal elements with a single copy. This is like the uniq command found on Unix. Compact modifies the contents of the slice s and returns the modified slice, which may have a smaller length. Compact zeroes the elements between the new length and the original length. The result preserves the nilness of s.": IT RETURNS THE SLICE CUT TO 'Lib.compact zs'; ITS CELLS HOLD 'Lib.compact zs', THEN ZERO VALUES up to the old length; all else is as it was, but for the count of draws. IN THE WORDS OF slices.Sort's CONTRACT ('Holds', 'putRow'): so the everyday 'slices.Sort(xs); xs = slices.Compact(xs)' goes from the one contract to the other. It asks 'zs.length ≤ cap' (every slice's: the reslicing 's[:k]' looks at it). Length 0, nil: '.._empty'. (LAID: no walk: one application.) -/
theorem Tryz.slices_Compact_string (blk off cap : Nat) (zs : List (List UInt8)) (w : World) (hH : Holds encStr w blk off zs.toArray) (hsz : zs.length ≤ 9223372036854775807) (hcap : zs.length ≤ cap) :
    Calls Tryz.prog 54 #[.slice (some ⟨blk, off, none⟩) zs.length cap] w fun e w' => e = .returned (.slice (some ⟨blk, off, none⟩) (Lib.compact zs).length cap) ∧ ∃ q, w' = putRow encStr (Sort.ahead w q) blk off (Lib.compact zs ++ List.replicate (zs.length - (Lib.compact zs).length) []).toArray := Any.slices_Compact_string Tryz.lays194 blk off cap zs w hH hsz hcap
open Go.RowKit Go.Lib Go.Sort in
/-- The same at a slice of length 0, a nil one too: it comes back as it is. (LAID: no walk: one application.) -/
theorem Tryz.slices_Compact_string_empty (a : Option Addr) (cap : Nat) (w : World) :
    Calls Tryz.prog 54 #[.slice a 0 cap] w fun e w' => e = .returned (.slice a 0 cap) ∧ w' = w := Any.slices_Compact_string_empty Tryz.lays194 a cap w
open Go.RowKit Go.Sort in
/-- .. and plain. (LAID: no walk: one application.) -/
theorem Tryz.slices_Sort_string_none (p : Option Addr) (cap : Nat) (w : World) :
    Calls Tryz.prog 53 #[.slice p 0 cap] w fun e w' => e = .returned (.tuple #[]) ∧ w' = w := Any.slices_Sort_string_none Tryz.lays190 p cap w
end Go.Proofs
