/-
  DERIVED: THE SHELF's CONTRACTS AT THIS DUMP, IN PLAIN WORDS (tools/lay-plain.mjs out of 'TryzShelf.lean', which tools/lay-shelf.mjs wrote): THE SAME DECLARATIONS UNDER THE SAME NAMES: 'import', 'namespace', 'open', 'def', 'theorem' AND NOTHING ELSE: no command of the shelf's: FOR A HAND-IN. Each laying: the table of numbers ('.._ren') and one theorem, a field a fact of the dump's own or the kernel's comparison; each contract: ONE APPLICATION.
-/
import Derived.Shelf.LaysM
import Derived.Shelf.Strconv.Itoa3
import Derived.Ground.Names2Prog
import Derived.Test.YtjgjcakeimkkdaaGreatDoorProg
namespace Go.Proofs
open Go.Shelf
def Tryz.laysM171_ren : Go.Shelf.Ren := ⟨fun | 171 => 115 | 243 => 135 | 246 => 150 | 283 => 157 | 284 => 158 | 285 => 159 | 286 => 160 | 129 => 112 | 317 => 163 | 318 => 164 | 319 => 165 | 320 => 166 | 337 => 167 | 338 => 168 | n => n, fun | 3 => 3 | 9 => 9 | 2 => 2 | 4 => 4 | 171 => 236 | 0 => 0 | 53 => 194 | 37 => 215 | 5 => 5 | 173 => 238 | 212 => 246 | 51 => 192 | 20 => 20 | 213 => 247 | 46 => 163 | 232 => 248 | 233 => 249 | n => n, fun | 17 => 3 | 18 => 4 | 19 => 5 | n => n⟩
theorem Tryz.laysM171 : Go.Proofs.LaysM.n171 Tryz.prog Tryz.laysM171_ren := {
  mixed := by kernel_rfl
  f129 := Tryz.func112.trans (congrArg some (by kernel_rfl))
  f171 := Tryz.func115.trans (congrArg some (by kernel_rfl))
  f243 := Tryz.func135.trans (congrArg some (by kernel_rfl))
  f246 := Tryz.func150.trans (congrArg some (by kernel_rfl))
  f283 := Tryz.func157.trans (congrArg some (by kernel_rfl))
  f284 := Tryz.func158.trans (congrArg some (by kernel_rfl))
  f285 := Tryz.func159.trans (congrArg some (by kernel_rfl))
  f286 := Tryz.func160.trans (congrArg some (by kernel_rfl))
  f317 := Tryz.func163.trans (congrArg some (by kernel_rfl))
  f318 := Tryz.func164.trans (congrArg some (by kernel_rfl))
  f319 := Tryz.func165.trans (congrArg some (by kernel_rfl))
  f320 := Tryz.func166.trans (congrArg some (by kernel_rfl))
  f337 := Tryz.func167.trans (congrArg some (by kernel_rfl))
  f338 := Tryz.func168.trans (congrArg some (by kernel_rfl))
  t0 := Tryz.underlying0
  a0 := Tryz.isAgg0
  z0 := Tryz.sizeOf0
  v0 := Tryz.zeroValue0
  t2 := Tryz.underlying2
  a2 := Tryz.isAgg2
  z2 := Tryz.sizeOf2
  v2 := Tryz.zeroValue2
  t3 := Tryz.underlying3
  a3 := Tryz.isAgg3
  z3 := Tryz.sizeOf3
  v3 := Tryz.zeroValue3
  t4 := Tryz.underlying4
  a4 := Tryz.isAgg4
  z4 := Tryz.sizeOf4
  v4 := Tryz.zeroValue4
  t5 := Tryz.underlying5
  a5 := Tryz.isAgg5
  z5 := Tryz.sizeOf5
  v5 := Tryz.zeroValue5
  t9 := Tryz.underlying9
  a9 := Tryz.isAgg9
  z9 := Tryz.sizeOf9
  v9 := Tryz.zeroValue9
  t20 := Tryz.underlying20
  a20 := Tryz.isAgg20
  z20 := Tryz.sizeOf20
  v20 := Tryz.zeroValue20
  t37 := Tryz.underlying215
  a37 := Tryz.isAgg215
  z37 := Tryz.sizeOf215
  v37 := Tryz.zeroValue215
  t46 := Tryz.underlying163
  a46 := Tryz.isAgg163
  z46 := Tryz.sizeOf163
  v46 := Tryz.zeroValue163
  t51 := Tryz.underlying192
  a51 := Tryz.isAgg192
  z51 := Tryz.sizeOf192
  v51 := Tryz.zeroValue192
  t53 := Tryz.underlying194
  a53 := Tryz.isAgg194
  z53 := Tryz.sizeOf194
  v53 := Tryz.zeroValue194
  t171 := Tryz.underlying236
  a171 := Tryz.isAgg236
  z171 := Tryz.sizeOf236
  v171 := Tryz.zeroValue236
  t173 := Tryz.underlying238
  a173 := Tryz.isAgg238
  z173 := Tryz.sizeOf238
  v173 := Tryz.zeroValue238
  t212 := Tryz.underlying246
  a212 := Tryz.isAgg246
  z212 := Tryz.sizeOf246
  v212 := Tryz.zeroValue246
  t213 := Tryz.underlying247
  a213 := Tryz.isAgg247
  z213 := Tryz.sizeOf247
  t232 := Tryz.underlying248
  a232 := Tryz.isAgg248
  z232 := Tryz.sizeOf248
  v232 := Tryz.zeroValue248
  t233 := Tryz.underlying249
  a233 := Tryz.isAgg249
  z233 := Tryz.sizeOf249
  v233 := Tryz.zeroValue249
  g17 := by kernel_rfl
  g18 := by kernel_rfl
  g19 := by kernel_rfl
  i0 := by kernel_rfl
  i2 := by kernel_rfl
  i3 := by kernel_rfl
  i4 := by kernel_rfl
  i5 := by kernel_rfl
  i9 := by kernel_rfl
  i20 := by kernel_rfl
  i37 := by kernel_rfl
  i46 := by kernel_rfl
  i51 := by kernel_rfl
  i53 := by kernel_rfl
  i171 := by kernel_rfl
  i173 := by kernel_rfl
  i212 := by kernel_rfl
  i232 := by kernel_rfl
  i233 := by kernel_rfl
  m17 := by kernel_rfl
  m18 := by kernel_rfl
  m19 := by kernel_rfl }
open Go.RowKit Go.Sort Go.Lib in
/-- strconv.Itoa: "Itoa is equivalent to FormatInt(int64(i), 10).": i's DECIMAL NUMERAL ('Lib.itoa': a '-' where i is negative, then the digits), FOR EVERY int. The world behind the call: the world before it, new blocks behind the heap (the library's 'var a [24]byte'), draws. (LAID: no walk: one application.) -/
theorem Tryz.strconv_Itoa (n : Int) (h0 : -9223372036854775808 ≤ n) (h1 : n ≤ 9223372036854775807) (w : World) (htab : Lib.TabIs Tryz.prog w "internal/strconv.uint64pow10" .u64 Lib.pow10Tab) :
    Calls Tryz.prog 115 #[.int .i64 n] w fun e w' => e = .returned (.string ⟨(Lib.itoa n).toArray⟩) ∧ ∃ k os, w' = grow (w.drewN k) os := Any.strconv_Itoa Tryz.laysM171 n h0 h1 w htab
end Go.Proofs
