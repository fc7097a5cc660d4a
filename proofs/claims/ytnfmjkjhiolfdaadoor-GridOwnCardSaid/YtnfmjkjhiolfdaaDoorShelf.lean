/-
  DERIVED: THE SHELF's CONTRACTS AT THIS DUMP, IN PLAIN WORDS (tools/lay-plain.mjs out of 'TrydShelf.lean', which tools/lay-shelf.mjs wrote): THE SAME DECLARATIONS UNDER THE SAME NAMES: 'import', 'namespace', 'open', 'def', 'theorem' AND NOTHING ELSE: no command of the shelf's: FOR A HAND-IN. Each laying: the table of numbers ('.._ren') and one theorem, a field a fact of the dump's own or the kernel's comparison; each contract: ONE APPLICATION.
-/
import Derived.Shelf.LaysM
import Derived.Shelf.Strconv.Itoa3
import Derived.Shelf.Sort.Plain
import Derived.Ground.Names2Prog
import Derived.Shelf.Slices.CompactI
import Derived.Shelf.Slices.In.SortNone
import Derived.Test.YtnfmjkjhiolfdaaDoorProg
namespace Go.Proofs
open Go.Shelf
def Tryd.laysM171_ren : Go.Shelf.Ren := ⟨fun | 171 => 69 | 243 => 79 | 246 => 97 | 283 => 113 | 284 => 114 | 285 => 115 | 286 => 116 | 129 => 92 | 317 => 123 | 318 => 124 | 319 => 125 | 320 => 126 | 337 => 129 | 338 => 130 | n => n, fun | 3 => 3 | 9 => 9 | 2 => 2 | 4 => 4 | 171 => 143 | 0 => 0 | 53 => 113 | 37 => 109 | 5 => 5 | 173 => 145 | 212 => 157 | 51 => 110 | 20 => 20 | 213 => 158 | 46 => 43 | 232 => 165 | 233 => 166 | n => n, fun | 17 => 3 | 18 => 4 | 19 => 5 | n => n⟩
theorem Tryd.laysM171 : Go.Proofs.LaysM.n171 Tryd.prog Tryd.laysM171_ren := {
  mixed := by kernel_rfl
  f129 := Tryd.func92.trans (congrArg some (by kernel_rfl))
  f171 := Tryd.func69.trans (congrArg some (by kernel_rfl))
  f243 := Tryd.func79.trans (congrArg some (by kernel_rfl))
  f246 := Tryd.func97.trans (congrArg some (by kernel_rfl))
  f283 := Tryd.func113.trans (congrArg some (by kernel_rfl))
  f284 := Tryd.func114.trans (congrArg some (by kernel_rfl))
  f285 := Tryd.func115.trans (congrArg some (by kernel_rfl))
  f286 := Tryd.func116.trans (congrArg some (by kernel_rfl))
  f317 := Tryd.func123.trans (congrArg some (by kernel_rfl))
  f318 := Tryd.func124.trans (congrArg some (by kernel_rfl))
  f319 := Tryd.func125.trans (congrArg some (by kernel_rfl))
  f320 := Tryd.func126.trans (congrArg some (by kernel_rfl))
  f337 := Tryd.func129.trans (congrArg some (by kernel_rfl))
  f338 := Tryd.func130.trans (congrArg some (by kernel_rfl))
  t0 := Tryd.underlying0
  a0 := Tryd.isAgg0
  z0 := Tryd.sizeOf0
  v0 := Tryd.zeroValue0
  t2 := Tryd.underlying2
  a2 := Tryd.isAgg2
  z2 := Tryd.sizeOf2
  v2 := Tryd.zeroValue2
  t3 := Tryd.underlying3
  a3 := Tryd.isAgg3
  z3 := Tryd.sizeOf3
  v3 := Tryd.zeroValue3
  t4 := Tryd.underlying4
  a4 := Tryd.isAgg4
  z4 := Tryd.sizeOf4
  v4 := Tryd.zeroValue4
  t5 := Tryd.underlying5
  a5 := Tryd.isAgg5
  z5 := Tryd.sizeOf5
  v5 := Tryd.zeroValue5
  t9 := Tryd.underlying9
  a9 := Tryd.isAgg9
  z9 := Tryd.sizeOf9
  v9 := Tryd.zeroValue9
  t20 := Tryd.underlying20
  a20 := Tryd.isAgg20
  z20 := Tryd.sizeOf20
  v20 := Tryd.zeroValue20
  t37 := Tryd.underlying109
  a37 := Tryd.isAgg109
  z37 := Tryd.sizeOf109
  v37 := Tryd.zeroValue109
  t46 := Tryd.underlying43
  a46 := Tryd.isAgg43
  z46 := Tryd.sizeOf43
  v46 := Tryd.zeroValue43
  t51 := Tryd.underlying110
  a51 := Tryd.isAgg110
  z51 := Tryd.sizeOf110
  v51 := Tryd.zeroValue110
  t53 := Tryd.underlying113
  a53 := Tryd.isAgg113
  z53 := Tryd.sizeOf113
  v53 := Tryd.zeroValue113
  t171 := Tryd.underlying143
  a171 := Tryd.isAgg143
  z171 := Tryd.sizeOf143
  v171 := Tryd.zeroValue143
  t173 := Tryd.underlying145
  a173 := Tryd.isAgg145
  z173 := Tryd.sizeOf145
  v173 := Tryd.zeroValue145
  t212 := Tryd.underlying157
  a212 := Tryd.isAgg157
  z212 := Tryd.sizeOf157
  v212 := Tryd.zeroValue157
  t213 := Tryd.underlying158
  a213 := Tryd.isAgg158
  z213 := Tryd.sizeOf158
  t232 := Tryd.underlying165
  a232 := Tryd.isAgg165
  z232 := Tryd.sizeOf165
  v232 := Tryd.zeroValue165
  t233 := Tryd.underlying166
  a233 := Tryd.isAgg166
  z233 := Tryd.sizeOf166
  v233 := Tryd.zeroValue166
  g17 := by kernel_rfl
  g18 := by kernel_rfl
  g19 := by kernel_rfl
  i0 := by kernel_rfl
  i2 := by kernel_rfl
  i3 := by kernel_rfl
  i4 := by kernel_rfl
  i5 := by kernel_rfl
  i9 := by kernel_rfl
  i20 := by kernel_rfl
  i37 := by kernel_rfl
  i46 := by kernel_rfl
  i51 := by kernel_rfl
  i53 := by kernel_rfl
  i171 := by kernel_rfl
  i173 := by kernel_rfl
  i212 := by kernel_rfl
  i232 := by kernel_rfl
  i233 := by kernel_rfl
  m17 := by kernel_rfl
  m18 := by kernel_rfl
  m19 := by kernel_rfl }
open Go.RowKit Go.Sort Go.Lib in
/-- strconv.Itoa: "Itoa is equivalent to FormatInt(int64(i), 10).": i's DECIMAL NUMERAL ('Lib.itoa': a '-' where i is negative, then the digits), FOR EVERY int. The world behind the call: the world before it, new blocks behind the heap (the library's 'var a [24]byte'), draws. (LAID: no walk: one application.) -/
theorem Tryd.strconv_Itoa (n : Int) (h0 : -9223372036854775808 ≤ n) (h1 : n ≤ 9223372036854775807) (w : World) (htab : Lib.TabIs Tryd.prog w "internal/strconv.uint64pow10" .u64 Lib.pow10Tab) :
    Calls Tryd.prog 69 #[.int .i64 n] w fun e w' => e = .returned (.string ⟨(Lib.itoa n).toArray⟩) ∧ ∃ k os, w' = grow (w.drewN k) os := Any.strconv_Itoa Tryd.laysM171 n h0 h1 w htab
def Tryd.lays189_ren : Go.Shelf.Ren := ⟨fun | 189 => 61 | 125 => 74 | 257 => 73 | 128 => 91 | 129 => 92 | 294 => 82 | 295 => 83 | 296 => 84 | 297 => 85 | 298 => 86 | 299 => 87 | 216 => 88 | 300 => 89 | 301 => 90 | 328 => 98 | 329 => 99 | 330 => 100 | 331 => 101 | 332 => 102 | 215 => 103 | 343 => 117 | n => n, fun | 28 => 22 | 3 => 3 | 46 => 43 | 0 => 0 | 51 => 110 | 53 => 113 | 4 => 4 | 183 => 118 | 182 => 117 | 131 => 85 | 5 => 5 | 9 => 9 | 218 => 129 | 222 => 133 | 228 => 147 | 229 => 96 | n => n, fun | n => n⟩
theorem Tryd.lays189 : Go.Proofs.Lays.n189 Tryd.prog Tryd.lays189_ren := {
  mixed := by kernel_rfl
  f125 := Tryd.func74.trans (congrArg some (by kernel_rfl))
  f128 := Tryd.func91.trans (congrArg some (by kernel_rfl))
  f129 := Tryd.func92.trans (congrArg some (by kernel_rfl))
  f189 := Tryd.func61.trans (congrArg some (by kernel_rfl))
  f215 := Tryd.func103.trans (congrArg some (by kernel_rfl))
  f216 := Tryd.func88.trans (congrArg some (by kernel_rfl))
  f257 := Tryd.func73.trans (congrArg some (by kernel_rfl))
  f294 := Tryd.func82.trans (congrArg some (by kernel_rfl))
  f295 := Tryd.func83.trans (congrArg some (by kernel_rfl))
  f296 := Tryd.func84.trans (congrArg some (by kernel_rfl))
  f297 := Tryd.func85.trans (congrArg some (by kernel_rfl))
  f298 := Tryd.func86.trans (congrArg some (by kernel_rfl))
  f299 := Tryd.func87.trans (congrArg some (by kernel_rfl))
  f300 := Tryd.func89.trans (congrArg some (by kernel_rfl))
  f301 := Tryd.func90.trans (congrArg some (by kernel_rfl))
  f328 := Tryd.func98.trans (congrArg some (by kernel_rfl))
  f329 := Tryd.func99.trans (congrArg some (by kernel_rfl))
  f330 := Tryd.func100.trans (congrArg some (by kernel_rfl))
  f331 := Tryd.func101.trans (congrArg some (by kernel_rfl))
  f332 := Tryd.func102.trans (congrArg some (by kernel_rfl))
  f343 := Tryd.func117.trans (congrArg some (by kernel_rfl))
  t0 := Tryd.underlying0
  a0 := Tryd.isAgg0
  z0 := Tryd.sizeOf0
  v0 := Tryd.zeroValue0
  t3 := Tryd.underlying3
  a3 := Tryd.isAgg3
  z3 := Tryd.sizeOf3
  v3 := Tryd.zeroValue3
  t4 := Tryd.underlying4
  a4 := Tryd.isAgg4
  z4 := Tryd.sizeOf4
  v4 := Tryd.zeroValue4
  t5 := Tryd.underlying5
  a5 := Tryd.isAgg5
  z5 := Tryd.sizeOf5
  v5 := Tryd.zeroValue5
  t9 := Tryd.underlying9
  a9 := Tryd.isAgg9
  z9 := Tryd.sizeOf9
  v9 := Tryd.zeroValue9
  t28 := Tryd.underlying22
  a28 := Tryd.isAgg22
  z28 := Tryd.sizeOf22
  v28 := Tryd.zeroValue22
  t46 := Tryd.underlying43
  a46 := Tryd.isAgg43
  z46 := Tryd.sizeOf43
  v46 := Tryd.zeroValue43
  t51 := Tryd.underlying110
  a51 := Tryd.isAgg110
  z51 := Tryd.sizeOf110
  v51 := Tryd.zeroValue110
  t53 := Tryd.underlying113
  a53 := Tryd.isAgg113
  z53 := Tryd.sizeOf113
  v53 := Tryd.zeroValue113
  t131 := Tryd.underlying85
  a131 := Tryd.isAgg85
  z131 := Tryd.sizeOf85
  v131 := Tryd.zeroValue85
  t182 := Tryd.underlying117
  a182 := Tryd.isAgg117
  z182 := Tryd.sizeOf117
  v182 := Tryd.zeroValue117
  t183 := Tryd.underlying118
  a183 := Tryd.isAgg118
  z183 := Tryd.sizeOf118
  v183 := Tryd.zeroValue118
  t218 := Tryd.underlying129
  a218 := Tryd.isAgg129
  z218 := Tryd.sizeOf129
  v218 := Tryd.zeroValue129
  t222 := Tryd.underlying133
  a222 := Tryd.isAgg133
  z222 := Tryd.sizeOf133
  v222 := Tryd.zeroValue133
  t228 := Tryd.underlying147
  a228 := Tryd.isAgg147
  z228 := Tryd.sizeOf147
  v228 := Tryd.zeroValue147
  t229 := Tryd.underlying96
  a229 := Tryd.isAgg96
  z229 := Tryd.sizeOf96
  v229 := Tryd.zeroValue96 }
open Go.Sort Go.RowKit in
theorem Tryd.slices_Sort_int (blk off cap : Nat) (zs : List Int) (w : World) (hH : Holds (Value.int .i64) w blk off zs.toArray) (hblk : blk < w.heap.size) (hsz : zs.length < 4611686018427387904) :
    Calls Tryd.prog 61 #[.slice (some ⟨blk, off, none⟩) zs.length cap] w fun e w' =>
      e = .returned (.tuple #[]) ∧ ∃ n os, w' = grow (putRow (Value.int .i64) (Sort.ahead w n) blk off (zs.mergeSort fun x y => decide (x ≤ y)).toArray) os := Any.slices_Sort_int Tryd.lays189 blk off cap zs w hH hblk hsz
def Tryd.laysNm220_ren : Go.Shelf.Ren := ⟨fun | 20 => 62 | n => n, fun | 22 => 22 | 3 => 3 | 4 => 4 | 0 => 0 | n => n, fun | n => n⟩
theorem Tryd.laysNm220 : Go.Proofs.Lays2.n20 Tryd.prog Tryd.laysNm220_ren := {
  mixed := by kernel_rfl
  f20 := Tryd.func62.trans (congrArg some (by kernel_rfl))
  t0 := Tryd.underlying0
  a0 := Tryd.isAgg0
  z0 := Tryd.sizeOf0
  v0 := Tryd.zeroValue0
  t3 := Tryd.underlying3
  a3 := Tryd.isAgg3
  z3 := Tryd.sizeOf3
  v3 := Tryd.zeroValue3
  t4 := Tryd.underlying4
  a4 := Tryd.isAgg4
  z4 := Tryd.sizeOf4
  v4 := Tryd.zeroValue4
  t22 := Tryd.underlying22
  a22 := Tryd.isAgg22
  z22 := Tryd.sizeOf22
  v22 := Tryd.zeroValue22
  i3 := by kernel_rfl }
open Go.RowKit Go.Lib Go.Sort in
/-- slices.Compact at []int: "Compact replaces consecutive runs of equal elements with a single copy. This is like the uniq command found on Unix. Compact modifies the contents of the slice s and returns the modified slice, which may have a smaller length. Compact zeroes the elements between the new length and the original length. The result preserves the nilness of s.": IT RETURNS THE SLICE CUT TO 'Lib.compact zs'; ITS CELLS HOLD 'Lib.compact zs', THEN ZERO VALUES up to the old length; all else is as it was, but for the count of draws. IN THE WORDS OF slices.Sort's CONTRACT ('Holds', 'putRow'): so the everyday 'slices.Sort(xs); xs = slices.Compact(xs)' goes from the one contract to the other. It asks 'zs.length ≤ cap' (every slice's: the reslicing 's[:k]' looks at it). Length 0, nil: '.._empty'. (LAID: no walk: one application.) -/
theorem Tryd.slices_Compact_int (blk off cap : Nat) (zs : List Int) (w : World) (hH : Holds (Value.int .i64) w blk off zs.toArray) (hsz : zs.length ≤ 9223372036854775807) (hcap : zs.length ≤ cap) :
    Calls Tryd.prog 62 #[.slice (some ⟨blk, off, none⟩) zs.length cap] w fun e w' => e = .returned (.slice (some ⟨blk, off, none⟩) (Lib.compact zs).length cap) ∧ ∃ q, w' = putRow (Value.int .i64) (Sort.ahead w q) blk off (Lib.compact zs ++ List.replicate (zs.length - (Lib.compact zs).length) 0).toArray := Any.slices_Compact_int Tryd.laysNm220 blk off cap zs w hH hsz hcap
open Go.RowKit Go.Lib Go.Sort in
/-- The same at a slice of length 0, a nil one too: it comes back as it is. (LAID: no walk: one application.) -/
theorem Tryd.slices_Compact_int_empty (a : Option Addr) (cap : Nat) (w : World) :
    Calls Tryd.prog 62 #[.slice a 0 cap] w fun e w' => e = .returned (.slice a 0 cap) ∧ w' = w := Any.slices_Compact_int_empty Tryd.laysNm220 a cap w
open Go.RowKit Go.Sort in
/-- .. and plain. (LAID: no walk: one application.) -/
theorem Tryd.slices_Sort_int_none (p : Option Addr) (cap : Nat) (w : World) :
    Calls Tryd.prog 61 #[.slice p 0 cap] w fun e w' => e = .returned (.tuple #[]) ∧ w' = w := Any.slices_Sort_int_none Tryd.lays189 p cap w
end Go.Proofs
