/-
  NARROWER THAN 'FOR EVERY INPUT', by the rows' own cells (each row's printed sentence says how): RouteChecks: laid · RouteMeets: laid · RouteCuts: laid · RouteWaits: laid · GridNext: laid · GridShards: laid · GridKeys: laid · GridHomes: laid · GridOwn: laid · GridTicks: laid · GridMaps: laid.
  DERIVED. THE GIVEN ROWS OF THIS SEAT. 11 by the template 'for every input the law returns true; each argument reads behind the call as it read before'; 0 by the template 'total and deterministic' (their statements: YtnfmjkjhiolfdaaDoorTotals.lean).
  GIVEN WITH THE SEED: the statements are not yours to turn. If you find one false, say at which input.
  Laid BY PROGRAM, IN A SANDBOX (cutbox-rows.mjs): the forced cells as the released guide's own fill.sh prints them over the translation e01f6172e09c8245… (all of the seat's roots in one cut). By AI agents, Wed Nov 11 2026. No macro, syntax, notation, axiom, sorry.
-/
import Derived.Test.YtnfmjkjhiolfdaaDoorChecked
import GoSem.Claim
import GoSem.ClaimJoined
import GoSem.ClaimMapViews
import Derived.JoinedTies
import Derived.KernelRfl
namespace Go.Proofs.YtnfmjkjhiolfdaaDoor
/- THE CELL 'sum', in the pinned program and in every row, IS THE sha256 OF THE DUMP (.gsa) THAT YtnfmjkjhiolfdaaDoorProg.lean LOADS. Nothing in Lean hashes anything: it is a label: what it is worth is what the hold of that sum in a sandbox is worth. -/
noncomputable def Tryd.pinned : Pinned := { name := "ytnfmjkjhiolfdaadoor", sum := "e01f6172e09c8245023124556718bbb17bbe750721f4efa364994d4855318451", checked := Tryd.checked }
namespace Rows
def none {H : Type} : Left H := { results := [], args := [] }

/- WHAT THE LISTED PACKAGE-LEVEL VARIABLES READ AS WHEN THE CALL BEGINS. Each datum BY PROGRAM (the guide's laid-datum.mjs) off the statement by which the dump's own 'gosem.cut.vars' lays the variable. In a bare row this is a premise. The card (YtnfmjkjhiolfdaaDoorCards.lean) ties it to the program's text. -/
def laid_math_bits_deBruijn32tab {H : Type} : DataW H := .agg [.lit (.int .u8 0), .lit (.int .u8 1), .lit (.int .u8 28), .lit (.int .u8 2), .lit (.int .u8 29), .lit (.int .u8 14), .lit (.int .u8 24), .lit (.int .u8 3), .lit (.int .u8 30), .lit (.int .u8 22), .lit (.int .u8 20), .lit (.int .u8 15), .lit (.int .u8 25), .lit (.int .u8 17), .lit (.int .u8 4), .lit (.int .u8 8), .lit (.int .u8 31), .lit (.int .u8 27), .lit (.int .u8 13), .lit (.int .u8 23), .lit (.int .u8 21), .lit (.int .u8 19), .lit (.int .u8 16), .lit (.int .u8 7), .lit (.int .u8 26), .lit (.int .u8 12), .lit (.int .u8 18), .lit (.int .u8 6), .lit (.int .u8 11), .lit (.int .u8 5), .lit (.int .u8 10), .lit (.int .u8 9)]
def laid_math_bits_deBruijn64tab {H : Type} : DataW H := .agg [.lit (.int .u8 0), .lit (.int .u8 1), .lit (.int .u8 56), .lit (.int .u8 2), .lit (.int .u8 57), .lit (.int .u8 49), .lit (.int .u8 28), .lit (.int .u8 3), .lit (.int .u8 61), .lit (.int .u8 58), .lit (.int .u8 42), .lit (.int .u8 50), .lit (.int .u8 38), .lit (.int .u8 29), .lit (.int .u8 17), .lit (.int .u8 4), .lit (.int .u8 62), .lit (.int .u8 47), .lit (.int .u8 59), .lit (.int .u8 36), .lit (.int .u8 45), .lit (.int .u8 43), .lit (.int .u8 51), .lit (.int .u8 22), .lit (.int .u8 53), .lit (.int .u8 39), .lit (.int .u8 33), .lit (.int .u8 30), .lit (.int .u8 24), .lit (.int .u8 18), .lit (.int .u8 12), .lit (.int .u8 5), .lit (.int .u8 63), .lit (.int .u8 55), .lit (.int .u8 48), .lit (.int .u8 27), .lit (.int .u8 60), .lit (.int .u8 41), .lit (.int .u8 37), .lit (.int .u8 16), .lit (.int .u8 46), .lit (.int .u8 35), .lit (.int .u8 44), .lit (.int .u8 21), .lit (.int .u8 52), .lit (.int .u8 32), .lit (.int .u8 23), .lit (.int .u8 11), .lit (.int .u8 54), .lit (.int .u8 26), .lit (.int .u8 40), .lit (.int .u8 15), .lit (.int .u8 34), .lit (.int .u8 20), .lit (.int .u8 31), .lit (.int .u8 10), .lit (.int .u8 25), .lit (.int .u8 14), .lit (.int .u8 19), .lit (.int .u8 9), .lit (.int .u8 13), .lit (.int .u8 8), .lit (.int .u8 7), .lit (.int .u8 6)]
def laid_internal_strconv_uint64pow10 {H : Type} : DataW H := .agg [.lit (.int .u64 1), .lit (.int .u64 10), .lit (.int .u64 100), .lit (.int .u64 1000), .lit (.int .u64 10000), .lit (.int .u64 100000), .lit (.int .u64 1000000), .lit (.int .u64 10000000), .lit (.int .u64 100000000), .lit (.int .u64 1000000000), .lit (.int .u64 10000000000), .lit (.int .u64 100000000000), .lit (.int .u64 1000000000000), .lit (.int .u64 10000000000000), .lit (.int .u64 100000000000000), .lit (.int .u64 1000000000000000), .lit (.int .u64 10000000000000000), .lit (.int .u64 100000000000000000), .lit (.int .u64 1000000000000000000), .lit (.int .u64 10000000000000000000)]
def laid_strconv_ErrRange {H : Type} : DataW H := .iface "*errors.errorString" (.ptr (.agg [.lit (.string [118, 97, 108, 117, 101, 32, 111, 117, 116, 32, 111, 102, 32, 114, 97, 110, 103, 101])]))
def laid_strconv_ErrSyntax {H : Type} : DataW H := .iface "*errors.errorString" (.ptr (.agg [.lit (.string [105, 110, 118, 97, 108, 105, 100, 32, 115, 121, 110, 116, 97, 120])]))

/-- 'convoylaw13.RouteChecks': WHATEVER THE INPUT: true; the input reads as it did. -/
def routeChecksSpec : ChangeSpec := { name := "routeChecks", fn := fun _ => fun
  | [d1, d2] => { results := [.lit (.bool true)], args := [d1, d2] }
  | _ => none }
def routeChecksRow : OpenClaim := { program := "ytnfmjkjhiolfdaadoor", sum := "e01f6172e09c8245023124556718bbb17bbe750721f4efa364994d4855318451", func := "convoy/convoylaw13.RouteChecks", spec := "routeChecks", recurses := true, named := ["internal/strconv.uint64pow10", "math/bits.deBruijn32tab", "math/bits.deBruijn64tab"], apart := false, laid := [("math/bits.deBruijn32tab", laid_math_bits_deBruijn32tab), ("math/bits.deBruijn64tab", laid_math_bits_deBruijn64tab), ("internal/strconv.uint64pow10", laid_internal_strconv_uint64pow10)] }
def RouteChecksSaid : Prop := routeChecksRow.holds Tryd.pinned (OpenSpec.ofChange routeChecksSpec)

/-- ITS FALSE NEIGHBOUR: 'it returns false'. Refute it at one input. -/
def routeChecksWrong : ChangeSpec := { name := "routeChecks", fn := fun _ => fun
  | [d1, d2] => { results := [.lit (.bool false)], args := [d1, d2] }
  | _ => none }
def RouteChecksWrongFalsely : Prop := routeChecksRow.holds Tryd.pinned (OpenSpec.ofChange routeChecksWrong)

/-- 'convoylaw13.RouteMeets': WHATEVER THE INPUT: true; the input reads as it did. -/
def routeMeetsSpec : ChangeSpec := { name := "routeMeets", fn := fun _ => fun
  | [d1, d2, d3] => { results := [.lit (.bool true)], args := [d1, d2, d3] }
  | _ => none }
def routeMeetsRow : OpenClaim := { program := "ytnfmjkjhiolfdaadoor", sum := "e01f6172e09c8245023124556718bbb17bbe750721f4efa364994d4855318451", func := "convoy/convoylaw13.RouteMeets", spec := "routeMeets", recurses := true, named := ["internal/strconv.uint64pow10", "math/bits.deBruijn32tab", "math/bits.deBruijn64tab"], apart := false, laid := [("math/bits.deBruijn32tab", laid_math_bits_deBruijn32tab), ("math/bits.deBruijn64tab", laid_math_bits_deBruijn64tab), ("internal/strconv.uint64pow10", laid_internal_strconv_uint64pow10)] }
def RouteMeetsSaid : Prop := routeMeetsRow.holds Tryd.pinned (OpenSpec.ofChange routeMeetsSpec)

/-- ITS FALSE NEIGHBOUR: 'it returns false'. Refute it at one input. -/
def routeMeetsWrong : ChangeSpec := { name := "routeMeets", fn := fun _ => fun
  | [d1, d2, d3] => { results := [.lit (.bool false)], args := [d1, d2, d3] }
  | _ => none }
def RouteMeetsWrongFalsely : Prop := routeMeetsRow.holds Tryd.pinned (OpenSpec.ofChange routeMeetsWrong)

/-- 'convoylaw13.RouteCuts': WHATEVER THE INPUT: true; the input reads as it did. -/
def routeCutsSpec : ChangeSpec := { name := "routeCuts", fn := fun _ => fun
  | [d1, d2, d3] => { results := [.lit (.bool true)], args := [d1, d2, d3] }
  | _ => none }
def routeCutsRow : OpenClaim := { program := "ytnfmjkjhiolfdaadoor", sum := "e01f6172e09c8245023124556718bbb17bbe750721f4efa364994d4855318451", func := "convoy/convoylaw13.RouteCuts", spec := "routeCuts", recurses := true, named := ["internal/strconv.uint64pow10", "math/bits.deBruijn32tab", "math/bits.deBruijn64tab"], apart := false, laid := [("math/bits.deBruijn32tab", laid_math_bits_deBruijn32tab), ("math/bits.deBruijn64tab", laid_math_bits_deBruijn64tab), ("internal/strconv.uint64pow10", laid_internal_strconv_uint64pow10)] }
def RouteCutsSaid : Prop := routeCutsRow.holds Tryd.pinned (OpenSpec.ofChange routeCutsSpec)

/-- ITS FALSE NEIGHBOUR: 'it returns false'. Refute it at one input. -/
def routeCutsWrong : ChangeSpec := { name := "routeCuts", fn := fun _ => fun
  | [d1, d2, d3] => { results := [.lit (.bool false)], args := [d1, d2, d3] }
  | _ => none }
def RouteCutsWrongFalsely : Prop := routeCutsRow.holds Tryd.pinned (OpenSpec.ofChange routeCutsWrong)

/-- 'convoylaw13.RouteWaits': WHATEVER THE INPUT: true; the input reads as it did. -/
def routeWaitsSpec : ChangeSpec := { name := "routeWaits", fn := fun _ => fun
  | [d1, d2, d3] => { results := [.lit (.bool true)], args := [d1, d2, d3] }
  | _ => none }
def routeWaitsRow : OpenClaim := { program := "ytnfmjkjhiolfdaadoor", sum := "e01f6172e09c8245023124556718bbb17bbe750721f4efa364994d4855318451", func := "convoy/convoylaw13.RouteWaits", spec := "routeWaits", recurses := true, named := ["internal/strconv.uint64pow10", "math/bits.deBruijn32tab", "math/bits.deBruijn64tab"], apart := false, laid := [("math/bits.deBruijn32tab", laid_math_bits_deBruijn32tab), ("math/bits.deBruijn64tab", laid_math_bits_deBruijn64tab), ("internal/strconv.uint64pow10", laid_internal_strconv_uint64pow10)] }
def RouteWaitsSaid : Prop := routeWaitsRow.holds Tryd.pinned (OpenSpec.ofChange routeWaitsSpec)

/-- ITS FALSE NEIGHBOUR: 'it returns false'. Refute it at one input. -/
def routeWaitsWrong : ChangeSpec := { name := "routeWaits", fn := fun _ => fun
  | [d1, d2, d3] => { results := [.lit (.bool false)], args := [d1, d2, d3] }
  | _ => none }
def RouteWaitsWrongFalsely : Prop := routeWaitsRow.holds Tryd.pinned (OpenSpec.ofChange routeWaitsWrong)

/-- 'convoylaw12.GridNext': WHATEVER THE INPUT: true; the input reads as it did. -/
def gridNextSpec : ChangeSpec := { name := "gridNext", fn := fun _ => fun
  | [d1, d2, d3] => { results := [.lit (.bool true)], args := [d1, d2, d3] }
  | _ => none }
def gridNextRow : OpenClaim := { program := "ytnfmjkjhiolfdaadoor", sum := "e01f6172e09c8245023124556718bbb17bbe750721f4efa364994d4855318451", func := "convoy/convoylaw12.GridNext", spec := "gridNext", inPlace := ["internal/bytealg.IndexByteString", "internal/bytealg.IndexString"], recurses := true, named := ["internal/bytealg.MaxLen", "strconv.ErrSyntax", "strconv.ErrRange", "internal/strconv.uint64pow10", "math/bits.deBruijn32tab", "math/bits.deBruijn64tab"], apart := false, laid := [("math/bits.deBruijn32tab", laid_math_bits_deBruijn32tab), ("math/bits.deBruijn64tab", laid_math_bits_deBruijn64tab), ("internal/strconv.uint64pow10", laid_internal_strconv_uint64pow10), ("strconv.ErrRange", laid_strconv_ErrRange), ("strconv.ErrSyntax", laid_strconv_ErrSyntax)] }
def GridNextSaid : Prop := gridNextRow.holds Tryd.pinned (OpenSpec.ofChange gridNextSpec)

/-- ITS FALSE NEIGHBOUR: 'it returns false'. Refute it at one input. -/
def gridNextWrong : ChangeSpec := { name := "gridNext", fn := fun _ => fun
  | [d1, d2, d3] => { results := [.lit (.bool false)], args := [d1, d2, d3] }
  | _ => none }
def GridNextWrongFalsely : Prop := gridNextRow.holds Tryd.pinned (OpenSpec.ofChange gridNextWrong)

/-- 'convoylaw12.GridShards': WHATEVER THE INPUT: true; the input reads as it did. -/
def gridShardsSpec : ChangeSpec := { name := "gridShards", fn := fun _ => fun
  | [d1, d2, d3] => { results := [.lit (.bool true)], args := [d1, d2, d3] }
  | _ => none }
def gridShardsRow : OpenClaim := { program := "ytnfmjkjhiolfdaadoor", sum := "e01f6172e09c8245023124556718bbb17bbe750721f4efa364994d4855318451", func := "convoy/convoylaw12.GridShards", spec := "gridShards", inPlace := ["internal/bytealg.IndexByteString", "internal/bytealg.IndexString"], recurses := true, named := ["internal/bytealg.MaxLen", "strconv.ErrSyntax", "strconv.ErrRange", "internal/strconv.uint64pow10", "math/bits.deBruijn32tab", "math/bits.deBruijn64tab"], apart := false, laid := [("math/bits.deBruijn32tab", laid_math_bits_deBruijn32tab), ("math/bits.deBruijn64tab", laid_math_bits_deBruijn64tab), ("internal/strconv.uint64pow10", laid_internal_strconv_uint64pow10), ("strconv.ErrRange", laid_strconv_ErrRange), ("strconv.ErrSyntax", laid_strconv_ErrSyntax)] }
def GridShardsSaid : Prop := gridShardsRow.holds Tryd.pinned (OpenSpec.ofChange gridShardsSpec)

/-- ITS FALSE NEIGHBOUR: 'it returns false'. Refute it at one input. -/
def gridShardsWrong : ChangeSpec := { name := "gridShards", fn := fun _ => fun
  | [d1, d2, d3] => { results := [.lit (.bool false)], args := [d1, d2, d3] }
  | _ => none }
def GridShardsWrongFalsely : Prop := gridShardsRow.holds Tryd.pinned (OpenSpec.ofChange gridShardsWrong)

/-- 'convoylaw12.GridKeys': WHATEVER THE INPUT: true; the input reads as it did. -/
def gridKeysSpec : ChangeSpec := { name := "gridKeys", fn := fun _ => fun
  | [d1, d2, d3] => { results := [.lit (.bool true)], args := [d1, d2, d3] }
  | _ => none }
def gridKeysRow : OpenClaim := { program := "ytnfmjkjhiolfdaadoor", sum := "e01f6172e09c8245023124556718bbb17bbe750721f4efa364994d4855318451", func := "convoy/convoylaw12.GridKeys", spec := "gridKeys", inPlace := ["internal/bytealg.IndexByteString", "internal/bytealg.IndexString"], recurses := true, named := ["internal/bytealg.MaxLen", "strconv.ErrSyntax", "strconv.ErrRange", "internal/strconv.uint64pow10", "math/bits.deBruijn32tab", "math/bits.deBruijn64tab"], apart := false, laid := [("math/bits.deBruijn32tab", laid_math_bits_deBruijn32tab), ("math/bits.deBruijn64tab", laid_math_bits_deBruijn64tab), ("internal/strconv.uint64pow10", laid_internal_strconv_uint64pow10), ("strconv.ErrRange", laid_strconv_ErrRange), ("strconv.ErrSyntax", laid_strconv_ErrSyntax)] }
def GridKeysSaid : Prop := gridKeysRow.holds Tryd.pinned (OpenSpec.ofChange gridKeysSpec)

/-- ITS FALSE NEIGHBOUR: 'it returns false'. Refute it at one input. -/
def gridKeysWrong : ChangeSpec := { name := "gridKeys", fn := fun _ => fun
  | [d1, d2, d3] => { results := [.lit (.bool false)], args := [d1, d2, d3] }
  | _ => none }
def GridKeysWrongFalsely : Prop := gridKeysRow.holds Tryd.pinned (OpenSpec.ofChange gridKeysWrong)

/-- 'convoylaw12.GridHomes': WHATEVER THE INPUT: true; the input reads as it did. -/
def gridHomesSpec : ChangeSpec := { name := "gridHomes", fn := fun _ => fun
  | [d1, d2, d3] => { results := [.lit (.bool true)], args := [d1, d2, d3] }
  | _ => none }
def gridHomesRow : OpenClaim := { program := "ytnfmjkjhiolfdaadoor", sum := "e01f6172e09c8245023124556718bbb17bbe750721f4efa364994d4855318451", func := "convoy/convoylaw12.GridHomes", spec := "gridHomes", inPlace := ["internal/bytealg.IndexByteString", "internal/bytealg.IndexString"], recurses := true, named := ["internal/bytealg.MaxLen", "strconv.ErrSyntax", "strconv.ErrRange", "internal/strconv.uint64pow10", "math/bits.deBruijn32tab", "math/bits.deBruijn64tab"], apart := false, laid := [("math/bits.deBruijn32tab", laid_math_bits_deBruijn32tab), ("math/bits.deBruijn64tab", laid_math_bits_deBruijn64tab), ("internal/strconv.uint64pow10", laid_internal_strconv_uint64pow10), ("strconv.ErrRange", laid_strconv_ErrRange), ("strconv.ErrSyntax", laid_strconv_ErrSyntax)] }
def GridHomesSaid : Prop := gridHomesRow.holds Tryd.pinned (OpenSpec.ofChange gridHomesSpec)

/-- ITS FALSE NEIGHBOUR: 'it returns false'. Refute it at one input. -/
def gridHomesWrong : ChangeSpec := { name := "gridHomes", fn := fun _ => fun
  | [d1, d2, d3] => { results := [.lit (.bool false)], args := [d1, d2, d3] }
  | _ => none }
def GridHomesWrongFalsely : Prop := gridHomesRow.holds Tryd.pinned (OpenSpec.ofChange gridHomesWrong)

/-- 'convoylaw12.GridOwn': WHATEVER THE INPUT: true; the input reads as it did. -/
def gridOwnSpec : ChangeSpec := { name := "gridOwn", fn := fun _ => fun
  | [d1, d2] => { results := [.lit (.bool true)], args := [d1, d2] }
  | _ => none }
def gridOwnRow : OpenClaim := { program := "ytnfmjkjhiolfdaadoor", sum := "e01f6172e09c8245023124556718bbb17bbe750721f4efa364994d4855318451", func := "convoy/convoylaw12.GridOwn", spec := "gridOwn", inPlace := ["internal/bytealg.IndexByteString", "internal/bytealg.IndexString"], recurses := true, named := ["internal/bytealg.MaxLen", "strconv.ErrSyntax", "strconv.ErrRange", "internal/strconv.uint64pow10", "math/bits.deBruijn32tab", "math/bits.deBruijn64tab"], apart := false, laid := [("math/bits.deBruijn32tab", laid_math_bits_deBruijn32tab), ("math/bits.deBruijn64tab", laid_math_bits_deBruijn64tab), ("internal/strconv.uint64pow10", laid_internal_strconv_uint64pow10), ("strconv.ErrRange", laid_strconv_ErrRange), ("strconv.ErrSyntax", laid_strconv_ErrSyntax)] }
def GridOwnSaid : Prop := gridOwnRow.holds Tryd.pinned (OpenSpec.ofChange gridOwnSpec)

/-- ITS FALSE NEIGHBOUR: 'it returns false'. Refute it at one input. -/
def gridOwnWrong : ChangeSpec := { name := "gridOwn", fn := fun _ => fun
  | [d1, d2] => { results := [.lit (.bool false)], args := [d1, d2] }
  | _ => none }
def GridOwnWrongFalsely : Prop := gridOwnRow.holds Tryd.pinned (OpenSpec.ofChange gridOwnWrong)

/-- 'convoylaw12.GridTicks': WHATEVER THE INPUT: true; the input reads as it did. -/
def gridTicksSpec : ChangeSpec := { name := "gridTicks", fn := fun _ => fun
  | [d1, d2] => { results := [.lit (.bool true)], args := [d1, d2] }
  | _ => none }
def gridTicksRow : OpenClaim := { program := "ytnfmjkjhiolfdaadoor", sum := "e01f6172e09c8245023124556718bbb17bbe750721f4efa364994d4855318451", func := "convoy/convoylaw12.GridTicks", spec := "gridTicks", inPlace := ["internal/bytealg.IndexByteString", "internal/bytealg.IndexString"], recurses := true, named := ["internal/bytealg.MaxLen", "strconv.ErrSyntax", "strconv.ErrRange", "internal/strconv.uint64pow10", "math/bits.deBruijn32tab", "math/bits.deBruijn64tab"], apart := false, laid := [("math/bits.deBruijn32tab", laid_math_bits_deBruijn32tab), ("math/bits.deBruijn64tab", laid_math_bits_deBruijn64tab), ("internal/strconv.uint64pow10", laid_internal_strconv_uint64pow10), ("strconv.ErrRange", laid_strconv_ErrRange), ("strconv.ErrSyntax", laid_strconv_ErrSyntax)] }
def GridTicksSaid : Prop := gridTicksRow.holds Tryd.pinned (OpenSpec.ofChange gridTicksSpec)

/-- ITS FALSE NEIGHBOUR: 'it returns false'. Refute it at one input. -/
def gridTicksWrong : ChangeSpec := { name := "gridTicks", fn := fun _ => fun
  | [d1, d2] => { results := [.lit (.bool false)], args := [d1, d2] }
  | _ => none }
def GridTicksWrongFalsely : Prop := gridTicksRow.holds Tryd.pinned (OpenSpec.ofChange gridTicksWrong)

/-- 'convoylaw12.GridMaps': WHATEVER THE INPUT: true; the input reads as it did. -/
def gridMapsSpec : ChangeSpec := { name := "gridMaps", fn := fun _ => fun
  | [d1, d2, d3] => { results := [.lit (.bool true)], args := [d1, d2, d3] }
  | _ => none }
def gridMapsRow : OpenClaim := { program := "ytnfmjkjhiolfdaadoor", sum := "e01f6172e09c8245023124556718bbb17bbe750721f4efa364994d4855318451", func := "convoy/convoylaw12.GridMaps", spec := "gridMaps", inPlace := ["internal/bytealg.IndexByteString", "internal/bytealg.IndexString"], recurses := true, named := ["internal/bytealg.MaxLen", "strconv.ErrSyntax", "strconv.ErrRange", "internal/strconv.uint64pow10", "math/bits.deBruijn32tab", "math/bits.deBruijn64tab"], apart := false, laid := [("math/bits.deBruijn32tab", laid_math_bits_deBruijn32tab), ("math/bits.deBruijn64tab", laid_math_bits_deBruijn64tab), ("internal/strconv.uint64pow10", laid_internal_strconv_uint64pow10), ("strconv.ErrRange", laid_strconv_ErrRange), ("strconv.ErrSyntax", laid_strconv_ErrSyntax)] }
def GridMapsSaid : Prop := gridMapsRow.holds Tryd.pinned (OpenSpec.ofChange gridMapsSpec)

/-- ITS FALSE NEIGHBOUR: 'it returns false'. Refute it at one input. -/
def gridMapsWrong : ChangeSpec := { name := "gridMaps", fn := fun _ => fun
  | [d1, d2, d3] => { results := [.lit (.bool false)], args := [d1, d2, d3] }
  | _ => none }
def GridMapsWrongFalsely : Prop := gridMapsRow.holds Tryd.pinned (OpenSpec.ofChange gridMapsWrong)

/- THE SECOND FORM. 'bulk': how many values and letters a reading holds, each counted each time it is reached (what is shared counts as often as it is met; a slice's spare places count too). A statement '..UptoSaid' is the law's where the arguments, and the package variables that the reading takes, are together of bulk at most 1048576: NARROWER than '..Said'. Prove '..Said' where nothing that the law and all that it calls make is longer than what came in: it says more and counts as full. Else prove '..UptoSaid'. A law counts once. -/
mutual
def uptoBulk {H : Type} : DataW H → Nat
  | .lit (.string bytes) => bytes.length + 1
  | .lit _ => 1
  | .nil => 1
  | .ptr d => uptoBulk d + 1
  | .slice elems spare => uptoBulkAll elems + uptoBulkAll spare + 1
  | .agg parts => uptoBulkAll parts + 1
  | .iface _ d => uptoBulk d + 1
  | .map entries => uptoBulkEntries entries + 1
  | .held _ => 1
def uptoBulkAll {H : Type} : List (DataW H) → Nat
  | [] => 0
  | d :: r => uptoBulk d + uptoBulkAll r
def uptoBulkEntries {H : Type} : List (Lit × DataW H) → Nat
  | [] => 0
  | x :: r => uptoBulkEntry x + uptoBulkEntries r
def uptoBulkEntry {H : Type} : Lit × DataW H → Nat
  | (.string bytes, d) => bytes.length + uptoBulk d + 1
  | (_, d) => uptoBulk d + 1
 end
def uptoSmall : (H : Type) → List (DataW H) → Bool := fun _ ds => decide (uptoBulkAll ds ≤ 1048576)
def OpenSpec.upto (s : _root_.Go.ChangeSpec) : _root_.Go.OpenSpec := { _root_.Go.OpenSpec.ofChange s with cond := some uptoSmall }

/-- 'convoylaw13.RouteChecks', WHERE WHAT IT READS IS OF BULK AT MOST 1048576: true; the input reads as it did. -/
def routeChecksUptoRow : OpenClaim := { program := "ytnfmjkjhiolfdaadoor", sum := "e01f6172e09c8245023124556718bbb17bbe750721f4efa364994d4855318451", func := "convoy/convoylaw13.RouteChecks", spec := "routeChecks", recurses := true, named := ["internal/strconv.uint64pow10", "math/bits.deBruijn32tab", "math/bits.deBruijn64tab"], apart := false, laid := [("math/bits.deBruijn32tab", laid_math_bits_deBruijn32tab), ("math/bits.deBruijn64tab", laid_math_bits_deBruijn64tab), ("internal/strconv.uint64pow10", laid_internal_strconv_uint64pow10)], narrowed := true }
def RouteChecksUptoSaid : Prop := routeChecksUptoRow.holds Tryd.pinned (OpenSpec.upto routeChecksSpec)

/-- 'convoylaw13.RouteMeets', WHERE WHAT IT READS IS OF BULK AT MOST 1048576: true; the input reads as it did. -/
def routeMeetsUptoRow : OpenClaim := { program := "ytnfmjkjhiolfdaadoor", sum := "e01f6172e09c8245023124556718bbb17bbe750721f4efa364994d4855318451", func := "convoy/convoylaw13.RouteMeets", spec := "routeMeets", recurses := true, named := ["internal/strconv.uint64pow10", "math/bits.deBruijn32tab", "math/bits.deBruijn64tab"], apart := false, laid := [("math/bits.deBruijn32tab", laid_math_bits_deBruijn32tab), ("math/bits.deBruijn64tab", laid_math_bits_deBruijn64tab), ("internal/strconv.uint64pow10", laid_internal_strconv_uint64pow10)], narrowed := true }
def RouteMeetsUptoSaid : Prop := routeMeetsUptoRow.holds Tryd.pinned (OpenSpec.upto routeMeetsSpec)

/-- 'convoylaw13.RouteCuts', WHERE WHAT IT READS IS OF BULK AT MOST 1048576: true; the input reads as it did. -/
def routeCutsUptoRow : OpenClaim := { program := "ytnfmjkjhiolfdaadoor", sum := "e01f6172e09c8245023124556718bbb17bbe750721f4efa364994d4855318451", func := "convoy/convoylaw13.RouteCuts", spec := "routeCuts", recurses := true, named := ["internal/strconv.uint64pow10", "math/bits.deBruijn32tab", "math/bits.deBruijn64tab"], apart := false, laid := [("math/bits.deBruijn32tab", laid_math_bits_deBruijn32tab), ("math/bits.deBruijn64tab", laid_math_bits_deBruijn64tab), ("internal/strconv.uint64pow10", laid_internal_strconv_uint64pow10)], narrowed := true }
def RouteCutsUptoSaid : Prop := routeCutsUptoRow.holds Tryd.pinned (OpenSpec.upto routeCutsSpec)

/-- 'convoylaw13.RouteWaits', WHERE WHAT IT READS IS OF BULK AT MOST 1048576: true; the input reads as it did. -/
def routeWaitsUptoRow : OpenClaim := { program := "ytnfmjkjhiolfdaadoor", sum := "e01f6172e09c8245023124556718bbb17bbe750721f4efa364994d4855318451", func := "convoy/convoylaw13.RouteWaits", spec := "routeWaits", recurses := true, named := ["internal/strconv.uint64pow10", "math/bits.deBruijn32tab", "math/bits.deBruijn64tab"], apart := false, laid := [("math/bits.deBruijn32tab", laid_math_bits_deBruijn32tab), ("math/bits.deBruijn64tab", laid_math_bits_deBruijn64tab), ("internal/strconv.uint64pow10", laid_internal_strconv_uint64pow10)], narrowed := true }
def RouteWaitsUptoSaid : Prop := routeWaitsUptoRow.holds Tryd.pinned (OpenSpec.upto routeWaitsSpec)

/-- 'convoylaw12.GridNext', WHERE WHAT IT READS IS OF BULK AT MOST 1048576: true; the input reads as it did. -/
def gridNextUptoRow : OpenClaim := { program := "ytnfmjkjhiolfdaadoor", sum := "e01f6172e09c8245023124556718bbb17bbe750721f4efa364994d4855318451", func := "convoy/convoylaw12.GridNext", spec := "gridNext", inPlace := ["internal/bytealg.IndexByteString", "internal/bytealg.IndexString"], recurses := true, named := ["internal/bytealg.MaxLen", "strconv.ErrSyntax", "strconv.ErrRange", "internal/strconv.uint64pow10", "math/bits.deBruijn32tab", "math/bits.deBruijn64tab"], apart := false, laid := [("math/bits.deBruijn32tab", laid_math_bits_deBruijn32tab), ("math/bits.deBruijn64tab", laid_math_bits_deBruijn64tab), ("internal/strconv.uint64pow10", laid_internal_strconv_uint64pow10), ("strconv.ErrRange", laid_strconv_ErrRange), ("strconv.ErrSyntax", laid_strconv_ErrSyntax)], narrowed := true }
def GridNextUptoSaid : Prop := gridNextUptoRow.holds Tryd.pinned (OpenSpec.upto gridNextSpec)

/-- 'convoylaw12.GridShards', WHERE WHAT IT READS IS OF BULK AT MOST 1048576: true; the input reads as it did. -/
def gridShardsUptoRow : OpenClaim := { program := "ytnfmjkjhiolfdaadoor", sum := "e01f6172e09c8245023124556718bbb17bbe750721f4efa364994d4855318451", func := "convoy/convoylaw12.GridShards", spec := "gridShards", inPlace := ["internal/bytealg.IndexByteString", "internal/bytealg.IndexString"], recurses := true, named := ["internal/bytealg.MaxLen", "strconv.ErrSyntax", "strconv.ErrRange", "internal/strconv.uint64pow10", "math/bits.deBruijn32tab", "math/bits.deBruijn64tab"], apart := false, laid := [("math/bits.deBruijn32tab", laid_math_bits_deBruijn32tab), ("math/bits.deBruijn64tab", laid_math_bits_deBruijn64tab), ("internal/strconv.uint64pow10", laid_internal_strconv_uint64pow10), ("strconv.ErrRange", laid_strconv_ErrRange), ("strconv.ErrSyntax", laid_strconv_ErrSyntax)], narrowed := true }
def GridShardsUptoSaid : Prop := gridShardsUptoRow.holds Tryd.pinned (OpenSpec.upto gridShardsSpec)

/-- 'convoylaw12.GridKeys', WHERE WHAT IT READS IS OF BULK AT MOST 1048576: true; the input reads as it did. -/
def gridKeysUptoRow : OpenClaim := { program := "ytnfmjkjhiolfdaadoor", sum := "e01f6172e09c8245023124556718bbb17bbe750721f4efa364994d4855318451", func := "convoy/convoylaw12.GridKeys", spec := "gridKeys", inPlace := ["internal/bytealg.IndexByteString", "internal/bytealg.IndexString"], recurses := true, named := ["internal/bytealg.MaxLen", "strconv.ErrSyntax", "strconv.ErrRange", "internal/strconv.uint64pow10", "math/bits.deBruijn32tab", "math/bits.deBruijn64tab"], apart := false, laid := [("math/bits.deBruijn32tab", laid_math_bits_deBruijn32tab), ("math/bits.deBruijn64tab", laid_math_bits_deBruijn64tab), ("internal/strconv.uint64pow10", laid_internal_strconv_uint64pow10), ("strconv.ErrRange", laid_strconv_ErrRange), ("strconv.ErrSyntax", laid_strconv_ErrSyntax)], narrowed := true }
def GridKeysUptoSaid : Prop := gridKeysUptoRow.holds Tryd.pinned (OpenSpec.upto gridKeysSpec)

/-- 'convoylaw12.GridHomes', WHERE WHAT IT READS IS OF BULK AT MOST 1048576: true; the input reads as it did. -/
def gridHomesUptoRow : OpenClaim := { program := "ytnfmjkjhiolfdaadoor", sum := "e01f6172e09c8245023124556718bbb17bbe750721f4efa364994d4855318451", func := "convoy/convoylaw12.GridHomes", spec := "gridHomes", inPlace := ["internal/bytealg.IndexByteString", "internal/bytealg.IndexString"], recurses := true, named := ["internal/bytealg.MaxLen", "strconv.ErrSyntax", "strconv.ErrRange", "internal/strconv.uint64pow10", "math/bits.deBruijn32tab", "math/bits.deBruijn64tab"], apart := false, laid := [("math/bits.deBruijn32tab", laid_math_bits_deBruijn32tab), ("math/bits.deBruijn64tab", laid_math_bits_deBruijn64tab), ("internal/strconv.uint64pow10", laid_internal_strconv_uint64pow10), ("strconv.ErrRange", laid_strconv_ErrRange), ("strconv.ErrSyntax", laid_strconv_ErrSyntax)], narrowed := true }
def GridHomesUptoSaid : Prop := gridHomesUptoRow.holds Tryd.pinned (OpenSpec.upto gridHomesSpec)

/-- 'convoylaw12.GridOwn', WHERE WHAT IT READS IS OF BULK AT MOST 1048576: true; the input reads as it did. -/
def gridOwnUptoRow : OpenClaim := { program := "ytnfmjkjhiolfdaadoor", sum := "e01f6172e09c8245023124556718bbb17bbe750721f4efa364994d4855318451", func := "convoy/convoylaw12.GridOwn", spec := "gridOwn", inPlace := ["internal/bytealg.IndexByteString", "internal/bytealg.IndexString"], recurses := true, named := ["internal/bytealg.MaxLen", "strconv.ErrSyntax", "strconv.ErrRange", "internal/strconv.uint64pow10", "math/bits.deBruijn32tab", "math/bits.deBruijn64tab"], apart := false, laid := [("math/bits.deBruijn32tab", laid_math_bits_deBruijn32tab), ("math/bits.deBruijn64tab", laid_math_bits_deBruijn64tab), ("internal/strconv.uint64pow10", laid_internal_strconv_uint64pow10), ("strconv.ErrRange", laid_strconv_ErrRange), ("strconv.ErrSyntax", laid_strconv_ErrSyntax)], narrowed := true }
def GridOwnUptoSaid : Prop := gridOwnUptoRow.holds Tryd.pinned (OpenSpec.upto gridOwnSpec)

/-- 'convoylaw12.GridTicks', WHERE WHAT IT READS IS OF BULK AT MOST 1048576: true; the input reads as it did. -/
def gridTicksUptoRow : OpenClaim := { program := "ytnfmjkjhiolfdaadoor", sum := "e01f6172e09c8245023124556718bbb17bbe750721f4efa364994d4855318451", func := "convoy/convoylaw12.GridTicks", spec := "gridTicks", inPlace := ["internal/bytealg.IndexByteString", "internal/bytealg.IndexString"], recurses := true, named := ["internal/bytealg.MaxLen", "strconv.ErrSyntax", "strconv.ErrRange", "internal/strconv.uint64pow10", "math/bits.deBruijn32tab", "math/bits.deBruijn64tab"], apart := false, laid := [("math/bits.deBruijn32tab", laid_math_bits_deBruijn32tab), ("math/bits.deBruijn64tab", laid_math_bits_deBruijn64tab), ("internal/strconv.uint64pow10", laid_internal_strconv_uint64pow10), ("strconv.ErrRange", laid_strconv_ErrRange), ("strconv.ErrSyntax", laid_strconv_ErrSyntax)], narrowed := true }
def GridTicksUptoSaid : Prop := gridTicksUptoRow.holds Tryd.pinned (OpenSpec.upto gridTicksSpec)

/-- 'convoylaw12.GridMaps', WHERE WHAT IT READS IS OF BULK AT MOST 1048576: true; the input reads as it did. -/
def gridMapsUptoRow : OpenClaim := { program := "ytnfmjkjhiolfdaadoor", sum := "e01f6172e09c8245023124556718bbb17bbe750721f4efa364994d4855318451", func := "convoy/convoylaw12.GridMaps", spec := "gridMaps", inPlace := ["internal/bytealg.IndexByteString", "internal/bytealg.IndexString"], recurses := true, named := ["internal/bytealg.MaxLen", "strconv.ErrSyntax", "strconv.ErrRange", "internal/strconv.uint64pow10", "math/bits.deBruijn32tab", "math/bits.deBruijn64tab"], apart := false, laid := [("math/bits.deBruijn32tab", laid_math_bits_deBruijn32tab), ("math/bits.deBruijn64tab", laid_math_bits_deBruijn64tab), ("internal/strconv.uint64pow10", laid_internal_strconv_uint64pow10), ("strconv.ErrRange", laid_strconv_ErrRange), ("strconv.ErrSyntax", laid_strconv_ErrSyntax)], narrowed := true }
def GridMapsUptoSaid : Prop := gridMapsUptoRow.holds Tryd.pinned (OpenSpec.upto gridMapsSpec)

end Rows
end Go.Proofs.YtnfmjkjhiolfdaaDoor
