/-
  DERIVED. GIVEN WITH THE SEED: THE CARDS: each row of YtnfmjkjhiolfdaaDoorRows.lean that lists a variable, with what it lists TIED to the program's text (the seventh form; the later family's looks); each row that meets fmt, with fmt's text TOLD by the authors' own Lean function (tested against real Go, not proved from fmt's source: count such statements apart). THE CARD IS WHAT COUNTS. Prove the row's statement (the work); the ties are given (YtnfmjkjhiolfdaaDoorTie.lean); close each card by the builder's one call (the guide's Derived/Test/ToyasCard.lean, 'card_holds'). Laid BY PROGRAM, IN A SANDBOX (cutbox-door.mjs). By AI agents, Wed Nov 11 2026. No macro, syntax, notation, axiom, sorry.
-/
import Derived.Test.YtnfmjkjhiolfdaaDoorRows
import GoSem.ClaimSeven
namespace Go.Proofs.YtnfmjkjhiolfdaaDoor
namespace Rows

/-- THE TIED CARD OF 'convoylaw13.RouteChecks'. -/
def routeChecksCard : Claim7 := { stood := { row := routeChecksRow, standIns := [], harness := (true, "0dc9a0cbba02cb59fadc36fad468b818168b58f1e0dda911340c0198c405cc41"), looks := true }, kinds := [], alts := [], laidByText := true, laidKinds := [.data, .data, .data], laidTests := true, laidLooks := .later }
def RouteChecksCardSaid : Prop := Claim7.holds Tryd.pinned (.plain (OpenSpec.ofChange routeChecksSpec)) routeChecksCard

/-- THE TIED CARD OF 'convoylaw13.RouteMeets'. -/
def routeMeetsCard : Claim7 := { stood := { row := routeMeetsRow, standIns := [], harness := (true, "0dc9a0cbba02cb59fadc36fad468b818168b58f1e0dda911340c0198c405cc41"), looks := true }, kinds := [], alts := [], laidByText := true, laidKinds := [.data, .data, .data], laidTests := true, laidLooks := .later }
def RouteMeetsCardSaid : Prop := Claim7.holds Tryd.pinned (.plain (OpenSpec.ofChange routeMeetsSpec)) routeMeetsCard

/-- THE TIED CARD OF 'convoylaw13.RouteCuts'. -/
def routeCutsCard : Claim7 := { stood := { row := routeCutsRow, standIns := [], harness := (true, "0dc9a0cbba02cb59fadc36fad468b818168b58f1e0dda911340c0198c405cc41"), looks := true }, kinds := [], alts := [], laidByText := true, laidKinds := [.data, .data, .data], laidTests := true, laidLooks := .later }
def RouteCutsCardSaid : Prop := Claim7.holds Tryd.pinned (.plain (OpenSpec.ofChange routeCutsSpec)) routeCutsCard

/-- THE TIED CARD OF 'convoylaw13.RouteWaits'. -/
def routeWaitsCard : Claim7 := { stood := { row := routeWaitsRow, standIns := [], harness := (true, "0dc9a0cbba02cb59fadc36fad468b818168b58f1e0dda911340c0198c405cc41"), looks := true }, kinds := [], alts := [], laidByText := true, laidKinds := [.data, .data, .data], laidTests := true, laidLooks := .later }
def RouteWaitsCardSaid : Prop := Claim7.holds Tryd.pinned (.plain (OpenSpec.ofChange routeWaitsSpec)) routeWaitsCard

/-- THE TIED CARD OF 'convoylaw12.GridNext'. -/
def gridNextCard : Claim7 := { stood := { row := gridNextRow, standIns := [], harness := (true, "0dc9a0cbba02cb59fadc36fad468b818168b58f1e0dda911340c0198c405cc41"), looks := true }, kinds := [], alts := [], laidByText := true, laidKinds := [.data, .data, .data, .sentinel, .sentinel], laidTests := true, laidLooks := .later }
def GridNextCardSaid : Prop := Claim7.holds Tryd.pinned (.plain (OpenSpec.ofChange gridNextSpec)) gridNextCard

/-- THE TIED CARD OF 'convoylaw12.GridShards'. -/
def gridShardsCard : Claim7 := { stood := { row := gridShardsRow, standIns := [], harness := (true, "0dc9a0cbba02cb59fadc36fad468b818168b58f1e0dda911340c0198c405cc41"), looks := true }, kinds := [], alts := [], laidByText := true, laidKinds := [.data, .data, .data, .sentinel, .sentinel], laidTests := true, laidLooks := .later }
def GridShardsCardSaid : Prop := Claim7.holds Tryd.pinned (.plain (OpenSpec.ofChange gridShardsSpec)) gridShardsCard

/-- THE TIED CARD OF 'convoylaw12.GridKeys'. -/
def gridKeysCard : Claim7 := { stood := { row := gridKeysRow, standIns := [], harness := (true, "0dc9a0cbba02cb59fadc36fad468b818168b58f1e0dda911340c0198c405cc41"), looks := true }, kinds := [], alts := [], laidByText := true, laidKinds := [.data, .data, .data, .sentinel, .sentinel], laidTests := true, laidLooks := .later }
def GridKeysCardSaid : Prop := Claim7.holds Tryd.pinned (.plain (OpenSpec.ofChange gridKeysSpec)) gridKeysCard

/-- THE TIED CARD OF 'convoylaw12.GridHomes'. -/
def gridHomesCard : Claim7 := { stood := { row := gridHomesRow, standIns := [], harness := (true, "0dc9a0cbba02cb59fadc36fad468b818168b58f1e0dda911340c0198c405cc41"), looks := true }, kinds := [], alts := [], laidByText := true, laidKinds := [.data, .data, .data, .sentinel, .sentinel], laidTests := true, laidLooks := .later }
def GridHomesCardSaid : Prop := Claim7.holds Tryd.pinned (.plain (OpenSpec.ofChange gridHomesSpec)) gridHomesCard

/-- THE TIED CARD OF 'convoylaw12.GridOwn'. -/
def gridOwnCard : Claim7 := { stood := { row := gridOwnRow, standIns := [], harness := (true, "0dc9a0cbba02cb59fadc36fad468b818168b58f1e0dda911340c0198c405cc41"), looks := true }, kinds := [], alts := [], laidByText := true, laidKinds := [.data, .data, .data, .sentinel, .sentinel], laidTests := true, laidLooks := .later }
def GridOwnCardSaid : Prop := Claim7.holds Tryd.pinned (.plain (OpenSpec.ofChange gridOwnSpec)) gridOwnCard

/-- THE TIED CARD OF 'convoylaw12.GridTicks'. -/
def gridTicksCard : Claim7 := { stood := { row := gridTicksRow, standIns := [], harness := (true, "0dc9a0cbba02cb59fadc36fad468b818168b58f1e0dda911340c0198c405cc41"), looks := true }, kinds := [], alts := [], laidByText := true, laidKinds := [.data, .data, .data, .sentinel, .sentinel], laidTests := true, laidLooks := .later }
def GridTicksCardSaid : Prop := Claim7.holds Tryd.pinned (.plain (OpenSpec.ofChange gridTicksSpec)) gridTicksCard

/-- THE TIED CARD OF 'convoylaw12.GridMaps'. -/
def gridMapsCard : Claim7 := { stood := { row := gridMapsRow, standIns := [], harness := (true, "0dc9a0cbba02cb59fadc36fad468b818168b58f1e0dda911340c0198c405cc41"), looks := true }, kinds := [], alts := [], laidByText := true, laidKinds := [.data, .data, .data, .sentinel, .sentinel], laidTests := true, laidLooks := .later }
def GridMapsCardSaid : Prop := Claim7.holds Tryd.pinned (.plain (OpenSpec.ofChange gridMapsSpec)) gridMapsCard

/-- THE SECOND FORM's CARD OF 'convoylaw13.RouteChecks'. -/
def routeChecksUptoCard : Claim7 := { stood := { row := routeChecksUptoRow, standIns := [], harness := (true, "0dc9a0cbba02cb59fadc36fad468b818168b58f1e0dda911340c0198c405cc41"), looks := true }, kinds := [], alts := [], laidByText := true, laidKinds := [.data, .data, .data], laidTests := true, laidLooks := .later }
def RouteChecksUptoCardSaid : Prop := Claim7.holds Tryd.pinned (.plain (OpenSpec.upto routeChecksSpec)) routeChecksUptoCard

/-- THE SECOND FORM's CARD OF 'convoylaw13.RouteMeets'. -/
def routeMeetsUptoCard : Claim7 := { stood := { row := routeMeetsUptoRow, standIns := [], harness := (true, "0dc9a0cbba02cb59fadc36fad468b818168b58f1e0dda911340c0198c405cc41"), looks := true }, kinds := [], alts := [], laidByText := true, laidKinds := [.data, .data, .data], laidTests := true, laidLooks := .later }
def RouteMeetsUptoCardSaid : Prop := Claim7.holds Tryd.pinned (.plain (OpenSpec.upto routeMeetsSpec)) routeMeetsUptoCard

/-- THE SECOND FORM's CARD OF 'convoylaw13.RouteCuts'. -/
def routeCutsUptoCard : Claim7 := { stood := { row := routeCutsUptoRow, standIns := [], harness := (true, "0dc9a0cbba02cb59fadc36fad468b818168b58f1e0dda911340c0198c405cc41"), looks := true }, kinds := [], alts := [], laidByText := true, laidKinds := [.data, .data, .data], laidTests := true, laidLooks := .later }
def RouteCutsUptoCardSaid : Prop := Claim7.holds Tryd.pinned (.plain (OpenSpec.upto routeCutsSpec)) routeCutsUptoCard

/-- THE SECOND FORM's CARD OF 'convoylaw13.RouteWaits'. -/
def routeWaitsUptoCard : Claim7 := { stood := { row := routeWaitsUptoRow, standIns := [], harness := (true, "0dc9a0cbba02cb59fadc36fad468b818168b58f1e0dda911340c0198c405cc41"), looks := true }, kinds := [], alts := [], laidByText := true, laidKinds := [.data, .data, .data], laidTests := true, laidLooks := .later }
def RouteWaitsUptoCardSaid : Prop := Claim7.holds Tryd.pinned (.plain (OpenSpec.upto routeWaitsSpec)) routeWaitsUptoCard

/-- THE SECOND FORM's CARD OF 'convoylaw12.GridNext'. -/
def gridNextUptoCard : Claim7 := { stood := { row := gridNextUptoRow, standIns := [], harness := (true, "0dc9a0cbba02cb59fadc36fad468b818168b58f1e0dda911340c0198c405cc41"), looks := true }, kinds := [], alts := [], laidByText := true, laidKinds := [.data, .data, .data, .sentinel, .sentinel], laidTests := true, laidLooks := .later }
def GridNextUptoCardSaid : Prop := Claim7.holds Tryd.pinned (.plain (OpenSpec.upto gridNextSpec)) gridNextUptoCard

/-- THE SECOND FORM's CARD OF 'convoylaw12.GridShards'. -/
def gridShardsUptoCard : Claim7 := { stood := { row := gridShardsUptoRow, standIns := [], harness := (true, "0dc9a0cbba02cb59fadc36fad468b818168b58f1e0dda911340c0198c405cc41"), looks := true }, kinds := [], alts := [], laidByText := true, laidKinds := [.data, .data, .data, .sentinel, .sentinel], laidTests := true, laidLooks := .later }
def GridShardsUptoCardSaid : Prop := Claim7.holds Tryd.pinned (.plain (OpenSpec.upto gridShardsSpec)) gridShardsUptoCard

/-- THE SECOND FORM's CARD OF 'convoylaw12.GridKeys'. -/
def gridKeysUptoCard : Claim7 := { stood := { row := gridKeysUptoRow, standIns := [], harness := (true, "0dc9a0cbba02cb59fadc36fad468b818168b58f1e0dda911340c0198c405cc41"), looks := true }, kinds := [], alts := [], laidByText := true, laidKinds := [.data, .data, .data, .sentinel, .sentinel], laidTests := true, laidLooks := .later }
def GridKeysUptoCardSaid : Prop := Claim7.holds Tryd.pinned (.plain (OpenSpec.upto gridKeysSpec)) gridKeysUptoCard

/-- THE SECOND FORM's CARD OF 'convoylaw12.GridHomes'. -/
def gridHomesUptoCard : Claim7 := { stood := { row := gridHomesUptoRow, standIns := [], harness := (true, "0dc9a0cbba02cb59fadc36fad468b818168b58f1e0dda911340c0198c405cc41"), looks := true }, kinds := [], alts := [], laidByText := true, laidKinds := [.data, .data, .data, .sentinel, .sentinel], laidTests := true, laidLooks := .later }
def GridHomesUptoCardSaid : Prop := Claim7.holds Tryd.pinned (.plain (OpenSpec.upto gridHomesSpec)) gridHomesUptoCard

/-- THE SECOND FORM's CARD OF 'convoylaw12.GridOwn'. -/
def gridOwnUptoCard : Claim7 := { stood := { row := gridOwnUptoRow, standIns := [], harness := (true, "0dc9a0cbba02cb59fadc36fad468b818168b58f1e0dda911340c0198c405cc41"), looks := true }, kinds := [], alts := [], laidByText := true, laidKinds := [.data, .data, .data, .sentinel, .sentinel], laidTests := true, laidLooks := .later }
def GridOwnUptoCardSaid : Prop := Claim7.holds Tryd.pinned (.plain (OpenSpec.upto gridOwnSpec)) gridOwnUptoCard

/-- THE SECOND FORM's CARD OF 'convoylaw12.GridTicks'. -/
def gridTicksUptoCard : Claim7 := { stood := { row := gridTicksUptoRow, standIns := [], harness := (true, "0dc9a0cbba02cb59fadc36fad468b818168b58f1e0dda911340c0198c405cc41"), looks := true }, kinds := [], alts := [], laidByText := true, laidKinds := [.data, .data, .data, .sentinel, .sentinel], laidTests := true, laidLooks := .later }
def GridTicksUptoCardSaid : Prop := Claim7.holds Tryd.pinned (.plain (OpenSpec.upto gridTicksSpec)) gridTicksUptoCard

/-- THE SECOND FORM's CARD OF 'convoylaw12.GridMaps'. -/
def gridMapsUptoCard : Claim7 := { stood := { row := gridMapsUptoRow, standIns := [], harness := (true, "0dc9a0cbba02cb59fadc36fad468b818168b58f1e0dda911340c0198c405cc41"), looks := true }, kinds := [], alts := [], laidByText := true, laidKinds := [.data, .data, .data, .sentinel, .sentinel], laidTests := true, laidLooks := .later }
def GridMapsUptoCardSaid : Prop := Claim7.holds Tryd.pinned (.plain (OpenSpec.upto gridMapsSpec)) gridMapsUptoCard
end Rows
end Go.Proofs.YtnfmjkjhiolfdaaDoor
