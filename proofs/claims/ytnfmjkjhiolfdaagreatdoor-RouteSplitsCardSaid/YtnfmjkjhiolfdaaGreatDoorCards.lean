/-
  DERIVED. GIVEN WITH THE SEED: THE CARDS: each row of YtnfmjkjhiolfdaaGreatDoorRows.lean that lists a variable, with what it lists TIED to the program's text (the seventh form; the later family's looks); each row that meets fmt, with fmt's text TOLD by the authors' own Lean function (tested against real Go, not proved from fmt's source: count such statements apart). THE CARD IS WHAT COUNTS. Prove the row's statement (the work); the ties are given (YtnfmjkjhiolfdaaGreatDoorTie.lean); close each card by the builder's one call (the guide's Derived/Test/ToyasCard.lean, 'card_holds'). Laid BY PROGRAM, IN A SANDBOX (cutbox-door.mjs). By AI agents, Wed Nov 11 2026. No macro, syntax, notation, axiom, sorry.
-/
import Derived.Test.YtnfmjkjhiolfdaaGreatDoorRows
import GoSem.ClaimSeven
namespace Go.Proofs.YtnfmjkjhiolfdaaGreatDoor
namespace Rows

/-- THE TIED CARD OF 'convoylaw13.RouteSplits'. -/
def routeSplitsCard : Claim7 := { stood := { row := routeSplitsRow, standIns := [], harness := (true, "cd405c520a8602fe97aba6d2dc2ab649b25709ac5e1a75cdfc9a31c800bfdda7"), looks := true }, kinds := [], alts := [], laidByText := true, laidKinds := [.data, .data, .data, .sentinel, .sentinel], laidTests := true, laidLooks := .later }
def RouteSplitsCardSaid : Prop := Claim7.holds Tryz.pinned (.plain (OpenSpec.ofChange routeSplitsSpec)) routeSplitsCard

/-- THE SECOND FORM's CARD OF 'convoylaw13.RouteSplits'. -/
def routeSplitsUptoCard : Claim7 := { stood := { row := routeSplitsUptoRow, standIns := [], harness := (true, "cd405c520a8602fe97aba6d2dc2ab649b25709ac5e1a75cdfc9a31c800bfdda7"), looks := true }, kinds := [], alts := [], laidByText := true, laidKinds := [.data, .data, .data, .sentinel, .sentinel], laidTests := true, laidLooks := .later }
def RouteSplitsUptoCardSaid : Prop := Claim7.holds Tryz.pinned (.plain (OpenSpec.upto routeSplitsSpec)) routeSplitsUptoCard
end Rows
end Go.Proofs.YtnfmjkjhiolfdaaGreatDoor
