/-
  DERIVED. GIVEN WITH THE SEED: THE CARDS: each row of YtkhbfjkioehgfaaGreatDoorRows.lean that lists a variable, with what it lists TIED to the program's text (the seventh form; the later family's looks); each row that meets fmt, with fmt's text TOLD by the authors' own Lean function (tested against real Go, not proved from fmt's source: count such statements apart). THE CARD IS WHAT COUNTS. Prove the row's statement (the work); the ties are given (YtkhbfjkioehgfaaGreatDoorTie.lean); close each card by the builder's one call (the guide's Derived/Test/ToyasCard.lean, 'card_holds'). Laid BY PROGRAM, IN A SANDBOX (cutbox-door.mjs). By AI agents, Wed Nov 11 2026. No macro, syntax, notation, axiom, sorry.
-/
import Derived.Test.YtkhbfjkioehgfaaGreatDoorRows
import GoSem.ClaimSeven
namespace Go.Proofs.YtkhbfjkioehgfaaGreatDoor
namespace Rows

/-- THE TIED CARD OF 'convoylaw14.LockSafe'. -/
def lockSafeCard : Claim7 := { stood := { row := lockSafeRow, standIns := [], harness := (true, "dbafe441e029f6e3b6dd5acbd8a0a67b127592d11c9c818fc0f2d3e5d669385f"), looks := true }, kinds := [], alts := [], laidByText := true, laidKinds := [.data, .data, .data, .sentinel, .sentinel], laidTests := true, laidLooks := .later }
def LockSafeCardSaid : Prop := Claim7.holds Tryz.pinned (.plain (OpenSpec.ofChange lockSafeSpec)) lockSafeCard

/-- THE TIED CARD OF 'convoylaw14.LockPlays'. -/
def lockPlaysCard : Claim7 := { stood := { row := lockPlaysRow, standIns := [], harness := (true, "dbafe441e029f6e3b6dd5acbd8a0a67b127592d11c9c818fc0f2d3e5d669385f"), looks := true }, kinds := [], alts := [], laidByText := true, laidKinds := [.data, .data, .data, .sentinel, .sentinel], laidTests := true, laidLooks := .later }
def LockPlaysCardSaid : Prop := Claim7.holds Tryz.pinned (.plain (OpenSpec.ofChange lockPlaysSpec)) lockPlaysCard

/-- THE TIED CARD OF 'convoylaw14.LockLoads'. -/
def lockLoadsCard : Claim7 := { stood := { row := lockLoadsRow, standIns := [], harness := (true, "dbafe441e029f6e3b6dd5acbd8a0a67b127592d11c9c818fc0f2d3e5d669385f"), looks := true }, kinds := [], alts := [], laidByText := true, laidKinds := [.data, .data, .data, .sentinel, .sentinel], laidTests := true, laidLooks := .later }
def LockLoadsCardSaid : Prop := Claim7.holds Tryz.pinned (.plain (OpenSpec.ofChange lockLoadsSpec)) lockLoadsCard

/-- THE TIED CARD OF 'convoylaw14.LockUndone'. -/
def lockUndoneCard : Claim7 := { stood := { row := lockUndoneRow, standIns := [], harness := (true, "dbafe441e029f6e3b6dd5acbd8a0a67b127592d11c9c818fc0f2d3e5d669385f"), looks := true }, kinds := [], alts := [], laidByText := true, laidKinds := [.data, .data, .data, .sentinel, .sentinel], laidTests := true, laidLooks := .later }
def LockUndoneCardSaid : Prop := Claim7.holds Tryz.pinned (.plain (OpenSpec.ofChange lockUndoneSpec)) lockUndoneCard

/-- THE TIED CARD OF 'convoylaw14.LockOwn'. -/
def lockOwnCard : Claim7 := { stood := { row := lockOwnRow, standIns := [], harness := (true, "dbafe441e029f6e3b6dd5acbd8a0a67b127592d11c9c818fc0f2d3e5d669385f"), looks := true }, kinds := [], alts := [], laidByText := true, laidKinds := [.data, .data, .data, .sentinel, .sentinel], laidTests := true, laidLooks := .later }
def LockOwnCardSaid : Prop := Claim7.holds Tryz.pinned (.plain (OpenSpec.ofChange lockOwnSpec)) lockOwnCard

/-- THE SECOND FORM's CARD OF 'convoylaw14.LockSafe'. -/
def lockSafeUptoCard : Claim7 := { stood := { row := lockSafeUptoRow, standIns := [], harness := (true, "dbafe441e029f6e3b6dd5acbd8a0a67b127592d11c9c818fc0f2d3e5d669385f"), looks := true }, kinds := [], alts := [], laidByText := true, laidKinds := [.data, .data, .data, .sentinel, .sentinel], laidTests := true, laidLooks := .later }
def LockSafeUptoCardSaid : Prop := Claim7.holds Tryz.pinned (.plain (OpenSpec.upto lockSafeSpec)) lockSafeUptoCard

/-- THE SECOND FORM's CARD OF 'convoylaw14.LockPlays'. -/
def lockPlaysUptoCard : Claim7 := { stood := { row := lockPlaysUptoRow, standIns := [], harness := (true, "dbafe441e029f6e3b6dd5acbd8a0a67b127592d11c9c818fc0f2d3e5d669385f"), looks := true }, kinds := [], alts := [], laidByText := true, laidKinds := [.data, .data, .data, .sentinel, .sentinel], laidTests := true, laidLooks := .later }
def LockPlaysUptoCardSaid : Prop := Claim7.holds Tryz.pinned (.plain (OpenSpec.upto lockPlaysSpec)) lockPlaysUptoCard

/-- THE SECOND FORM's CARD OF 'convoylaw14.LockLoads'. -/
def lockLoadsUptoCard : Claim7 := { stood := { row := lockLoadsUptoRow, standIns := [], harness := (true, "dbafe441e029f6e3b6dd5acbd8a0a67b127592d11c9c818fc0f2d3e5d669385f"), looks := true }, kinds := [], alts := [], laidByText := true, laidKinds := [.data, .data, .data, .sentinel, .sentinel], laidTests := true, laidLooks := .later }
def LockLoadsUptoCardSaid : Prop := Claim7.holds Tryz.pinned (.plain (OpenSpec.upto lockLoadsSpec)) lockLoadsUptoCard

/-- THE SECOND FORM's CARD OF 'convoylaw14.LockUndone'. -/
def lockUndoneUptoCard : Claim7 := { stood := { row := lockUndoneUptoRow, standIns := [], harness := (true, "dbafe441e029f6e3b6dd5acbd8a0a67b127592d11c9c818fc0f2d3e5d669385f"), looks := true }, kinds := [], alts := [], laidByText := true, laidKinds := [.data, .data, .data, .sentinel, .sentinel], laidTests := true, laidLooks := .later }
def LockUndoneUptoCardSaid : Prop := Claim7.holds Tryz.pinned (.plain (OpenSpec.upto lockUndoneSpec)) lockUndoneUptoCard

/-- THE SECOND FORM's CARD OF 'convoylaw14.LockOwn'. -/
def lockOwnUptoCard : Claim7 := { stood := { row := lockOwnUptoRow, standIns := [], harness := (true, "dbafe441e029f6e3b6dd5acbd8a0a67b127592d11c9c818fc0f2d3e5d669385f"), looks := true }, kinds := [], alts := [], laidByText := true, laidKinds := [.data, .data, .data, .sentinel, .sentinel], laidTests := true, laidLooks := .later }
def LockOwnUptoCardSaid : Prop := Claim7.holds Tryz.pinned (.plain (OpenSpec.upto lockOwnSpec)) lockOwnUptoCard
end Rows
end Go.Proofs.YtkhbfjkioehgfaaGreatDoor
