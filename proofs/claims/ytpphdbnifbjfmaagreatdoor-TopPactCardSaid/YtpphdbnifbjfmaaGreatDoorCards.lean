/-
  DERIVED. GIVEN WITH THE SEED: THE CARDS: each row of YtpphdbnifbjfmaaGreatDoorRows.lean that lists a variable, with what it lists TIED to the program's text (the seventh form; the later family's looks); each row that meets fmt, with fmt's text TOLD by the authors' own Lean function (tested against real Go, not proved from fmt's source: count such statements apart). THE CARD IS WHAT COUNTS. Prove the row's statement (the work); the ties are given (YtpphdbnifbjfmaaGreatDoorTie.lean); close each card by the builder's one call (the guide's Derived/Test/ToyasCard.lean, 'card_holds'). Laid BY PROGRAM, IN A SANDBOX (cutbox-door.mjs). By AI agents, Wed Nov 11 2026. No macro, syntax, notation, axiom, sorry.
-/
import Derived.Test.YtpphdbnifbjfmaaGreatDoorRows
import GoSem.ClaimSeven
namespace Go.Proofs.YtpphdbnifbjfmaaGreatDoor
namespace Rows

/-- THE TIED CARD OF 'convoytop.TopPact'. -/
def topPactCard : Claim7 := { stood := { row := topPactRow, standIns := [], harness := (true, "52f6ae158c73cdb7430d843a4ea4030ad0ef16da4b9f00c0fa4c0f00338f25f4"), looks := true }, kinds := [], alts := [], laidByText := true, laidKinds := [.data, .data, .data, .sentinel, .sentinel], laidTests := true, laidLooks := .later }
def TopPactCardSaid : Prop := Claim7.holds Tryz.pinned (.plain (OpenSpec.ofChange topPactSpec)) topPactCard

/-- THE SECOND FORM's CARD OF 'convoytop.TopPact'. -/
def topPactUptoCard : Claim7 := { stood := { row := topPactUptoRow, standIns := [], harness := (true, "52f6ae158c73cdb7430d843a4ea4030ad0ef16da4b9f00c0fa4c0f00338f25f4"), looks := true }, kinds := [], alts := [], laidByText := true, laidKinds := [.data, .data, .data, .sentinel, .sentinel], laidTests := true, laidLooks := .later }
def TopPactUptoCardSaid : Prop := Claim7.holds Tryz.pinned (.plain (OpenSpec.upto topPactSpec)) topPactUptoCard
end Rows
end Go.Proofs.YtpphdbnifbjfmaaGreatDoor
