/-
  DERIVED. GIVEN WITH THE SEED: THE CARDS: each row of YtafhinjggdknjaaDoorRows.lean that lists a variable, with what it lists TIED to the program's text (the seventh form; the later family's looks); each row that meets fmt, with fmt's text TOLD by the authors' own Lean function (tested against real Go, not proved from fmt's source: count such statements apart). THE CARD IS WHAT COUNTS. Prove the row's statement (the work); the ties are given (YtafhinjggdknjaaDoorTie.lean); close each card by the builder's one call (the guide's Derived/Test/ToyasCard.lean, 'card_holds'). Laid BY PROGRAM, IN A SANDBOX (cutbox-door.mjs). By AI agents, Wed Nov 11 2026. No macro, syntax, notation, axiom, sorry.
-/
import Derived.Test.YtafhinjggdknjaaDoorRows
import GoSem.ClaimSeven
namespace Go.Proofs.YtafhinjggdknjaaDoor
namespace Rows

/-- THE TIED CARD OF 'convoylaw18.PlanAll'. -/
def planAllCard : Claim7 := { stood := { row := planAllRow, standIns := [], harness := (true, "a06d42866169abb80b0a679d251948ac97a619e392d145c64a09bd8b289f8335"), looks := false }, kinds := [], alts := [], goes := true, laidByText := true, laidKinds := [.data, .data, .data], laidTests := true, laidLooks := .later }
def PlanAllCardSaid : Prop := Claim7.holds Tryd.pinned (.plain (OpenSpec.ofChange planAllSpec)) planAllCard

/-- THE SECOND FORM's CARD OF 'convoylaw18.PlanAll'. -/
def planAllUptoCard : Claim7 := { stood := { row := planAllUptoRow, standIns := [], harness := (true, "a06d42866169abb80b0a679d251948ac97a619e392d145c64a09bd8b289f8335"), looks := false }, kinds := [], alts := [], goes := true, laidByText := true, laidKinds := [.data, .data, .data], laidTests := true, laidLooks := .later }
def PlanAllUptoCardSaid : Prop := Claim7.holds Tryd.pinned (.plain (OpenSpec.upto planAllSpec)) planAllUptoCard
end Rows
end Go.Proofs.YtafhinjggdknjaaDoor
