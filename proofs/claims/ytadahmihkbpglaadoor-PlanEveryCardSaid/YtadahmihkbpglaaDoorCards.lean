/-
  DERIVED. GIVEN WITH THE SEED: THE CARDS: each row of YtadahmihkbpglaaDoorRows.lean that lists a variable, with what it lists TIED to the program's text (the seventh form; the later family's looks); each row that meets fmt, with fmt's text TOLD by the authors' own Lean function (tested against real Go, not proved from fmt's source: count such statements apart). THE CARD IS WHAT COUNTS. Prove the row's statement (the work); the ties are given (YtadahmihkbpglaaDoorTie.lean); close each card by the builder's one call (the guide's Derived/Test/ToyasCard.lean, 'card_holds'). Laid BY PROGRAM, IN A SANDBOX (cutbox-door.mjs). By AI agents, Wed Nov 11 2026. No macro, syntax, notation, axiom, sorry.
-/
import Derived.Test.YtadahmihkbpglaaDoorRows
import GoSem.ClaimSeven
namespace Go.Proofs.YtadahmihkbpglaaDoor
namespace Rows

/-- THE TIED CARD OF 'convoylaw18.PlanWaits'. -/
def planWaitsCard : Claim7 := { stood := { row := planWaitsRow, standIns := [], harness := (true, "188c484e4c98c55f786cd5dfe5a1003ef39514937816dd846f830b1dea4dfe0d"), looks := false }, kinds := [], alts := [], laidByText := true, laidKinds := [.data, .data, .data], laidTests := true, laidLooks := .later }
def PlanWaitsCardSaid : Prop := Claim7.holds Tryd.pinned (.plain (OpenSpec.ofChange planWaitsSpec)) planWaitsCard

/-- THE TIED CARD OF 'convoylaw18.PlanOwn'. -/
def planOwnCard : Claim7 := { stood := { row := planOwnRow, standIns := [], harness := (true, "188c484e4c98c55f786cd5dfe5a1003ef39514937816dd846f830b1dea4dfe0d"), looks := false }, kinds := [], alts := [], laidByText := true, laidKinds := [.data, .data, .data], laidTests := true, laidLooks := .later }
def PlanOwnCardSaid : Prop := Claim7.holds Tryd.pinned (.plain (OpenSpec.ofChange planOwnSpec)) planOwnCard

/-- THE TIED CARD OF 'convoylaw18.PlanMore'. -/
def planMoreCard : Claim7 := { stood := { row := planMoreRow, standIns := [], harness := (true, "188c484e4c98c55f786cd5dfe5a1003ef39514937816dd846f830b1dea4dfe0d"), looks := false }, kinds := [], alts := [], laidByText := true, laidKinds := [.data, .data, .data], laidTests := true, laidLooks := .later }
def PlanMoreCardSaid : Prop := Claim7.holds Tryd.pinned (.plain (OpenSpec.ofChange planMoreSpec)) planMoreCard

/-- THE TIED CARD OF 'convoylaw18.PlanEvery'. -/
def planEveryCard : Claim7 := { stood := { row := planEveryRow, standIns := [], harness := (true, "188c484e4c98c55f786cd5dfe5a1003ef39514937816dd846f830b1dea4dfe0d"), looks := false }, kinds := [], alts := [], laidByText := true, laidKinds := [.data, .data, .data], laidTests := true, laidLooks := .later }
def PlanEveryCardSaid : Prop := Claim7.holds Tryd.pinned (.plain (OpenSpec.ofChange planEverySpec)) planEveryCard

/-- THE SECOND FORM's CARD OF 'convoylaw18.PlanWaits'. -/
def planWaitsUptoCard : Claim7 := { stood := { row := planWaitsUptoRow, standIns := [], harness := (true, "188c484e4c98c55f786cd5dfe5a1003ef39514937816dd846f830b1dea4dfe0d"), looks := false }, kinds := [], alts := [], laidByText := true, laidKinds := [.data, .data, .data], laidTests := true, laidLooks := .later }
def PlanWaitsUptoCardSaid : Prop := Claim7.holds Tryd.pinned (.plain (OpenSpec.upto planWaitsSpec)) planWaitsUptoCard

/-- THE SECOND FORM's CARD OF 'convoylaw18.PlanOwn'. -/
def planOwnUptoCard : Claim7 := { stood := { row := planOwnUptoRow, standIns := [], harness := (true, "188c484e4c98c55f786cd5dfe5a1003ef39514937816dd846f830b1dea4dfe0d"), looks := false }, kinds := [], alts := [], laidByText := true, laidKinds := [.data, .data, .data], laidTests := true, laidLooks := .later }
def PlanOwnUptoCardSaid : Prop := Claim7.holds Tryd.pinned (.plain (OpenSpec.upto planOwnSpec)) planOwnUptoCard

/-- THE SECOND FORM's CARD OF 'convoylaw18.PlanMore'. -/
def planMoreUptoCard : Claim7 := { stood := { row := planMoreUptoRow, standIns := [], harness := (true, "188c484e4c98c55f786cd5dfe5a1003ef39514937816dd846f830b1dea4dfe0d"), looks := false }, kinds := [], alts := [], laidByText := true, laidKinds := [.data, .data, .data], laidTests := true, laidLooks := .later }
def PlanMoreUptoCardSaid : Prop := Claim7.holds Tryd.pinned (.plain (OpenSpec.upto planMoreSpec)) planMoreUptoCard

/-- THE SECOND FORM's CARD OF 'convoylaw18.PlanEvery'. -/
def planEveryUptoCard : Claim7 := { stood := { row := planEveryUptoRow, standIns := [], harness := (true, "188c484e4c98c55f786cd5dfe5a1003ef39514937816dd846f830b1dea4dfe0d"), looks := false }, kinds := [], alts := [], laidByText := true, laidKinds := [.data, .data, .data], laidTests := true, laidLooks := .later }
def PlanEveryUptoCardSaid : Prop := Claim7.holds Tryd.pinned (.plain (OpenSpec.upto planEverySpec)) planEveryUptoCard
end Rows
end Go.Proofs.YtadahmihkbpglaaDoor
