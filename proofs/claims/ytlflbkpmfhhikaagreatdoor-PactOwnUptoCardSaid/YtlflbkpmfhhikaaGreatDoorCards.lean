/-
  DERIVED. GIVEN WITH THE SEED: THE CARDS: each row of YtlflbkpmfhhikaaGreatDoorRows.lean that lists a variable, with what it lists TIED to the program's text (the seventh form; the later family's looks); each row that meets fmt, with fmt's text TOLD by the authors' own Lean function (tested against real Go, not proved from fmt's source: count such statements apart). THE CARD IS WHAT COUNTS. Prove the row's statement (the work); the ties are given (YtlflbkpmfhhikaaGreatDoorTie.lean); close each card by the builder's one call (the guide's Derived/Test/ToyasCard.lean, 'card_holds'). Laid BY PROGRAM, IN A SANDBOX (cutbox-door.mjs). By AI agents, Wed Nov 11 2026. No macro, syntax, notation, axiom, sorry.
-/
import Derived.Test.YtlflbkpmfhhikaaGreatDoorRows
import GoSem.ClaimSeven
namespace Go.Proofs.YtlflbkpmfhhikaaGreatDoor
namespace Rows

/-- THE TIED CARD OF 'convoylaw17.PactAgrees'. -/
def pactAgreesCard : Claim7 := { stood := { row := pactAgreesRow, standIns := [], harness := (true, "b89bd1461661f515ac734c20bb78d99cc67764ea2808e29b4ffbc239537b63cb"), looks := true }, kinds := [], alts := [], laidByText := true, laidKinds := [.data, .data, .data, .sentinel, .sentinel], laidTests := true, laidLooks := .later }
def PactAgreesCardSaid : Prop := Claim7.holds Tryz.pinned (.plain (OpenSpec.ofChange pactAgreesSpec)) pactAgreesCard

/-- THE TIED CARD OF 'convoylaw17.PactExclusive'. -/
def pactExclusiveCard : Claim7 := { stood := { row := pactExclusiveRow, standIns := [], harness := (true, "b89bd1461661f515ac734c20bb78d99cc67764ea2808e29b4ffbc239537b63cb"), looks := true }, kinds := [], alts := [], laidByText := true, laidKinds := [.data, .data, .data, .sentinel, .sentinel], laidTests := true, laidLooks := .later }
def PactExclusiveCardSaid : Prop := Claim7.holds Tryz.pinned (.plain (OpenSpec.ofChange pactExclusiveSpec)) pactExclusiveCard

/-- THE TIED CARD OF 'convoylaw17.PactQuick'. -/
def pactQuickCard : Claim7 := { stood := { row := pactQuickRow, standIns := [], harness := (true, "b89bd1461661f515ac734c20bb78d99cc67764ea2808e29b4ffbc239537b63cb"), looks := true }, kinds := [], alts := [], laidByText := true, laidKinds := [.data, .data, .data, .sentinel, .sentinel], laidTests := true, laidLooks := .later }
def PactQuickCardSaid : Prop := Claim7.holds Tryz.pinned (.plain (OpenSpec.ofChange pactQuickSpec)) pactQuickCard

/-- THE TIED CARD OF 'convoylaw17.PactSettles'. -/
def pactSettlesCard : Claim7 := { stood := { row := pactSettlesRow, standIns := [], harness := (true, "b89bd1461661f515ac734c20bb78d99cc67764ea2808e29b4ffbc239537b63cb"), looks := true }, kinds := [], alts := [], laidByText := true, laidKinds := [.data, .data, .data, .sentinel, .sentinel], laidTests := true, laidLooks := .later }
def PactSettlesCardSaid : Prop := Claim7.holds Tryz.pinned (.plain (OpenSpec.ofChange pactSettlesSpec)) pactSettlesCard

/-- THE TIED CARD OF 'convoylaw17.PactPlays'. -/
def pactPlaysCard : Claim7 := { stood := { row := pactPlaysRow, standIns := [], harness := (true, "b89bd1461661f515ac734c20bb78d99cc67764ea2808e29b4ffbc239537b63cb"), looks := true }, kinds := [], alts := [], laidByText := true, laidKinds := [.data, .data, .data, .sentinel, .sentinel], laidTests := true, laidLooks := .later }
def PactPlaysCardSaid : Prop := Claim7.holds Tryz.pinned (.plain (OpenSpec.ofChange pactPlaysSpec)) pactPlaysCard

/-- THE TIED CARD OF 'convoylaw17.PactOwn'. -/
def pactOwnCard : Claim7 := { stood := { row := pactOwnRow, standIns := [], harness := (true, "b89bd1461661f515ac734c20bb78d99cc67764ea2808e29b4ffbc239537b63cb"), looks := true }, kinds := [], alts := [], laidByText := true, laidKinds := [.data, .data, .data, .sentinel, .sentinel], laidTests := true, laidLooks := .later }
def PactOwnCardSaid : Prop := Claim7.holds Tryz.pinned (.plain (OpenSpec.ofChange pactOwnSpec)) pactOwnCard

/-- THE SECOND FORM's CARD OF 'convoylaw17.PactAgrees'. -/
def pactAgreesUptoCard : Claim7 := { stood := { row := pactAgreesUptoRow, standIns := [], harness := (true, "b89bd1461661f515ac734c20bb78d99cc67764ea2808e29b4ffbc239537b63cb"), looks := true }, kinds := [], alts := [], laidByText := true, laidKinds := [.data, .data, .data, .sentinel, .sentinel], laidTests := true, laidLooks := .later }
def PactAgreesUptoCardSaid : Prop := Claim7.holds Tryz.pinned (.plain (OpenSpec.upto pactAgreesSpec)) pactAgreesUptoCard

/-- THE SECOND FORM's CARD OF 'convoylaw17.PactExclusive'. -/
def pactExclusiveUptoCard : Claim7 := { stood := { row := pactExclusiveUptoRow, standIns := [], harness := (true, "b89bd1461661f515ac734c20bb78d99cc67764ea2808e29b4ffbc239537b63cb"), looks := true }, kinds := [], alts := [], laidByText := true, laidKinds := [.data, .data, .data, .sentinel, .sentinel], laidTests := true, laidLooks := .later }
def PactExclusiveUptoCardSaid : Prop := Claim7.holds Tryz.pinned (.plain (OpenSpec.upto pactExclusiveSpec)) pactExclusiveUptoCard

/-- THE SECOND FORM's CARD OF 'convoylaw17.PactQuick'. -/
def pactQuickUptoCard : Claim7 := { stood := { row := pactQuickUptoRow, standIns := [], harness := (true, "b89bd1461661f515ac734c20bb78d99cc67764ea2808e29b4ffbc239537b63cb"), looks := true }, kinds := [], alts := [], laidByText := true, laidKinds := [.data, .data, .data, .sentinel, .sentinel], laidTests := true, laidLooks := .later }
def PactQuickUptoCardSaid : Prop := Claim7.holds Tryz.pinned (.plain (OpenSpec.upto pactQuickSpec)) pactQuickUptoCard

/-- THE SECOND FORM's CARD OF 'convoylaw17.PactSettles'. -/
def pactSettlesUptoCard : Claim7 := { stood := { row := pactSettlesUptoRow, standIns := [], harness := (true, "b89bd1461661f515ac734c20bb78d99cc67764ea2808e29b4ffbc239537b63cb"), looks := true }, kinds := [], alts := [], laidByText := true, laidKinds := [.data, .data, .data, .sentinel, .sentinel], laidTests := true, laidLooks := .later }
def PactSettlesUptoCardSaid : Prop := Claim7.holds Tryz.pinned (.plain (OpenSpec.upto pactSettlesSpec)) pactSettlesUptoCard

/-- THE SECOND FORM's CARD OF 'convoylaw17.PactPlays'. -/
def pactPlaysUptoCard : Claim7 := { stood := { row := pactPlaysUptoRow, standIns := [], harness := (true, "b89bd1461661f515ac734c20bb78d99cc67764ea2808e29b4ffbc239537b63cb"), looks := true }, kinds := [], alts := [], laidByText := true, laidKinds := [.data, .data, .data, .sentinel, .sentinel], laidTests := true, laidLooks := .later }
def PactPlaysUptoCardSaid : Prop := Claim7.holds Tryz.pinned (.plain (OpenSpec.upto pactPlaysSpec)) pactPlaysUptoCard

/-- THE SECOND FORM's CARD OF 'convoylaw17.PactOwn'. -/
def pactOwnUptoCard : Claim7 := { stood := { row := pactOwnUptoRow, standIns := [], harness := (true, "b89bd1461661f515ac734c20bb78d99cc67764ea2808e29b4ffbc239537b63cb"), looks := true }, kinds := [], alts := [], laidByText := true, laidKinds := [.data, .data, .data, .sentinel, .sentinel], laidTests := true, laidLooks := .later }
def PactOwnUptoCardSaid : Prop := Claim7.holds Tryz.pinned (.plain (OpenSpec.upto pactOwnSpec)) pactOwnUptoCard
end Rows
end Go.Proofs.YtlflbkpmfhhikaaGreatDoor
