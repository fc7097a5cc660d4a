/-
  DERIVED. GIVEN WITH THE SEED: THE CARDS: each row of YtjgjcakeimkkdaaGreatDoorRows.lean that lists a variable, with what it lists TIED to the program's text (the seventh form; the later family's looks); each row that meets fmt, with fmt's text TOLD by the authors' own Lean function (tested against real Go, not proved from fmt's source: count such statements apart). THE CARD IS WHAT COUNTS. Prove the row's statement (the work); the ties are given (YtjgjcakeimkkdaaGreatDoorTie.lean); close each card by the builder's one call (the guide's Derived/Test/ToyasCard.lean, 'card_holds'). Laid BY PROGRAM, IN A SANDBOX (cutbox-door.mjs). By AI agents, Wed Nov 11 2026. No macro, syntax, notation, axiom, sorry.
-/
import Derived.Test.YtjgjcakeimkkdaaGreatDoorRows
import GoSem.ClaimSeven
namespace Go.Proofs.YtjgjcakeimkkdaaGreatDoor
namespace Rows

/-- THE TIED CARD OF 'convoylaw15.PartTwice'. -/
def partTwiceCard : Claim7 := { stood := { row := partTwiceRow, standIns := [], harness := (true, "1e49683caec4b8ade151590fd139a402df6c6386d7f1a93be37ec8666a803711"), looks := true }, kinds := [], alts := [], laidByText := true, laidKinds := [.data, .data, .data, .sentinel, .sentinel], laidTests := true, laidLooks := .later }
def PartTwiceCardSaid : Prop := Claim7.holds Tryz.pinned (.plain (OpenSpec.ofChange partTwiceSpec)) partTwiceCard

/-- THE TIED CARD OF 'convoylaw15.PartAgain'. -/
def partAgainCard : Claim7 := { stood := { row := partAgainRow, standIns := [], harness := (true, "1e49683caec4b8ade151590fd139a402df6c6386d7f1a93be37ec8666a803711"), looks := true }, kinds := [], alts := [], laidByText := true, laidKinds := [.data, .data, .data, .sentinel, .sentinel], laidTests := true, laidLooks := .later }
def PartAgainCardSaid : Prop := Claim7.holds Tryz.pinned (.plain (OpenSpec.ofChange partAgainSpec)) partAgainCard

/-- THE TIED CARD OF 'convoylaw15.PartKeeps'. -/
def partKeepsCard : Claim7 := { stood := { row := partKeepsRow, standIns := [], harness := (true, "1e49683caec4b8ade151590fd139a402df6c6386d7f1a93be37ec8666a803711"), looks := true }, kinds := [], alts := [], laidByText := true, laidKinds := [.data, .data, .data, .sentinel, .sentinel], laidTests := true, laidLooks := .later }
def PartKeepsCardSaid : Prop := Claim7.holds Tryz.pinned (.plain (OpenSpec.ofChange partKeepsSpec)) partKeepsCard

/-- THE TIED CARD OF 'convoylaw15.PartOwn'. -/
def partOwnCard : Claim7 := { stood := { row := partOwnRow, standIns := [], harness := (true, "1e49683caec4b8ade151590fd139a402df6c6386d7f1a93be37ec8666a803711"), looks := true }, kinds := [], alts := [], laidByText := true, laidKinds := [.data, .data, .data, .sentinel, .sentinel], laidTests := true, laidLooks := .later }
def PartOwnCardSaid : Prop := Claim7.holds Tryz.pinned (.plain (OpenSpec.ofChange partOwnSpec)) partOwnCard

/-- THE SECOND FORM's CARD OF 'convoylaw15.PartTwice'. -/
def partTwiceUptoCard : Claim7 := { stood := { row := partTwiceUptoRow, standIns := [], harness := (true, "1e49683caec4b8ade151590fd139a402df6c6386d7f1a93be37ec8666a803711"), looks := true }, kinds := [], alts := [], laidByText := true, laidKinds := [.data, .data, .data, .sentinel, .sentinel], laidTests := true, laidLooks := .later }
def PartTwiceUptoCardSaid : Prop := Claim7.holds Tryz.pinned (.plain (OpenSpec.upto partTwiceSpec)) partTwiceUptoCard

/-- THE SECOND FORM's CARD OF 'convoylaw15.PartAgain'. -/
def partAgainUptoCard : Claim7 := { stood := { row := partAgainUptoRow, standIns := [], harness := (true, "1e49683caec4b8ade151590fd139a402df6c6386d7f1a93be37ec8666a803711"), looks := true }, kinds := [], alts := [], laidByText := true, laidKinds := [.data, .data, .data, .sentinel, .sentinel], laidTests := true, laidLooks := .later }
def PartAgainUptoCardSaid : Prop := Claim7.holds Tryz.pinned (.plain (OpenSpec.upto partAgainSpec)) partAgainUptoCard

/-- THE SECOND FORM's CARD OF 'convoylaw15.PartKeeps'. -/
def partKeepsUptoCard : Claim7 := { stood := { row := partKeepsUptoRow, standIns := [], harness := (true, "1e49683caec4b8ade151590fd139a402df6c6386d7f1a93be37ec8666a803711"), looks := true }, kinds := [], alts := [], laidByText := true, laidKinds := [.data, .data, .data, .sentinel, .sentinel], laidTests := true, laidLooks := .later }
def PartKeepsUptoCardSaid : Prop := Claim7.holds Tryz.pinned (.plain (OpenSpec.upto partKeepsSpec)) partKeepsUptoCard

/-- THE SECOND FORM's CARD OF 'convoylaw15.PartOwn'. -/
def partOwnUptoCard : Claim7 := { stood := { row := partOwnUptoRow, standIns := [], harness := (true, "1e49683caec4b8ade151590fd139a402df6c6386d7f1a93be37ec8666a803711"), looks := true }, kinds := [], alts := [], laidByText := true, laidKinds := [.data, .data, .data, .sentinel, .sentinel], laidTests := true, laidLooks := .later }
def PartOwnUptoCardSaid : Prop := Claim7.holds Tryz.pinned (.plain (OpenSpec.upto partOwnSpec)) partOwnUptoCard
end Rows
end Go.Proofs.YtjgjcakeimkkdaaGreatDoor
