/-
  No cell of these rows narrows 'for every input' (looked for: loops, veiled, ifaces, maps, wideKeys, modest, calm, conditions, laid).
  DERIVED. THE GIVEN ROWS OF THIS SEAT. 4 by the template 'for every input the law returns true; each argument reads behind the call as it read before'; 0 by the template 'total and deterministic' (their statements: YtnfmjkjhiolfdaaTotals.lean).
  GIVEN WITH THE SEED: the statements are not yours to turn. If you find one false, say at which input.
  Laid BY PROGRAM, IN A SANDBOX (cutbox-rows.mjs): the forced cells as the released guide's own fill.sh prints them over the translation 81e23de489cdaeba… (all of the seat's roots in one cut). By AI agents, Wed Nov 11 2026. No macro, syntax, notation, axiom, sorry.
-/
import Derived.Test.YtnfmjkjhiolfdaaChecked
import GoSem.Claim
import GoSem.ClaimJoined
import GoSem.ClaimMapViews
import Derived.JoinedTies
import Derived.KernelRfl
namespace Go.Proofs.Ytnfmjkjhiolfdaa
/- THE CELL 'sum', in the pinned program and in every row, IS THE sha256 OF THE DUMP (.gsa) THAT YtnfmjkjhiolfdaaProg.lean LOADS. Nothing in Lean hashes anything: it is a label: what it is worth is what the hold of that sum in a sandbox is worth. -/
noncomputable def Try.pinned : Pinned := { name := "ytnfmjkjhiolfdaa", sum := "81e23de489cdaeba722763f92c88550ad6505f48c49607971bbf5034f101ba82", checked := Try.checked }
namespace Rows
def none {H : Type} : Left H := { results := [], args := [] }

/-- 'convoylaw20.BookOwn': WHATEVER THE INPUT: true; the input reads as it did. -/
def bookOwnSpec : ChangeSpec := { name := "bookOwn", fn := fun _ => fun
  | [d1, d2, d3] => { results := [.lit (.bool true)], args := [d1, d2, d3] }
  | _ => none }
def bookOwnRow : OpenClaim := { program := "ytnfmjkjhiolfdaa", sum := "81e23de489cdaeba722763f92c88550ad6505f48c49607971bbf5034f101ba82", func := "convoy/convoylaw20.BookOwn", spec := "bookOwn", recurses := true, apart := false }
def BookOwnSaid : Prop := bookOwnRow.holds Try.pinned (OpenSpec.ofChange bookOwnSpec)

/-- ITS FALSE NEIGHBOUR: 'it returns false'. Refute it at one input. -/
def bookOwnWrong : ChangeSpec := { name := "bookOwn", fn := fun _ => fun
  | [d1, d2, d3] => { results := [.lit (.bool false)], args := [d1, d2, d3] }
  | _ => none }
def BookOwnWrongFalsely : Prop := bookOwnRow.holds Try.pinned (OpenSpec.ofChange bookOwnWrong)

/-- 'convoylaw20.BookApplies': WHATEVER THE INPUT: true; the input reads as it did. -/
def bookAppliesSpec : ChangeSpec := { name := "bookApplies", fn := fun _ => fun
  | [d1, d2] => { results := [.lit (.bool true)], args := [d1, d2] }
  | _ => none }
def bookAppliesRow : OpenClaim := { program := "ytnfmjkjhiolfdaa", sum := "81e23de489cdaeba722763f92c88550ad6505f48c49607971bbf5034f101ba82", func := "convoy/convoylaw20.BookApplies", spec := "bookApplies", recurses := true, apart := false }
def BookAppliesSaid : Prop := bookAppliesRow.holds Try.pinned (OpenSpec.ofChange bookAppliesSpec)

/-- ITS FALSE NEIGHBOUR: 'it returns false'. Refute it at one input. -/
def bookAppliesWrong : ChangeSpec := { name := "bookApplies", fn := fun _ => fun
  | [d1, d2] => { results := [.lit (.bool false)], args := [d1, d2] }
  | _ => none }
def BookAppliesWrongFalsely : Prop := bookAppliesRow.holds Try.pinned (OpenSpec.ofChange bookAppliesWrong)

/-- 'convoylaw20.BookSafe': WHATEVER THE INPUT: true; the input reads as it did. -/
def bookSafeSpec : ChangeSpec := { name := "bookSafe", fn := fun _ => fun
  | [d1, d2] => { results := [.lit (.bool true)], args := [d1, d2] }
  | _ => none }
def bookSafeRow : OpenClaim := { program := "ytnfmjkjhiolfdaa", sum := "81e23de489cdaeba722763f92c88550ad6505f48c49607971bbf5034f101ba82", func := "convoy/convoylaw20.BookSafe", spec := "bookSafe", recurses := true, apart := false }
def BookSafeSaid : Prop := bookSafeRow.holds Try.pinned (OpenSpec.ofChange bookSafeSpec)

/-- ITS FALSE NEIGHBOUR: 'it returns false'. Refute it at one input. -/
def bookSafeWrong : ChangeSpec := { name := "bookSafe", fn := fun _ => fun
  | [d1, d2] => { results := [.lit (.bool false)], args := [d1, d2] }
  | _ => none }
def BookSafeWrongFalsely : Prop := bookSafeRow.holds Try.pinned (OpenSpec.ofChange bookSafeWrong)

/-- 'convoylaw20.BookRefuses': WHATEVER THE INPUT: true; the input reads as it did. -/
def bookRefusesSpec : ChangeSpec := { name := "bookRefuses", fn := fun _ => fun
  | [d1, d2, d3] => { results := [.lit (.bool true)], args := [d1, d2, d3] }
  | _ => none }
def bookRefusesRow : OpenClaim := { program := "ytnfmjkjhiolfdaa", sum := "81e23de489cdaeba722763f92c88550ad6505f48c49607971bbf5034f101ba82", func := "convoy/convoylaw20.BookRefuses", spec := "bookRefuses", recurses := true, apart := false }
def BookRefusesSaid : Prop := bookRefusesRow.holds Try.pinned (OpenSpec.ofChange bookRefusesSpec)

/-- ITS FALSE NEIGHBOUR: 'it returns false'. Refute it at one input. -/
def bookRefusesWrong : ChangeSpec := { name := "bookRefuses", fn := fun _ => fun
  | [d1, d2, d3] => { results := [.lit (.bool false)], args := [d1, d2, d3] }
  | _ => none }
def BookRefusesWrongFalsely : Prop := bookRefusesRow.holds Try.pinned (OpenSpec.ofChange bookRefusesWrong)

/- THE SECOND FORM. 'bulk': how many values and letters a reading holds, each counted each time it is reached (what is shared counts as often as it is met; a slice's spare places count too). A statement '..UptoSaid' is the law's where the arguments, and the package variables that the reading takes, are together of bulk at most 1048576: NARROWER than '..Said'. Prove '..Said' where nothing that the law and all that it calls make is longer than what came in: it says more and counts as full. Else prove '..UptoSaid'. A law counts once. -/
mutual
def uptoBulk {H : Type} : DataW H → Nat
  | .lit (.string bytes) => bytes.length + 1
  | .lit _ => 1
  | .nil => 1
  | .ptr d => uptoBulk d + 1
  | .slice elems spare => uptoBulkAll elems + uptoBulkAll spare + 1
  | .agg parts => uptoBulkAll parts + 1
  | .iface _ d => uptoBulk d + 1
  | .map entries => uptoBulkEntries entries + 1
  | .held _ => 1
def uptoBulkAll {H : Type} : List (DataW H) → Nat
  | [] => 0
  | d :: r => uptoBulk d + uptoBulkAll r
def uptoBulkEntries {H : Type} : List (Lit × DataW H) → Nat
  | [] => 0
  | x :: r => uptoBulkEntry x + uptoBulkEntries r
def uptoBulkEntry {H : Type} : Lit × DataW H → Nat
  | (.string bytes, d) => bytes.length + uptoBulk d + 1
  | (_, d) => uptoBulk d + 1
 end
def uptoSmall : (H : Type) → List (DataW H) → Bool := fun _ ds => decide (uptoBulkAll ds ≤ 1048576)
def OpenSpec.upto (s : _root_.Go.ChangeSpec) : _root_.Go.OpenSpec := { _root_.Go.OpenSpec.ofChange s with cond := some uptoSmall }

/-- 'convoylaw20.BookOwn', WHERE WHAT IT READS IS OF BULK AT MOST 1048576: true; the input reads as it did. -/
def bookOwnUptoRow : OpenClaim := { program := "ytnfmjkjhiolfdaa", sum := "81e23de489cdaeba722763f92c88550ad6505f48c49607971bbf5034f101ba82", func := "convoy/convoylaw20.BookOwn", spec := "bookOwn", recurses := true, apart := false, narrowed := true }
def BookOwnUptoSaid : Prop := bookOwnUptoRow.holds Try.pinned (OpenSpec.upto bookOwnSpec)

/-- 'convoylaw20.BookApplies', WHERE WHAT IT READS IS OF BULK AT MOST 1048576: true; the input reads as it did. -/
def bookAppliesUptoRow : OpenClaim := { program := "ytnfmjkjhiolfdaa", sum := "81e23de489cdaeba722763f92c88550ad6505f48c49607971bbf5034f101ba82", func := "convoy/convoylaw20.BookApplies", spec := "bookApplies", recurses := true, apart := false, narrowed := true }
def BookAppliesUptoSaid : Prop := bookAppliesUptoRow.holds Try.pinned (OpenSpec.upto bookAppliesSpec)

/-- 'convoylaw20.BookSafe', WHERE WHAT IT READS IS OF BULK AT MOST 1048576: true; the input reads as it did. -/
def bookSafeUptoRow : OpenClaim := { program := "ytnfmjkjhiolfdaa", sum := "81e23de489cdaeba722763f92c88550ad6505f48c49607971bbf5034f101ba82", func := "convoy/convoylaw20.BookSafe", spec := "bookSafe", recurses := true, apart := false, narrowed := true }
def BookSafeUptoSaid : Prop := bookSafeUptoRow.holds Try.pinned (OpenSpec.upto bookSafeSpec)

/-- 'convoylaw20.BookRefuses', WHERE WHAT IT READS IS OF BULK AT MOST 1048576: true; the input reads as it did. -/
def bookRefusesUptoRow : OpenClaim := { program := "ytnfmjkjhiolfdaa", sum := "81e23de489cdaeba722763f92c88550ad6505f48c49607971bbf5034f101ba82", func := "convoy/convoylaw20.BookRefuses", spec := "bookRefuses", recurses := true, apart := false, narrowed := true }
def BookRefusesUptoSaid : Prop := bookRefusesUptoRow.holds Try.pinned (OpenSpec.upto bookRefusesSpec)

end Rows
end Go.Proofs.Ytnfmjkjhiolfdaa
