/-
  No cell of these rows narrows 'for every input' (looked for: loops, veiled, ifaces, maps, wideKeys, modest, calm, conditions, laid).
  DERIVED. THE GIVEN ROWS OF THIS SEAT. 5 by the template 'for every input the law returns true; each argument reads behind the call as it read before'; 0 by the template 'total and deterministic' (their statements: YthoafjeampbkeaaTotals.lean).
  GIVEN WITH THE SEED: the statements are not yours to turn. If you find one false, say at which input.
  Laid BY PROGRAM, IN A SANDBOX (cutbox-rows.mjs): the forced cells as the released guide's own fill.sh prints them over the translation 87ea09e15a1eb4ba… (all of the seat's roots in one cut). By AI agents, Wed Nov 11 2026. No macro, syntax, notation, axiom, sorry.
-/
import Derived.Test.YthoafjeampbkeaaChecked
import GoSem.Claim
import GoSem.ClaimJoined
import GoSem.ClaimMapViews
import Derived.JoinedTies
import Derived.KernelRfl
namespace Go.Proofs.Ythoafjeampbkeaa
/- THE CELL 'sum', in the pinned program and in every row, IS THE sha256 OF THE DUMP (.gsa) THAT YthoafjeampbkeaaProg.lean LOADS. Nothing in Lean hashes anything: it is a label: what it is worth is what the hold of that sum in a sandbox is worth. -/
noncomputable def Try.pinned : Pinned := { name := "ythoafjeampbkeaa", sum := "87ea09e15a1eb4badab9120ef6d3fd5666e30f255ad197712d38d46336af826b", checked := Try.checked }
namespace Rows
def none {H : Type} : Left H := { results := [], args := [] }

/-- 'convoylaw16.CoordOwn': WHATEVER THE INPUT: true; the input reads as it did. -/
def coordOwnSpec : ChangeSpec := { name := "coordOwn", fn := fun _ => fun
  | [d1, d2] => { results := [.lit (.bool true)], args := [d1, d2] }
  | _ => none }
def coordOwnRow : OpenClaim := { program := "ythoafjeampbkeaa", sum := "87ea09e15a1eb4badab9120ef6d3fd5666e30f255ad197712d38d46336af826b", func := "convoy/convoylaw16.CoordOwn", spec := "coordOwn", unfollowed := true, recurses := true, plainKeys := false, apart := false }
def CoordOwnSaid : Prop := coordOwnRow.holds Try.pinned (OpenSpec.ofChange coordOwnSpec)

/-- ITS FALSE NEIGHBOUR: 'it returns false'. Refute it at one input. -/
def coordOwnWrong : ChangeSpec := { name := "coordOwn", fn := fun _ => fun
  | [d1, d2] => { results := [.lit (.bool false)], args := [d1, d2] }
  | _ => none }
def CoordOwnWrongFalsely : Prop := coordOwnRow.holds Try.pinned (OpenSpec.ofChange coordOwnWrong)

/-- 'convoylaw16.CoordDecides': WHATEVER THE INPUT: true; the input reads as it did. -/
def coordDecidesSpec : ChangeSpec := { name := "coordDecides", fn := fun _ => fun
  | [d1, d2] => { results := [.lit (.bool true)], args := [d1, d2] }
  | _ => none }
def coordDecidesRow : OpenClaim := { program := "ythoafjeampbkeaa", sum := "87ea09e15a1eb4badab9120ef6d3fd5666e30f255ad197712d38d46336af826b", func := "convoy/convoylaw16.CoordDecides", spec := "coordDecides", unfollowed := true, recurses := true, plainKeys := false, apart := false }
def CoordDecidesSaid : Prop := coordDecidesRow.holds Try.pinned (OpenSpec.ofChange coordDecidesSpec)

/-- ITS FALSE NEIGHBOUR: 'it returns false'. Refute it at one input. -/
def coordDecidesWrong : ChangeSpec := { name := "coordDecides", fn := fun _ => fun
  | [d1, d2] => { results := [.lit (.bool false)], args := [d1, d2] }
  | _ => none }
def CoordDecidesWrongFalsely : Prop := coordDecidesRow.holds Try.pinned (OpenSpec.ofChange coordDecidesWrong)

/-- 'convoylaw16.CoordLoads': WHATEVER THE INPUT: true; the input reads as it did. -/
def coordLoadsSpec : ChangeSpec := { name := "coordLoads", fn := fun _ => fun
  | [d1, d2, d3] => { results := [.lit (.bool true)], args := [d1, d2, d3] }
  | _ => none }
def coordLoadsRow : OpenClaim := { program := "ythoafjeampbkeaa", sum := "87ea09e15a1eb4badab9120ef6d3fd5666e30f255ad197712d38d46336af826b", func := "convoy/convoylaw16.CoordLoads", spec := "coordLoads", unfollowed := true, recurses := true, plainKeys := false, apart := false }
def CoordLoadsSaid : Prop := coordLoadsRow.holds Try.pinned (OpenSpec.ofChange coordLoadsSpec)

/-- ITS FALSE NEIGHBOUR: 'it returns false'. Refute it at one input. -/
def coordLoadsWrong : ChangeSpec := { name := "coordLoads", fn := fun _ => fun
  | [d1, d2, d3] => { results := [.lit (.bool false)], args := [d1, d2, d3] }
  | _ => none }
def CoordLoadsWrongFalsely : Prop := coordLoadsRow.holds Try.pinned (OpenSpec.ofChange coordLoadsWrong)

/-- 'convoylaw16.CoordHears': WHATEVER THE INPUT: true; the input reads as it did. -/
def coordHearsSpec : ChangeSpec := { name := "coordHears", fn := fun _ => fun
  | [d1, d2] => { results := [.lit (.bool true)], args := [d1, d2] }
  | _ => none }
def coordHearsRow : OpenClaim := { program := "ythoafjeampbkeaa", sum := "87ea09e15a1eb4badab9120ef6d3fd5666e30f255ad197712d38d46336af826b", func := "convoy/convoylaw16.CoordHears", spec := "coordHears", unfollowed := true, recurses := true, plainKeys := false, apart := false }
def CoordHearsSaid : Prop := coordHearsRow.holds Try.pinned (OpenSpec.ofChange coordHearsSpec)

/-- ITS FALSE NEIGHBOUR: 'it returns false'. Refute it at one input. -/
def coordHearsWrong : ChangeSpec := { name := "coordHears", fn := fun _ => fun
  | [d1, d2] => { results := [.lit (.bool false)], args := [d1, d2] }
  | _ => none }
def CoordHearsWrongFalsely : Prop := coordHearsRow.holds Try.pinned (OpenSpec.ofChange coordHearsWrong)

/-- 'convoylaw16.CoordCrashed': WHATEVER THE INPUT: true; the input reads as it did. -/
def coordCrashedSpec : ChangeSpec := { name := "coordCrashed", fn := fun _ => fun
  | [d1, d2, d3] => { results := [.lit (.bool true)], args := [d1, d2, d3] }
  | _ => none }
def coordCrashedRow : OpenClaim := { program := "ythoafjeampbkeaa", sum := "87ea09e15a1eb4badab9120ef6d3fd5666e30f255ad197712d38d46336af826b", func := "convoy/convoylaw16.CoordCrashed", spec := "coordCrashed", unfollowed := true, recurses := true, plainKeys := false, apart := false }
def CoordCrashedSaid : Prop := coordCrashedRow.holds Try.pinned (OpenSpec.ofChange coordCrashedSpec)

/-- ITS FALSE NEIGHBOUR: 'it returns false'. Refute it at one input. -/
def coordCrashedWrong : ChangeSpec := { name := "coordCrashed", fn := fun _ => fun
  | [d1, d2, d3] => { results := [.lit (.bool false)], args := [d1, d2, d3] }
  | _ => none }
def CoordCrashedWrongFalsely : Prop := coordCrashedRow.holds Try.pinned (OpenSpec.ofChange coordCrashedWrong)

/- THE SECOND FORM. 'bulk': how many values and letters a reading holds, each counted each time it is reached (what is shared counts as often as it is met; a slice's spare places count too). A statement '..UptoSaid' is the law's where the arguments, and the package variables that the reading takes, are together of bulk at most 1048576: NARROWER than '..Said'. Prove '..Said' where nothing that the law and all that it calls make is longer than what came in: it says more and counts as full. Else prove '..UptoSaid'. A law counts once. -/
mutual
def uptoBulk {H : Type} : DataW H → Nat
  | .lit (.string bytes) => bytes.length + 1
  | .lit _ => 1
  | .nil => 1
  | .ptr d => uptoBulk d + 1
  | .slice elems spare => uptoBulkAll elems + uptoBulkAll spare + 1
  | .agg parts => uptoBulkAll parts + 1
  | .iface _ d => uptoBulk d + 1
  | .map entries => uptoBulkEntries entries + 1
  | .held _ => 1
def uptoBulkAll {H : Type} : List (DataW H) → Nat
  | [] => 0
  | d :: r => uptoBulk d + uptoBulkAll r
def uptoBulkEntries {H : Type} : List (Lit × DataW H) → Nat
  | [] => 0
  | x :: r => uptoBulkEntry x + uptoBulkEntries r
def uptoBulkEntry {H : Type} : Lit × DataW H → Nat
  | (.string bytes, d) => bytes.length + uptoBulk d + 1
  | (_, d) => uptoBulk d + 1
 end
def uptoSmall : (H : Type) → List (DataW H) → Bool := fun _ ds => decide (uptoBulkAll ds ≤ 1048576)
def OpenSpec.upto (s : _root_.Go.ChangeSpec) : _root_.Go.OpenSpec := { _root_.Go.OpenSpec.ofChange s with cond := some uptoSmall }

/-- 'convoylaw16.CoordOwn', WHERE WHAT IT READS IS OF BULK AT MOST 1048576: true; the input reads as it did. -/
def coordOwnUptoRow : OpenClaim := { program := "ythoafjeampbkeaa", sum := "87ea09e15a1eb4badab9120ef6d3fd5666e30f255ad197712d38d46336af826b", func := "convoy/convoylaw16.CoordOwn", spec := "coordOwn", unfollowed := true, recurses := true, plainKeys := false, apart := false, narrowed := true }
def CoordOwnUptoSaid : Prop := coordOwnUptoRow.holds Try.pinned (OpenSpec.upto coordOwnSpec)

/-- 'convoylaw16.CoordDecides', WHERE WHAT IT READS IS OF BULK AT MOST 1048576: true; the input reads as it did. -/
def coordDecidesUptoRow : OpenClaim := { program := "ythoafjeampbkeaa", sum := "87ea09e15a1eb4badab9120ef6d3fd5666e30f255ad197712d38d46336af826b", func := "convoy/convoylaw16.CoordDecides", spec := "coordDecides", unfollowed := true, recurses := true, plainKeys := false, apart := false, narrowed := true }
def CoordDecidesUptoSaid : Prop := coordDecidesUptoRow.holds Try.pinned (OpenSpec.upto coordDecidesSpec)

/-- 'convoylaw16.CoordLoads', WHERE WHAT IT READS IS OF BULK AT MOST 1048576: true; the input reads as it did. -/
def coordLoadsUptoRow : OpenClaim := { program := "ythoafjeampbkeaa", sum := "87ea09e15a1eb4badab9120ef6d3fd5666e30f255ad197712d38d46336af826b", func := "convoy/convoylaw16.CoordLoads", spec := "coordLoads", unfollowed := true, recurses := true, plainKeys := false, apart := false, narrowed := true }
def CoordLoadsUptoSaid : Prop := coordLoadsUptoRow.holds Try.pinned (OpenSpec.upto coordLoadsSpec)

/-- 'convoylaw16.CoordHears', WHERE WHAT IT READS IS OF BULK AT MOST 1048576: true; the input reads as it did. -/
def coordHearsUptoRow : OpenClaim := { program := "ythoafjeampbkeaa", sum := "87ea09e15a1eb4badab9120ef6d3fd5666e30f255ad197712d38d46336af826b", func := "convoy/convoylaw16.CoordHears", spec := "coordHears", unfollowed := true, recurses := true, plainKeys := false, apart := false, narrowed := true }
def CoordHearsUptoSaid : Prop := coordHearsUptoRow.holds Try.pinned (OpenSpec.upto coordHearsSpec)

/-- 'convoylaw16.CoordCrashed', WHERE WHAT IT READS IS OF BULK AT MOST 1048576: true; the input reads as it did. -/
def coordCrashedUptoRow : OpenClaim := { program := "ythoafjeampbkeaa", sum := "87ea09e15a1eb4badab9120ef6d3fd5666e30f255ad197712d38d46336af826b", func := "convoy/convoylaw16.CoordCrashed", spec := "coordCrashed", unfollowed := true, recurses := true, plainKeys := false, apart := false, narrowed := true }
def CoordCrashedUptoSaid : Prop := coordCrashedUptoRow.holds Try.pinned (OpenSpec.upto coordCrashedSpec)

end Rows
end Go.Proofs.Ythoafjeampbkeaa
