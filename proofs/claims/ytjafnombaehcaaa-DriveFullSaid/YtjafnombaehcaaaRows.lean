/-
  No cell of these rows narrows 'for every input' (looked for: loops, veiled, ifaces, maps, wideKeys, modest, calm, conditions, laid).
  DERIVED. THE GIVEN ROWS OF THIS SEAT. 5 by the template 'for every input the law returns true; each argument reads behind the call as it read before'; 0 by the template 'total and deterministic' (their statements: YtjafnombaehcaaaTotals.lean).
  GIVEN WITH THE SEED: the statements are not yours to turn. If you find one false, say at which input.
  Laid BY PROGRAM, IN A SANDBOX (cutbox-rows.mjs): the forced cells as the released guide's own fill.sh prints them over the translation 1996a57b5bdda68a… (all of the seat's roots in one cut). By AI agents, Wed Nov 11 2026. No macro, syntax, notation, axiom, sorry.
-/
import Derived.Test.YtjafnombaehcaaaChecked
import GoSem.Claim
import GoSem.ClaimJoined
import GoSem.ClaimMapViews
import Derived.JoinedTies
import Derived.KernelRfl
namespace Go.Proofs.Ytjafnombaehcaaa
/- THE CELL 'sum', in the pinned program and in every row, IS THE sha256 OF THE DUMP (.gsa) THAT YtjafnombaehcaaaProg.lean LOADS. Nothing in Lean hashes anything: it is a label: what it is worth is what the hold of that sum in a sandbox is worth. -/
noncomputable def Try.pinned : Pinned := { name := "ytjafnombaehcaaa", sum := "1996a57b5bdda68a98b022133996332a647da33f042b21f3c61e1140d590a22d", checked := Try.checked }
namespace Rows
def none {H : Type} : Left H := { results := [], args := [] }

/-- 'convoylaw02.DriveFull': WHATEVER THE INPUT: true; the input reads as it did. -/
def driveFullSpec : ChangeSpec := { name := "driveFull", fn := fun _ => fun
  | [d] => { results := [.lit (.bool true)], args := [d] }
  | _ => none }
def driveFullRow : OpenClaim := { program := "ytjafnombaehcaaa", sum := "1996a57b5bdda68a98b022133996332a647da33f042b21f3c61e1140d590a22d", func := "convoy/convoylaw02.DriveFull", spec := "driveFull", unfollowed := true, recurses := true, apart := false }
def DriveFullSaid : Prop := driveFullRow.holds Try.pinned (OpenSpec.ofChange driveFullSpec)

/-- ITS FALSE NEIGHBOUR: 'it returns false'. Refute it at one input. -/
def driveFullWrong : ChangeSpec := { name := "driveFull", fn := fun _ => fun
  | [d] => { results := [.lit (.bool false)], args := [d] }
  | _ => none }
def DriveFullWrongFalsely : Prop := driveFullRow.holds Try.pinned (OpenSpec.ofChange driveFullWrong)

/-- 'convoylaw02.DrivePlays': WHATEVER THE INPUT: true; the input reads as it did. -/
def drivePlaysSpec : ChangeSpec := { name := "drivePlays", fn := fun _ => fun
  | [d] => { results := [.lit (.bool true)], args := [d] }
  | _ => none }
def drivePlaysRow : OpenClaim := { program := "ytjafnombaehcaaa", sum := "1996a57b5bdda68a98b022133996332a647da33f042b21f3c61e1140d590a22d", func := "convoy/convoylaw02.DrivePlays", spec := "drivePlays", unfollowed := true, recurses := true, apart := false }
def DrivePlaysSaid : Prop := drivePlaysRow.holds Try.pinned (OpenSpec.ofChange drivePlaysSpec)

/-- ITS FALSE NEIGHBOUR: 'it returns false'. Refute it at one input. -/
def drivePlaysWrong : ChangeSpec := { name := "drivePlays", fn := fun _ => fun
  | [d] => { results := [.lit (.bool false)], args := [d] }
  | _ => none }
def DrivePlaysWrongFalsely : Prop := drivePlaysRow.holds Try.pinned (OpenSpec.ofChange drivePlaysWrong)

/-- 'convoylaw02.DriveCrashes': WHATEVER THE INPUT: true; the input reads as it did. -/
def driveCrashesSpec : ChangeSpec := { name := "driveCrashes", fn := fun _ => fun
  | [d1, d2, d3] => { results := [.lit (.bool true)], args := [d1, d2, d3] }
  | _ => none }
def driveCrashesRow : OpenClaim := { program := "ytjafnombaehcaaa", sum := "1996a57b5bdda68a98b022133996332a647da33f042b21f3c61e1140d590a22d", func := "convoy/convoylaw02.DriveCrashes", spec := "driveCrashes", unfollowed := true, recurses := true, apart := false }
def DriveCrashesSaid : Prop := driveCrashesRow.holds Try.pinned (OpenSpec.ofChange driveCrashesSpec)

/-- ITS FALSE NEIGHBOUR: 'it returns false'. Refute it at one input. -/
def driveCrashesWrong : ChangeSpec := { name := "driveCrashes", fn := fun _ => fun
  | [d1, d2, d3] => { results := [.lit (.bool false)], args := [d1, d2, d3] }
  | _ => none }
def DriveCrashesWrongFalsely : Prop := driveCrashesRow.holds Try.pinned (OpenSpec.ofChange driveCrashesWrong)

/-- 'convoylaw02.DriveSyncs': WHATEVER THE INPUT: true; the input reads as it did. -/
def driveSyncsSpec : ChangeSpec := { name := "driveSyncs", fn := fun _ => fun
  | [d1, d2] => { results := [.lit (.bool true)], args := [d1, d2] }
  | _ => none }
def driveSyncsRow : OpenClaim := { program := "ytjafnombaehcaaa", sum := "1996a57b5bdda68a98b022133996332a647da33f042b21f3c61e1140d590a22d", func := "convoy/convoylaw02.DriveSyncs", spec := "driveSyncs", unfollowed := true, recurses := true, apart := false }
def DriveSyncsSaid : Prop := driveSyncsRow.holds Try.pinned (OpenSpec.ofChange driveSyncsSpec)

/-- ITS FALSE NEIGHBOUR: 'it returns false'. Refute it at one input. -/
def driveSyncsWrong : ChangeSpec := { name := "driveSyncs", fn := fun _ => fun
  | [d1, d2] => { results := [.lit (.bool false)], args := [d1, d2] }
  | _ => none }
def DriveSyncsWrongFalsely : Prop := driveSyncsRow.holds Try.pinned (OpenSpec.ofChange driveSyncsWrong)

/-- 'convoylaw02.DriveOwn': WHATEVER THE INPUT: true; the input reads as it did. -/
def driveOwnSpec : ChangeSpec := { name := "driveOwn", fn := fun _ => fun
  | [d1, d2] => { results := [.lit (.bool true)], args := [d1, d2] }
  | _ => none }
def driveOwnRow : OpenClaim := { program := "ytjafnombaehcaaa", sum := "1996a57b5bdda68a98b022133996332a647da33f042b21f3c61e1140d590a22d", func := "convoy/convoylaw02.DriveOwn", spec := "driveOwn", unfollowed := true, recurses := true, apart := false }
def DriveOwnSaid : Prop := driveOwnRow.holds Try.pinned (OpenSpec.ofChange driveOwnSpec)

/-- ITS FALSE NEIGHBOUR: 'it returns false'. Refute it at one input. -/
def driveOwnWrong : ChangeSpec := { name := "driveOwn", fn := fun _ => fun
  | [d1, d2] => { results := [.lit (.bool false)], args := [d1, d2] }
  | _ => none }
def DriveOwnWrongFalsely : Prop := driveOwnRow.holds Try.pinned (OpenSpec.ofChange driveOwnWrong)

/- THE SECOND FORM. 'bulk': how many values and letters a reading holds, each counted each time it is reached (what is shared counts as often as it is met; a slice's spare places count too). A statement '..UptoSaid' is the law's where the arguments, and the package variables that the reading takes, are together of bulk at most 1048576: NARROWER than '..Said'. Prove '..Said' where nothing that the law and all that it calls make is longer than what came in: it says more and counts as full. Else prove '..UptoSaid'. A law counts once. -/
mutual
def uptoBulk {H : Type} : DataW H → Nat
  | .lit (.string bytes) => bytes.length + 1
  | .lit _ => 1
  | .nil => 1
  | .ptr d => uptoBulk d + 1
  | .slice elems spare => uptoBulkAll elems + uptoBulkAll spare + 1
  | .agg parts => uptoBulkAll parts + 1
  | .iface _ d => uptoBulk d + 1
  | .map entries => uptoBulkEntries entries + 1
  | .held _ => 1
def uptoBulkAll {H : Type} : List (DataW H) → Nat
  | [] => 0
  | d :: r => uptoBulk d + uptoBulkAll r
def uptoBulkEntries {H : Type} : List (Lit × DataW H) → Nat
  | [] => 0
  | x :: r => uptoBulkEntry x + uptoBulkEntries r
def uptoBulkEntry {H : Type} : Lit × DataW H → Nat
  | (.string bytes, d) => bytes.length + uptoBulk d + 1
  | (_, d) => uptoBulk d + 1
 end
def uptoSmall : (H : Type) → List (DataW H) → Bool := fun _ ds => decide (uptoBulkAll ds ≤ 1048576)
def OpenSpec.upto (s : _root_.Go.ChangeSpec) : _root_.Go.OpenSpec := { _root_.Go.OpenSpec.ofChange s with cond := some uptoSmall }

/-- 'convoylaw02.DriveFull', WHERE WHAT IT READS IS OF BULK AT MOST 1048576: true; the input reads as it did. -/
def driveFullUptoRow : OpenClaim := { program := "ytjafnombaehcaaa", sum := "1996a57b5bdda68a98b022133996332a647da33f042b21f3c61e1140d590a22d", func := "convoy/convoylaw02.DriveFull", spec := "driveFull", unfollowed := true, recurses := true, apart := false, narrowed := true }
def DriveFullUptoSaid : Prop := driveFullUptoRow.holds Try.pinned (OpenSpec.upto driveFullSpec)

/-- 'convoylaw02.DrivePlays', WHERE WHAT IT READS IS OF BULK AT MOST 1048576: true; the input reads as it did. -/
def drivePlaysUptoRow : OpenClaim := { program := "ytjafnombaehcaaa", sum := "1996a57b5bdda68a98b022133996332a647da33f042b21f3c61e1140d590a22d", func := "convoy/convoylaw02.DrivePlays", spec := "drivePlays", unfollowed := true, recurses := true, apart := false, narrowed := true }
def DrivePlaysUptoSaid : Prop := drivePlaysUptoRow.holds Try.pinned (OpenSpec.upto drivePlaysSpec)

/-- 'convoylaw02.DriveCrashes', WHERE WHAT IT READS IS OF BULK AT MOST 1048576: true; the input reads as it did. -/
def driveCrashesUptoRow : OpenClaim := { program := "ytjafnombaehcaaa", sum := "1996a57b5bdda68a98b022133996332a647da33f042b21f3c61e1140d590a22d", func := "convoy/convoylaw02.DriveCrashes", spec := "driveCrashes", unfollowed := true, recurses := true, apart := false, narrowed := true }
def DriveCrashesUptoSaid : Prop := driveCrashesUptoRow.holds Try.pinned (OpenSpec.upto driveCrashesSpec)

/-- 'convoylaw02.DriveSyncs', WHERE WHAT IT READS IS OF BULK AT MOST 1048576: true; the input reads as it did. -/
def driveSyncsUptoRow : OpenClaim := { program := "ytjafnombaehcaaa", sum := "1996a57b5bdda68a98b022133996332a647da33f042b21f3c61e1140d590a22d", func := "convoy/convoylaw02.DriveSyncs", spec := "driveSyncs", unfollowed := true, recurses := true, apart := false, narrowed := true }
def DriveSyncsUptoSaid : Prop := driveSyncsUptoRow.holds Try.pinned (OpenSpec.upto driveSyncsSpec)

/-- 'convoylaw02.DriveOwn', WHERE WHAT IT READS IS OF BULK AT MOST 1048576: true; the input reads as it did. -/
def driveOwnUptoRow : OpenClaim := { program := "ytjafnombaehcaaa", sum := "1996a57b5bdda68a98b022133996332a647da33f042b21f3c61e1140d590a22d", func := "convoy/convoylaw02.DriveOwn", spec := "driveOwn", unfollowed := true, recurses := true, apart := false, narrowed := true }
def DriveOwnUptoSaid : Prop := driveOwnUptoRow.holds Try.pinned (OpenSpec.upto driveOwnSpec)

end Rows
end Go.Proofs.Ytjafnombaehcaaa
