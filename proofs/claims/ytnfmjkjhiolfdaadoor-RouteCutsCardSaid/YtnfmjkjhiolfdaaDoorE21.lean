/- Truth values that differ. No program in sight. -/
import Derived.Test.YtnfmjkjhiolfdaaDoorE20
set_option linter.unusedVariables false
set_option linter.unusedSimpArgs false
namespace Go.Sx
open Go
section
variable {P : Program} {x y : Operand} {T T' : TypeId} [hT : TBo P T]
theorem op_neqB {n : Nat} {W0 : World} {F : Slots} {H : Heap} {L : List HProp} {dst : Option Tmp} {ty : TypeId} {pos : String} {aft : Array Edge} {g : Option (Nat × Bool)} {s t : Bool} (hx : opv F x = some (.bool s)) (hy : opv F y = some (.bool t)) : OpP P n W0 ⟨dst, .binOp .neq T x y T', ty, pos, aft, g⟩ F H L (.bool (!(s == t))) :=
  .mk fun _ w hF _ => by simp only [execOp, hF.opv hx, hF.opv hy]; simp [eqGuard_at_bool, binOp, run_equal_bool w T s t hT.und]
instance {s t : Bool} : BOp P (.binOp .neq T x y T') [.bool s, .bool t] (¬ s = t) inferInstance := ⟨fun h => (op_neqB (opvs2 h).1 (opvs2 h).2).cast (by cases s <;> cases t <;> simp)⟩
end
end Go.Sx
