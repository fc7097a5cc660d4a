/- Small things; transactions compared, as keys. -/
import Derived.Test.YtkhbfjkioehgfaaGreatDoorTy
import Derived.Test.YtkhbfjkioehgfaaGreatDoorKD
set_option linter.unusedVariables false
set_option linter.unusedSimpArgs false
namespace Go.Proofs.YtkhbfjkioehgfaaGreatDoor
open Go Go.Sx Go.Proofs
abbrev I (n : Int) : Value := .int .i64 n
theorem bdec {p q : Prop} [Decidable p] [Decidable q] (h : p ↔ q) : Value.bool (decide p) = Value.bool (decide q) := by rw [decide_eq_decide.2 h]
instance eqTxn : TEq3 Tryz.prog 27 := ⟨by kernel_rfl, fun a b c d e f w => by
  have u3 := Tryz.underlying3
  have a3 := Tryz.isAgg3
  have z3 := Tryz.sizeOf3
  have hS : Tryz.prog.underlying 27 = some (.struct (Tryz.prog.fieldsOf 27)) := by kernel_rfl
  have hp : Tryz.prog.stoodInHeld 27 = false := by kernel_rfl
  rw [show (10000 : Nat) = 9999 + 1 from rfl, run_equalIn_agg w 9999 27 _ _ hS hp]
  simp only [Program.fieldsOf, Tryz.underlying27]
  go_simp
  by_cases h1 : a = d <;> by_cases h2 : b = e <;> by_cases h3 : c = f <;> simp [h1, h2, h3]⟩
instance : TKey3 Tryz.prog 27 where
  toTEq3 := eqTxn
  und := ⟨_, Tryz.underlying27⟩
  chk e a b c w := by
    have u3 := Tryz.underlying3
    have a3 := Tryz.isAgg3
    have z3 := Tryz.sizeOf3
    rw [show (10000 : Nat) = 9998 + 1 + 1 from rfl, Instr.checkKey]
    simp only [Sem.run_bind, run_underlying Tryz.underlying27, Result.andThen_ok]
    rw [← Array.forIn_toList]
    simp only [List.forIn_cons, List.forIn_nil]
    go_simp
    have hc : ∀ (x : Int) (w : World), (Instr.checkKey e 9999 3 (.int .i64 x)).run Tryz.prog w = .ok () w := fun x w => by
      rw [show (9999 : Nat) = 9998 + 1 from rfl, Instr.checkKey]; simp [run_underlying u3]
    simp only [hc, Result.andThen_ok]
end Go.Proofs.YtkhbfjkioehgfaaGreatDoor
