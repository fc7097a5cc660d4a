/- What the listed package variables give; the start that fits. -/
import Derived.Test.YtjgjcakeimkkdaaGreatDoorKC
import Derived.Test.YtjgjcakeimkkdaaGreatDoorTy
import Derived.Test.YtjgjcakeimkkdaaGreatDoorKB
import Derived.Test.YtjgjcakeimkkdaaGreatDoorRows
import Derived.Stop.LaidErr
import Derived.LaidMore
import Derived.LaidHandle
import Derived.MakeChecks
set_option linter.unusedVariables false
set_option linter.unusedSimpArgs false
namespace Go.Proofs.YtjgjcakeimkkdaaGreatDoor
open Go Go.Sx Go.Proofs Go.ChangeShapes Go.WideShapes Go.ChangeAt Go.RowKit
theorem own0 : ownKnob Tryz.prog.godebug = none := by kernel_rfl
theorem laid0 : laidOutB Tryz.prog = true := by kernel_rfl
theorem varH_of {W : World} {name : String} {cs : List Value} (h : W.var? Tryz.prog name = some cs.toArray) : VarH Tryz.prog (hp W) name cs := by
  unfold World.var? at h
  cases hg : Tryz.prog.globalNamed name with
  | none => rw [hg] at h; cases h
  | some g =>
    rw [hg] at h
    simp only [Option.bind_some] at h
    split at h
    · next cs' T f hc => cases h; exact ⟨g, T, f, hg, hc⟩
    · cases h
def laid3 : List (String × DataW Unit) := [("math/bits.deBruijn32tab", Rows.laid_math_bits_deBruijn32tab), ("math/bits.deBruijn64tab", Rows.laid_math_bits_deBruijn64tab), ("internal/strconv.uint64pow10", Rows.laid_internal_strconv_uint64pow10)]
theorem tab_of {W : World} {r : List (String × DataW Unit)} (h : laidMet Tryz.prog (("internal/strconv.uint64pow10", Rows.laid_internal_strconv_uint64pow10) :: r) W) : TabH Tryz.prog (hp W) := by
  exact varH_of (Lib.tabIs_of_head (g := 3) (k := .u64) (zs := Lib.pow10Tab) (rest := r) (t := 246) (e := 194) (n := 20) (by kernel_rfl) (by kernel_rfl) Tryz.underlying246 Tryz.underlying194 (by kernel_rfl) (by kernel_rfl) h)
theorem tab3 {W : World} (h : laidMetH Tryz.prog laid3 W) : TabH Tryz.prog (hp W) := by
  rw [MakeChecks.laidMetH_plain _ _ _ (by kernel_rfl)] at h
  exact tab_of (laidMet.tail (laidMet.tail h))
theorem door3 (os : Os) (args : Array Value) : laidMetH Tryz.prog laid3 ((World.doorLaid Tryz.prog 62 os).forCall (fun _ _ => 0) ⟨#[], args, []⟩).memory :=
  laidMetH_of_parts3 (fuel := 8) (laidMet_of_run' 8 (by kernel_rfl) (by kernel_rfl)) (by kernel_rfl) (by kernel_rfl)
end Go.Proofs.YtjgjcakeimkkdaaGreatDoor
