/- Proves MergeOwnSaid: for every input, MergeOwn returns true and the input reads behind the call as it read before. No condition. -/
import Derived.Test.YtjkiioicjmaeoaaQCM
import Derived.Test.YtjkiioicjmaeoaaQE8
import Derived.Test.YtjkiioicjmaeoaaRows
import Derived.Conc.LeavingOf
import Derived.Conc.Holds
set_option linter.unusedVariables false
set_option linter.unusedSimpArgs false
namespace Go.Proofs.Ytjkiioicjmaeoaa
open Go Go.Sx Go.X Go.Proofs Go.ChangeShapes Go.WideShapes Go.ChangeAt Go.RowKit
theorem own0 : ownKnob Try.prog.godebug = none := by kernel_rfl
theorem laid0 : laidOutB Try.prog = true := by kernel_rfl
set_option maxRecDepth 100000 in
theorem mergeOwn_lifted (os : Os) (started : os.Started) (H : Type) (enc : TypeId × Value → H) :
    ReturnsInLeavingWide {} Try.checked os 7 .any (Rows.mergeOwnSpec.pre6 enc Try.prog Try.f7 Rows.mergeOwnRow.domain false) (Rows.mergeOwnSpec.post enc Try.prog Try.f7 false true false false) := by
  refine returnsInLeavingWide_of_change_sized (C := Try.checked) own0 started Try.func7
    (ChangeSpec.witness6 (enc := enc) (C := Try.checked) false ⟨#[], #[.slice none 0 0, .int .i64 0], []⟩ 8 (by kernel_rfl) (by kernel_rfl) (by kernel_rfl) (by kernel_rfl)) ?_
  intro W base args ds gs before hval hW _ hwt _
  have hW' := hW
  obtain ⟨p, q, hA, hV, rfl, _, _⟩ := hW
  have hA' : DataW.TrodAll enc Try.prog W 0 (fun _ => true) true [22, 3] args.toList ds p := hA
  obtain ⟨v0, v1, d0, d1, p0, q0, rfl, rfl, rfl, h0, h1⟩ := trodAll_two hA'
  obtain ⟨rfl, rfl⟩ := trodVars_none hV
  obtain ⟨a0, len0, cap0, rfl⟩ := okWide_slice Try.underlying22 (hval 0 22 v0 rfl rfl)
  obtain ⟨lists, u0, hu0, hlists⟩ := arg_rds (rds_slice Try.underlying22 (by kernel_rfl) (by kernel_rfl) (by decide) (rds_slice Try.underlying25 (by kernel_rfl) (by kernel_rfl) (by decide) rds_Entry)) h0 (wts_all (i := 0) hwt rfl rfl)
  cases hu0
  obtain ⟨n, rfl, rfl, rfl, wn⟩ := open_int Try.underlying3 (hval 1 3 v1 rfl rfl) h1
  refine good_law (own_law rfl hlists) (by kernel_rfl) fun r H' B hle hp w1 hen hl1 => ?_
  obtain ⟨rfl, -⟩ := hp
  exact law_end laid0 (by kernel_rfl) rfl hW' rfl rfl (fun _ _ _ => trodAll_mk1 (shut_bool Try.underlying4 true)) hen.os hen.tape hen.out (hle.trans hl1)
theorem mergeOwn_proved : Rows.MergeOwnSaid :=
  OpenClaim.holds_of_wide_leaving 7 Try.f7 rfl rfl rfl rfl rfl rfl rfl ⟨rfl, rfl, rfl, rfl, rfl⟩ rfl rfl rfl rfl rfl (by kernel_rfl) Try.func7 (by kernel_rfl)
    (of_decide_eq_true (by kernel_rfl)) (by unfold Func.isWrapper; first | (rw [if_pos (by decide +kernel)]; kernel_rfl) | (rw [if_neg (by decide +kernel)]; exact ⟨rfl, rfl⟩))
    (fun os started H enc _ => mergeOwn_lifted os started H enc)
end Go.Proofs.Ytjkiioicjmaeoaa
