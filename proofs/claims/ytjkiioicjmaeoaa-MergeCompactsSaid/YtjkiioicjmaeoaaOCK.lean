/- Proves MergeCompactsSaid: for every input, MergeCompacts returns true and the input reads behind the call as it read before. No condition. -/
import Derived.Test.YtjkiioicjmaeoaaOCJ
import Derived.Test.YtjkiioicjmaeoaaOYL
import Derived.Test.YtjkiioicjmaeoaaRows
import Derived.Conc.LeavingOf
import Derived.Conc.Holds
set_option linter.unusedVariables false
set_option linter.unusedSimpArgs false
namespace Go.Proofs.Ytjkiioicjmaeoaa
open Go Go.Sx Go.X Go.Proofs Go.ChangeShapes Go.WideShapes Go.ChangeAt Go.RowKit
theorem own0 : ownKnob Try.prog.godebug = none := by kernel_rfl
theorem laid0 : laidOutB Try.prog = true := by kernel_rfl
theorem fits_wf {x : Int} (h : (Lit.int .i64 x).wf = true) : fits x := by
  simp only [Lit.wf, Bool.and_eq_true, decide_eq_true_eq] at h
  exact ⟨by simpa [IntKind.min, IntKind.signed, IntKind.bits] using h.1, by simpa [IntKind.max, IntKind.signed, IntKind.bits] using h.2⟩
set_option maxRecDepth 100000 in
theorem mergeCompacts_lifted (os : Os) (started : os.Started) (H : Type) (enc : TypeId × Value → H) :
    ReturnsInLeavingWide {} Try.checked os 6 .any (Rows.mergeCompactsSpec.pre6 enc Try.prog Try.f6 Rows.mergeCompactsRow.domain false) (Rows.mergeCompactsSpec.post enc Try.prog Try.f6 false true false false) := by
  refine returnsInLeavingWide_of_change_sized (C := Try.checked) own0 started Try.func6
    (ChangeSpec.witness6 (enc := enc) (C := Try.checked) false ⟨#[], #[.slice none 0 0, .int .i64 0, .bool false], []⟩ 8 (by kernel_rfl) (by kernel_rfl) (by kernel_rfl) (by kernel_rfl)) ?_
  intro W base args ds gs before hval hW _ hwt _
  have hW' := hW
  obtain ⟨p, q, hA, hV, rfl, _, _⟩ := hW
  have hA' : DataW.TrodAll enc Try.prog W 0 (fun _ => true) true [22, 3, 4] args.toList ds p := hA
  obtain ⟨v0, vs0, d0, ds0, p0, q0, ea, rfl, rfl, h0, hA2⟩ := trodAll_cons hA'
  obtain ⟨v1, vs1, d1, ds1, p1, q1, rfl, rfl, rfl, h1, hA3⟩ := trodAll_cons hA2
  obtain ⟨v2, vs2, d2, ds2, p2, q2, rfl, rfl, rfl, h2, hA4⟩ := trodAll_cons hA3
  obtain ⟨rfl, rfl, rfl⟩ := trodAll_nil hA4
  have ha : args = #[v0, v1, v2] := Array.ext' ea
  subst ha
  obtain ⟨rfl, rfl⟩ := trodVars_none hV
  obtain ⟨a0, len0, cap0, rfl⟩ := okWide_slice Try.underlying22 (hval 0 22 v0 rfl rfl)
  obtain ⟨lists, u0, hu0, hlists⟩ := arg_rds (rds_slice Try.underlying22 (by kernel_rfl) (by kernel_rfl) (by decide) (rds_slice Try.underlying25 (by kernel_rfl) (by kernel_rfl) (by decide) rds_Entry)) h0 (wts_all (i := 0) hwt rfl rfl)
  cases hu0
  obtain ⟨floor, rfl, rfl, rfl, wfloor⟩ := open_int Try.underlying3 (hval 1 3 v1 rfl rfl) h1
  obtain ⟨bottom, rfl, rfl, rfl⟩ := open_bool Try.underlying4 (hval 2 4 v2 rfl rfl) h2
  refine good_law (compacts_law rfl hlists (fits_wf wfloor)) (by kernel_rfl) fun r H' B hle hp w1 hen hl1 => ?_
  obtain ⟨rfl, -⟩ := hp
  exact law_end laid0 (by kernel_rfl) rfl hW' rfl rfl (fun _ _ _ => trodAll_mk1 (shut_bool Try.underlying4 true)) hen.os hen.tape hen.out (hle.trans hl1)
theorem mergeCompacts_proved : Rows.MergeCompactsSaid :=
  OpenClaim.holds_of_wide_leaving 6 Try.f6 rfl rfl rfl rfl rfl rfl rfl ⟨rfl, rfl, rfl, rfl, rfl⟩ rfl rfl rfl rfl rfl (by kernel_rfl) Try.func6 (by kernel_rfl)
    (of_decide_eq_true (by kernel_rfl)) (by unfold Func.isWrapper; first | (rw [if_pos (by decide +kernel)]; kernel_rfl) | (rw [if_neg (by decide +kernel)]; exact ⟨rfl, rfl⟩))
    (fun os started H enc _ => mergeCompacts_lifted os started H enc)
end Go.Proofs.Ytjkiioicjmaeoaa
