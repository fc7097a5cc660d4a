/- Proves DriveOwnSaid: for every input, DriveOwn returns true and the input reads behind the call as it read before. No condition. -/
import Derived.Test.YtjafnombaehcaaaFE
import Derived.Test.YtjafnombaehcaaaKB
import Derived.Test.YtjafnombaehcaaaKC
import Derived.Test.YtjafnombaehcaaaRows
set_option linter.unusedVariables false
set_option linter.unusedSimpArgs false
namespace Go.Proofs.Ytjafnombaehcaaa
open Go Go.Sx Go.Proofs Go.ChangeShapes Go.WideShapes Go.ChangeAt Go.RowKit
theorem own0 : ownKnob Try.prog.godebug = none := by kernel_rfl
theorem laid0 : laidOutB Try.prog = true := by kernel_rfl
set_option maxRecDepth 100000 in
theorem driveOwn_lifted (os : Os) (started : os.Started) (H : Type) (enc : TypeId × Value → H) :
    ReturnsInHanded {} Try.checked os 7 .any (Rows.driveOwnSpec.pre6 enc Try.prog Try.f7 Rows.driveOwnRow.domain false) (Rows.driveOwnSpec.post enc Try.prog Try.f7 false true false false) := by
  refine returnsInHanded_of_change_sized (C := Try.checked) own0 started (by kernel_rfl) Try.func7
    (ChangeSpec.witness6 (enc := enc) (C := Try.checked) false ⟨#[], #[nilS, nilS], []⟩ 8 (by kernel_rfl) (by kernel_rfl) (by kernel_rfl) (by kernel_rfl)) ?_
  intro W base args ds gs before hval hW _ hwt _
  have hW' := hW
  obtain ⟨p, q, hA, hV, rfl, _, _⟩ := hW
  have hA' : DataW.TrodAll enc Try.prog W 0 (fun _ => true) true [35, 28] args.toList ds p := hA
  obtain ⟨v0, v1, d0, d1, p0, q0, rfl, rfl, rfl, h0, h1⟩ := trodAll_two hA'
  obtain ⟨rfl, rfl⟩ := trodVars_none hV
  obtain ⟨a0, len0, cap0, rfl⟩ := okWide_slice Try.underlying35 (hval 0 35 v0 rfl rfl)
  obtain ⟨ss, u0, hu0, hss⟩ := arg_rds (rds_slice Try.underlying35 (by kernel_rfl) (by kernel_rfl) (by decide) rds_Op) h0 (wts_all (i := 0) hwt rfl rfl)
  cases hu0
  obtain ⟨a1, len1, cap1, rfl⟩ := okWide_slice Try.underlying28 (hval 1 28 v1 rfl rfl)
  obtain ⟨bs, u1, hu1, hbs⟩ := arg_rds (rds_slice Try.underlying28 (by kernel_rfl) (by kernel_rfl) (by decide) (rds_num Try.underlying5)) h1 (wts_all (i := 1) hwt rfl rfl)
  cases hu1
  refine (own_spec hss hbs W [] (st_start W)).mono fun e W' h => ?_
  exact law_end laid0 (by kernel_rfl) rfl hW' rfl rfl (fun _ _ _ => trodAll_mk1 (shut_bool Try.underlying4 true)) h
theorem driveOwn_proved : Rows.DriveOwnSaid :=
  OpenClaim.holds_of_wide 7 Try.f7 rfl rfl rfl rfl rfl rfl rfl ⟨rfl, rfl, rfl, rfl, rfl⟩ rfl rfl rfl rfl rfl (by kernel_rfl) Try.func7 (by kernel_rfl)
    (of_decide_eq_true (by kernel_rfl)) (by unfold Func.isWrapper; first | (rw [if_pos (by decide +kernel)]; kernel_rfl) | (rw [if_neg (by decide +kernel)]; exact ⟨rfl, rfl⟩))
    (fun os started H enc _ => driveOwn_lifted os started H enc)
end Go.Proofs.Ytjafnombaehcaaa
