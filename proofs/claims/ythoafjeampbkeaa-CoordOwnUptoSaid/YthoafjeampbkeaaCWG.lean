/- Proves CoordOwnUptoSaid: for every input of bulk at most 1048576, CoordOwn returns true and the input reads behind the call as it read before. No condition but that bulk. -/
import Derived.Test.YthoafjeampbkeaaCWF
import Derived.Test.YthoafjeampbkeaaKB
import Derived.Test.YthoafjeampbkeaaKC
import Derived.Test.YthoafjeampbkeaaRows
import Derived.Deep.CondSized
set_option linter.unusedVariables false
set_option linter.unusedSimpArgs false
namespace Go.Proofs.Ythoafjeampbkeaa
open Go Go.Sx Go.Proofs Go.ChangeShapes Go.WideShapes Go.ChangeAt Go.RowKit
theorem own0 : ownKnob Try.prog.godebug = none := by kernel_rfl
theorem laid0 : laidOutB Try.prog = true := by kernel_rfl
set_option maxRecDepth 100000 in
theorem coordOwn_lifted (os : Os) (started : os.Started) (H : Type) (enc : TypeId × Value → H) (S : Stop.Interp) :
    ReturnsInHanded {} Try.checked os 3 .any ((Rows.OpenSpec.upto Rows.coordOwnSpec).pre6 enc Try.prog Try.f3 Rows.coordOwnUptoRow.domain false) (((Rows.OpenSpec.upto Rows.coordOwnSpec).at S).post enc Try.prog Try.f3 false true false false) := by
  refine returnsInHanded_of_cond_sized (C := Try.checked) (s := (Rows.OpenSpec.upto Rows.coordOwnSpec)) (k := Rows.uptoSmall) rfl own0 started (by kernel_rfl) Try.func3
    (OpenSpec.witness (enc := enc) (C := Try.checked) (s := (Rows.OpenSpec.upto Rows.coordOwnSpec)) (k := Rows.uptoSmall) rfl false ⟨#[], #[I 0, nilS], []⟩ 8 (by kernel_rfl) (by kernel_rfl) (by kernel_rfl) (x := ([.lit (.int .i64 0), .nil], [], [])) (by kernel_rfl) rfl (by kernel_rfl)) ?_
  intro W base args ds gs before hval hW _ _ hwt _
  have hW' := hW
  obtain ⟨p, q, hA, hV, rfl, _, _⟩ := hW
  have hA' : DataW.TrodAll enc Try.prog W 0 (fun _ => true) true [3, 22] args.toList ds p := hA
  obtain ⟨v0, v1, d0, d1, p0, q0, rfl, rfl, rfl, h0, h1⟩ := trodAll_two hA'
  obtain ⟨rfl, rfl⟩ := trodVars_none hV
  obtain ⟨node, rfl, rfl, rfl, wnode⟩ := open_int Try.underlying3 (hval 0 3 v0 rfl rfl) h0
  obtain ⟨a1, len1, cap1, rfl⟩ := okWide_slice Try.underlying22 (hval 1 22 v1 rfl rfl)
  obtain ⟨works, u1, hu1, hworks⟩ := arg_rds (rds_slice Try.underlying22 (by kernel_rfl) (by kernel_rfl) (by decide) rds_Work) h1 (wts_all (i := 1) hwt rfl rfl)
  cases hu1
  refine (coordOwn_spec (fits_wf wnode) hworks W [] (st_start W)).mono fun e W' h => ?_
  exact law_end laid0 (by kernel_rfl) rfl hW' rfl rfl (fun _ _ _ => trodAll_mk1 (shut_bool Try.underlying4 true)) h
theorem coordOwn_proved : Rows.CoordOwnUptoSaid :=
  OpenClaim.holds_of_cond 3 Try.f3 rfl rfl rfl rfl rfl rfl rfl ⟨rfl, rfl, rfl, rfl, rfl⟩ rfl rfl rfl rfl rfl (by kernel_rfl) Try.func3 (by kernel_rfl)
    (of_decide_eq_true (by kernel_rfl)) (by unfold Func.isWrapper; first | (rw [if_pos (by decide +kernel)]; kernel_rfl) | (rw [if_neg (by decide +kernel)]; exact ⟨rfl, rfl⟩))
    (fun os started H enc _ S => coordOwn_lifted os started H enc S)
end Go.Proofs.Ythoafjeampbkeaa
