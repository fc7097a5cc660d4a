/- Proves NetPlaysSaid: for every input, NetPlays returns true and the input reads behind the call as it read before. No condition. -/
import Derived.Test.YtlbpaokehdiinaaNR
import Derived.Test.YtlbpaokehdiinaaE6
import Derived.Test.YtlbpaokehdiinaaRows
set_option linter.unusedVariables false
set_option linter.unusedSimpArgs false
namespace Go.Proofs.Ytlbpaokehdiinaa
open Go Go.Sx Go.Proofs Go.ChangeShapes Go.WideShapes Go.ChangeAt Go.RowKit
theorem own0 : ownKnob Try.prog.godebug = none := by kernel_rfl
theorem laid0 : laidOutB Try.prog = true := by kernel_rfl
set_option maxRecDepth 100000 in
theorem netPlays_lifted (os : Os) (started : os.Started) (H : Type) (enc : TypeId × Value → H) :
    ReturnsInHanded {} Try.checked os 5 .any (Rows.netPlaysSpec.pre6 enc Try.prog Try.f5 Rows.netPlaysRow.domain false) (Rows.netPlaysSpec.post enc Try.prog Try.f5 false true false false) := by
  refine returnsInHanded_of_change_sized (C := Try.checked) own0 started (by kernel_rfl) Try.func5
    (ChangeSpec.witness6 (enc := enc) (C := Try.checked) false ⟨#[], #[.slice none 0 0], []⟩ 8 (by kernel_rfl) (by kernel_rfl) (by kernel_rfl) (by kernel_rfl)) ?_
  intro W base args ds gs before hval hW _ hwt _
  have hW' := hW
  obtain ⟨p, q, hA, hV, rfl, _, _⟩ := hW
  have hA' : DataW.TrodAll enc Try.prog W 0 (fun _ => true) true [55] args.toList ds p := hA
  obtain ⟨v0, vs, d0, ds', p0, q0, e1, rfl, rfl, h0, h1⟩ := trodAll_cons hA'
  obtain ⟨rfl, rfl, rfl⟩ := trodAll_nil h1
  obtain ⟨rfl, rfl⟩ := trodVars_none hV
  have ha : args = #[v0] := Array.ext' e1
  subst ha
  obtain ⟨a0, len, cap, rfl⟩ := okWide_slice Try.underlying55 (hval 0 55 v0 rfl rfl)
  obtain ⟨os, u, hu, hm⟩ := arg_rds (rds_slice Try.underlying55 (by kernel_rfl) (by kernel_rfl) (by decide) rds_Op) h0 (wts_all (i := 0) hwt rfl rfl)
  cases hu
  refine (netPlays_spec hm W [] (st_start W)).mono fun e W' h => ?_
  exact law_end laid0 (by kernel_rfl) rfl hW' rfl rfl (fun _ _ _ => trodAll_mk1 (shut_bool Try.underlying4 true)) h
theorem netPlays_proved : Rows.NetPlaysSaid :=
  OpenClaim.holds_of_wide 5 Try.f5 rfl rfl rfl rfl rfl rfl rfl ⟨rfl, rfl, rfl, rfl, rfl⟩ rfl rfl rfl rfl rfl (by kernel_rfl) Try.func5 (by kernel_rfl)
    (of_decide_eq_true (by kernel_rfl)) (by unfold Func.isWrapper; first | (rw [if_pos (by decide +kernel)]; kernel_rfl) | (rw [if_neg (by decide +kernel)]; exact ⟨rfl, rfl⟩))
    (fun os started H enc _ => netPlays_lifted os started H enc)
end Go.Proofs.Ytlbpaokehdiinaa
