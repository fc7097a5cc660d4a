/- Proves BookOwnSaid: for every input, BookOwn returns true and the input reads behind the call as it read before. No condition. -/
import Derived.Test.YtnfmjkjhiolfdaaCC
import Derived.Test.YtnfmjkjhiolfdaaKB
import Derived.Test.YtnfmjkjhiolfdaaRows
set_option linter.unusedVariables false
set_option linter.unusedSimpArgs false
namespace Go.Proofs.Ytnfmjkjhiolfdaa
open Go Go.Sx Go.Proofs Go.ChangeShapes Go.WideShapes Go.ChangeAt Go.RowKit
theorem own0 : ownKnob Try.prog.godebug = none := by kernel_rfl
theorem laid0 : laidOutB Try.prog = true := by kernel_rfl
set_option maxRecDepth 100000 in
theorem bookOwn_lifted (os : Os) (started : os.Started) (H : Type) (enc : TypeId × Value → H) :
    ReturnsInHanded {} Try.checked os 3 .any (Rows.bookOwnSpec.pre6 enc Try.prog Try.f3 Rows.bookOwnRow.domain false) (Rows.bookOwnSpec.post enc Try.prog Try.f3 false true false false) := by
  refine returnsInHanded_of_change_sized (C := Try.checked) own0 started (by kernel_rfl) Try.func3
    (ChangeSpec.witness6 (enc := enc) (C := Try.checked) false ⟨#[], #[.agg #[I 0, I 0, I 0, nilS], nilS, .agg #[I 0, I 0, I 0, I 0, I 0, nilS]], []⟩ 8 (by kernel_rfl) (by kernel_rfl) (by kernel_rfl) (by kernel_rfl)) ?_
  intro W base args ds gs before hval hW _ hwt _
  have hW' := hW
  obtain ⟨p, q, hA, hV, rfl, _, _⟩ := hW
  have hA' : DataW.TrodAll enc Try.prog W 0 (fun _ => true) true [24, 25, 32] args.toList ds p := hA
  obtain ⟨v0, vs0, d0, ds0, p0, q0, ea, rfl, rfl, h0, hA2⟩ := trodAll_cons hA'
  obtain ⟨v1, vs1, d1, ds1, p1, q1, rfl, rfl, rfl, h1, hA3⟩ := trodAll_cons hA2
  obtain ⟨v2, vs2, d2, ds2, p2, q2, rfl, rfl, rfl, h2, hA4⟩ := trodAll_cons hA3
  obtain ⟨rfl, rfl, rfl⟩ := trodAll_nil hA4
  have ha : args = #[v0, v1, v2] := Array.ext' ea
  subst ha
  obtain ⟨rfl, rfl⟩ := trodVars_none hV
  obtain ⟨m, hm⟩ := arg_rds rds_Map h0 (wts_all (i := 0) hwt rfl rfl)
  have hv := agg_of rfl (by rw [RdOk.len (R := rMap) hm]; decide) (v := v0)
  generalize hcs : v0.cells.toList = cs at *
  subst hv
  obtain ⟨a0, len, cap, rfl⟩ := okWide_slice Try.underlying25 (hval 1 25 v1 rfl rfl)
  obtain ⟨ss, u, hu, hs⟩ := arg_rds (rds_slice Try.underlying25 (by kernel_rfl) (by kernel_rfl) (by decide) rds_Said) h1 (wts_all (i := 1) hwt rfl rfl)
  cases hu
  obtain ⟨sd, hsd⟩ := arg_rds rds_Said h2 (wts_all (i := 2) hwt rfl rfl)
  have hv2 := agg_of rfl (by rw [RdOk.len (R := rSaid) hsd]; decide) (v := v2)
  generalize hcs2 : v2.cells.toList = cs2 at *
  subst hv2
  refine (ownB_spec hm hs hsd W [] (st_start W)).mono fun e W' h => ?_
  exact law_end laid0 (by kernel_rfl) rfl hW' rfl rfl (fun _ _ _ => trodAll_mk1 (shut_bool Try.underlying4 true)) h
theorem bookOwn_proved : Rows.BookOwnSaid :=
  OpenClaim.holds_of_wide 3 Try.f3 rfl rfl rfl rfl rfl rfl rfl ⟨rfl, rfl, rfl, rfl, rfl⟩ rfl rfl rfl rfl rfl (by kernel_rfl) Try.func3 (by kernel_rfl)
    (of_decide_eq_true (by kernel_rfl)) (by unfold Func.isWrapper; first | (rw [if_pos (by decide +kernel)]; kernel_rfl) | (rw [if_neg (by decide +kernel)]; exact ⟨rfl, rfl⟩))
    (fun os started H enc _ => bookOwn_lifted os started H enc)
end Go.Proofs.Ytnfmjkjhiolfdaa
