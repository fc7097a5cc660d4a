/- Proves PlanEveryCardSaid: for every input, PlanEvery returns true and the input reads behind the call as it read before; the listed variables of the library are tied to the program's text. No condition. -/
import Derived.Test.YtadahmihkbpglaaDoorPT
import Derived.Test.YtadahmihkbpglaaDoorRF
import Derived.Test.YtadahmihkbpglaaDoorKC
import Derived.Test.YtadahmihkbpglaaDoorCards
import Derived.Test.YtadahmihkbpglaaDoorTie
import Derived.SevenTiedAt
set_option linter.unusedVariables false
set_option linter.unusedSimpArgs false
namespace Go.Proofs.YtadahmihkbpglaaDoor
open Go Go.Sx Go.Proofs Go.ChangeShapes Go.WideShapes Go.ChangeAt Go.RowKit
set_option maxRecDepth 100000 in
theorem planEvery_lifted (os : Os) (started : os.Started) (H : Type) (enc : TypeId × Value → H) :
    ReturnsInHanded {} Tryd.checked os 6 .any (fun w args => (Rows.planEverySpec.pre enc Tryd.prog Tryd.f6 [] false w args ∧ laidMetH Tryd.prog laid3 w) ∧ sizedMet enc Tryd.prog Tryd.f6 (OpenSpec.ofChange Rows.planEverySpec) false w args)
      (Rows.planEverySpec.post enc Tryd.prog Tryd.f6 false true false false) := by
  refine returnsInHanded_of_change_and (C := Tryd.checked) (X := fun w _ => laidMetH Tryd.prog laid3 w) (fun _ _ _ hh h => h.of_heap hh) own0 started (by kernel_rfl) Tryd.func6
    (ChangeSpec.witness_shaped (enc := enc) (C := Tryd.checked) (os := os) (X := fun w _ => laidMetH Tryd.prog laid3 w) false (World.doorLaid Tryd.prog 62 os) #[.agg #[I 0, I 0, I 0, nilS], .agg #[I 0, I 0, I 0, I 0, nilS]] 8 rfl (World.shaped_of_RefB (by kernel_rfl) (by kernel_rfl)) (by kernel_rfl) (by kernel_rfl) (by kernel_rfl) (door3 os _)) ?_
  intro W base args ds gs before hval hW _ hwt hL _
  have hT := tab3 hL
  have hW' := hW
  obtain ⟨p, q, hA, hV, rfl, _, _⟩ := hW
  have hA' : DataW.TrodAll enc Tryd.prog W 0 (fun _ => true) true [24, 27] args.toList ds p := hA
  obtain ⟨v0, v1, d0, d1, p0, q0, rfl, rfl, rfl, h0, h1⟩ := trodAll_two hA'
  obtain ⟨rfl, rfl⟩ := trodVars_none hV
  obtain ⟨m, hm⟩ := arg_rds rds_Map h0 (wts_all (i := 0) hwt rfl rfl)
  have hv0 := agg_of rfl (by rw [RdOk.len (R := rMap) hm]; decide) (v := v0)
  generalize v0.cells.toList = cs0 at *
  subst hv0
  obtain ⟨j, hj⟩ := arg_rds rds_Job h1 (wts_all (i := 1) hwt rfl rfl)
  have hv1 := agg_of rfl (by rw [RdOk.len (R := rJob) hj]; decide) (v := v1)
  generalize v1.cells.toList = cs1 at *
  subst hv1
  refine (planEvery_spec hT hm hj W [] (st_start W)).mono fun e W' h => ?_
  exact law_end laid0 (by kernel_rfl) rfl hW' rfl rfl (fun _ _ _ => trodAll_mk1 (shut_bool Tryd.underlying4 true)) h
theorem planEvery_proved : Rows.PlanEverySaid :=
  OpenClaim.holds_of_wide 6 Tryd.f6 rfl rfl rfl rfl rfl rfl rfl ⟨rfl, rfl, rfl, rfl, rfl⟩ rfl rfl rfl rfl rfl (by kernel_rfl) Tryd.func6 (by kernel_rfl)
    (of_decide_eq_true (by kernel_rfl)) (by unfold Func.isWrapper; first | (rw [if_pos (by decide +kernel)]; kernel_rfl) | (rw [if_neg (by decide +kernel)]; exact ⟨rfl, rfl⟩))
    (fun os started H enc _ => planEvery_lifted os started H enc)
theorem planEvery_plain (f : FuncId) (fn : Func) (hf : Tryd.pinned.checked.prog.funcNamed "convoy/convoylaw18.PlanEvery" = some f) (hfn : Tryd.pinned.checked.prog.funcs[f]? = some fn) :
    false = Tryd.pinned.checked.prog.looks [] ∧ ∀ (j : Nat) t, fn.params[j]? = some t → Tryd.pinned.checked.prog.wantsStandIn t = false := by
  obtain rfl : f = 6 := Option.some.inj ((show Tryd.prog.funcNamed "convoy/convoylaw18.PlanEvery" = some 6 by kernel_rfl).symm.trans hf) |>.symm
  obtain rfl : fn = Tryd.f6 := (Option.some.inj (Tryd.func6.symm.trans hfn)).symm
  refine ⟨by kernel_rfl, fun j t ht => ?_⟩
  have hm : t ∈ Tryd.f6.params.toList := by simpa using Array.mem_of_getElem? ht
  have hall : (Tryd.f6.params.toList.all fun u => !Tryd.prog.wantsStandIn u) = true := by kernel_rfl
  exact (show Tryd.prog.wantsStandIn t = false by simpa using List.all_eq_true.1 hall t hm)
theorem planEvery_card : Rows.PlanEveryCardSaid :=
  Claim7.holds_tied_plain_at .later [] _ _ _ _ planEvery_proved (fun _ h => by cases h) (by kernel_rfl) (fun _ h => by cases h) planEvery_row_tie rfl ⟨rfl, rfl⟩ (by kernel_rfl) rfl planEvery_plain (by kernel_rfl)
end Go.Proofs.YtadahmihkbpglaaDoor
