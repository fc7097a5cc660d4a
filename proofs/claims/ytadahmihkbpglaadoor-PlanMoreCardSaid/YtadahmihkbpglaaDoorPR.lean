/- Proves PlanMoreCardSaid: for every input, PlanMore returns true and the input reads behind the call as it read before; the listed variables of the library are tied to the program's text. No condition. -/
import Derived.Test.YtadahmihkbpglaaDoorPP
import Derived.Test.YtadahmihkbpglaaDoorRF
import Derived.Test.YtadahmihkbpglaaDoorKC
import Derived.Test.YtadahmihkbpglaaDoorCards
import Derived.Test.YtadahmihkbpglaaDoorTie
import Derived.SevenTiedAt
set_option linter.unusedVariables false
set_option linter.unusedSimpArgs false
namespace Go.Proofs.YtadahmihkbpglaaDoor
open Go Go.Sx Go.Proofs Go.ChangeShapes Go.WideShapes Go.ChangeAt Go.RowKit
set_option maxRecDepth 100000 in
theorem planMore_lifted (os : Os) (started : os.Started) (H : Type) (enc : TypeId × Value → H) :
    ReturnsInHanded {} Tryd.checked os 5 .any (fun w args => (Rows.planMoreSpec.pre enc Tryd.prog Tryd.f5 [] false w args ∧ laidMetH Tryd.prog laid3 w) ∧ sizedMet enc Tryd.prog Tryd.f5 (OpenSpec.ofChange Rows.planMoreSpec) false w args)
      (Rows.planMoreSpec.post enc Tryd.prog Tryd.f5 false true false false) := by
  refine returnsInHanded_of_change_and (C := Tryd.checked) (X := fun w _ => laidMetH Tryd.prog laid3 w) (fun _ _ _ hh h => h.of_heap hh) own0 started (by kernel_rfl) Tryd.func5
    (ChangeSpec.witness_shaped (enc := enc) (C := Tryd.checked) (os := os) (X := fun w _ => laidMetH Tryd.prog laid3 w) false (World.doorLaid Tryd.prog 62 os) #[.agg #[I 0, I 0, I 0, nilS], .agg #[I 0, I 0, I 0, I 0, nilS], nilS] 8 rfl (World.shaped_of_RefB (by kernel_rfl) (by kernel_rfl)) (by kernel_rfl) (by kernel_rfl) (by kernel_rfl) (door3 os _)) ?_
  intro W base args ds gs before hval hW _ hwt hL _
  have hT := tab3 hL
  have hW' := hW
  obtain ⟨p, q, hA, hV, rfl, _, _⟩ := hW
  have hA' : DataW.TrodAll enc Tryd.prog W 0 (fun _ => true) true [24, 27, 25] args.toList ds p := hA
  obtain ⟨v0, vs0, d0, ds0, p0, q0, ea, rfl, rfl, h0, hA2⟩ := trodAll_cons hA'
  obtain ⟨v1, vs1, d1, ds1, p1, q1, rfl, rfl, rfl, h1, hA3⟩ := trodAll_cons hA2
  obtain ⟨v2, vs2, d2, ds2, p2, q2, rfl, rfl, rfl, h2, hA4⟩ := trodAll_cons hA3
  obtain ⟨rfl, rfl, rfl⟩ := trodAll_nil hA4
  have ha : args = #[v0, v1, v2] := Array.ext' ea
  subst ha
  obtain ⟨rfl, rfl⟩ := trodVars_none hV
  obtain ⟨m, hm⟩ := arg_rds rds_Map h0 (wts_all (i := 0) hwt rfl rfl)
  have hv0 := agg_of rfl (by rw [RdOk.len (R := rMap) hm]; decide) (v := v0)
  generalize v0.cells.toList = cs0 at *
  subst hv0
  obtain ⟨j, hj⟩ := arg_rds rds_Job h1 (wts_all (i := 1) hwt rfl rfl)
  have hv1 := agg_of rfl (by rw [RdOk.len (R := rJob) hj]; decide) (v := v1)
  generalize v1.cells.toList = cs1 at *
  subst hv1
  obtain ⟨a2, len2, cap2, rfl⟩ := okWide_slice Tryd.underlying25 (hval 2 25 v2 rfl rfl)
  obtain ⟨more, u2, hu2, hmore⟩ := arg_rds (rds_slice Tryd.underlying25 (by kernel_rfl) (by kernel_rfl) (by decide) (rds_str Tryd.underlying9)) h2 (wts_all (i := 2) hwt rfl rfl)
  cases hu2
  refine (planMore_spec hT hm hj hmore W [] (st_start W)).mono fun e W' h => ?_
  exact law_end laid0 (by kernel_rfl) rfl hW' rfl rfl (fun _ _ _ => trodAll_mk1 (shut_bool Tryd.underlying4 true)) h
theorem planMore_proved : Rows.PlanMoreSaid :=
  OpenClaim.holds_of_wide 5 Tryd.f5 rfl rfl rfl rfl rfl rfl rfl ⟨rfl, rfl, rfl, rfl, rfl⟩ rfl rfl rfl rfl rfl (by kernel_rfl) Tryd.func5 (by kernel_rfl)
    (of_decide_eq_true (by kernel_rfl)) (by unfold Func.isWrapper; first | (rw [if_pos (by decide +kernel)]; kernel_rfl) | (rw [if_neg (by decide +kernel)]; exact ⟨rfl, rfl⟩))
    (fun os started H enc _ => planMore_lifted os started H enc)
theorem planMore_plain (f : FuncId) (fn : Func) (hf : Tryd.pinned.checked.prog.funcNamed "convoy/convoylaw18.PlanMore" = some f) (hfn : Tryd.pinned.checked.prog.funcs[f]? = some fn) :
    false = Tryd.pinned.checked.prog.looks [] ∧ ∀ (j : Nat) t, fn.params[j]? = some t → Tryd.pinned.checked.prog.wantsStandIn t = false := by
  obtain rfl : f = 5 := Option.some.inj ((show Tryd.prog.funcNamed "convoy/convoylaw18.PlanMore" = some 5 by kernel_rfl).symm.trans hf) |>.symm
  obtain rfl : fn = Tryd.f5 := (Option.some.inj (Tryd.func5.symm.trans hfn)).symm
  refine ⟨by kernel_rfl, fun j t ht => ?_⟩
  have hm : t ∈ Tryd.f5.params.toList := by simpa using Array.mem_of_getElem? ht
  have hall : (Tryd.f5.params.toList.all fun u => !Tryd.prog.wantsStandIn u) = true := by kernel_rfl
  exact (show Tryd.prog.wantsStandIn t = false by simpa using List.all_eq_true.1 hall t hm)
theorem planMore_card : Rows.PlanMoreCardSaid :=
  Claim7.holds_tied_plain_at .later [] _ _ _ _ planMore_proved (fun _ h => by cases h) (by kernel_rfl) (fun _ h => by cases h) planMore_row_tie rfl ⟨rfl, rfl⟩ (by kernel_rfl) rfl planMore_plain (by kernel_rfl)
end Go.Proofs.YtadahmihkbpglaaDoor
