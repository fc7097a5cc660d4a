/- Proves PlanAllCardSaid: for every input, PlanAll returns true and the input reads behind the call as it read before; the listed variables of the library are tied to the program's text. No condition. -/
import Derived.Test.YtafhinjggdknjaaDoorPLF
import Derived.Test.YtafhinjggdknjaaDoorPNE
import Derived.Test.YtafhinjggdknjaaDoorCards
import Derived.Test.YtafhinjggdknjaaDoorTie
import Derived.SevenTiedAt
set_option linter.unusedVariables false
set_option linter.unusedSimpArgs false
namespace Go.Proofs.YtafhinjggdknjaaDoor
open Go Go.Sx Go.X Go.Proofs Go.ChangeShapes Go.WideShapes Go.ChangeAt Go.RowKit
theorem fits_wf {x : Int} (h : (Lit.int .i64 x).wf = true) : fits x := by
  simp only [Lit.wf, Bool.and_eq_true, decide_eq_true_eq] at h
  exact ⟨by simpa [IntKind.min, IntKind.signed, IntKind.bits] using h.1, by simpa [IntKind.max, IntKind.signed, IntKind.bits] using h.2⟩
set_option maxRecDepth 100000 in
theorem planAll_lifted (os : Os) (started : os.Started) (H : Type) (enc : TypeId × Value → H) :
    ReturnsInLeavingWide {} Tryd.checked os 3 .any (fun w args => (Rows.planAllSpec.pre enc Tryd.prog Tryd.f3 [] false w args ∧ laidMetH Tryd.prog laid3 w) ∧ sizedMet enc Tryd.prog Tryd.f3 (OpenSpec.ofChange Rows.planAllSpec) false w args)
      (Rows.planAllSpec.post enc Tryd.prog Tryd.f3 false true false false) := by
  refine leavingWide_and (C := Tryd.checked) (X := fun w _ => laidMetH Tryd.prog laid3 w) (fun _ _ _ hh h => h.of_heap hh) own0 started Tryd.func3
    (ChangeSpec.witness_shaped (enc := enc) (C := Tryd.checked) (os := os) (X := fun w _ => laidMetH Tryd.prog laid3 w) false (World.doorLaid Tryd.prog 62 os) #[.agg #[.int .i64 0, .int .i64 0, .int .i64 0, .slice none 0 0], .slice none 0 0, .int .i64 0] 8 rfl (World.shaped_of_RefB (by kernel_rfl) (by kernel_rfl)) (by kernel_rfl) (by kernel_rfl) (by kernel_rfl) (door3 os _)) ?_
  intro W base args ds gs before hval hW _ hwt hL _
  have hT := tab3 hL
  have hW' := hW
  obtain ⟨p, q, hA, hV, rfl, _, _⟩ := hW
  have hA' : DataW.TrodAll enc Tryd.prog W 0 (fun _ => true) true [24, 25, 3] args.toList ds p := hA
  obtain ⟨v0, vs0, d0, ds0, p0, q0, ea, rfl, rfl, h0, hA2⟩ := trodAll_cons hA'
  obtain ⟨v1, vs1, d1, ds1, p1, q1, rfl, rfl, rfl, h1, hA3⟩ := trodAll_cons hA2
  obtain ⟨v2, vs2, d2, ds2, p2, q2, rfl, rfl, rfl, h2, hA4⟩ := trodAll_cons hA3
  obtain ⟨rfl, rfl, rfl⟩ := trodAll_nil hA4
  have ha : args = #[v0, v1, v2] := Array.ext' ea
  subst ha
  obtain ⟨rfl, rfl⟩ := trodVars_none hV
  obtain ⟨m, hm⟩ := arg_rds rds_Map h0 (wts_all (i := 0) hwt rfl rfl)
  have hv0 := agg_of rfl (by rw [RdOk.len (R := rMap) hm]; decide) (v := v0)
  generalize v0.cells.toList = cs0 at *
  subst hv0
  obtain ⟨a1, len1, cap1, rfl⟩ := okWide_slice Tryd.underlying25 (hval 1 25 v1 rfl rfl)
  obtain ⟨jobs, u1, hu1, hjobs⟩ := arg_rds (rds_slice Tryd.underlying25 (by kernel_rfl) (by kernel_rfl) (by decide) rds_Job) h1 (wts_all (i := 1) hwt rfl rfl)
  cases hu1
  obtain ⟨hands, rfl, rfl, rfl, whands⟩ := open_int Tryd.underlying3 (hval 2 3 v2 rfl rfl) h2
  refine good_law (planAll_law rfl hT hm hjobs (fits_wf whands)) (by kernel_rfl) fun r H' B hle hp w1 hen hl1 => ?_
  obtain ⟨rfl, -⟩ := hp
  exact law_end laid0 (by kernel_rfl) rfl hW' rfl rfl (fun _ _ _ => trodAll_mk1 (shut_bool Tryd.underlying4 true)) hen.os hen.tape hen.out (hle.trans hl1)
theorem planAll_proved : Rows.PlanAllSaid :=
  OpenClaim.holds_of_wide_leaving 3 Tryd.f3 rfl rfl rfl rfl rfl rfl rfl ⟨rfl, rfl, rfl, rfl, rfl⟩ rfl rfl rfl rfl rfl (by kernel_rfl) Tryd.func3 (by kernel_rfl)
    (of_decide_eq_true (by kernel_rfl)) (by unfold Func.isWrapper; first | (rw [if_pos (by decide +kernel)]; kernel_rfl) | (rw [if_neg (by decide +kernel)]; exact ⟨rfl, rfl⟩))
    (fun os started H enc _ => planAll_lifted os started H enc)
theorem planAll_plain (f : FuncId) (fn : Func) (hf : Tryd.pinned.checked.prog.funcNamed "convoy/convoylaw18.PlanAll" = some f) (hfn : Tryd.pinned.checked.prog.funcs[f]? = some fn) :
    false = Tryd.pinned.checked.prog.looks [] ∧ ∀ (j : Nat) t, fn.params[j]? = some t → Tryd.pinned.checked.prog.wantsStandIn t = false := by
  obtain rfl : f = 3 := Option.some.inj ((show Tryd.prog.funcNamed "convoy/convoylaw18.PlanAll" = some 3 by kernel_rfl).symm.trans hf) |>.symm
  obtain rfl : fn = Tryd.f3 := (Option.some.inj (Tryd.func3.symm.trans hfn)).symm
  refine ⟨by kernel_rfl, fun j t ht => ?_⟩
  have hm : t ∈ Tryd.f3.params.toList := by simpa using Array.mem_of_getElem? ht
  have hall : (Tryd.f3.params.toList.all fun u => !Tryd.prog.wantsStandIn u) = true := by kernel_rfl
  exact (show Tryd.prog.wantsStandIn t = false by simpa using List.all_eq_true.1 hall t hm)
theorem planAll_card : Rows.PlanAllCardSaid := by
  have h6 : Claim7.isSixth { stood := { row := Rows.planAllRow, standIns := [], harness := (true, "a06d42866169abb80b0a679d251948ac97a619e392d145c64a09bd8b289f8335"), looks := false }, kinds := [] } = false := by simp [Claim7.isSixth]
  exact ⟨Claim7.tied_new_at .later [.data, .data, .data] true (Claim7.new_of_sixth planAll_proved (true, "a06d42866169abb80b0a679d251948ac97a619e392d145c64a09bd8b289f8335") false rfl ⟨rfl, rfl⟩ (by kernel_rfl) h6 planAll_plain) (by kernel_rfl), fun D hD => (by cases hD), planAll_row_tie, fun h => (by cases h), by kernel_rfl⟩
end Go.Proofs.YtafhinjggdknjaaDoor
