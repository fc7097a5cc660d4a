/- Proves PartTwiceCardSaid: for every input, PartTwice returns true and the input reads behind the call as it read before; the listed variables of the library are tied to the program's text. No condition. -/
import Derived.Test.YtjgjcakeimkkdaaGreatDoorCQR
import Derived.Test.YtjgjcakeimkkdaaGreatDoorM5
import Derived.Test.YtjgjcakeimkkdaaGreatDoorCRF
import Derived.Test.YtjgjcakeimkkdaaGreatDoorKC
import Derived.Test.YtjgjcakeimkkdaaGreatDoorCards
import Derived.Test.YtjgjcakeimkkdaaGreatDoorTie
import Derived.SevenTiedAt
set_option linter.unusedVariables false
set_option linter.unusedSimpArgs false
namespace Go.Proofs.YtjgjcakeimkkdaaGreatDoor
open Go Go.Sx Go.Proofs Go.ChangeShapes Go.WideShapes Go.ChangeAt Go.RowKit
set_option maxRecDepth 100000 in
theorem partTwice_lifted (os : Os) (started : os.Started) (H : Type) (enc : TypeId × Value → H) :
    ReturnsInHanded {} Tryz.checked os 3 .any (fun w args => (Rows.partTwiceSpec.pre enc Tryz.prog Tryz.f3 [] false w args ∧ laidMetH Tryz.prog laid5 w) ∧ sizedMet enc Tryz.prog Tryz.f3 (OpenSpec.ofChange Rows.partTwiceSpec) false w args)
      (Rows.partTwiceSpec.post enc Tryz.prog Tryz.f3 false true false false) := by
  refine returnsInHanded_of_change_and (C := Tryz.checked) (X := fun w _ => laidMetH Tryz.prog laid5 w) (fun _ _ _ hh h => h.of_heap hh) own0 started (by kernel_rfl) Tryz.func3
    (ChangeSpec.witness_shaped (enc := enc) (C := Tryz.checked) (os := os) (X := fun w _ => laidMetH Tryz.prog laid5 w) false (World.doorLaid Tryz.prog 62 os) #[I 0, nilS] 8 rfl (World.shaped_of_RefB (by kernel_rfl) (by kernel_rfl)) (by kernel_rfl) (by kernel_rfl) (by kernel_rfl) (door5 os _)) ?_
  intro W base args ds gs before hval hW _ hwt hL _
  have hT := tab5 hL
  have hW' := hW
  obtain ⟨p, q, hA, hV, rfl, _, _⟩ := hW
  have hA' : DataW.TrodAll enc Tryz.prog W 0 (fun _ => true) true [3, 22] args.toList ds p := hA
  obtain ⟨v0, v1, d0, d1, p0, q0, rfl, rfl, rfl, h0, h1⟩ := trodAll_two hA'
  obtain ⟨rfl, rfl⟩ := trodVars_none hV
  obtain ⟨sh, rfl, rfl, rfl, wsh⟩ := open_int Tryz.underlying3 (hval 0 3 v0 rfl rfl) h0
  obtain ⟨a1, len1, cap1, rfl⟩ := okWide_slice Tryz.underlying22 (hval 1 22 v1 rfl rfl)
  obtain ⟨script, u1, hu1, hscript⟩ := arg_rds (rds_slice Tryz.underlying22 (by kernel_rfl) (by kernel_rfl) (by decide) rds_Op) h1 (wts_all (i := 1) hwt rfl rfl)
  cases hu1
  refine (partTwice_spec hT (fits_wf wsh) hscript W [] (st_start W)).mono fun e W' h => ?_
  exact law_end laid0 (by kernel_rfl) rfl hW' rfl rfl (fun _ _ _ => trodAll_mk1 (shut_bool Tryz.underlying4 true)) h
theorem partTwice_proved : Rows.PartTwiceSaid :=
  OpenClaim.holds_of_wide 3 Tryz.f3 rfl rfl rfl rfl rfl rfl rfl ⟨rfl, rfl, rfl, rfl, rfl⟩ rfl rfl rfl rfl rfl (by kernel_rfl) Tryz.func3 (by kernel_rfl)
    (of_decide_eq_true (by kernel_rfl)) (by unfold Func.isWrapper; first | (rw [if_pos (by decide +kernel)]; kernel_rfl) | (rw [if_neg (by decide +kernel)]; exact ⟨rfl, rfl⟩))
    (fun os started H enc _ => partTwice_lifted os started H enc)
theorem partTwice_plain (f : FuncId) (fn : Func) (hf : Tryz.pinned.checked.prog.funcNamed "convoy/convoylaw15.PartTwice" = some f) (hfn : Tryz.pinned.checked.prog.funcs[f]? = some fn) :
    true = Tryz.pinned.checked.prog.looks [] ∧ ∀ (j : Nat) t, fn.params[j]? = some t → Tryz.pinned.checked.prog.wantsStandIn t = false := by
  obtain rfl : f = 3 := Option.some.inj ((show Tryz.prog.funcNamed "convoy/convoylaw15.PartTwice" = some 3 by kernel_rfl).symm.trans hf) |>.symm
  obtain rfl : fn = Tryz.f3 := (Option.some.inj (Tryz.func3.symm.trans hfn)).symm
  refine ⟨by kernel_rfl, fun j t ht => ?_⟩
  have hm : t ∈ Tryz.f3.params.toList := by simpa using Array.mem_of_getElem? ht
  have hall : (Tryz.f3.params.toList.all fun u => !Tryz.prog.wantsStandIn u) = true := by kernel_rfl
  exact (show Tryz.prog.wantsStandIn t = false by simpa using List.all_eq_true.1 hall t hm)
theorem partTwice_card : Rows.PartTwiceCardSaid :=
  Claim7.holds_tied_plain_at .later [] _ _ _ _ partTwice_proved (fun _ h => by cases h) (by kernel_rfl) (fun _ h => by cases h) partTwice_row_tie rfl ⟨rfl, rfl⟩ (by kernel_rfl) rfl partTwice_plain (by kernel_rfl)
end Go.Proofs.YtjgjcakeimkkdaaGreatDoor
