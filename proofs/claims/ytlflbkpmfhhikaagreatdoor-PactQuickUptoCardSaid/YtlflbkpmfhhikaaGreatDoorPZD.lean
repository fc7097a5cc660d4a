/- Proves PactQuickUptoCardSaid: for every input of bulk at most 1048576, PactQuick returns true and the input reads behind the call as it read before; the listed variables of the library are tied to the program's text. No condition but that bulk. -/
import Derived.Test.YtlflbkpmfhhikaaGreatDoorPKC
import Derived.Test.YtlflbkpmfhhikaaGreatDoorPLY
import Derived.Test.YtlflbkpmfhhikaaGreatDoorPXU
import Derived.Test.YtlflbkpmfhhikaaGreatDoorCards
import Derived.Test.YtlflbkpmfhhikaaGreatDoorTie
import Derived.SevenTiedAt
import Derived.Deep.DeepHandedRow
import Derived.Deep.DeepWitnessRowRef
set_option linter.unusedVariables false
set_option linter.unusedSimpArgs false
namespace Go.Proofs.YtlflbkpmfhhikaaGreatDoor
open Go Go.Sx Go.Proofs Go.ChangeShapes Go.WideShapes Go.ChangeAt Go.RowKit
set_option maxRecDepth 100000 in
theorem pactQuick_lifted (os : Os) (started : os.Started) (H : Type) (enc : TypeId × Value → H) (S : Stop.Interp) :
    ReturnsInHanded {} Tryz.checked os 5 .any ((Rows.OpenSpec.upto Rows.pactQuickSpec).preRow enc Tryz.prog Tryz.f5 Rows.pactQuickUptoRow.domain false Rows.pactQuickUptoRow.laid) (((Rows.OpenSpec.upto Rows.pactQuickSpec).at S).post enc Tryz.prog Tryz.f5 false true false false) := by
  have hx : ∃ places, DataW.whole enc Tryz.prog ((World.doorLaid Tryz.prog 62 os).forCall (fun _ _ => 0) ⟨#[], #[nilS, nilS], []⟩).memory Tryz.f5.params.toList (Rows.OpenSpec.upto Rows.pactQuickSpec).vars false (#[nilS, nilS] : Array Value).toList 8 = some ([.nil, .nil], [], places) := ⟨[], by kernel_rfl⟩
  obtain ⟨places, hx⟩ := hx
  refine returnsInHanded_of_row (C := Tryz.checked) (s := (Rows.OpenSpec.upto Rows.pactQuickSpec)) own0 started (by kernel_rfl) Tryz.func5
    (witness_row_atRef (enc := enc) (C := Tryz.checked) false (World.doorLaid Tryz.prog 62 os) #[nilS, nilS] rfl (by kernel_rfl) (by kernel_rfl) (by kernel_rfl)
      (OpenSpec.preRow_of_cond 8 hx (by kernel_rfl) (fun k hk => by cases hk; kernel_rfl) (by kernel_rfl) (door5 os _))) ?_
  intro W base args ds gs before hval hW _ _ hwt hL _ _
  have hT := tab5 hL
  have hW' := hW
  obtain ⟨p, q, hA, hV, rfl, _, _⟩ := hW
  have hA' : DataW.TrodAll enc Tryz.prog W 0 (fun _ => true) true [54, 22] args.toList ds p := hA
  obtain ⟨v0, v1, d0, d1, p0, q0, rfl, rfl, rfl, h0, h1⟩ := trodAll_two hA'
  obtain ⟨rfl, rfl⟩ := trodVars_none hV
  obtain ⟨a0, len0, cap0, rfl⟩ := okWide_slice Tryz.underlying54 (hval 0 54 v0 rfl rfl)
  obtain ⟨works, u0, hu0, hworks⟩ := arg_rds (rds_slice Tryz.underlying54 (by kernel_rfl) (by kernel_rfl) (by decide) (rds_slice Tryz.underlying35 (by kernel_rfl) (by kernel_rfl) (by decide) rds_Work)) h0 (wts_all (i := 0) hwt rfl rfl)
  cases hu0
  obtain ⟨a1, len1, cap1, rfl⟩ := okWide_slice Tryz.underlying22 (hval 1 22 v1 rfl rfl)
  obtain ⟨script, u1, hu1, hscript⟩ := arg_rds (rds_slice Tryz.underlying22 (by kernel_rfl) (by kernel_rfl) (by decide) rds_Move) h1 (wts_all (i := 1) hwt rfl rfl)
  cases hu1
  refine (pactQuick_spec hT hworks hscript W [] (st_start W)).mono fun e W' h => ?_
  exact law_end laid0 (by kernel_rfl) rfl hW' rfl rfl (fun _ _ _ => trodAll_mk1 (shut_bool Tryz.underlying4 true)) h
theorem pactQuick_proved : Rows.PactQuickUptoSaid :=
  OpenClaim.holds_of_cond 5 Tryz.f5 rfl rfl rfl rfl rfl rfl rfl ⟨rfl, rfl, rfl, rfl, rfl⟩ rfl rfl rfl rfl rfl (by kernel_rfl) Tryz.func5 (by kernel_rfl)
    (of_decide_eq_true (by kernel_rfl)) (by unfold Func.isWrapper; first | (rw [if_pos (by decide +kernel)]; kernel_rfl) | (rw [if_neg (by decide +kernel)]; exact ⟨rfl, rfl⟩))
    (fun os started H enc _ S => by rw [OpenClaim.pre_eq_preRow]; exact pactQuick_lifted os started H enc S)
theorem pactQuick_plain (f : FuncId) (fn : Func) (hf : Tryz.pinned.checked.prog.funcNamed "convoy/convoylaw17.PactQuick" = some f) (hfn : Tryz.pinned.checked.prog.funcs[f]? = some fn) :
    true = Tryz.pinned.checked.prog.looks [] ∧ ∀ (j : Nat) t, fn.params[j]? = some t → Tryz.pinned.checked.prog.wantsStandIn t = false := by
  obtain rfl : f = 5 := Option.some.inj ((show Tryz.prog.funcNamed "convoy/convoylaw17.PactQuick" = some 5 by kernel_rfl).symm.trans hf) |>.symm
  obtain rfl : fn = Tryz.f5 := (Option.some.inj (Tryz.func5.symm.trans hfn)).symm
  refine ⟨by kernel_rfl, fun j t ht => ?_⟩
  have hm : t ∈ Tryz.f5.params.toList := by simpa using Array.mem_of_getElem? ht
  have hall : (Tryz.f5.params.toList.all fun u => !Tryz.prog.wantsStandIn u) = true := by kernel_rfl
  exact (show Tryz.prog.wantsStandIn t = false by simpa using List.all_eq_true.1 hall t hm)
theorem pactQuick_card : Rows.PactQuickUptoCardSaid :=
  Claim7.holds_tied_plain_at .later [] _ _ _ _ pactQuick_proved (fun _ h => by cases h) (by kernel_rfl) (fun _ h => by cases h) pactQuickUpto_row_tie rfl ⟨rfl, rfl⟩ (by kernel_rfl) rfl pactQuick_plain (by kernel_rfl)
end Go.Proofs.YtlflbkpmfhhikaaGreatDoor
