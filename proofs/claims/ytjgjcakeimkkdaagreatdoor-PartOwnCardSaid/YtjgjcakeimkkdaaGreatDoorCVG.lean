/- Proves PartOwnCardSaid: for every input, PartOwn returns true and the input reads behind the call as it read before; the listed variables of the library are tied to the program's text. No condition. -/
import Derived.Test.YtjgjcakeimkkdaaGreatDoorCVE
import Derived.Test.YtjgjcakeimkkdaaGreatDoorM5
import Derived.Test.YtjgjcakeimkkdaaGreatDoorCRF
import Derived.Test.YtjgjcakeimkkdaaGreatDoorKC
import Derived.Test.YtjgjcakeimkkdaaGreatDoorCards
import Derived.Test.YtjgjcakeimkkdaaGreatDoorTie
import Derived.SevenTiedAt
set_option linter.unusedVariables false
set_option linter.unusedSimpArgs false
namespace Go.Proofs.YtjgjcakeimkkdaaGreatDoor
open Go Go.Sx Go.Proofs Go.ChangeShapes Go.WideShapes Go.ChangeAt Go.RowKit
set_option maxRecDepth 100000 in
theorem partOwn_lifted (os : Os) (started : os.Started) (H : Type) (enc : TypeId × Value → H) :
    ReturnsInHanded {} Tryz.checked os 6 .any (fun w args => (Rows.partOwnSpec.pre enc Tryz.prog Tryz.f6 [] false w args ∧ laidMetH Tryz.prog laid5 w) ∧ sizedMet enc Tryz.prog Tryz.f6 (OpenSpec.ofChange Rows.partOwnSpec) false w args)
      (Rows.partOwnSpec.post enc Tryz.prog Tryz.f6 false true false false) := by
  refine returnsInHanded_of_change_and (C := Tryz.checked) (X := fun w _ => laidMetH Tryz.prog laid5 w) (fun _ _ _ hh h => h.of_heap hh) own0 started (by kernel_rfl) Tryz.func6
    (ChangeSpec.witness_shaped (enc := enc) (C := Tryz.checked) (os := os) (X := fun w _ => laidMetH Tryz.prog laid5 w) false (World.doorLaid Tryz.prog 62 os) #[I 0, nilS, .agg #[I 0, I 0, I 0, I 0, I 0, I 0, I 0, nilS, nilS, .bool false, I 0, I 0, I 0, I 0, nilS, I 0, I 0, I 0, nilS]] 8 rfl (World.shaped_of_RefB (by kernel_rfl) (by kernel_rfl)) (by kernel_rfl) (by kernel_rfl) (by kernel_rfl) (door5 os _)) ?_
  intro W base args ds gs before hval hW _ hwt hL _
  have hT := tab5 hL
  have hW' := hW
  obtain ⟨p, q, hA, hV, rfl, _, _⟩ := hW
  have hA' : DataW.TrodAll enc Tryz.prog W 0 (fun _ => true) true [3, 22, 43] args.toList ds p := hA
  obtain ⟨v0, vs0, d0, ds0, p0, q0, ea, rfl, rfl, h0, hA2⟩ := trodAll_cons hA'
  obtain ⟨v1, vs1, d1, ds1, p1, q1, rfl, rfl, rfl, h1, hA3⟩ := trodAll_cons hA2
  obtain ⟨v2, vs2, d2, ds2, p2, q2, rfl, rfl, rfl, h2, hA4⟩ := trodAll_cons hA3
  obtain ⟨rfl, rfl, rfl⟩ := trodAll_nil hA4
  have ha : args = #[v0, v1, v2] := Array.ext' ea
  subst ha
  obtain ⟨rfl, rfl⟩ := trodVars_none hV
  obtain ⟨sh, rfl, rfl, rfl, wsh⟩ := open_int Tryz.underlying3 (hval 0 3 v0 rfl rfl) h0
  obtain ⟨a1, len1, cap1, rfl⟩ := okWide_slice Tryz.underlying22 (hval 1 22 v1 rfl rfl)
  obtain ⟨script, u1, hu1, hscript⟩ := arg_rds (rds_slice Tryz.underlying22 (by kernel_rfl) (by kernel_rfl) (by decide) rds_Op) h1 (wts_all (i := 1) hwt rfl rfl)
  cases hu1
  obtain ⟨m, hm⟩ := arg_rds rds_Message h2 (wts_all (i := 2) hwt rfl rfl)
  have hv2 := agg_of rfl (by rw [RdOk.len (R := rMessage) hm]; decide) (v := v2)
  generalize v2.cells.toList = cs2 at *
  subst hv2
  refine (partOwn_spec hT (fits_wf wsh) hscript hm W [] (st_start W)).mono fun e W' h => ?_
  exact law_end laid0 (by kernel_rfl) rfl hW' rfl rfl (fun _ _ _ => trodAll_mk1 (shut_bool Tryz.underlying4 true)) h
theorem partOwn_proved : Rows.PartOwnSaid :=
  OpenClaim.holds_of_wide 6 Tryz.f6 rfl rfl rfl rfl rfl rfl rfl ⟨rfl, rfl, rfl, rfl, rfl⟩ rfl rfl rfl rfl rfl (by kernel_rfl) Tryz.func6 (by kernel_rfl)
    (of_decide_eq_true (by kernel_rfl)) (by unfold Func.isWrapper; first | (rw [if_pos (by decide +kernel)]; kernel_rfl) | (rw [if_neg (by decide +kernel)]; exact ⟨rfl, rfl⟩))
    (fun os started H enc _ => partOwn_lifted os started H enc)
theorem partOwn_plain (f : FuncId) (fn : Func) (hf : Tryz.pinned.checked.prog.funcNamed "convoy/convoylaw15.PartOwn" = some f) (hfn : Tryz.pinned.checked.prog.funcs[f]? = some fn) :
    true = Tryz.pinned.checked.prog.looks [] ∧ ∀ (j : Nat) t, fn.params[j]? = some t → Tryz.pinned.checked.prog.wantsStandIn t = false := by
  obtain rfl : f = 6 := Option.some.inj ((show Tryz.prog.funcNamed "convoy/convoylaw15.PartOwn" = some 6 by kernel_rfl).symm.trans hf) |>.symm
  obtain rfl : fn = Tryz.f6 := (Option.some.inj (Tryz.func6.symm.trans hfn)).symm
  refine ⟨by kernel_rfl, fun j t ht => ?_⟩
  have hm : t ∈ Tryz.f6.params.toList := by simpa using Array.mem_of_getElem? ht
  have hall : (Tryz.f6.params.toList.all fun u => !Tryz.prog.wantsStandIn u) = true := by kernel_rfl
  exact (show Tryz.prog.wantsStandIn t = false by simpa using List.all_eq_true.1 hall t hm)
theorem partOwn_card : Rows.PartOwnCardSaid :=
  Claim7.holds_tied_plain_at .later [] _ _ _ _ partOwn_proved (fun _ h => by cases h) (by kernel_rfl) (fun _ h => by cases h) partOwn_row_tie rfl ⟨rfl, rfl⟩ (by kernel_rfl) rfl partOwn_plain (by kernel_rfl)
end Go.Proofs.YtjgjcakeimkkdaaGreatDoor
