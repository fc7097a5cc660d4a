/- Proves GridMapsCardSaid: for every input, GridMaps returns true and the input reads behind the call as it read before; the listed variables of the library are tied to the program's text. No condition. -/
import Derived.Test.YtnfmjkjhiolfdaaDoorGQ
import Derived.Test.YtnfmjkjhiolfdaaDoorGR
import Derived.Test.YtnfmjkjhiolfdaaDoorRF
import Derived.Test.YtnfmjkjhiolfdaaDoorKC
import Derived.Test.YtnfmjkjhiolfdaaDoorCards
import Derived.Test.YtnfmjkjhiolfdaaDoorTie
import Derived.SevenTiedAt
set_option linter.unusedVariables false
set_option linter.unusedSimpArgs false
namespace Go.Proofs.YtnfmjkjhiolfdaaDoor
open Go Go.Sx Go.Proofs Go.ChangeShapes Go.WideShapes Go.ChangeAt Go.RowKit
set_option maxRecDepth 100000 in
theorem gridMaps_lifted (os : Os) (started : os.Started) (H : Type) (enc : TypeId × Value → H) :
    ReturnsInHanded {} Tryd.checked os 13 .any (fun w args => (Rows.gridMapsSpec.pre enc Tryd.prog Tryd.f13 [] false w args ∧ laidMetH Tryd.prog laid5 w) ∧ sizedMet enc Tryd.prog Tryd.f13 (OpenSpec.ofChange Rows.gridMapsSpec) false w args)
      (Rows.gridMapsSpec.post enc Tryd.prog Tryd.f13 false true false false) := by
  refine returnsInHanded_of_change_and (C := Tryd.checked) (X := fun w _ => laidMetH Tryd.prog laid5 w) (fun _ _ _ hh h => h.of_heap hh) own0 started (by kernel_rfl) Tryd.func13
    (ChangeSpec.witness_shaped (enc := enc) (C := Tryd.checked) (os := os) (X := fun w _ => laidMetH Tryd.prog laid5 w) false (World.doorLaid Tryd.prog 62 os) #[.agg #[I 0, I 0, I 0, nilS], .agg #[I 0, I 0], I 0] 8 rfl (World.shaped_of_RefB (by kernel_rfl) (by kernel_rfl)) (by kernel_rfl) (by kernel_rfl) (by kernel_rfl) (door5 os _)) ?_
  intro W base args ds gs before hval hW _ hwt hL _
  have hT := tab5 hL
  have hW' := hW
  obtain ⟨p, q, hA, hV, rfl, _, _⟩ := hW
  have hA' : DataW.TrodAll enc Tryd.prog W 0 (fun _ => true) true [24, 41, 3] args.toList ds p := hA
  obtain ⟨v0, vs0, d0, ds0, p0, q0, ea, rfl, rfl, h0, hA2⟩ := trodAll_cons hA'
  obtain ⟨v1, vs1, d1, ds1, p1, q1, rfl, rfl, rfl, h1, hA3⟩ := trodAll_cons hA2
  obtain ⟨v2, vs2, d2, ds2, p2, q2, rfl, rfl, rfl, h2, hA4⟩ := trodAll_cons hA3
  obtain ⟨rfl, rfl, rfl⟩ := trodAll_nil hA4
  have ha : args = #[v0, v1, v2] := Array.ext' ea
  subst ha
  obtain ⟨rfl, rfl⟩ := trodVars_none hV
  obtain ⟨m, hm⟩ := arg_rds rds_Map h0 (wts_all (i := 0) hwt rfl rfl)
  have hv0 := agg_of rfl (by rw [RdOk.len (R := rMap) hm]; decide) (v := v0)
  generalize v0.cells.toList = cs0 at *
  subst hv0
  obtain ⟨b, hb⟩ := arg_rds (rds_arrI Tryd.underlying41 Tryd.underlying3 (by kernel_rfl) (by kernel_rfl)) h1 (wts_all (i := 1) hwt rfl rfl)
  have hv1 := agg_of rfl (by rw [RdOk.len (R := (rArrI 2)) hb]; decide) (v := v1)
  generalize v1.cells.toList = cs1 at *
  subst hv1
  obtain ⟨c, rfl, rfl, rfl, wc⟩ := open_int Tryd.underlying3 (hval 2 3 v2 rfl rfl) h2
  refine (mapsG_spec hT hm hb (fits_wf wc) W [] (st_start W)).mono fun e W' h => ?_
  exact law_end laid0 (by kernel_rfl) rfl hW' rfl rfl (fun _ _ _ => trodAll_mk1 (shut_bool Tryd.underlying4 true)) h
theorem gridMaps_proved : Rows.GridMapsSaid :=
  OpenClaim.holds_of_wide 13 Tryd.f13 rfl rfl rfl rfl rfl rfl rfl ⟨rfl, rfl, rfl, rfl, rfl⟩ rfl rfl rfl rfl rfl (by kernel_rfl) Tryd.func13 (by kernel_rfl)
    (of_decide_eq_true (by kernel_rfl)) (by unfold Func.isWrapper; first | (rw [if_pos (by decide +kernel)]; kernel_rfl) | (rw [if_neg (by decide +kernel)]; exact ⟨rfl, rfl⟩))
    (fun os started H enc _ => gridMaps_lifted os started H enc)
theorem gridMaps_plain (f : FuncId) (fn : Func) (hf : Tryd.pinned.checked.prog.funcNamed "convoy/convoylaw12.GridMaps" = some f) (hfn : Tryd.pinned.checked.prog.funcs[f]? = some fn) :
    true = Tryd.pinned.checked.prog.looks [] ∧ ∀ (j : Nat) t, fn.params[j]? = some t → Tryd.pinned.checked.prog.wantsStandIn t = false := by
  obtain rfl : f = 13 := Option.some.inj ((show Tryd.prog.funcNamed "convoy/convoylaw12.GridMaps" = some 13 by kernel_rfl).symm.trans hf) |>.symm
  obtain rfl : fn = Tryd.f13 := (Option.some.inj (Tryd.func13.symm.trans hfn)).symm
  refine ⟨by kernel_rfl, fun j t ht => ?_⟩
  have hm : t ∈ Tryd.f13.params.toList := by simpa using Array.mem_of_getElem? ht
  have hall : (Tryd.f13.params.toList.all fun u => !Tryd.prog.wantsStandIn u) = true := by kernel_rfl
  exact (show Tryd.prog.wantsStandIn t = false by simpa using List.all_eq_true.1 hall t hm)
theorem gridMaps_card : Rows.GridMapsCardSaid :=
  Claim7.holds_tied_plain_at .later [] _ _ _ _ gridMaps_proved (fun _ h => by cases h) (by kernel_rfl) (fun _ h => by cases h) gridMaps_row_tie rfl ⟨rfl, rfl⟩ (by kernel_rfl) rfl gridMaps_plain (by kernel_rfl)
end Go.Proofs.YtnfmjkjhiolfdaaDoor
