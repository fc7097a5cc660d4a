/- Proves GridKeysCardSaid: for every input, GridKeys returns true and the input reads behind the call as it read before; the listed variables of the library are tied to the program's text. No condition. -/
import Derived.Test.YtnfmjkjhiolfdaaDoorGN
import Derived.Test.YtnfmjkjhiolfdaaDoorGR
import Derived.Test.YtnfmjkjhiolfdaaDoorRF
import Derived.Test.YtnfmjkjhiolfdaaDoorKC
import Derived.Test.YtnfmjkjhiolfdaaDoorCards
import Derived.Test.YtnfmjkjhiolfdaaDoorTie
import Derived.SevenTiedAt
import Derived.ChangeMaps5
set_option linter.unusedVariables false
set_option linter.unusedSimpArgs false
namespace Go.Proofs.YtnfmjkjhiolfdaaDoor
open Go Go.Sx Go.Proofs Go.ChangeShapes Go.WideShapes Go.ChangeAt Go.RowKit
set_option maxRecDepth 100000 in
theorem gridKeys_lifted (os : Os) (started : os.Started) (H : Type) (enc : TypeId × Value → H) :
    ReturnsInHanded {} Tryd.checked os 9 .any (fun w args => (Rows.gridKeysSpec.pre enc Tryd.prog Tryd.f9 [] false w args ∧ laidMetH Tryd.prog laid5 w) ∧ sizedMet enc Tryd.prog Tryd.f9 (OpenSpec.ofChange Rows.gridKeysSpec) false w args)
      (Rows.gridKeysSpec.post enc Tryd.prog Tryd.f9 false true false false) := by
  refine returnsInHanded_of_change_and (C := Tryd.checked) (X := fun w _ => laidMetH Tryd.prog laid5 w) (fun _ _ _ hh h => h.of_heap hh) own0 started (by kernel_rfl) Tryd.func9
    (ChangeSpec.witness_shaped (enc := enc) (C := Tryd.checked) (os := os) (X := fun w _ => laidMetH Tryd.prog laid5 w) false (World.doorLaid Tryd.prog 62 os) #[.string ⟨#[]⟩, .agg #[I 0, I 0, I 0], .agg #[I 0, I 0, I 0]] 8 rfl (World.shaped_of_RefB (by kernel_rfl) (by kernel_rfl)) (by kernel_rfl) (by kernel_rfl) (by kernel_rfl) (door5 os _)) ?_
  intro W base args ds gs before hval hW _ hwt hL _
  have hT := tab5 hL
  have hW' := hW
  obtain ⟨p, q, hA, hV, rfl, _, _⟩ := hW
  have hA' : DataW.TrodAll enc Tryd.prog W 0 (fun _ => true) true [9, 59, 59] args.toList ds p := hA
  obtain ⟨v0, vs0, d0, ds0, p0, q0, ea, rfl, rfl, h0, hA2⟩ := trodAll_cons hA'
  obtain ⟨v1, vs1, d1, ds1, p1, q1, rfl, rfl, rfl, h1, hA3⟩ := trodAll_cons hA2
  obtain ⟨v2, vs2, d2, ds2, p2, q2, rfl, rfl, rfl, h2, hA4⟩ := trodAll_cons hA3
  obtain ⟨rfl, rfl, rfl⟩ := trodAll_nil hA4
  have ha : args = #[v0, v1, v2] := Array.ext' ea
  subst ha
  obtain ⟨rfl, rfl⟩ := trodVars_none hV
  have g0 := arg_rds (rds_str Tryd.underlying9) h0 (wts_all (i := 0) hwt rfl rfl)
  obtain ⟨text, rfl, rfl, rfl, _⟩ := Go.ChangeMaps.open_string Tryd.underlying9 (hval 0 9 v0 rfl rfl) h0
  obtain ⟨y0, eu0, hs0⟩ := g0
  cases eu0
  obtain ⟨a, ha⟩ := arg_rds (rds_arrI Tryd.underlying59 Tryd.underlying3 (by kernel_rfl) (by kernel_rfl)) h1 (wts_all (i := 1) hwt rfl rfl)
  have hv1 := agg_of rfl (by rw [RdOk.len (R := (rArrI 3)) ha]; decide) (v := v1)
  generalize v1.cells.toList = cs1 at *
  subst hv1
  obtain ⟨b, hb⟩ := arg_rds (rds_arrI Tryd.underlying59 Tryd.underlying3 (by kernel_rfl) (by kernel_rfl)) h2 (wts_all (i := 2) hwt rfl rfl)
  have hv2 := agg_of rfl (by rw [RdOk.len (R := (rArrI 3)) hb]; decide) (v := v2)
  generalize v2.cells.toList = cs2 at *
  subst hv2
  refine (keysG_spec hT hs0 ha hb W [] (st_start W)).mono fun e W' h => ?_
  exact law_end laid0 (by kernel_rfl) rfl hW' rfl rfl (fun _ _ _ => trodAll_mk1 (shut_bool Tryd.underlying4 true)) h
theorem gridKeys_proved : Rows.GridKeysSaid :=
  OpenClaim.holds_of_wide 9 Tryd.f9 rfl rfl rfl rfl rfl rfl rfl ⟨rfl, rfl, rfl, rfl, rfl⟩ rfl rfl rfl rfl rfl (by kernel_rfl) Tryd.func9 (by kernel_rfl)
    (of_decide_eq_true (by kernel_rfl)) (by unfold Func.isWrapper; first | (rw [if_pos (by decide +kernel)]; kernel_rfl) | (rw [if_neg (by decide +kernel)]; exact ⟨rfl, rfl⟩))
    (fun os started H enc _ => gridKeys_lifted os started H enc)
theorem gridKeys_plain (f : FuncId) (fn : Func) (hf : Tryd.pinned.checked.prog.funcNamed "convoy/convoylaw12.GridKeys" = some f) (hfn : Tryd.pinned.checked.prog.funcs[f]? = some fn) :
    true = Tryd.pinned.checked.prog.looks [] ∧ ∀ (j : Nat) t, fn.params[j]? = some t → Tryd.pinned.checked.prog.wantsStandIn t = false := by
  obtain rfl : f = 9 := Option.some.inj ((show Tryd.prog.funcNamed "convoy/convoylaw12.GridKeys" = some 9 by kernel_rfl).symm.trans hf) |>.symm
  obtain rfl : fn = Tryd.f9 := (Option.some.inj (Tryd.func9.symm.trans hfn)).symm
  refine ⟨by kernel_rfl, fun j t ht => ?_⟩
  have hm : t ∈ Tryd.f9.params.toList := by simpa using Array.mem_of_getElem? ht
  have hall : (Tryd.f9.params.toList.all fun u => !Tryd.prog.wantsStandIn u) = true := by kernel_rfl
  exact (show Tryd.prog.wantsStandIn t = false by simpa using List.all_eq_true.1 hall t hm)
theorem gridKeys_card : Rows.GridKeysCardSaid :=
  Claim7.holds_tied_plain_at .later [] _ _ _ _ gridKeys_proved (fun _ h => by cases h) (by kernel_rfl) (fun _ h => by cases h) gridKeys_row_tie rfl ⟨rfl, rfl⟩ (by kernel_rfl) rfl gridKeys_plain (by kernel_rfl)
end Go.Proofs.YtnfmjkjhiolfdaaDoor
