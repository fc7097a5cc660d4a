/- RouteChecks, walked. -/
import Derived.Test.YtnfmjkjhiolfdaaDoorRB
import Derived.Test.YtnfmjkjhiolfdaaDoorBC
set_option linter.unusedVariables false
set_option linter.unusedSimpArgs false
namespace Go.Proofs.YtnfmjkjhiolfdaaDoor
open Go Go.Sx Go.Proofs
set_option maxHeartbeats 8000000 in
theorem checks_spec {W0 : World} {H : Heap} {c d : List Value} {m : Map} {x : Route} (hT : TabH Tryd.prog H) (h0 : rMap H c m) (h1 : rRoute H d x) :
    Ct Tryd.prog 3 #[.agg c.toArray, .agg d.toArray] W0 H [] (fun r H' B => r = .bool true ∧ B = []) := by
  refine Ct.go (vs := [.agg c.toArray, .agg d.toArray]) fun R => ?_
  have g0 := h0
  have g1 := h1
  obtain ⟨s0, rfl, f1, f2, f3, h0⟩ := h0
  obtain ⟨s1, rfl, f4, h1⟩ := h1
  refine walk ?_
  refine ops_box rfl rfl fun p2 _ => ?_
  refine ops_box rfl rfl fun p3 _ => ?_
  refine walk ?_
  refine ops_call (vs := []) rfl rfl (awake13_spec hT) fun r1 H1 B hl1 ⟨er, eB⟩ => ?_
  subst er eB
  refine walk ?_
  refine ops_call (vs := [.agg (m.cv s0).toArray]) rfl rfl (gNew_spec (RdOk.mono (R := rMap) hl1 g0)) fun r2 H2 B hl2 ⟨g, e, er, eB, h⟩ => ?_
  subst er eB
  rcases h with ⟨hm, hG, rfl⟩ | ⟨hm, rfl, rfl⟩
  rotate_left
  · refine walkG ?_
    refine ops_pcall rfl rfl (rGood_spec (RdOk.mono (R := rMap) (hl1.trans hl2) g0)) ?_
    refine walk ?_
    refine fin0 ?_
    exact ⟨by simp [hm], rfl⟩
  have hGp := hG
  obtain ⟨⟨bg, s, mb, mm, rfl, q1, q2, q3, q4⟩, hgd, hfs⟩ := hGp
  refine walkG ?_
  refine ops_call (vs := [.agg (x.cv s1).toArray]) rfl rfl (own13_spec (rRoute_up g1 (hl1.trans hl2))) fun r3 H3 B hl3 ⟨v3, er, eB, eH⟩ => ?_
  subst er eB eH
  refine ops_shape v3 fun d3 e3 e _ _ _ => ?_
  subst e
  refine ops_freeze (.slice d3 (clipR x).Cells.length e3) fun H4 hl4 hv3 => ?_
  refine walk ?_
  have hx3 : rRoute H4 [I x.Start, .slice d3 (clipR x).Cells.length e3] (clipR x) := ⟨_, rfl, f4, hv3⟩
  refine ex_any 7 [row p2 24 (m.cv s0), row p3 26 [I x.Start, .slice d3 (clipR x).Cells.length e3]] ?_
  (first | refine gny_p 0 rfl rfl rfl ?_ | refine gny_ld 0 rfl rfl rfl rfl ?_ | refine gny_ldH 0 rfl rfl rfl ‹HRow _ _ 0 _› rfl ?_ | refine gny_T 0 rfl rfl rfl ?_ | refine gny_F 0 rfl rfl rfl ?_ | refine gny_B 0 rfl rfl rfl ?_ | refine gny_skip 0 rfl rfl ?_ | refine gny_sp 0 rfl rfl rfl ?_ | refine gny_sB 0 rfl rfl rfl ?_ | refine gny_sld 0 rfl rfl rfl rfl ?_ | refine gny_sldH 0 rfl rfl rfl ‹HRow _ _ 0 _› rfl ?_ | refine gny_ldN 0 rfl rfl rfl rfl ?_ | refine gny_bld 0 rfl rfl rfl ?_); (first | refine gny_p 1 rfl rfl rfl ?_ | refine gny_ld 1 rfl rfl rfl rfl ?_ | refine gny_ldH 1 rfl rfl rfl ‹HRow _ _ 0 _› rfl ?_ | refine gny_T 1 rfl rfl rfl ?_ | refine gny_F 1 rfl rfl rfl ?_ | refine gny_B 1 rfl rfl rfl ?_ | refine gny_skip 1 rfl rfl ?_ | refine gny_sp 1 rfl rfl rfl ?_ | refine gny_sB 1 rfl rfl rfl ?_ | refine gny_sld 1 rfl rfl rfl rfl ?_ | refine gny_sldH 1 rfl rfl rfl ‹HRow _ _ 0 _› rfl ?_ | refine gny_ldN 1 rfl rfl rfl rfl ?_ | refine gny_bld 1 rfl rfl rfl ?_); (first | refine gny_p 4 rfl rfl rfl ?_ | refine gny_ld 4 rfl rfl rfl rfl ?_ | refine gny_ldH 4 rfl rfl rfl ‹HRow _ _ 0 _› rfl ?_ | refine gny_T 4 rfl rfl rfl ?_ | refine gny_F 4 rfl rfl rfl ?_ | refine gny_B 4 rfl rfl rfl ?_ | refine gny_skip 4 rfl rfl ?_ | refine gny_sp 4 rfl rfl rfl ?_ | refine gny_sB 4 rfl rfl rfl ?_ | refine gny_sld 4 rfl rfl rfl rfl ?_ | refine gny_sldH 4 rfl rfl rfl ‹HRow _ _ 0 _› rfl ?_ | refine gny_ldN 4 rfl rfl rfl rfl ?_ | refine gny_bld 4 rfl rfl rfl ?_); (first | refine gny_p 5 rfl rfl rfl ?_ | refine gny_ld 5 rfl rfl rfl rfl ?_ | refine gny_ldH 5 rfl rfl rfl ‹HRow _ _ 0 _› rfl ?_ | refine gny_T 5 rfl rfl rfl ?_ | refine gny_F 5 rfl rfl rfl ?_ | refine gny_B 5 rfl rfl rfl ?_ | refine gny_skip 5 rfl rfl ?_ | refine gny_sp 5 rfl rfl rfl ?_ | refine gny_sB 5 rfl rfl rfl ?_ | refine gny_sld 5 rfl rfl rfl rfl ?_ | refine gny_sldH 5 rfl rfl rfl ‹HRow _ _ 0 _› rfl ?_ | refine gny_ldN 5 rfl rfl rfl rfl ?_ | refine gny_bld 5 rfl rfl rfl ?_)
  refine gny_call (vs := [.agg #[I x.Start, .slice d3 (clipR x).Cells.length e3]]) 2 rfl rfl rfl (own13_spec hx3) fun r5 H5 B hl5 ⟨v5, er, eB, eH⟩ => ?_
  subst er eB eH
  refine ⟨(by (repeat (first | exact Sub.refl _ | exact Sub.nil _ | (apply sub_pick; (repeat (first | exact Has.here | apply Has.there)); skip) | apply Sub.drop))), ?_⟩
  refine any_freeze v5 fun H6 hl6 hv5 => ?_
  refine gny_call (vs := [.pointer (some ⟨bg, 0, none⟩), .agg #[I x.Start, v5]]) 3 rfl rfl rfl (check_spec (x := clipR (clipR x)) (hG.mono (hl4.trans hl6)) ⟨_, rfl, f4, hv5⟩) fun r7 H7 B hl7 ⟨er, eB⟩ => ?_
  subst er eB
  refine ⟨(by (repeat (first | exact Sub.refl _ | exact Sub.nil _ | (apply sub_pick; (repeat (first | exact Has.here | apply Has.there)); skip) | apply Sub.drop))), ?_⟩
  refine gny_pcall 6 rfl rfl rfl (rCheck_spec (m := m) (x := clipR x) (RdOk.mono (R := rMap) (hl1.trans (hl2.trans (hl4.trans (hl6.trans hl7)))) g0) (rRoute_up hx3 (hl6.trans hl7)) hm.1.1) ?_
  rw [show clipR (clipR x) = clipR x by simp [clipR, List.take_take]]
  refine any_rest rfl ?_
  refine walk ?_
  refine fin0 ?_
  exact ⟨by simp, rfl⟩
end Go.Proofs.YtnfmjkjhiolfdaaDoor
