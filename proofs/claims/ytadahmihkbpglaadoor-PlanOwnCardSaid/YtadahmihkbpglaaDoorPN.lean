/- PlanOwn, walked. -/
import Derived.Test.YtadahmihkbpglaaDoorPL
set_option linter.unusedVariables false
set_option linter.unusedSimpArgs false
namespace Go.Proofs.YtadahmihkbpglaaDoor
open Go Go.Sx Go.Proofs
theorem planRt_len {m : Map} {j : Job} : (planRt m j).Cells.length ≤ 24 := by
  by_cases h : hasP m j
  · obtain ⟨_, hN, hT⟩ := look_ok h.1
    obtain ⟨l, e, hl⟩ := planP_head (m := m) (tk := j.Taken) (goal := j.Goal) (k := (j.N - 1).toNat) (t := j.Tick) (c := j.Cell)
    unfold planRt
    rw [if_pos h, e]
    simp only [List.length_cons]
    omega
  · unfold planRt; rw [if_neg h]; simp
theorem planRt_fit {m : Map} {j : Job} (h : fits j.Tick) : fits (planRt m j).Start := by
  unfold planRt
  split
  · exact h
  · exact fits0
set_option maxRecDepth 100000 in
set_option maxHeartbeats 16000000 in
theorem planOwn_spec {W0 : World} {H : Heap} {c d : List Value} {m : Map} {j : Job} (hT : TabH Tryd.prog H) (h0 : rMap H c m) (h1 : rJob H d j) :
    Ct Tryd.prog 4 #[.agg c.toArray, .agg d.toArray] W0 H [] (fun r H' B => r = .bool true ∧ B = []) := by
  refine Ct.go (vs := [.agg c.toArray, .agg d.toArray]) fun R => ?_
  have g0 := h0
  have k0 := h1
  obtain ⟨s0, rfl, f1, f2, f3, h0⟩ := h0
  obtain ⟨s1, rfl, q1, q2, q3, q4, h1⟩ := h1
  refine walk ?_
  refine ops_box rfl rfl fun p2 _ => ?_
  refine ops_box rfl rfl fun p3 _ => ?_
  refine walk ?_
  refine ops_call (vs := []) rfl rfl (awake18_spec hT) fun r1 H1 B hl1 ⟨er, eB⟩ => ?_
  subst er eB
  refine walk ?_
  refine ops_call (vs := [.agg (m.cv s0).toArray]) rfl rfl (gNew_spec (RdOk.mono (R := rMap) hl1 g0)) fun r2 H2 B hl2 ⟨g, e, er, eB, h⟩ => ?_
  subst er eB
  have gm := RdOk.mono (R := rMap) (hl1.trans hl2) g0
  rcases h with ⟨hm, hG, rfl⟩ | ⟨hm, rfl, rfl⟩
  rotate_left
  · refine walkG ?_
    refine ops_pcall rfl rfl (rGood_spec gm) ?_
    rw [decide_eq_false hm]
    refine walkG ?_
    refine fin0 ?_
    exact ⟨rfl, rfl⟩
  have hGp := hG
  obtain ⟨⟨bg, s', mb, mm, rfl, _, _, _, _⟩, hgd, hfs⟩ := hGp
  refine walkG ?_
  have ho := own18_spec (W0 := W0) (RdOk.mono (R := rJob) (hl1.trans hl2) k0)
  refine ops_call rfl rfl ho fun r3 H3 B hl3 ⟨v3, er, eB, eH⟩ => ?_
  subst er eB eH
  refine ops_freeze v3 fun H4 hl4 hv3 => ?_
  have hjl := clip_len (j := j)
  have hj2 := clipJ2 (j := j)
  have hle : H.le H4 := hl1.trans (hl2.trans hl4)
  replace hG := hG.mono hl4
  replace gm := RdOk.mono (R := rMap) hl4 gm
  have gj : rJob H4 ((clipJ j).cv v3) (clipJ j) := ⟨_, rfl, q1, q2, q3, q4, hv3⟩
  have hT4 := hT.mono hle
  obtain ⟨b3, c3, rfl, _, _⟩ := hv3.1.shape
  clear hl4 hl3 hl2 hl1 h0 h1 k0 g0 ho
  generalize clipJ j = j' at *
  refine walk ?_
  refine ops_mk0 (w := 16) rStr rfl fun b1 => ?_
  refine walk ?_
  refine ops_appS rfl rfl hv3.1 (by simp only [List.length_nil, cap47]; omega) fun d1 e1 => ?_
  simp only [List.length_nil, Nat.zero_add, List.nil_append]
  refine walk ?_
  refine ops_app1 (y := (⟨#[115, 112, 97, 114, 101]⟩ : ByteArray)) rfl rfl rfl ⟨rfl, by decide⟩ (by simp only [cap47]; omega) fun dr er => ?_
  refine ops_freeze (.slice dr (j'.Taken.length + 1) er) fun H5 hl5 hroom => ?_
  refine walk ?_
  obtain ⟨x1, x2, xe, hx1, hx2⟩ := hroom.1.shape
  injection xe with xe1 xe2 xe3
  subst xe3
  rw [List.length_append, List.length_singleton] at hx1
  refine ops_alloc rfl fun p8 _ => ?_
  have hpre := slr_take (k := j'.Taken.length) hroom.1 (by simp)
  rw [show (j'.Taken ++ [(⟨#[115, 112, 97, 114, 101]⟩ : ByteArray)]).take j'.Taken.length = j'.Taken by simp] at hpre
  have gin : rJob H5 (j'.cv (.slice dr j'.Taken.length er)) j' := by obtain ⟨_, _, a1, a2, a3, a4, _⟩ := gj; exact ⟨_, rfl, a1, a2, a3, a4, hpre, by simp only [cap47]; omega⟩
  refine walk ?_
  have hp := plan_any (W0 := W0) (hT4.mono hl5) (hG.mono hl5) gin (by omega)
  refine ops_call rfl rfl hp fun r6 H6 B hl6 ⟨v6, er', eB⟩ => ?_
  subst er' eB
  refine ops_shape v6 fun d6 e6 e _ _ _ => ?_
  subst e
  refine walk ?_
  refine ops_alloc rfl fun p9 _ => ?_
  refine walk ?_
  have hp2 := plan_any (W0 := W0) (hT4.mono (hl5.trans hl6)) (hG.mono (hl5.trans hl6)) (RdOk.mono (R := rJob) hl6 gin) (by omega)
  refine ops_call rfl rfl hp2 fun r7 H7 B hl7 ⟨v7, er', eB⟩ => ?_
  subst er' eB
  refine ops_freeze v7 fun H8 hl8 hv7 => ?_
  obtain ⟨b7, c7, rfl, _, _⟩ := hv7.1.shape
  refine walk ?_
  refine ops_alloc rfl fun p10 _ => ?_
  have hl58 := hl6.trans (hl7.trans hl8)
  refine walk ?_
  refine ops_pcall rfl rfl (texts_spec (hpre.mono hl58) (hv3.mono (hl5.trans hl58)).1) ?_
  rw [decide_eq_true (p := _ = _) rfl]
  refine walk ?_
  have hlast : ∀ h, (j'.Taken ++ [(⟨#[115, 112, 97, 114, 101]⟩ : ByteArray)])[j'.Taken.length]'h = ⟨#[115, 112, 97, 114, 101]⟩ := fun h => by simp
  refine ops_ix (j := j'.Taken.length) rfl rfl rfl (hroom.mono hl58).1 (by simp) ?_
  rw [hlast]
  refine walk ?_
  try rw [decide_eq_false (p := ¬ _ = _) (fun h => h rfl)]
  refine walk ?_
  have hn24 := planRt_len (m := m) (j := j')
  have fm1 : Sx.fits (-1) := by unfold Sx.fits; omega
  have fm2 : Sx.fits (-2) := by unfold Sx.fits; omega
  refine ex_loop (σ := Nat × List Int) (fun s => s.1 ≤ (planRt m j').Cells.length ∧ s.2.length = (planRt m j').Cells.length) (fun s => [(5, .pointer (some ⟨bg, 0, none⟩)), (6, I (planC m j')), (8, .pointer (some ⟨p8, 0, none⟩)), (9, .pointer (some ⟨p9, 0, none⟩)), (10, .pointer (some ⟨p10, 0, none⟩)), (76, I (planRt m j').Cells.length), (77, I s.1)]) (fun _ => H8) (fun s => ownS rInt 1 8 3 H6 (.slice d6 (planRt m j').Cells.length e6) s.2 :: row p9 36 ((planRt m j').cv (.slice d6 (planRt m j').Cells.length e6)) :: row p10 36 ((planRt m j').cv (.slice b7 (planRt m j').Cells.length c7)) :: row p8 27 (j'.cv (.slice dr j'.Taken.length er)) :: R) (fun s => (planRt m j').Cells.length - s.1) (0, (planRt m j').Cells) ⟨Nat.zero_le _, rfl⟩ fun ⟨k, ys⟩ ⟨hk0, hy⟩ K hL => ?_
  simp only at hk0 hy
  dsimp only
  refine walk ?_
  refine ex_if rfl (fun hk => ?_) (fun hk => ?_)
  · refine walk ?_
    refine ops_stS (y' := (-1 : Int)) rfl rfl rfl ⟨rfl, fm1⟩ (by omega) ?_
    refine walk ?_
    refine out_next hL (k + 1, ys.set k (-1)) ⟨by simp only; omega, by simpa using hy⟩
  clear hL
  refine walk ?_
  refine ex_loop (σ := Nat × Option Addr × Nat × List Int) (fun s => s.1 ≤ 20 ∧ s.2.2.2.length ≤ 24 + s.1) (fun s => [(5, .pointer (some ⟨bg, 0, none⟩)), (6, I (planC m j')), (8, .pointer (some ⟨p8, 0, none⟩)), (9, .pointer (some ⟨p9, 0, none⟩)), (10, .pointer (some ⟨p10, 0, none⟩)), (13, I s.1)]) (fun _ => H8) (fun s => ownS rInt 1 8 3 H8 (.slice s.2.1 s.2.2.2.length s.2.2.1) s.2.2.2 :: row p9 36 ((planRt m j').cv (.slice s.2.1 s.2.2.2.length s.2.2.1)) :: row p10 36 ((planRt m j').cv (.slice b7 (planRt m j').Cells.length c7)) :: row p8 27 (j'.cv (.slice dr j'.Taken.length er)) :: R) (fun s => 20 - s.1) (0, d6, e6, ys) ⟨Nat.zero_le _, by simp only; omega⟩ (hs0 := by dsimp only; rw [hy]; exact (sub_flat H6 H8).trans (by (repeat (first | exact Sub.refl _ | exact Sub.nil _ | (apply sub_pick; (repeat (first | exact Has.here | apply Has.there)); skip) | apply Sub.drop)))) fun ⟨k2, bo, co, zs⟩ ⟨hk20, hz⟩ K hL => ?_
  simp only at hk20 hz
  dsimp only
  refine walk ?_
  refine ex_if rfl (fun hk => ?_) (fun hk => ?_)
  · refine walk ?_
    refine ops_app1 (y := (-2 : Int)) rfl rfl rfl ⟨rfl, fm2⟩ (by simp only [cap47]; omega) fun b9 c9 => ?_
    refine walk ?_
    have hzl : (zs ++ [-2]).length = zs.length + 1 := by simp
    rw [← hzl]
    refine out_next hL (k2 + 1, b9, c9, zs ++ [-2]) ⟨by simp only; omega, by simp only [hzl]; omega⟩
  clear hL
  refine walk ?_
  have ftick : Sx.fits j'.Tick := by obtain ⟨_, _, a1, a2, a3, a4, _⟩ := gj; exact a2
  have hp3 := plan_any (W0 := W0) (hT4.mono (hl5.trans hl58)) (hG.mono (hl5.trans hl58)) (RdOk.mono (R := rJob) hl58 gin) (by omega)
  refine ops_call rfl rfl hp3 fun r9 H9 B hl9 ⟨v9, er', eB⟩ => ?_
  subst er' eB
  refine ops_freeze v9 fun H10 hl10 hv9 => ?_
  obtain ⟨b9, c9, rfl, _, _⟩ := hv9.1.shape
  refine walk ?_
  refine ops_alloc rfl fun p14 _ => ?_
  refine walk ?_
  have hr1 : rRoute H10 ((planRt m j').cv (.slice b7 (planRt m j').Cells.length c7)) (planRt m j') := ⟨_, rfl, planRt_fit ftick, hv7.mono (hl9.trans hl10)⟩
  have hr2 : rRoute H10 ((planRt m j').cv (.slice b9 (planRt m j').Cells.length c9)) (planRt m j') := ⟨_, rfl, planRt_fit ftick, hv9⟩
  try rw [decide_eq_true (p := planC m j' = planC m j') rfl]
  refine walk ?_
  refine ops_pcall rfl rfl (sameRoute_spec hr1 hr2) ?_
  rw [decide_eq_true (p := planRt m j' = planRt m j') rfl]
  refine walk ?_
  refine fin0 ?_
  exact ⟨rfl, rfl⟩
end Go.Proofs.YtadahmihkbpglaaDoor
