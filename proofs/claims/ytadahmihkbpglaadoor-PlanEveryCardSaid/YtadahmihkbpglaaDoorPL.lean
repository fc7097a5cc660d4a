/- The fixed fact; PlanWaits, walked. -/
import Derived.Test.YtadahmihkbpglaaDoorPK
import Derived.Test.YtadahmihkbpglaaDoorBC
set_option linter.unusedVariables false
set_option linter.unusedSimpArgs false
namespace Go.Proofs.YtadahmihkbpglaaDoor
open Go Go.Sx Go.Proofs
theorem jm_reads {H : Heap} : rMap H [I 3, I 1, I 1, nilS] jm := ⟨_, rfl, by unfold fits jm; simp, by unfold fits jm; simp, by unfold fits jm; simp, SlB.nil⟩
theorem ja_reads {H : Heap} : rJob H [I 0, I 5, I 2, I 4, nilS] ja := ⟨_, rfl, by unfold fits ja; simp, by unfold fits ja; simp, by unfold fits ja; simp, by unfold fits ja; simp, SlB.nil⟩
theorem jb_reads {H : Heap} {p : Nat} (h : HRow H p 0 [.string (sb [99, 49, 64, 54])]) : rJob H [I 0, I 5, I 2, I 4, .slice (some ⟨p, 0, none⟩) 1 1] jb := ⟨_, rfl, by unfold fits jb; simp, by unfold fits jb; simp, by unfold fits jb; simp, by unfold fits jb; simp, strs_lit (xs := [sb [99, 49, 64, 54]]) h (by decide) (by simp)⟩
set_option maxHeartbeats 8000000 in
theorem awake18_spec {W0 : World} {H : Heap} (hT : TabH Tryd.prog H) :
    Ct Tryd.prog 7 #[] W0 H [] (fun r H' B => r = .bool true ∧ B = []) := by
  refine Ct.go fun R => ?_
  refine walk ?_
  have hg0 := gNew_spec (W0 := W0) (jm_reads (H := H))
  refine ops_call rfl rfl hg0 fun r2 H2 B hl2 ⟨g, e, er, eB, h⟩ => ?_
  subst er eB
  obtain ⟨hg, hG, rfl⟩ : goodM jm ∧ rG H2 g jm ∧ e = I 0 := by
    rcases h with h | h
    · exact h
    · exact absurd (by decide) h.1
  have hGp := hG
  obtain ⟨⟨b, s, mb, mm, rfl, _, _, _, _⟩, hgd, hfs⟩ := hGp
  refine walkG ?_
  have hp1 := plan_any (W0 := W0) (hT.mono hl2) hG (ja_reads (H := H2)) (by decide)
  rw [show PlanR jm ja = fun r H' B => ∃ v, r = .tuple #[.agg [I 5, v].toArray, I 0] ∧ B = [ownS rInt 1 8 3 H' v [0, 1, 2, 2]] by unfold PlanR; rw [ja_plan, ja_code]] at hp1
  refine ops_call rfl rfl hp1 fun r3 H3 B hl3 ⟨v3, er, eB⟩ => ?_
  subst er eB
  refine ops_freeze v3 fun H4 hl4 hv3 => ?_
  obtain ⟨b3, c3, rfl, _, _⟩ := hv3.1.shape
  refine walk ?_
  refine ops_alloc rfl fun p3 _ => ?_
  refine walk ?_
  refine ops_bsN rfl rfl fun pc _ => ?_
  refine ops_frzR .here fun H5 hl5 hr5 => ?_
  refine walk ?_
  have hp2 := plan_any (W0 := W0) (hT.mono (hl2.trans (hl3.trans (hl4.trans hl5)))) (hG.mono (hl3.trans (hl4.trans hl5))) (jb_reads hr5) (by decide)
  rw [show PlanR jm jb = fun r H' B => ∃ v, r = .tuple #[.agg [I 5, v].toArray, I 0] ∧ B = [ownS rInt 1 8 3 H' v [0, 0, 1, 2]] by unfold PlanR; rw [jb_plan, jb_code]] at hp2
  refine ops_call rfl rfl hp2 fun r6 H6 B hl6 ⟨v6, er, eB⟩ => ?_
  subst er eB
  refine ops_freeze v6 fun H7 hl7 hv6 => ?_
  obtain ⟨b6, c6, rfl, _, _⟩ := hv6.1.shape
  refine walk ?_
  refine ops_alloc rfl fun p4 _ => ?_
  refine walkG ?_
  refine ops_bsN rfl rfl fun pd _ => ?_
  refine ops_frzR .here fun H8 hl8 hr8 => ?_
  refine walkG ?_
  refine ops_pcall rfl rfl (ints_spec (hv3.mono (hl5.trans (hl6.trans (hl7.trans hl8)))).1 (ints_lit (xs := [0, 1, 2, 2]) hr8 (by simp [fits]) (by decide)).1) ?_
  rw [decide_eq_true (p := _ = _) rfl]
  refine walkG ?_
  refine ops_bsN rfl rfl fun pe _ => ?_
  refine ops_frzR .here fun H9 hl9 hr9 => ?_
  refine walkG ?_
  refine ops_pcall rfl rfl (ints_spec (hv6.mono (hl8.trans hl9)).1 (ints_lit (xs := [0, 0, 1, 2]) hr9 (by simp [fits]) (by decide)).1) ?_
  rw [decide_eq_true (p := _ = _) rfl]
  refine walkG ?_
  refine fin0 ?_
  exact ⟨rfl, rfl⟩
theorem clip_len {j : Job} : (clipJ j).Taken.length ≤ 60 := by simp [clipJ]; omega
theorem planC_180 {m : Map} {j : Job} (h : planC m j = 180) : lookV m j = 0 ∧ planT m j.Taken j.Goal (j.N - 1).toNat j.Tick j.Cell = none := by
  unfold planC at h
  have h0 : lookV m j = 0 := by
    by_cases e : lookV m j = 0
    · exact e
    · rw [if_pos e] at h
      unfold lookV at h
      split at h
      · omega
      · split at h
        · omega
        · split at h <;> omega
  rw [if_neg (fun e => e h0)] at h
  refine ⟨h0, ?_⟩
  by_cases e : hasP m j
  · rw [if_pos e] at h; omega
  · cases h2 : planT m j.Taken j.Goal (j.N - 1).toNat j.Tick j.Cell with
    | none => rfl
    | some x => exact absurd ⟨h0, by rw [h2]; rfl⟩ e
set_option maxRecDepth 100000 in
set_option maxHeartbeats 16000000 in
theorem planWaits_spec {W0 : World} {H : Heap} {c d : List Value} {m : Map} {j : Job} (hT : TabH Tryd.prog H) (h0 : rMap H c m) (h1 : rJob H d j) :
    Ct Tryd.prog 3 #[.agg c.toArray, .agg d.toArray] W0 H [] (fun r H' B => r = .bool true ∧ B = []) := by
  refine Ct.go (vs := [.agg c.toArray, .agg d.toArray]) fun R => ?_
  have g0 := h0
  have k0 := h1
  obtain ⟨s0, rfl, f1, f2, f3, h0⟩ := h0
  obtain ⟨s1, rfl, q1, q2, q3, q4, h1⟩ := h1
  refine walk ?_
  refine ops_box rfl rfl fun p2 _ => ?_
  refine ops_box rfl rfl fun p3 _ => ?_
  refine walk ?_
  refine ops_call (vs := []) rfl rfl (awake18_spec hT) fun r1 H1 B hl1 ⟨er, eB⟩ => ?_
  subst er eB
  refine walk ?_
  refine ops_call (vs := [.agg (m.cv s0).toArray]) rfl rfl (gNew_spec (RdOk.mono (R := rMap) hl1 g0)) fun r2 H2 B hl2 ⟨g, e, er, eB, h⟩ => ?_
  subst er eB
  have gm := RdOk.mono (R := rMap) (hl1.trans hl2) g0
  rcases h with ⟨hm, hG, rfl⟩ | ⟨hm, rfl, rfl⟩
  rotate_left
  · refine walkG ?_
    refine ops_pcall rfl rfl (rGood_spec gm) ?_
    rw [decide_eq_false hm]
    refine walkG ?_
    refine fin0 ?_
    exact ⟨rfl, rfl⟩
  have hGp := hG
  obtain ⟨⟨bg, s', mb, mm, rfl, _, _, _, _⟩, hgd, hfs⟩ := hGp
  refine walkG ?_
  have ho := own18_spec (W0 := W0) (RdOk.mono (R := rJob) (hl1.trans hl2) k0)
  refine ops_call rfl rfl ho fun r3 H3 B hl3 ⟨v3, er, eB, eH⟩ => ?_
  subst er eB eH
  refine ops_freeze v3 fun H4 hl4 hv3 => ?_
  have hjl := clip_len (j := j)
  have hj2 := clipJ2 (j := j)
  have hle : H.le H4 := hl1.trans (hl2.trans hl4)
  replace hG := hG.mono hl4
  replace gm := RdOk.mono (R := rMap) hl4 gm
  have gj : rJob H4 ((clipJ j).cv v3) (clipJ j) := ⟨_, rfl, q1, q2, q3, q4, hv3⟩
  have hT4 := hT.mono hle
  obtain ⟨b3, c3, rfl, _, _⟩ := hv3.1.shape
  clear hl4 hl3 hl2 hl1 h0 h1 k0 g0 ho
  generalize clipJ j = j' at *
  refine walk ?_
  have ho := own18_spec (W0 := W0) gj
  rw [hj2] at ho
  refine ops_call rfl rfl ho fun r5 H5 B hl5 ⟨v5, er, eB, eH⟩ => ?_
  subst er eB eH
  refine ops_freeze v5 fun H6 hl6 hv5 => ?_
  obtain ⟨b5, c5, rfl, _, _⟩ := hv5.1.shape
  have gj5 : rJob H6 (j'.cv (.slice b5 j'.Taken.length c5)) j' := by obtain ⟨_, _, a1, a2, a3, a4, _⟩ := gj; exact ⟨_, rfl, a1, a2, a3, a4, hv5⟩
  have hp := plan_any (W0 := W0) (hT4.mono hl6) (hG.mono hl6) gj5 (by omega)
  refine ops_call rfl rfl hp fun r7 H7 B hl7 ⟨v7, er, eB⟩ => ?_
  subst er eB
  refine ops_shape v7 fun d7 e7 e _ _ _ => ?_
  subst e
  refine walk ?_
  refine ex_if rfl (fun hq => ?_) (fun hq => ?_)
  · refine walk ?_
    refine fin0 ?_
    exact ⟨rfl, rfl⟩
  obtain ⟨hlook, hnone⟩ := planC_180 (Classical.not_not.1 hq)
  obtain ⟨⟨fc, fg⟩, hN1, hT1⟩ := look_ok hlook
  obtain ⟨N, hN⟩ : ∃ N : Nat, j'.N = N := ⟨j'.N.toNat, by omega⟩
  obtain ⟨_, a0, a1, a2, a3, a4, _⟩ := gj
  clear a0
  have htk := (hv3.mono (hl6.trans hl7)).1
  refine walk ?_
  refine ex_loop (σ := Nat) (fun i => i ≤ N ∧ ∀ x : Nat, x < i → sb (slotL j'.Cell (j'.Tick + x)) ∉ j'.Taken) (fun i => [(3, .pointer (some ⟨p3, 0, none⟩)), (7, I i)]) (fun _ => H7) (fun _ => row p3 27 (j'.cv (.slice b3 j'.Taken.length c3)) :: R) (fun i => N - i) 0 ⟨Nat.zero_le _, fun x hx => by omega⟩ fun i ⟨hi0, hI⟩ K hL => ?_
  refine walk ?_
  refine ex_if rfl (fun hi => ?_) (fun hi => ?_)
  · have ft : fits (j'.Tick + i) := by unfold fits; omega
    refine walk ?_
    refine ex_loop (σ := Nat) (fun k => k ≤ j'.Taken.length ∧ ∀ s ∈ j'.Taken.take k, s ≠ sb (slotL j'.Cell (j'.Tick + i))) (fun k => [(3, .pointer (some ⟨p3, 0, none⟩)), (7, I i), (44, .slice b3 j'.Taken.length c3), (45, I j'.Taken.length), (46, I k)]) (fun _ => H7) (fun _ => row p3 27 (j'.cv (.slice b3 j'.Taken.length c3)) :: R) (fun k => j'.Taken.length - k) 0 ⟨Nat.zero_le _, by simp⟩ fun k ⟨hk0, hk⟩ K2 hL2 => ?_
    refine walk ?_
    refine ex_if rfl (fun hk1 => ?_) (fun hk1 => ?_)
    · have hk2 : k < j'.Taken.length := by omega
      have htk3 := List.take_succ_eq_append_getElem hk2
      refine walk ?_
      generalize j'.Taken[k] = s at *
      refine ops_pcall rfl rfl (slot_spec a1 ft) ?_
      refine walk ?_
      refine ex_if rfl (fun hs => ?_) (fun hs => ?_)
      · refine walk ?_
        refine fin0 ?_
        exact ⟨rfl, rfl⟩
      · refine walk ?_
        refine out_next hL2 (k + 1) ⟨by omega, fun x hx => ?_⟩
        rw [htk3] at hx
        rcases List.mem_append.1 hx with hx | hx
        · exact hk x hx
        · rw [List.mem_singleton.1 hx]; exact hs
    · clear hL2
      obtain rfl : k = j'.Taken.length := by omega
      rw [List.take_length] at hk
      refine walk ?_
      refine out_next hL (i + 1) ⟨by omega, fun x hx => ?_⟩
      by_cases e : x = i
      · subst e; exact fun h => hk _ h rfl
      · exact hI x (by omega)
  · clear hL
    obtain rfl : i = N := by omega
    have := plan_waitsM (m := m) (tk := j'.Taken) (goal := j'.Goal) (k := i - 1) (t := j'.Tick) fc (fun x hx => hI x (by omega))
    rw [show (j'.N - 1).toNat = i - 1 by omega] at hnone
    rw [hnone] at this
    cases this
end Go.Proofs.YtadahmihkbpglaaDoor
