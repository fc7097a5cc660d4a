/- NetPlays: the walk. -/
import Derived.Test.YtlbpaokehdiinaaNQ
set_option linter.unusedVariables false
set_option linter.unusedSimpArgs false
namespace Go.Proofs.Ytlbpaokehdiinaa
open Go Go.Sx Go.Proofs
theorem play_spec {W0 : World} {H H0 : Heap} {p l : Value} {c : List Value} {ms : List Message} {o : Op} (hl : H0.le H) (hs : SlB rMessage 19 216 H l ms) (ho : rOp H c o) (hlen : ms.length ≤ 64) :
    Ct Try.prog 17 #[p, l, .agg c.toArray] W0 H [netO H0 p ms] (PlayPost p) := by
  obtain ⟨kd, i, m⟩ := o
  by_cases k1 : kd = 1
  · subst k1; exact play1 hl hs ho hlen
  by_cases k2 : kd = 2
  · subst k2; exact play2 hl hs ho hlen
  by_cases k3 : kd = 3
  · subst k3; exact play3 hl hs ho hlen
  by_cases k4 : kd = 4
  · subst k4; exact play4 hl hs ho hlen
  by_cases k5 : kd = 5
  · subst k5; exact play5 hl hs ho hlen
  exact play0 hl hs ho hlen k1 k2 k3 k4 k5
set_option maxHeartbeats 8000000 in
theorem netPlays_spec {W0 : World} {H : Heap} {l : Value} {os : List Op} (h0 : SlB rOp 21 232 H l os) : Ct Try.prog 5 #[l] W0 H [] (fun r H' B => r = .bool true ∧ B = []) := by
  refine Ct.go fun R => ?_
  obtain ⟨b0, c0, rfl, hc0, hd0⟩ := h0.1.shape
  refine walk ?_
  refine ops_call (vs := []) rfl rfl new_spec fun r1 H1 B hl1 ⟨eB, eH⟩ => ?_
  subst eB eH
  refine ops_know .here (fun h => netO_ptr) fun ⟨b, e⟩ => ?_
  subst e
  refine walk ?_
  refine ops_call (vs := []) rfl rfl awake_spec fun r2 H2 B hl2 ⟨er, eB⟩ => ?_
  subst er eB
  refine walk ?_
  refine ex_L (netO_up hl2) ?_
  refine ex_loop (σ := Nat × List Message × Value × Heap) (fun s => s.1 ≤ os.length ∧ H2.le s.2.2.2 ∧ SlB rMessage 19 216 s.2.2.2 s.2.2.1 s.2.1 ∧ s.2.1.length ≤ 64) (fun s => [(0, .slice b0 os.length c0), (3, .pointer (some ⟨b, 0, none⟩)), (4, s.2.2.1), (5, I s.1)]) (fun s => s.2.2.2) (fun s => netO s.2.2.2 (.pointer (some ⟨b, 0, none⟩)) s.2.1 :: R) (fun s => os.length - s.1) (0, [], nilS, H2) ⟨Nat.zero_le _, .refl _, SlB.nil, by simp⟩ fun ⟨k, ms, v, H3⟩ ⟨hk0, hl3, hv, hlen⟩ K hL => ?_
  simp only at hk0 hl3 hv hlen
  dsimp only
  by_cases hk : k < os.length ∧ k < 120
  · obtain ⟨hk1, hk2⟩ := hk
    refine walk ?_
    refine ops_ixp rfl rfl (sup h0).1 hk1 fun q o c hr hc => ?_
    refine ops_ldNH rfl rfl hr (RdOk.len hc) ?_
    refine ops_call rfl rfl (play_spec (.refl _) hv hc hlen) fun r4 H4 B hl4 ⟨v', ms', er, hv', eB, hlen'⟩ => ?_
    subst er eB
    refine walk ?_
    exact out_next hL (k + 1, ms', v', H4) ⟨by simp only; omega, by simp only; exact hl3.trans hl4, hv', hlen'⟩
  · clear hL
    obtain ⟨d1, e1, rfl, hd1, he1⟩ := hv.1.shape
    have hor : ¬ k < os.length ∨ (k < os.length ∧ ¬ k < 120) := by omega
    have hoks : True := trivial
    rcases hor with hk | ⟨hk, hk'⟩
    all_goals
      refine walk ?_
      refine ex_know (A := netO H3 (.pointer (some ⟨b, 0, none⟩)) ms) (by repeat (first | exact Has.here | apply Has.there)) (fun h => netO_ok) fun hoks => ?_
      refine ex_loop (σ := Nat × Heap) (fun s => s.1 ≤ ms.length ∧ H3.le s.2) (fun s => [(3, .pointer (some ⟨b, 0, none⟩)), (4, .slice d1 ms.length e1), (40, I ms.length), (41, I s.1)]) (fun s => s.2) (fun s => netO s.2 (.pointer (some ⟨b, 0, none⟩)) ms :: R) (fun s => ms.length - s.1) (0, H3) ⟨Nat.zero_le _, .refl _⟩ fun ⟨j, H4⟩ ⟨hj0, hl4⟩ K hL => ?_
      simp only at hj0 hl4
      dsimp only
      refine walk ?_
      refine ex_if rfl (fun hj => ?_) (fun hj => ?_)
      · have hj1 : j < ms.length := by omega
        refine walk ?_
        refine ops_call rfl rfl (at_yes (ms := ms) (j := j) (.refl _) hj1) fun r3 H5 B hl5 ⟨⟨t1, t2, t3, t4, er, eB⟩, eH⟩ => ?_
        subst er eB eH
        refine walk ?_
        refine ops_alloc rfl fun p8 _ => ?_
        refine ops_frzM t1 t2 t3 t4 ms[j] (hoks _ (List.getElem_mem _)) fun H6 hl6 hm6 => ?_
        refine walk ?_
        refine ex_any 9 [row p8 42 (cvM t1 t2 t3 t4 ms[j])] ?_
        refine gny_p 0 rfl rfl rfl ?_; refine gny_p 1 rfl rfl rfl ?_; refine gny_p 2 rfl rfl rfl ?_; refine gny_ldN 3 rfl rfl rfl rfl ?_; refine gny_p 4 rfl rfl rfl ?_; refine gny_p 5 rfl rfl rfl ?_
        refine gny_ixp 6 rfl rfl rfl (sup hv).1 hj1 fun q o c hr hc => ?_
        refine gny_ldNH 7 rfl rfl rfl hr (RdOk.len hc) ?_
        refine gny_call 8 rfl rfl rfl (same_spec hm6 hc) fun r7 H7 B hl7 ⟨er, eB, eH⟩ => ?_
        subst er eB eH
        refine ⟨(by (repeat (first | exact Sub.refl _ | exact Sub.nil _ | (apply sub_pick; (repeat (first | exact Has.here | apply Has.there)); skip) | apply Sub.drop))), ?_⟩
        simp only [decide_true]
        refine any_rest rfl ?_
        refine walk ?_
        exact out_next hL (j + 1, H7) ⟨by simp only; omega, by simp only; exact hl4.trans hl6⟩ (hs := Sub.trans (by (repeat (first | exact Sub.refl _ | exact Sub.nil _ | (apply sub_pick; (repeat (first | exact Has.here | apply Has.there)); skip) | apply Sub.drop))) (netO_up (H := H5) hl6))
      · refine walk ?_
        refine ops_call rfl rfl (len_spec (ms := ms) (.refl _)) fun r3 H5 B hl5 ⟨er, eB, eH⟩ => ?_
        subst er eB eH
        refine walk ?_
        refine fin0 ?_
        exact ⟨rfl, rfl⟩
end Go.Proofs.Ytlbpaokehdiinaa
