/- RouteWaits, walked. -/
import Derived.Test.YtnfmjkjhiolfdaaDoorRK
import Derived.Test.YtnfmjkjhiolfdaaDoorRM
set_option linter.unusedVariables false
set_option linter.unusedSimpArgs false
namespace Go.Proofs.YtnfmjkjhiolfdaaDoor
open Go Go.Sx Go.Proofs
theorem step_rep {m : Map} {c : Int} (h : freeC m c) : ∀ n : Nat, stepCode m (List.replicate n c) = 0
  | 0 => rfl
  | 1 => rfl
  | n + 2 => by
    have ih := step_rep h (n + 1)
    rw [List.replicate_succ] at ih
    rw [List.replicate_succ, List.replicate_succ]
    unfold stepCode
    rw [if_pos (by exact ⟨⟨h, h⟩, .inl rfl⟩)]
    exact ih
theorem wait_good {m : Map} {c s : Int} {j : Nat} (h1 : 1 ≤ j) (h2 : j ≤ 24) : checkR m ⟨s, List.replicate j c⟩ = 0 ↔ (freeC m c ∧ tickI s) ∧ tickI (s + j - 1) := by
  rw [checkR_ok]
  constructor
  · intro h
    have hc := h.cells c (List.mem_replicate.2 ⟨by omega, rfl⟩)
    have h3 : 0 ≤ s := h.s0
    have h4 : s + (List.replicate j c).length - 1 ≤ 1073741824 := h.s1
    rw [List.length_replicate] at h4
    simp only [tickI]
    exact ⟨⟨hc, by omega⟩, by omega⟩
  · rintro ⟨⟨h3, h4⟩, h5⟩
    simp only [tickI] at h4 h5
    exact ⟨fun e => by have := congrArg List.length e; simp at this; omega, by simpa using h2, by simp only; omega, by simp only [List.length_replicate]; omega, fun x hx => by rw [List.eq_of_mem_replicate hx]; exact h3, step_rep h3 j⟩
set_option maxHeartbeats 16000000 in
theorem waits_spec {W0 : World} {H : Heap} {c e : List Value} {m : Map} {x : Int} {l : List Int} (hT : TabH Tryd.prog H) (h0 : rMap H c m) (hx : fits x) (h2 : rArrI 2 H e l) :
    Ct Tryd.prog 6 #[.agg c.toArray, I x, .agg e.toArray] W0 H [] (fun r H' B => r = .bool true ∧ B = []) := by
  refine Ct.go (vs := [.agg c.toArray, I x, .agg e.toArray]) fun R => ?_
  have g0 := h0
  obtain ⟨a, b, rfl, rfl, fa, fb⟩ := rArr2 h2
  obtain ⟨s0, rfl, f1, f2, f3, h0⟩ := h0
  refine walk ?_
  refine ops_box rfl rfl fun p3 _ => ?_
  refine ops_box rfl rfl fun p5 _ => ?_
  refine walk ?_
  refine ops_call (vs := []) rfl rfl (awake13_spec hT) fun r1 H1 B hl1 ⟨er, eB⟩ => ?_
  subst er eB
  refine walk ?_
  refine ops_call rfl rfl (wait_spec (c := x) (s := a) (n := b) hx fa) fun r2 H2 B hl2 ⟨v2, er, eB⟩ => ?_
  by_cases hb : b < 1
  · rw [if_pos hb] at er eB
    subst er eB
    refine ops_shape v2 fun d2 e2 e _ _ _ => ?_
    subst e
    refine ops_alloc rfl fun p9 _ => ?_
    refine walkG ?_
    rw [decide_eq_true (p := _ ∧ _) (by exact ⟨rfl, rfl⟩)]
    refine fin0 ?_
    exact ⟨rfl, rfl⟩
  rw [if_neg hb] at er eB
  obtain ⟨j, hj, h1, h24⟩ : ∃ j : Nat, min b 24 = j ∧ 1 ≤ j ∧ j ≤ 24 := ⟨(min b 24).toNat, by omega, by omega, by omega⟩
  rw [hj, Int.toNat_natCast] at er eB
  subst er eB
  refine ops_shape v2 fun d2 e2 e _ _ _ => ?_
  subst e
  refine ops_freeze (.slice d2 (⟨a, List.replicate j x⟩ : Route).Cells.length e2) fun H3 hl3 hv2 => ?_
  have gr : rRoute H3 [I a, .slice d2 (List.replicate j x).length e2] ⟨a, List.replicate j x⟩ := ⟨_, rfl, fa, hv2⟩
  have kr := hv2.1
  have hll : (List.replicate j x).length = j := by simp
  refine ops_alloc rfl fun p9 _ => ?_
  dsimp only at kr gr ⊢
  rw [hll] at kr gr ⊢
  refine walkG ?_
  have hg : ∀ k : Nat, k < j → (List.replicate j x).getD k default = x := fun k hk => by simp [List.getD, hk]
  refine ex_loop (σ := Nat) (fun k => k ≤ j) (fun k => [(1, I x), (3, .pointer (some ⟨p3, 0, none⟩)), (7, I a), (9, .pointer (some ⟨p9, 0, none⟩)), (49, .slice d2 j e2), (50, I j), (51, I k)]) (fun _ => H3) (fun _ => row p9 26 [I a, .slice d2 j e2] :: row p3 24 (m.cv s0) :: R) (fun k => j - k) 0 (Nat.zero_le _) fun k hk0 K hL => ?_
  have kr' : SlR rInt 1 H3 (.slice d2 (List.replicate j x).length e2) (List.replicate j x) := by rw [hll]; exact kr
  refine walk ?_
  refine ex_if rfl (fun hk => ?_) (fun hk => ?_)
  · have hk1 : k < (List.replicate j x).length := by rw [hll]; omega
    have hkx : (List.replicate j x)[k] = x := by simp
    refine walk ?_
    refine out_next hL (k + 1) (by omega)
  clear hL
  obtain rfl : k = j := by omega
  refine walk ?_
  refine ops_call (vs := [.agg (m.cv s0).toArray]) rfl rfl (gNew_spec (RdOk.mono (R := rMap) (hl1.trans (hl2.trans hl3)) g0)) fun r4 H4 B hl4 ⟨g, e, er, eB, h⟩ => ?_
  subst er eB
  have g4 := RdOk.mono (R := rMap) (hl1.trans (hl2.trans (hl3.trans hl4))) g0
  rcases h with ⟨hm, hG, rfl⟩ | ⟨hm, rfl, rfl⟩
  rotate_left
  · refine walkG ?_
    refine ops_pcall rfl rfl (rGood_spec g4) ?_
    rw [decide_eq_false hm]
    refine walkG ?_
    refine fin0 ?_
    exact ⟨rfl, rfl⟩
  have hGp := hG
  obtain ⟨⟨bg, s, mb, mm, rfl, q1, q2, q3, q4⟩, hgd, hfs⟩ := hGp
  have har := area_fits hm.1.1
  refine walkG ?_
  refine ops_pcall rfl rfl (rFree_spec g4 har) ?_
  refine walkG ?_
  refine ops_gcall rfl rfl (fun hg => tick_spec) ?_
  refine walkG ?_
  refine ops_gcall rfl rfl (fun hg => tick_spec) ?_
  refine walkG ?_
  refine ops_call (vs := [.pointer (some ⟨bg, 0, none⟩), .agg [I a, .slice d2 k e2].toArray]) rfl rfl (check_spec hG (rRoute_up gr hl4)) fun r5 H5 B hl5 ⟨er, eB⟩ => ?_
  subst er eB
  have hwg := wait_good (m := m) (c := x) (s := a) h1 h24
  by_cases hq : (freeC m x ∧ tickI a) ∧ tickI (a + (k : Int) - 1)
  · rw [decide_eq_true hq, hwg.2 hq]
    refine walk ?_
    refine fin0 ?_
    exact ⟨rfl, rfl⟩
  · have hc0 : ¬ checkR m ⟨a, List.replicate k x⟩ = 0 := fun e => hq (hwg.1 e)
    rw [decide_eq_false hq]
    refine walk ?_
    refine fin0 ?_
    exact ⟨rfl, rfl⟩
end Go.Proofs.YtnfmjkjhiolfdaaDoor
