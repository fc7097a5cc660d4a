/- The reference's Meet. -/
import Derived.Test.YtnfmjkjhiolfdaaDoorBI
import Derived.Test.YtnfmjkjhiolfdaaDoorKC
set_option linter.unusedVariables false
set_option linter.unusedSimpArgs false
namespace Go.Proofs.YtnfmjkjhiolfdaaDoor
open Go Go.Sx Go.Proofs
theorem meetR_comm {x y : Route} (h : meetR x y) : meetR y x := by
  obtain ⟨⟨hx, hy⟩, t, p, q, e1, e2, h⟩ := h
  refine ⟨⟨hy, hx⟩, t, q, p, e2, e1, ?_⟩
  rcases h with h | ⟨u, v, h1, h2, h3, h4, h5⟩
  · exact .inl h.symm
  · exact .inr ⟨v, u, h2, h1, by rw [h5, ← h4]; exact fun e => h3 e.symm, h5, h4⟩
theorem meetB_comm {x y : Route} : meetB x y = meetB y x := by
  by_cases h : meetR x y
  · rw [meetB_true h, meetB_true (meetR_comm h)]
  · rw [meetB_false h, meetB_false fun e => h (meetR_comm e)]
theorem atR_at {x : Route} (hp : plainR x) {k : Nat} (hk : k < x.Cells.length) : atR x (x.Start + k) = some x.Cells[k] := atR_some.2 ⟨hp, k, rfl, List.getElem?_eq_getElem hk⟩
set_option maxHeartbeats 8000000 in
theorem rMeet_spec {W0 : World} {H : Heap} {c d : List Value} {x y : Route} (h0 : rRoute H c x) (h1 : rRoute H d y) :
    Ct Tryd.prog 21 #[.agg c.toArray, .agg d.toArray] W0 H [] (fun r H' B => r = .bool (meetB x y) ∧ B = [] ∧ H' = H) := by
  refine Ct.go (vs := [.agg c.toArray, .agg d.toArray]) fun R => ?_
  have g0 := h0
  have g1 := h1
  obtain ⟨s0, rfl, f0, h0⟩ := h0
  obtain ⟨s1, rfl, f1, h1⟩ := h1
  obtain ⟨b0, c0, rfl, hc0, hd0⟩ := h0.1.shape
  obtain ⟨b1, c1, rfl, hc1, hd1⟩ := h1.1.shape
  have k0 := h0.1
  have k1 := h1.1
  refine walk ?_
  refine ops_box rfl rfl fun p2 _ => ?_
  refine ops_box rfl rfl fun p3 _ => ?_
  refine walkG ?_
  refine ops_pcall rfl rfl (refPlain_spec g0) ?_
  refine walkG ?_
  refine ops_gcall rfl rfl (fun hg => refPlain_spec g1) ?_
  refine walkG ?_
  refine ex_if rfl (fun h => ?_) (fun h => ?_)
  · refine walk ?_
    refine fin0 ?_
    exact ⟨by rw [meetB_false]; intro e; rcases h with h | h; exact h e.1.1; exact h e.1.2, rfl, rfl⟩
  have hx : plainR x := Classical.not_not.1 fun e => h (.inl e)
  have hy : plainR y := Classical.not_not.1 fun e => h (.inr e)
  have hx' := hx
  have hy' := hy
  simp only [plainR] at hx' hy'
  refine walk ?_
  refine ex_loop (σ := Nat) (fun k => k ≤ x.Cells.length ∧ ∀ i, i < k → ¬ meetAt x y (x.Start + (i : Nat))) (fun k => [(2, .pointer (some ⟨p2, 0, none⟩)), (3, .pointer (some ⟨p3, 0, none⟩)), (5, I k)]) (fun _ => H) (fun _ => row p2 26 (x.cv (.slice b0 x.Cells.length c0)) :: row p3 26 (y.cv (.slice b1 y.Cells.length c1)) :: R) (fun k => x.Cells.length - k) 0 ⟨Nat.zero_le _, by simp⟩ (hs0 := fun _ h => big_swap h) fun k ⟨hk0, hnone⟩ K hL => ?_
  refine walk ?_
  refine ex_if rfl (fun hk => ?_) (fun hk => ?_)
  · have hk1 : k < x.Cells.length := by omega
    refine walk ?_
    refine ex_loop (σ := Nat) (fun j => j ≤ y.Cells.length ∧ ∀ i, i < j → x.Start + (k : Nat) = y.Start + (i : Nat) → ¬ meetAt x y (x.Start + (k : Nat))) (fun j => [(2, .pointer (some ⟨p2, 0, none⟩)), (3, .pointer (some ⟨p3, 0, none⟩)), (5, I k), (6, I j)]) (fun _ => H) (fun _ => row p2 26 (x.cv (.slice b0 x.Cells.length c0)) :: row p3 26 (y.cv (.slice b1 y.Cells.length c1)) :: R) (fun j => y.Cells.length - j) 0 ⟨Nat.zero_le _, by simp⟩ fun j ⟨hj0, hnj⟩ K2 hL2 => ?_
    refine walk ?_
    refine ex_if rfl (fun hj => ?_) (fun hj => ?_)
    · have hj1 : j < y.Cells.length := by omega
      refine walk ?_
      refine ex_if rfl (fun ht => ?_) (fun ht => ?_)
      · refine walk ?_
        refine out_next hL2 (j + 1) ⟨by omega, fun i hi e => ?_⟩
        by_cases h' : i = j
        · subst h'; exact absurd e ht
        · exact hnj i (by omega) e
      have ht : x.Start + (k : Int) = y.Start + (j : Int) := Classical.not_not.1 ht
      have ex := atR_at hx hk1
      have ey := atR_at hy hj1
      rw [← ht] at ey
      refine walk ?_
      refine ex_if rfl (fun hq => ?_) (fun hq => ?_)
      · refine walk ?_
        refine fin0 ?_
        exact ⟨by rw [meetB_true ⟨⟨hx, hy⟩, _, _, _, ex, ey, .inl hq⟩], rfl, rfl⟩
      refine walkG ?_
      refine ex_if rfl (fun hm => ?_) (fun hm => ?_)
      · refine walk ?_
        refine fin0 ?_
        obtain ⟨⟨⟨⟨h1, h2⟩, h3⟩, h4⟩, h5⟩ := hm
        have hk2 : k + 1 < x.Cells.length := by omega
        have hj2 : j + 1 < y.Cells.length := by omega
        have ex2 := atR_at hx hk2
        have ey2 := atR_at hy hj2
        rw [show x.Start + ((k + 1 : Nat) : Int) = x.Start + k + 1 by omega] at ex2
        rw [show y.Start + ((j + 1 : Nat) : Int) = x.Start + k + 1 by omega] at ey2
        simp only [List.getD, List.getElem?_eq_getElem hk1, List.getElem?_eq_getElem hj1, List.getElem?_eq_getElem hk2, List.getElem?_eq_getElem hj2, Option.getD_some] at h3 h4 h5
        exact ⟨by rw [meetB_true ⟨⟨hx, hy⟩, _, _, _, ex, ey, .inr ⟨_, _, ex2, ey2, h3, h4, h5.symm⟩⟩], rfl, rfl⟩
      · refine walk ?_
        refine out_next hL2 (j + 1) ⟨by omega, fun i hi e => ?_⟩
        by_cases h' : i = j
        · subst h'
          rintro ⟨p, q, e1, e2, h6⟩
          rw [ex] at e1; cases e1
          rw [ey] at e2; cases e2
          rcases h6 with h6 | ⟨u, v, hu, hv, h7, h8, h9⟩
          · exact hq h6
          · have r1 := atR_range hu
            have r2 := atR_range hv
            have hk2 : k + 1 < x.Cells.length := by omega
            have hj2 : i + 1 < y.Cells.length := by omega
            have ex2 := atR_at hx hk2
            have ey2 := atR_at hy hj2
            rw [show x.Start + ((k + 1 : Nat) : Int) = x.Start + k + 1 by omega, hu] at ex2
            rw [show y.Start + ((i + 1 : Nat) : Int) = x.Start + k + 1 by omega, hv] at ey2
            cases ex2
            cases ey2
            refine hm ⟨⟨⟨⟨by omega, by omega⟩, ?_⟩, ?_⟩, ?_⟩ <;> simp only [List.getD, List.getElem?_eq_getElem hk1, List.getElem?_eq_getElem hj1, List.getElem?_eq_getElem hk2, List.getElem?_eq_getElem hj2, Option.getD_some]
            · exact h7
            · exact h8
            · exact h9.symm
        · exact hnj i (by omega) e
    · clear hL2
      obtain rfl : j = y.Cells.length := by omega
      refine walk ?_
      refine out_next hL (k + 1) ⟨by omega, fun i hi => ?_⟩
      by_cases h' : i = k
      · subst h'
        intro hm
        have ⟨p, q, e1, e2, _⟩ := hm
        have r2 := atR_range e2
        exact hnj (x.Start + i - y.Start).toNat (by omega) (by omega) hm
      · exact hnone i (by omega)
  · clear hL
    obtain rfl : k = x.Cells.length := by omega
    refine walk ?_
    refine fin0 ?_
    refine ⟨?_, rfl, rfl⟩
    rw [meetB_false]
    rintro ⟨_, t, hm⟩
    have ⟨p, q, e1, e2, _⟩ := hm
    have r1 := atR_range e1
    have h := hnone (t - x.Start).toNat (by omega)
    rw [show x.Start + ((t - x.Start).toNat : Int) = t by omega] at h
    exact h hm
end Go.Proofs.YtnfmjkjhiolfdaaDoor
