/- Do two routes meet? -/
import Derived.Test.YtnfmjkjhiolfdaaBG
set_option linter.unusedVariables false
set_option linter.unusedSimpArgs false
namespace Go.Proofs.Ytnfmjkjhiolfdaa
open Go Go.Sx Go.Proofs
def meetAt (x y : Route) (t : Int) : Prop := ∃ p q, atR x t = some p ∧ atR y t = some q ∧ (p = q ∨ ∃ u v, atR x (t + 1) = some u ∧ atR y (t + 1) = some v ∧ p ≠ u ∧ p = v ∧ q = u)
def meetR (x y : Route) : Prop := (plainR x ∧ plainR y) ∧ ∃ t, meetAt x y t
open Classical in
noncomputable def meetB (x y : Route) : Bool := decide (meetR x y)
theorem meetB_true {x y : Route} (h : meetR x y) : meetB x y = true := by unfold meetB; simp [h]
theorem meetB_false {x y : Route} (h : ¬ meetR x y) : meetB x y = false := by unfold meetB; simp [h]
theorem atR_some {x : Route} {t : Int} {p : Int} : atR x t = some p ↔ plainR x ∧ ∃ k : Nat, t = x.Start + k ∧ x.Cells[k]? = some p := by
  unfold atR
  constructor
  · intro h
    split at h
    · next hh => exact ⟨hh.1, (t - x.Start).toNat, by omega, h⟩
    · cases h
  · rintro ⟨hp, k, rfl, hk⟩
    rw [if_pos ⟨hp, by omega⟩, show (x.Start + (k : Int) - x.Start).toNat = k by omega]; exact hk
theorem atR_in {x : Route} {t : Int} (hp : plainR x) (h1 : x.Start ≤ t) (h2 : t < x.Start + x.Cells.length) : ∃ p, atR x t = some p :=
  ⟨x.Cells[(t - x.Start).toNat]'(by omega), atR_some.2 ⟨hp, (t - x.Start).toNat, by omega, List.getElem?_eq_getElem _⟩⟩
theorem atR_range {x : Route} {t p : Int} (h : atR x t = some p) : x.Start ≤ t ∧ t < x.Start + x.Cells.length := by
  obtain ⟨_, k, rfl, hk⟩ := atR_some.1 h
  have := (List.getElem?_eq_some_iff.1 hk).1
  omega
set_option maxHeartbeats 8000000 in
theorem meet_spec {W0 : World} {H : Heap} {c d : List Value} {x y : Route} (h0 : rRoute H c x) (h1 : rRoute H d y) :
    Ct Try.prog 21 #[.agg c.toArray, .agg d.toArray] W0 H [] (fun r H' B => r = .bool (meetB x y) ∧ B = [] ∧ H' = H) := by
  refine Ct.go (vs := [.agg c.toArray, .agg d.toArray]) fun R => ?_
  have g0 := h0
  have g1 := h1
  obtain ⟨s0, rfl, f0, h0⟩ := h0
  obtain ⟨s1, rfl, f1, h1⟩ := h1
  obtain ⟨b0, c0, rfl, hc0, hd0⟩ := h0.1.shape
  obtain ⟨b1, c1, rfl, hc1, hd1⟩ := h1.1.shape
  refine walk ?_
  refine ops_box rfl rfl fun p2 _ => ?_
  refine ops_box rfl rfl fun p3 _ => ?_
  refine walk ?_
  refine ops_pcall rfl rfl (plain_spec g0) ?_
  refine walkG ?_
  refine ops_gcall rfl rfl (fun hg => plain_spec g1) ?_
  refine walkG ?_
  refine ex_if rfl (fun h => ?_) (fun h => ?_)
  · refine walk ?_
    refine fin0 ?_
    exact ⟨by rw [meetB_false]; intro e; rcases h with h | h; exact h e.1.1; exact h e.1.2, rfl, rfl⟩
  have hx : plainR x := Classical.not_not.1 fun e => h (.inl e)
  have hy : plainR y := Classical.not_not.1 fun e => h (.inr e)
  have hx' := hx
  have hy' := hy
  simp only [plainR] at hx' hy'
  refine walk ?_
  obtain ⟨T, hT⟩ : ∃ T, T = max x.Start y.Start := ⟨_, rfl⟩
  rw [← hT]
  have hT1 : x.Start ≤ T ∧ y.Start ≤ T ∧ (T = x.Start ∨ T = y.Start) := by omega
  refine ex_loop (σ := Int) (fun τ => T ≤ τ ∧ τ ≤ 1073741824 + 24 ∧ ∀ t, t < τ → ¬ meetAt x y t) (fun τ => [(2, .pointer (some ⟨p2, 0, none⟩)), (3, .pointer (some ⟨p3, 0, none⟩)), (5, I τ)]) (fun _ => H) (fun _ => row p2 28 (x.cv (.slice b0 x.Cells.length c0)) :: row p3 28 (y.cv (.slice b1 y.Cells.length c1)) :: R) (fun τ => (1073741824 + 100 - τ).toNat) T ⟨by omega, by omega, fun t ht ⟨p, q, e1, e2, _⟩ => by have := atR_range e1; have := atR_range e2; omega⟩ fun τ ⟨hkT, hk0, hnone⟩ K hL => ?_
  refine walkG ?_
  refine ex_if rfl (fun hk => ?_) (fun hk => ?_)
  · obtain ⟨p, hp⟩ := atR_in (t := τ) hx (by omega) (by omega)
    obtain ⟨q, hq⟩ := atR_in (t := τ) hy (by omega) (by omega)
    have a1 := at_spec (W0 := W0) (t := τ) g0 (by unfold fits; omega)
    have a2 := at_spec (W0 := W0) (t := τ) g1 (by unfold fits; omega)
    have a3 := at_spec (W0 := W0) (t := τ + 1) g0 (by unfold fits; omega)
    have a4 := at_spec (W0 := W0) (t := τ + 1) g1 (by unfold fits; omega)
    rw [hp] at a1
    rw [hq] at a2
    simp only [Option.getD_some, Option.isSome_some] at a1 a2
    refine walk ?_
    refine ops_pcall rfl rfl a1 ?_
    refine walk ?_
    refine ops_pcall rfl rfl a2 ?_
    refine walkG ?_
    refine ex_if rfl (fun he => ?_) (fun he => ?_)
    · refine walk ?_
      refine fin0 ?_
      exact ⟨by rw [meetB_true ⟨⟨hx, hy⟩, τ, p, q, hp, hq, .inl he⟩], rfl, rfl⟩
    refine walk ?_
    refine ops_pcall rfl rfl a3 ?_
    refine walk ?_
    refine ops_pcall rfl rfl a4 ?_
    refine walkG ?_
    refine ex_if rfl (fun hm => ?_) (fun hm => ?_)
    · refine walk ?_
      refine fin0 ?_
      obtain ⟨⟨⟨hu, hv⟩, hpu⟩, hm⟩ := hm
      obtain ⟨u, hu⟩ := Option.isSome_iff_exists.1 hu
      obtain ⟨v, hv⟩ := Option.isSome_iff_exists.1 hv
      simp only [hu, hv, Option.getD_some] at hpu hm
      refine ⟨?_, rfl, rfl⟩
      rw [meetB_true ⟨⟨hx, hy⟩, τ, p, q, hp, hq, .inr ⟨u, v, hu, hv, hpu, ?_⟩⟩]
      rcases hm with hm | hm
      · exact hm
      · exact absurd hm.1 he
    · refine walk ?_
      refine out_next hL (τ + 1) ⟨by omega, by omega, fun t ht => ?_⟩
      by_cases e : t < τ
      · exact hnone t e
      · obtain rfl : t = τ := by omega
        rintro ⟨p', q', e1, e2, e3⟩
        rw [hp] at e1; cases e1
        rw [hq] at e2; cases e2
        rcases e3 with e3 | ⟨u, v, hu, hv, h5, h6, h7⟩
        · exact he e3
        · refine hm ⟨⟨⟨by rw [hu]; rfl, by rw [hv]; rfl⟩, ?_⟩, ?_⟩
          · rw [hu]; exact h5
          · rw [hu, hv]; exact .inl ⟨h6, h7⟩
  · clear hL
    refine walk ?_
    refine fin0 ?_
    refine ⟨?_, rfl, rfl⟩
    rw [meetB_false]
    rintro ⟨_, t, ht⟩
    by_cases e : t < τ
    · exact hnone t e ht
    · obtain ⟨p, q, e1, e2, _⟩ := ht
      have := atR_range e1; have := atR_range e2
      omega
end Go.Proofs.Ytnfmjkjhiolfdaa
