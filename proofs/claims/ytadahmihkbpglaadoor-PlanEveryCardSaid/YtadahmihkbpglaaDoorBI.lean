/- Do two routes meet? -/
import Derived.Test.YtadahmihkbpglaaDoorBG
set_option linter.unusedVariables false
set_option linter.unusedSimpArgs false
namespace Go.Proofs.YtadahmihkbpglaaDoor
open Go Go.Sx Go.Proofs
def meetAt (x y : Route) (t : Int) : Prop := ∃ p q, atR x t = some p ∧ atR y t = some q ∧ (p = q ∨ ∃ u v, atR x (t + 1) = some u ∧ atR y (t + 1) = some v ∧ p ≠ u ∧ p = v ∧ q = u)
def meetR (x y : Route) : Prop := (plainR x ∧ plainR y) ∧ ∃ t, meetAt x y t
open Classical in
noncomputable def meetB (x y : Route) : Bool := decide (meetR x y)
theorem meetB_true {x y : Route} (h : meetR x y) : meetB x y = true := by unfold meetB; simp [h]
theorem meetB_false {x y : Route} (h : ¬ meetR x y) : meetB x y = false := by unfold meetB; simp [h]
theorem atR_some {x : Route} {t : Int} {p : Int} : atR x t = some p ↔ plainR x ∧ ∃ k : Nat, t = x.Start + k ∧ x.Cells[k]? = some p := by
  unfold atR
  constructor
  · intro h
    split at h
    · next hh => exact ⟨hh.1, (t - x.Start).toNat, by omega, h⟩
    · cases h
  · rintro ⟨hp, k, rfl, hk⟩
    rw [if_pos ⟨hp, by omega⟩, show (x.Start + (k : Int) - x.Start).toNat = k by omega]; exact hk
theorem atR_in {x : Route} {t : Int} (hp : plainR x) (h1 : x.Start ≤ t) (h2 : t < x.Start + x.Cells.length) : ∃ p, atR x t = some p :=
  ⟨x.Cells[(t - x.Start).toNat]'(by omega), atR_some.2 ⟨hp, (t - x.Start).toNat, by omega, List.getElem?_eq_getElem _⟩⟩
theorem atR_range {x : Route} {t p : Int} (h : atR x t = some p) : x.Start ≤ t ∧ t < x.Start + x.Cells.length := by
  obtain ⟨_, k, rfl, hk⟩ := atR_some.1 h
  have := (List.getElem?_eq_some_iff.1 hk).1
  omega
end Go.Proofs.YtadahmihkbpglaaDoor
