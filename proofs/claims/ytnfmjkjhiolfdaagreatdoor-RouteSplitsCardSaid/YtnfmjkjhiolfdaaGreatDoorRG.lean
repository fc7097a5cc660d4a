/- The reference's Meet. -/
import Derived.Test.YtnfmjkjhiolfdaaGreatDoorBI
import Derived.Test.YtnfmjkjhiolfdaaGreatDoorKC
set_option linter.unusedVariables false
set_option linter.unusedSimpArgs false
namespace Go.Proofs.YtnfmjkjhiolfdaaGreatDoor
open Go Go.Sx Go.Proofs
theorem meetR_comm {x y : Route} (h : meetR x y) : meetR y x := by
  obtain ⟨⟨hx, hy⟩, t, p, q, e1, e2, h⟩ := h
  refine ⟨⟨hy, hx⟩, t, q, p, e2, e1, ?_⟩
  rcases h with h | ⟨u, v, h1, h2, h3, h4, h5⟩
  · exact .inl h.symm
  · exact .inr ⟨v, u, h2, h1, by rw [h5, ← h4]; exact fun e => h3 e.symm, h5, h4⟩
theorem meetB_comm {x y : Route} : meetB x y = meetB y x := by
  by_cases h : meetR x y
  · rw [meetB_true h, meetB_true (meetR_comm h)]
  · rw [meetB_false h, meetB_false fun e => h (meetR_comm e)]
theorem atR_at {x : Route} (hp : plainR x) {k : Nat} (hk : k < x.Cells.length) : atR x (x.Start + k) = some x.Cells[k] := atR_some.2 ⟨hp, k, rfl, List.getElem?_eq_getElem hk⟩
end Go.Proofs.YtnfmjkjhiolfdaaGreatDoor
