/- The planner's small functions. -/
import Derived.Test.YtadahmihkbpglaaDoorPF
import Derived.Test.YtadahmihkbpglaaDoorBF
set_option linter.unusedVariables false
set_option linter.unusedSimpArgs false
namespace Go.Proofs.YtadahmihkbpglaaDoor
open Go Go.Sx Go.Proofs
def laterBad (t n : Int) : Prop := (¬ tickI t ∨ n < -t) ∨ 1073741824 - t < n
instance {t n : Int} : Decidable (laterBad t n) := by unfold laterBad; infer_instance
def laterV (t n : Int) : Value := if laterBad t n then .tuple #[I 0, I 122] else .tuple #[I (t + n), I 0]
theorem later_spec {W0 : World} {H : Heap} {t n : Int} (hn : fits n) :
    Ct Tryd.prog 46 #[I t, I n] W0 H [] (fun r H' B => r = laterV t n ∧ B = [] ∧ H' = H) := by
  refine Ct.go fun R => ?_
  refine walkG ?_
  refine ex_if rfl (fun h => ?_) (fun h => ?_)
  · refine walk ?_
    refine fin0 ?_
    refine ⟨?_, rfl, rfl⟩
    unfold laterV
    rw [if_pos (by unfold laterBad tickI; omega)]
  · have h1 : tickI t := by unfold tickI; omega
    have h2 := h1
    simp only [tickI] at h2
    have hf : fits (t + n) := by unfold fits; omega
    refine walk ?_
    refine fin0 ?_
    refine ⟨?_, rfl, rfl⟩
    unfold laterV
    rw [if_neg (by unfold laterBad tickI; omega)]
theorem far_spec {W0 : World} {H : Heap} {p : Value} {m : Map} {x y : Int} (h : rG H p m) (hx : isC m x) (hy : isC m y) :
    Ct Tryd.prog 28 #[p, I x, I y] W0 H [] (fun r H' B => r = I (distM m y x) ∧ B = [] ∧ H' = H) := by
  refine Ct.go fun R => ?_
  have hw := h.good.1.1
  obtain ⟨⟨a1, a2⟩, a3, a4⟩ := cell_xy hw hx
  obtain ⟨⟨b1, b2⟩, b3, b4⟩ := cell_xy hw hy
  simp only [sidesM] at hw
  refine walk ?_
  refine ops_pcall rfl rfl (place_yes h hx) ?_
  refine walk ?_
  refine ops_pcall rfl rfl (place_yes h hy) ?_
  have g1 : fits (x.tmod m.W - y.tmod m.W) := by unfold fits; omega
  have g2 : fits (y.tmod m.W - x.tmod m.W) := by unfold fits; omega
  have g3 : fits (x.tdiv m.W - y.tdiv m.W) := by unfold fits; omega
  have g4 : fits (y.tdiv m.W - x.tdiv m.W) := by unfold fits; omega
  have g5 : fits (max (x.tmod m.W - y.tmod m.W) (y.tmod m.W - x.tmod m.W) + max (x.tdiv m.W - y.tdiv m.W) (y.tdiv m.W - x.tdiv m.W)) := by unfold fits; omega
  refine walk ?_
  refine fin0 ?_
  exact ⟨rfl, rfl, rfl⟩
end Go.Proofs.YtadahmihkbpglaaDoor
