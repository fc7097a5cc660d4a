/- The reference's Less. -/
import Derived.Test.YtkhbfjkioehgfaaGreatDoorLK
set_option linter.unusedVariables false
set_option linter.unusedSimpArgs false
namespace Go.Proofs.YtkhbfjkioehgfaaGreatDoor
open Go Go.Sx Go.Proofs
theorem less_spec {W0 : World} {H : Heap} {x y : K3} :
    Ct Tryz.prog 48 #[.agg #[I x.1, I x.2.1, I x.2.2], .agg #[I y.1, I y.2.1, I y.2.2]] W0 H [] (fun r H' B => r = .bool (decide (ltK x y)) ∧ B = [] ∧ H' = H) := by
  refine Ct.go (vs := [.agg #[I x.1, I x.2.1, I x.2.2], .agg #[I y.1, I y.2.1, I y.2.2]]) fun R => ?_
  obtain ⟨x1, x2, x3⟩ := x
  obtain ⟨y1, y2, y3⟩ := y
  dsimp only
  refine walk ?_
  refine ops_box rfl rfl fun p1 _ => ?_
  refine ops_box rfl rfl fun p2 _ => ?_
  refine walk ?_
  refine ex_if rfl (fun h1 => ?_) (fun h1 => ?_)
  · refine walk ?_
    refine fin0 ?_
    exact ⟨bdec (by unfold ltK; simp only; omega), rfl, rfl⟩
  refine walk ?_
  refine ex_if rfl (fun h2 => ?_) (fun h2 => ?_)
  · refine walk ?_
    refine fin0 ?_
    exact ⟨bdec (by unfold ltK; simp only; omega), rfl, rfl⟩
  refine walk ?_
  refine fin0 ?_
  exact ⟨bdec (by unfold ltK; simp only; omega), rfl, rfl⟩
end Go.Proofs.YtkhbfjkioehgfaaGreatDoor
