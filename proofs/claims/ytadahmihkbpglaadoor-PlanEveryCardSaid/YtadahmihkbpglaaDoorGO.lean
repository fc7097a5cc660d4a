/- The map of a grid, a cell of it. -/
import Derived.Test.YtadahmihkbpglaaDoorBD
import Derived.Test.YtadahmihkbpglaaDoorE27
set_option linter.unusedVariables false
set_option linter.unusedSimpArgs false
namespace Go.Proofs.YtadahmihkbpglaaDoor
open Go Go.Sx Go.Proofs
set_option maxHeartbeats 4000000 in
theorem map_spec {W0 : World} {H : Heap} {p : Value} {m : Map} (h : rG H p m) :
    Ct Tryd.prog 25 #[p] W0 H [] (fun r H' B => ∃ s, r = .agg (m.cv s).toArray ∧ B = [ownS rInt 1 8 3 H s m.Blocked] ∧ H' = H) := by
  refine Ct.go fun R => ?_
  obtain ⟨⟨b, s, mb, mm, rfl, h1, h2, h3, h4⟩, hg, hfs⟩ := h
  obtain ⟨b0, c0, rfl, _, _⟩ := h2.1.shape
  refine walk ?_
  refine ops_alloc rfl fun p2 _ => ?_
  refine walk ?_
  have h1' : HRow H b 0 [I m.W, I m.H, I m.Shards, .slice b0 m.Blocked.length c0] := (HRow.app (cs := [I m.W, I m.H, I m.Shards, .slice b0 m.Blocked.length c0]) (ds := [.map (some mb)]) h1).1
  refine ops_ldNH rfl rfl h1' rfl ?_
  refine ops_alloc rfl fun p3 _ => ?_
  refine walk ?_
  refine ops_call rfl rfl (cloneI_spec h2) fun r1 H1 B hl1 ⟨eB, eH⟩ => ?_
  subst eB eH
  refine walk ?_
  refine ops_shape r1 fun d1 e1 e _ _ _ => ?_
  subst e
  refine walk ?_
  refine finB [ownS rInt 1 8 3 H1 (.slice d1 m.Blocked.length e1) m.Blocked] ?_
  exact ⟨_, rfl, rfl, rfl⟩
def inC (m : Map) (x y : Int) : Prop := ((0 ≤ x ∧ x < m.W) ∧ 0 ≤ y) ∧ y < m.H
instance {m : Map} {x y : Int} : Decidable (inC m x y) := by unfold inC; infer_instance
end Go.Proofs.YtadahmihkbpglaaDoor
