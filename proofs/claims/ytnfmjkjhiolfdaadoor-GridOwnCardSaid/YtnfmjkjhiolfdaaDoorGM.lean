/- The reference's Next; GridNext, walked. -/
import Derived.Test.YtnfmjkjhiolfdaaDoorGL
import Derived.Test.YtnfmjkjhiolfdaaDoorGH
set_option linter.unusedVariables false
set_option linter.unusedSimpArgs false
namespace Go.Proofs.YtnfmjkjhiolfdaaDoor
open Go Go.Sx Go.Proofs
set_option maxHeartbeats 4000000 in
theorem rNext_spec {W0 : World} {H : Heap} {c : List Value} {m : Map} {x : Int} (h0 : rMap H c m) (hg : headM m) :
    Ct Tryd.prog 33 #[.agg c.toArray, I x] W0 H [] (fun r H' B => B = [ownS rInt 1 8 3 H r (nextR m x)] ∧ H' = H) := by
  refine Ct.go (vs := [.agg c.toArray, I x]) fun R => ?_
  have g0 := h0
  have har := area_fits hg.1
  have hr := area hg.1
  obtain ⟨s0, rfl, f1, f2, f3, h0⟩ := h0
  refine walk ?_
  refine ops_box rfl rfl fun p2 _ => ?_
  refine walk ?_
  refine ex_L (ownS_nil (R := rInt) (sz := 1) (w := 8) (T := 3) (H := H) (base := none)) ?_
  refine ex_loop (σ := Nat × Value) (fun s => s.1 ≤ (m.W * m.H).toNat) (fun s => [(1, I x), (2, .pointer (some ⟨p2, 0, none⟩)), (5, s.2), (6, I s.1)]) (fun _ => H) (fun s => row p2 24 (m.cv s0) :: ownS rInt 1 8 3 H s.2 (nextU m x s.1) :: R) (fun s => (m.W * m.H).toNat - s.1) (0, nilS) (Nat.zero_le _) (hs0 := fun _ h => big_swap h) fun ⟨k, v⟩ hk0 K hL => ?_
  simp only at hk0
  dsimp only
  refine walk ?_
  refine ex_if rfl (fun hk => ?_) (fun hk => ?_)
  · refine walk ?_
    refine ops_pcall rfl rfl (rFree_spec g0 har) ?_
    refine walkG ?_
    refine ops_gcall rfl rfl (fun hg' => rFree_spec g0 har) ?_
    refine walkG ?_
    refine ops_gcall rfl rfl (fun hg' => rBeside_spec g0 hg.1) ?_
    refine walkG ?_
    have hbound : (k : Int) + 1 ≤ 256 := by omega
    have hstep := nextU_succ (m := m) (x := x) (k := k)
    have hlen := nextU_len (m := m) (x := x) (k := k)
    have fk : fits (k : Int) := by unfold fits; omega
    refine ex_if rfl (fun hq => ?_) (fun hq => ?_)
    · have hq' : freeC m x ∧ stepTo m x k := ⟨hq.1.1, hq.1.2, hq.2⟩
      rw [if_pos hq'] at hstep
      refine walk ?_
      refine ops_app1 (y := (k : Int)) rfl rfl rfl ⟨rfl, fk⟩ (by simp only [cap47]; omega) fun d1 e1 => ?_
      refine walk ?_
      refine out_next hL (k + 1, _) (by simp only; omega) (hs := ?_)
      dsimp only
      rw [hstep]
      (repeat (first | exact Sub.refl _ | exact Sub.nil _ | (apply sub_pick; (repeat (first | exact Has.here | apply Has.there)); skip) | apply Sub.drop))
    · have hq' : ¬ (freeC m x ∧ stepTo m x k) := fun e => hq ⟨⟨e.1, e.2.1⟩, e.2.2⟩
      rw [if_neg hq'] at hstep
      refine walk ?_
      refine out_next hL (k + 1, v) (by simp only; omega) (hs := ?_)
      dsimp only
      rw [hstep]
      (repeat (first | exact Sub.refl _ | exact Sub.nil _ | (apply sub_pick; (repeat (first | exact Has.here | apply Has.there)); skip) | apply Sub.drop))
  · clear hL
    obtain rfl : k = (m.W * m.H).toNat := by omega
    refine walk ?_
    refine finB [ownS rInt 1 8 3 H v (nextR m x)] ?_
    exact ⟨rfl, rfl⟩
end Go.Proofs.YtnfmjkjhiolfdaaDoor
