/- What is wrong with a job. -/
import Derived.Test.YtadahmihkbpglaaDoorPH
set_option linter.unusedVariables false
set_option linter.unusedSimpArgs false
namespace Go.Proofs.YtadahmihkbpglaaDoor
open Go Go.Sx Go.Proofs
/-- what is wrong with a job; 0: nothing -/
def lookV (m : Map) (j : Job) : Int := if ¬ (freeC m j.Cell ∧ freeC m j.Goal) then 121 else if j.N < 1 ∨ 24 < j.N then 1 else if laterBad j.Tick (j.N - 1) then 122 else 0
theorem look_spec {W0 : World} {H : Heap} {p : Value} {c : List Value} {m : Map} {j : Job} (h : rG H p m) (h0 : rJob H c j) :
    Ct Tryd.prog 24 #[p, .agg c.toArray] W0 H [] (fun r H' B => r = I (lookV m j) ∧ B = [] ∧ H' = H) := by
  refine Ct.go (vs := [p, .agg c.toArray]) fun R => ?_
  obtain ⟨s0, rfl, f1, f2, f3, f4, h0⟩ := h0
  obtain ⟨b0, c0, rfl, _, _⟩ := h0.1.shape
  refine walk ?_
  refine ops_box rfl rfl fun p3 _ => ?_
  refine walk ?_
  refine ops_pcall rfl rfl (gFree_spec h) ?_
  refine walkG ?_
  refine ops_gcall rfl rfl (fun hg => gFree_spec h) ?_
  refine walkG ?_
  refine ex_if rfl (fun hq => ?_) (fun hq => ?_)
  · refine walk ?_
    refine fin0 ?_
    refine ⟨?_, rfl, rfl⟩
    unfold lookV
    rw [if_pos (fun e => by rcases hq with hq | hq; exact hq e.1; exact hq e.2)]
  have hfr : freeC m j.Cell ∧ freeC m j.Goal := ⟨Classical.not_not.1 fun e => hq (.inl e), Classical.not_not.1 fun e => hq (.inr e)⟩
  refine walkG ?_
  refine ex_if rfl (fun hn => ?_) (fun hn => ?_)
  · refine walk ?_
    refine fin0 ?_
    refine ⟨?_, rfl, rfl⟩
    unfold lookV
    rw [if_neg (fun e => e hfr), if_pos hn]
  have fn : fits (j.N - 1) := by unfold fits; omega
  refine walk ?_
  refine ops_pcall rfl rfl (later_spec fn) ?_
  unfold laterV
  by_cases hb : laterBad j.Tick (j.N - 1)
  · rw [if_pos hb]
    refine walk ?_
    refine fin0 ?_
    refine ⟨?_, rfl, rfl⟩
    unfold lookV
    rw [if_neg (fun e => e hfr), if_neg hn, if_pos hb]
  · rw [if_neg hb]
    refine walk ?_
    refine fin0 ?_
    refine ⟨?_, rfl, rfl⟩
    unfold lookV
    rw [if_neg (fun e => e hfr), if_neg hn, if_neg hb]
end Go.Proofs.YtadahmihkbpglaaDoor
