/- What Plan answers, as one value; a job with a list of its own; the fixed fact. -/
import Derived.Test.YtadahmihkbpglaaDoorPJ
import Derived.Test.YtadahmihkbpglaaDoorRB
set_option linter.unusedVariables false
set_option linter.unusedSimpArgs false
namespace Go.Proofs.YtadahmihkbpglaaDoor
open Go Go.Sx Go.Proofs
/-- there is a plan -/
def hasP (m : Map) (j : Job) : Prop := lookV m j = 0 ∧ (planT m j.Taken j.Goal (j.N - 1).toNat j.Tick j.Cell).isSome = true
instance {m : Map} {j : Job} : Decidable (hasP m j) := by unfold hasP; infer_instance
def planRt (m : Map) (j : Job) : Route := if hasP m j then ⟨j.Tick, planP m j.Taken j.Goal (j.N - 1).toNat j.Tick j.Cell⟩ else ⟨0, []⟩
def planC (m : Map) (j : Job) : Int := if lookV m j ≠ 0 then lookV m j else if hasP m j then 0 else 180
def PlanR (m : Map) (j : Job) (r : Value) (H' : Heap) (B : List HProp) : Prop := ∃ v, r = .tuple #[.agg [I (planRt m j).Start, v].toArray, I (planC m j)] ∧ B = [ownS rInt 1 8 3 H' v (planRt m j).Cells]
theorem plan_any {W0 : World} {H : Heap} {p : Value} {c : List Value} {m : Map} {j : Job} (hT : TabH Tryd.prog H) (h : rG H p m) (h0 : rJob H c j) (hl : j.Taken.length ≤ 100) :
    Ct Tryd.prog 11 #[p, .agg c.toArray] W0 H [] (PlanR m j) := by
  intro w R hS
  refine (plan_spec hT h h0 hl w R hS).mono fun e w' ⟨r, H', B, h1, h2, h3, h4⟩ => ?_
  rcases h3 with ⟨a, rfl, rfl⟩ | ⟨a, b, rfl, rfl⟩ | ⟨a, b, v, rfl, rfl⟩
  · have hn : ¬ hasP m j := fun e => a e.1
    exact ⟨_, _, _, h1, h2, ⟨nilS, by simp only [planRt, planC]; rw [if_neg hn, if_pos a], by simp only [planRt]; rw [if_neg hn]⟩, h4.sub (ownS_nil (R := rInt) (sz := 1) (w := 8) (T := 3) (H := H') (base := none))⟩
  · have hn : ¬ hasP m j := fun e => by have := e.2; rw [b] at this; cases this
    exact ⟨_, _, _, h1, h2, ⟨nilS, by simp only [planRt, planC]; rw [if_neg hn, if_neg (fun e => e a), if_neg hn], by simp only [planRt]; rw [if_neg hn]⟩, h4.sub (ownS_nil (R := rInt) (sz := 1) (w := 8) (T := 3) (H := H') (base := none))⟩
  · have hn : hasP m j := ⟨a, b⟩
    exact ⟨_, _, _, h1, h2, ⟨v, by simp only [planRt, planC]; rw [if_pos hn, if_neg (fun e => e a), if_pos hn], by simp only [planRt]; rw [if_pos hn]⟩, h4⟩
/-- a job with a list of its own, not too long -/
def clipJ (j : Job) : Job := ⟨j.Cell, j.Tick, j.Goal, j.N, j.Taken.take 60⟩
theorem clipJ2 {j : Job} : clipJ (clipJ j) = clipJ j := by simp [clipJ, List.take_take]
theorem own18_spec {W0 : World} {H : Heap} {c : List Value} {j : Job} (h0 : rJob H c j) :
    Ct Tryd.prog 10 #[.agg c.toArray] W0 H [] (fun r H' B => ∃ s, r = .agg ((clipJ j).cv s).toArray ∧ B = [ownS rStr 1 16 9 H s (clipJ j).Taken] ∧ H' = H) := by
  refine Ct.go (vs := [.agg c.toArray]) fun R => ?_
  obtain ⟨s0, rfl, f1, f2, f3, f4, h0⟩ := h0
  obtain ⟨b0, c0, rfl, hc0, hd0⟩ := h0.1.shape
  have hk : (min (j.Taken.length : Int) 60).toNat = (clipJ j).Taken.length := by simp [clipJ]; omega
  have hs := slr_take (k := (clipJ j).Taken.length) h0.1 (by simp [clipJ]; omega)
  rw [show j.Taken.take (clipJ j).Taken.length = (clipJ j).Taken by simp [clipJ, List.take_take]] at hs
  refine walk ?_
  refine ops_box rfl rfl fun p1 _ => ?_
  refine ops_alloc rfl fun p2 _ => ?_
  refine walk ?_
  refine ops_mk0 (w := 16) rStr rfl fun b1 => ?_
  refine walk ?_
  rw [hk]
  refine ops_appS rfl rfl hs (by simp [clipJ, cap47]; omega) fun d1 e1 => ?_
  simp only [List.length_nil, Nat.zero_add, List.nil_append]
  refine walk ?_
  refine finB [ownS rStr 1 16 9 H (.slice d1 (clipJ j).Taken.length e1) (clipJ j).Taken] ?_
  exact ⟨_, rfl, rfl, rfl⟩
def jm : Map := ⟨3, 1, 1, []⟩
def ja : Job := ⟨0, 5, 2, 4, []⟩
def jb : Job := ⟨0, 5, 2, 4, [sb [99, 49, 64, 54]]⟩
theorem ja_has : hasP jm ja := by decide +kernel
theorem jb_has : hasP jm jb := by decide +kernel
theorem ja_plan : planRt jm ja = ⟨5, [0, 1, 2, 2]⟩ := by decide +kernel
theorem jb_plan : planRt jm jb = ⟨5, [0, 0, 1, 2]⟩ := by decide +kernel
theorem ja_code : planC jm ja = 0 := by decide +kernel
theorem jb_code : planC jm jb = 0 := by decide +kernel
end Go.Proofs.YtadahmihkbpglaaDoor
