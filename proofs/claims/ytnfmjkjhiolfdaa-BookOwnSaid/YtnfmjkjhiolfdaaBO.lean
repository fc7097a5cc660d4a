/- A call with a list of its own. -/
import Derived.Test.YtnfmjkjhiolfdaaBN
set_option linter.unusedVariables false
set_option linter.unusedSimpArgs false
namespace Go.Proofs.Ytnfmjkjhiolfdaa
open Go Go.Sx Go.Proofs
theorem slr_take {α : Type} {R : Rd α} {sz : Nat} [RdOk R sz] {H : Heap} {base : Option Addr} {m cap k : Nat} {xs : List α} (hr : SlR R sz H (.slice base m cap) xs) (h : k ≤ xs.length) : SlR R sz H (.slice base k cap) (xs.take k) := by
  obtain ⟨cs, ⟨base', cap', e, hc, hl, h1c, he⟩, b⟩ := hr
  cases e
  have hk : (xs.take k).length = k := by simp; omega
  have hmul : k * sz ≤ xs.length * sz := Nat.mul_le_mul_right _ h
  refine ⟨cs.take (k * sz), hk.symm ▸ ⟨_, _, rfl, by omega, by rw [List.length_take, hl]; omega, ?_, ?_⟩, b.take h⟩
  · simp only [List.all_eq_true] at h1c ⊢
    exact fun u hu => h1c u (List.mem_of_mem_take hu)
  · rcases he with he | ⟨b, off, rfl, hrow⟩
    · exact .inl (by omega)
    · exact .inr ⟨b, off, rfl, hrow.take⟩
/-- a route with a list of its own, not too long -/
def clipR (x : Route) : Route := ⟨x.Start, x.Cells.take 40⟩
def ownC (c : Call) : Call := ⟨c.Verb, c.Epoch, clipR c.Route⟩
theorem own13_spec {W0 : World} {H : Heap} {c : List Value} {x : Route} (h0 : rRoute H c x) :
    Ct Try.prog 25 #[.agg c.toArray] W0 H [] (fun r H' B => ∃ s, r = .agg [I x.Start, s].toArray ∧ B = [ownS rInt 1 8 3 H s (clipR x).Cells] ∧ H' = H) := by
  refine Ct.go (vs := [.agg c.toArray]) fun R => ?_
  obtain ⟨s0, rfl, f0, h0⟩ := h0
  obtain ⟨b0, c0, rfl, hc0, hd0⟩ := h0.1.shape
  have hk : (min (x.Cells.length : Int) 40).toNat = (clipR x).Cells.length := by simp [clipR]; omega
  have hs := slr_take (k := (clipR x).Cells.length) h0.1 (by simp [clipR]; omega)
  rw [show x.Cells.take (clipR x).Cells.length = (clipR x).Cells by simp [clipR, List.take_take]] at hs
  refine walk ?_
  refine ops_box rfl rfl fun p1 _ => ?_
  refine ops_alloc rfl fun p2 _ => ?_
  refine walk ?_
  refine ops_mk0 (w := 8) rInt rfl fun b1 => ?_
  refine walk ?_
  rw [hk]
  refine ops_appS rfl rfl hs (by simp [clipR, cap47]; omega) fun d1 e1 => ?_
  simp only [List.length_nil, Nat.zero_add, List.nil_append]
  refine walk ?_
  refine finB [ownS rInt 1 8 3 H (.slice d1 (clipR x).Cells.length e1) (clipR x).Cells] ?_
  exact ⟨_, rfl, rfl, rfl⟩
theorem own_spec {W0 : World} {H : Heap} {cc : List Value} {c : Call} (h0 : rCall H cc c) :
    Ct Try.prog 12 #[.agg cc.toArray] W0 H [] (fun r H' B => ∃ s, r = .agg ((ownC c).cv s).toArray ∧ B = [ownS rInt 1 8 3 H s (ownC c).Route.Cells] ∧ H' = H) := by
  refine Ct.go (vs := [.agg cc.toArray]) fun R => ?_
  obtain ⟨s0, rfl, f1, f2, f3, h0⟩ := h0
  obtain ⟨b0, c0, rfl, hc0, hd0⟩ := h0.1.shape
  refine walk ?_
  refine ops_box rfl rfl fun p1 _ => ?_
  refine ops_alloc rfl fun p2 _ => ?_
  refine walk ?_
  refine ops_call rfl rfl (own13_spec (x := c.Route) ⟨_, rfl, f3, h0⟩) fun r1 H1 B hl1 ⟨v, er, eB, eH⟩ => ?_
  subst er eB eH
  refine ops_shape v fun d1 e1 e _ _ _ => ?_
  subst e
  refine walk ?_
  refine finB [ownS rInt 1 8 3 H1 (.slice d1 (clipR c.Route).Cells.length e1) (clipR c.Route).Cells] ?_
  exact ⟨_, rfl, rfl, rfl⟩
theorem ownC_len {c : Call} : (ownC c).Route.Cells.length ≤ 40 := by simp [ownC, clipR]; omega
end Go.Proofs.Ytnfmjkjhiolfdaa
