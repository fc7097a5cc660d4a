/- Keys of any numbers, as they are written. No program in sight. -/
import Derived.Test.YtnfmjkjhiolfdaaDoorGD
set_option linter.unusedVariables false
set_option linter.unusedSimpArgs false
namespace Go.Proofs.YtnfmjkjhiolfdaaDoor
open Go Go.Sx Go.Proofs
theorem dgs_neg {n : Int} (h : n < 0) : dgs n = 45 :: nd n.natAbs := by
  unfold dgs; rw [if_neg (by omega), if_pos h]; rfl
theorem dgs_head {n : Int} (h : 0 ≤ n) : ∃ d r, dgs n = d :: r ∧ isDig d := by
  have hd := dgs_dig h
  cases e : dgs n with
  | nil =>
    exfalso
    unfold dgs at e
    split at e
    · cases e
    · next h0 =>
      rw [if_neg (by omega), nd_step (by omega)] at e
      simp at e
  | cons d r => exact ⟨d, r, rfl, hd d (by rw [e]; simp)⟩
theorem dgs_injA {a b : Int} (h : dgs a = dgs b) : a = b := by
  by_cases ha : 0 ≤ a
  · by_cases hb : 0 ≤ b
    · exact dgs_inj ha hb h
    · obtain ⟨d, r, e, hd⟩ := dgs_head ha
      rw [dgs_neg (n := b) (by omega), e] at h
      injection h with h1 h2
      subst h1; exact absurd hd nd45
  · by_cases hb : 0 ≤ b
    · obtain ⟨d, r, e, hd⟩ := dgs_head hb
      rw [dgs_neg (n := a) (by omega), e] at h
      injection h with h1 h2
      subst h1; exact absurd hd nd45
    · rw [dgs_neg (n := a) (by omega), dgs_neg (n := b) (by omega)] at h
      injection h with h1 h2
      have h3 := congrArg dval h2
      rw [nd_val, nd_val] at h3
      omega
theorem cut_dgs {s : UInt8} (hs : ¬ isDig s) {a a' : Int} {v v' : List UInt8} (h : dgs a ++ s :: v = dgs a' ++ s :: v') : a = a' ∧ v = v' := by
  by_cases ha : 0 ≤ a
  · by_cases hb : 0 ≤ a'
    · obtain ⟨e1, e2⟩ := cut_at hs (dgs_dig ha) (dgs_dig hb) h
      exact ⟨dgs_inj ha hb e1, e2⟩
    · obtain ⟨d, r, e, hd⟩ := dgs_head ha
      rw [dgs_neg (n := a') (by omega), e] at h
      injection h with h1 h2
      subst h1; exact absurd hd nd45
  · by_cases hb : 0 ≤ a'
    · obtain ⟨d, r, e, hd⟩ := dgs_head hb
      rw [dgs_neg (n := a) (by omega), e] at h
      injection h with h1 h2
      subst h1; exact absurd hd nd45
    · rw [dgs_neg (n := a) (by omega), dgs_neg (n := a') (by omega)] at h
      injection h with h1 h2
      obtain ⟨e1, e2⟩ := cut_at hs (nd_dig _) (nd_dig _) h2
      have h3 := congrArg dval e1
      rw [nd_val, nd_val] at h3
      exact ⟨by omega, e2⟩
theorem slot_injA {c c' t t' : Int} : slotL c t = slotL c' t' ↔ c = c' ∧ t = t' := by
  constructor
  · intro h
    simp only [slotL, List.append_assoc, List.cons_append, List.nil_append, List.cons.injEq, true_and] at h
    obtain ⟨e1, e2⟩ := cut_dgs nd64 h
    exact ⟨e1, dgs_injA e2⟩
  · rintro ⟨rfl, rfl⟩; rfl
theorem pass_injA {a b a' b' t t' : Int} : passL a b t = passL a' b' t' ↔ (min a b = min a' b' ∧ max a b = max a' b') ∧ t = t' := by
  constructor
  · intro h
    simp only [passL, List.append_assoc, List.cons_append, List.nil_append, List.cons.injEq, true_and] at h
    obtain ⟨e1, h⟩ := cut_dgs nd45 h
    obtain ⟨e2, h⟩ := cut_dgs nd64 h
    exact ⟨⟨e1, e2⟩, dgs_injA h⟩
  · rintro ⟨⟨h1, h2⟩, rfl⟩; unfold passL; rw [h1, h2]
theorem pass_comm {a b t : Int} : passL a b t = passL b a t := by
  unfold passL; rw [Int.min_comm, Int.max_comm]
theorem sb_iff {a b : List UInt8} : sb a = sb b ↔ a = b := ⟨sb_inj, fun h => by rw [h]⟩
/-- what is read back of a slot -/
theorem slot_key {c t : Int} {k : Int × Int × Int} : isKey (slotL c t) k ↔ (tickI c ∧ tickI t) ∧ k = (c, -1, t) := by
  obtain ⟨x, y, z⟩ := k
  constructor
  · rintro (⟨h1, h2, h3, h4⟩ | ⟨h1, h2, h3, h4, h5⟩)
    · simp only at h1 h2 h3 h4
      obtain ⟨rfl, rfl⟩ := slot_injA.1 h4
      subst h1
      exact ⟨⟨h2, h3⟩, rfl⟩
    · exact absurd h5 slot_pass
  · rintro ⟨⟨h1, h2⟩, e⟩
    cases e
    exact .inl ⟨rfl, h1, h2, rfl⟩
/-- what is read back of a passage -/
theorem pass_key {a b t : Int} {k : Int × Int × Int} : isKey (passL a b t) k ↔ ((tickI a ∧ tickI t) ∧ tickI b ∧ a ≠ b) ∧ k = (min a b, max a b, t) := by
  obtain ⟨x, y, z⟩ := k
  constructor
  · rintro (⟨h1, h2, h3, h4⟩ | ⟨h1, h2, h3, h4, h5⟩)
    · exact absurd h4.symm slot_pass
    · simp only at h1 h2 h3 h4 h5
      obtain ⟨⟨e1, e2⟩, rfl⟩ := pass_injA.1 h5
      rw [show min x y = x by omega] at e1
      rw [show max x y = y by omega] at e2
      subst e1 e2
      have t1 : tickI a := by simp only [tickI] at *; omega
      have t2 : tickI b := by simp only [tickI] at *; omega
      exact ⟨⟨⟨t1, h4⟩, t2, by omega⟩, rfl⟩
  · rintro ⟨⟨⟨h1, h2⟩, h3, h4⟩, e⟩
    cases e
    refine .inr ⟨?_, ?_, ?_, h2, ?_⟩
    · simp only [tickI] at *; omega
    · simp only [tickI] at *; omega
    · simp only; omega
    · exact pass_injA.2 ⟨⟨by simp only; omega, by simp only; omega⟩, rfl⟩
end Go.Proofs.YtnfmjkjhiolfdaaDoor
