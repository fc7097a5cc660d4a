/- The reference's Read. -/
import Derived.Test.YtnfmjkjhiolfdaaDoorGB
set_option linter.unusedVariables false
set_option linter.unusedSimpArgs false
namespace Go.Proofs.YtnfmjkjhiolfdaaDoor
open Go Go.Sx Go.Proofs
/-- the number at the front, and its length -/
def digC (n : Nat) : List UInt8 → Nat × Nat
  | [] => (n, 0)
  | c :: r => if (48 ≤ c.toNat ∧ c.toNat ≤ 57) ∧ n < 1000000000000 then ((digC (10 * n + (c.toNat - 48)) r).1, (digC (10 * n + (c.toNat - 48)) r).2 + 1) else (n, 0)
theorem digC_len : ∀ {l : List UInt8} {n : Nat}, (digC n l).2 ≤ l.length
  | [], n => by simp [digC]
  | c :: r, n => by
    have := digC_len (l := r) (n := 10 * n + (c.toNat - 48))
    unfold digC; split
    · simp only [List.length_cons]; omega
    · simp
theorem digC_lt : ∀ {l : List UInt8} {n : Nat}, n < 10000000000009 → (digC n l).1 < 10000000000009
  | [], n, h => h
  | c :: r, n, h => by
    unfold digC; split
    · next h1 => exact digC_lt (by omega)
    · exact h
theorem digC_app {v : List UInt8} : ∀ {u : List UInt8} {a b : Nat}, digC a u = (b, u.length) → digC a (u ++ v) = ((digC b v).1, u.length + (digC b v).2)
  | [], a, b, h => by simp only [digC, List.length_nil, Prod.mk.injEq, and_true] at h; subst h; simp
  | c :: u, a, b, h => by
    by_cases h1 : (48 ≤ c.toNat ∧ c.toNat ≤ 57) ∧ a < 1000000000000
    · simp only [digC, if_pos h1, List.cons_append, List.length_cons, Prod.mk.injEq] at h ⊢
      have ih := digC_app (v := v) (u := u) (a := 10 * a + (c.toNat - 48)) (b := b) (Prod.ext h.1 (by have := h.2; simp only; omega))
      rw [ih]
      exact ⟨rfl, by simp only; omega⟩
    · simp [digC, h1] at h
theorem digC_nd {n : Nat} : n < 10000000000000 → digC 0 (nd n) = (n, (nd n).length) := by
  induction n using Nat.strongRecOn with
  | ind n ih =>
    intro hn
    by_cases h0 : n = 0
    · subst h0; simp [nd, digC]
    · have hd := dig_nat (k := n)
      have hs : digC (n / 10) [UInt8.ofNat (48 + n % 10)] = (n, 1) := by
        simp only [digC, hd]
        rw [if_pos (by omega)]
        simp only [Prod.mk.injEq, and_true]; omega
      rw [nd_step h0, digC_app (ih (n / 10) (by omega) (by omega)), hs]
      simp
theorem digC_stop {n : Nat} {x : UInt8} {r : List UInt8} (hx : ¬ isDig x) : digC n (x :: r) = (n, 0) := by
  unfold digC; rw [if_neg]; rintro ⟨h, _⟩; exact hx h
theorem digC_dgs {t : Int} (h : tickI t) {r : List UInt8} (hr : r = [] ∨ ∃ x q, r = x :: q ∧ ¬ isDig x) : digC 0 (dgs t ++ r) = (t.toNat, (dgs t).length) := by
  have hd : digC 0 (dgs t) = (t.toNat, (dgs t).length) := by
    unfold dgs
    split
    · next h => subst h; rfl
    · rw [if_neg (by simp only [tickI] at h; omega), show t.natAbs = t.toNat by omega]; exact digC_nd (by simp only [tickI] at h; omega)
  rw [digC_app hd]
  rcases hr with rfl | ⟨x, q, rfl, hx⟩
  · simp [digC]
  · rw [digC_stop hx]; simp
set_option maxHeartbeats 8000000 in
theorem digitsR_spec {W0 : World} {H : Heap} {l : List UInt8} {at0 : Nat} (hl : l.length ≤ cap47) (ha : at0 ≤ cap47 + 2) :
    Ct Tryd.prog 68 #[.string (sb l), I at0] W0 H [] (fun r H' B => r = .tuple #[I (digC 0 (l.drop at0)).1, I (at0 + (digC 0 (l.drop at0)).2 : Nat)] ∧ B = [] ∧ H' = H) := by
  refine Ct.go fun R => ?_
  simp only [cap47] at hl ha
  have hsz : (sb l).size = l.length := sb_size l
  refine walk ?_
  refine ex_loop (σ := Nat × Nat) (fun s => s.1 < 10000000000009 ∧ (at0 ≤ s.2 ∧ (s.2 ≤ l.length ∨ s.2 = at0)) ∧ (digC 0 (l.drop at0)).1 = (digC s.1 (l.drop s.2)).1 ∧ at0 + (digC 0 (l.drop at0)).2 = s.2 + (digC s.1 (l.drop s.2)).2) (fun s => [(0, .string (sb l)), (1, I s.2), (6, I s.1)]) (fun _ => H) (fun _ => R) (fun s => l.length - s.2) (0, at0) ⟨by simp, ⟨by simp, .inr rfl⟩, rfl, rfl⟩ fun ⟨n, p⟩ ⟨hn, hp, h1, h2⟩ K hL => ?_
  simp only at hn hp h1 h2
  dsimp only
  refine walkG ?_
  refine ex_if rfl (fun hc => ?_) (fun hc => ?_)
  · obtain ⟨⟨⟨c1, c2⟩, c3⟩, c4⟩ := hc
    have hpl : p < l.length := by omega
    have hdrop : l.drop p = l.getD p 0 :: l.drop (p + 1) := by rw [List.drop_eq_getElem_cons hpl]; simp [List.getD, hpl]
    rw [hdrop] at h1 h2
    have hpi : p < l.length := hpl
    have hw : ∀ x : UInt8, (48 : Int) ≤ x.toNat → IntKind.u8.wrap ((x.toNat : Int) - 48) = ((x.toNat - 48 : Nat) : Int) := fun x hx => by
      have := x.toNat_lt
      simp [IntKind.wrap, IntKind.bits, IntKind.signed]; omega
    have hf1 : fits (10 * (n : Int)) := by unfold fits; omega
    refine walk ?_
    rw [hw _ c2]
    have hf2 : fits (((l.getD p 0).toNat - 48 : Nat) : Int) := by unfold fits; omega
    refine walk ?_
    have hstep : digC n (l.getD p 0 :: l.drop (p + 1)) = ((digC (10 * n + ((l.getD p 0).toNat - 48)) (l.drop (p + 1))).1, (digC (10 * n + ((l.getD p 0).toNat - 48)) (l.drop (p + 1))).2 + 1) := by
      rw [digC, if_pos ⟨⟨by omega, by omega⟩, by omega⟩]
    rw [hstep] at h1 h2
    refine out_next hL (10 * n + ((l.getD p 0).toNat - 48), p + 1) ⟨by simp only; omega, by simp only; omega, h1, by simp only at h2 ⊢; omega⟩
  · clear hL
    have hend : digC n (l.drop p) = (n, 0) := by
      by_cases hpl : p < l.length
      · rw [List.drop_eq_getElem_cons hpl, digC, if_neg]
        rintro ⟨e1, e2⟩
        have hg : l.getD p 0 = l[p] := by simp [List.getD, hpl]
        exact hc ⟨⟨⟨by omega, by rw [hg]; omega⟩, by rw [hg]; omega⟩, by omega⟩
      · rw [List.drop_eq_nil_of_le (by omega)]; rfl
    rw [hend] at h1 h2
    refine walk ?_
    refine fin0 ?_
    exact ⟨by rw [h1, h2]; simp, rfl, rfl⟩
end Go.Proofs.YtnfmjkjhiolfdaaDoor
