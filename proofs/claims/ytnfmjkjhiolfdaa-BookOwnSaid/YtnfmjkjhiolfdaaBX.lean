/- Keys in common mean that two routes meet. No program in sight. -/
import Derived.Test.YtnfmjkjhiolfdaaBQ
import Derived.Test.YtnfmjkjhiolfdaaBV
set_option linter.unusedVariables false
set_option linter.unusedSimpArgs false
namespace Go.Proofs.Ytnfmjkjhiolfdaa
open Go Go.Sx Go.Proofs
def isDig (b : UInt8) : Prop := 48 ≤ b.toNat ∧ b.toNat ≤ 57
def dval (l : List UInt8) : Nat := l.foldl (fun a b => a * 10 + (b.toNat - 48)) 0
theorem dval_snoc {l : List UInt8} {b : UInt8} : dval (l ++ [b]) = dval l * 10 + (b.toNat - 48) := by simp [dval]
theorem dig_nat {k : Nat} : (UInt8.ofNat (48 + k % 10)).toNat = 48 + k % 10 := by
  rw [UInt8.toNat_ofNat']; omega
theorem nd_val (n : Nat) : dval (nd n) = n := by
  induction n using Nat.strongRecOn with
  | ind n ih =>
    by_cases h : n = 0
    · subst h; simp [nd, dval]
    · rw [nd_step h, dval_snoc, ih (n / 10) (by omega), dig_nat]; omega
theorem nd_dig (n : Nat) : ∀ b ∈ nd n, isDig b := by
  induction n using Nat.strongRecOn with
  | ind n ih =>
    by_cases h : n = 0
    · subst h; simp [nd]
    · rw [nd_step h]
      intro b hb
      rcases List.mem_append.1 hb with hb | hb
      · exact ih (n / 10) (by omega) b hb
      · rw [List.mem_singleton.1 hb]; unfold isDig; rw [dig_nat]; omega
theorem dgs_dig {n : Int} (h : 0 ≤ n) : ∀ b ∈ dgs n, isDig b := by
  unfold dgs
  split
  · intro b hb; rw [List.mem_singleton.1 hb]; unfold isDig; decide
  · rw [if_neg (by omega)]; exact nd_dig _
theorem dgs_val {n : Int} (h : 0 ≤ n) : dval (dgs n) = n.toNat := by
  unfold dgs
  split
  · next e => subst e; decide
  · rw [if_neg (by omega), nd_val]; omega
theorem dgs_inj {a b : Int} (ha : 0 ≤ a) (hb : 0 ≤ b) (h : dgs a = dgs b) : a = b := by
  have h1 := dgs_val ha
  rw [h, dgs_val hb] at h1
  omega
/-- split at a byte that is no digit -/
theorem cut_at {s : UInt8} (hs : ¬ isDig s) : ∀ {u u' v v' : List UInt8}, (∀ b ∈ u, isDig b) → (∀ b ∈ u', isDig b) → u ++ s :: v = u' ++ s :: v' → u = u' ∧ v = v'
  | [], [], v, v', _, _, h => by simpa using h
  | [], b :: u', v, v', _, h2, h => by
    simp only [List.nil_append, List.cons_append, List.cons.injEq] at h
    exact absurd (h.1 ▸ h2 b (by simp)) hs
  | b :: u, [], v, v', h1, _, h => by
    simp only [List.nil_append, List.cons_append, List.cons.injEq] at h
    exact absurd (h.1 ▸ h1 b (by simp)) hs
  | b :: u, b' :: u', v, v', h1, h2, h => by
    simp only [List.cons_append, List.cons.injEq] at h
    obtain ⟨e1, e2⟩ := cut_at hs (fun x hx => h1 x (by simp [hx])) (fun x hx => h2 x (by simp [hx])) h.2
    exact ⟨by rw [h.1, e1], e2⟩
theorem slot_inj {c c' t t' : Int} (h1 : 0 ≤ c) (h2 : 0 ≤ c') (h3 : 0 ≤ t) (h4 : 0 ≤ t') (h : slotL c t = slotL c' t') : c = c' ∧ t = t' := by
  simp only [slotL, List.append_assoc, List.cons_append, List.nil_append, List.cons.injEq, true_and] at h
  obtain ⟨e1, e2⟩ := cut_at (s := 64) (by unfold isDig; decide) (dgs_dig h1) (dgs_dig h2) h
  exact ⟨dgs_inj h1 h2 e1, dgs_inj h3 h4 e2⟩
theorem pass_inj {a b a' b' t t' : Int} (h1 : 0 ≤ a) (h2 : 0 ≤ b) (h3 : 0 ≤ a') (h4 : 0 ≤ b') (h5 : 0 ≤ t) (h6 : 0 ≤ t') (h : passL a b t = passL a' b' t') : (min a b = min a' b' ∧ max a b = max a' b') ∧ t = t' := by
  simp only [passL, List.append_assoc, List.cons_append, List.nil_append, List.cons.injEq, true_and] at h
  obtain ⟨e1, e2⟩ := cut_at (s := 45) (by unfold isDig; decide) (dgs_dig (by omega)) (dgs_dig (by omega)) h
  obtain ⟨e3, e4⟩ := cut_at (s := 64) (by unfold isDig; decide) (dgs_dig (by omega)) (dgs_dig (by omega)) e2
  exact ⟨⟨dgs_inj (by omega) (by omega) e1, dgs_inj (by omega) (by omega) e3⟩, dgs_inj h5 h6 e4⟩
theorem slot_pass {c t a b t' : Int} : slotL c t ≠ passL a b t' := by
  intro h
  simp only [slotL, passL, List.append_assoc, List.cons_append, List.nil_append, List.cons.injEq] at h
  exact absurd h.1 (by decide)
theorem mem_keysFrom {k : List UInt8} : ∀ {l : List Int} {s : Int}, k ∈ keysFrom s l ↔ ∃ (i : Nat) (c : Int), l[i]? = some c ∧ (k = slotL c (s + i) ∨ ∃ d, l[i + 1]? = some d ∧ c ≠ d ∧ k = passL c d (s + i))
  | [], s => by simp [keysFrom]
  | [c], s => by
    simp only [keysFrom, List.mem_singleton]
    constructor
    · intro h; exact ⟨0, c, rfl, .inl (by simpa using h)⟩
    · rintro ⟨i, c', h, h2⟩
      cases i with
      | zero =>
        simp only [List.getElem?_cons_zero, Option.some.injEq] at h
        subst h
        rcases h2 with h2 | ⟨d, h2, _⟩
        · simpa using h2
        · simp at h2
      | succ i => simp at h
  | c :: d :: r, s => by
    rw [keysFrom, List.mem_append, mem_keysFrom (l := d :: r)]
    constructor
    · rintro (h | ⟨i, c', h1, h2⟩)
      · rcases List.mem_cons.1 h with h | h
        · exact ⟨0, c, rfl, .inl (by simpa using h)⟩
        · split at h
          · simp at h
          · next hne => exact ⟨0, c, rfl, .inr ⟨d, rfl, fun e => hne e.symm, by simpa using h⟩⟩
      · refine ⟨i + 1, c', by simpa using h1, ?_⟩
        rw [show s + ((i + 1 : Nat) : Int) = s + 1 + i by omega]
        simpa using h2
    · rintro ⟨i, c', h1, h2⟩
      cases i with
      | zero =>
        left
        simp only [List.getElem?_cons_zero, Option.some.injEq] at h1
        subst h1
        rcases h2 with h2 | ⟨d', h2, h3, h4⟩
        · exact List.mem_cons.2 (.inl (by simpa using h2))
        · simp only [Nat.zero_add, List.getElem?_cons_succ, List.getElem?_cons_zero, Option.some.injEq] at h2
          subst h2
          rw [if_neg (fun e => h3 e.symm)]
          exact List.mem_cons.2 (.inr (by simpa using h4))
      | succ i =>
        right
        refine ⟨i, c', by simpa using h1, ?_⟩
        rw [show s + 1 + (i : Int) = s + ((i + 1 : Nat) : Int) by omega]
        simpa using h2
theorem mem_keys {k : List UInt8} {x : Route} : k ∈ keysL x ↔ ∃ t c, atR x t = some c ∧ (k = slotL c t ∨ ∃ d, atR x (t + 1) = some d ∧ c ≠ d ∧ k = passL c d t) := by
  unfold keysL
  split
  · next hp =>
    rw [mem_keysFrom]
    constructor
    · rintro ⟨i, c, h1, h2⟩
      refine ⟨x.Start + i, c, atR_some.2 ⟨hp, i, rfl, h1⟩, ?_⟩
      rcases h2 with h2 | ⟨d, h2, h3, h4⟩
      · exact .inl h2
      · exact .inr ⟨d, atR_some.2 ⟨hp, i + 1, by omega, h2⟩, h3, h4⟩
    · rintro ⟨t, c, h1, h2⟩
      obtain ⟨_, i, rfl, h5⟩ := atR_some.1 h1
      refine ⟨i, c, h5, ?_⟩
      rcases h2 with h2 | ⟨d, h2, h3, h4⟩
      · exact .inl h2
      · obtain ⟨_, i', e, h2⟩ := atR_some.1 h2
        obtain rfl : i' = i + 1 := by omega
        exact .inr ⟨d, h2, h3, h4⟩
  · next hp =>
    constructor
    · intro h; cases h
    · rintro ⟨t, c, h, _⟩; exact absurd (atR_some.1 h).1 hp
/-- its cells and ticks are none below 0 -/
def nonneg (x : Route) : Prop := ∀ t c, atR x t = some c → 0 ≤ c ∧ 0 ≤ t
theorem okR.nonneg {m : Map} {x : Route} (h : okR m x) : nonneg x := fun t c e => by
  rcases h with rfl | h
  · rw [atR_zR] at e; cases e
  · obtain ⟨_, i, rfl, hi⟩ := atR_some.1 e
    have := h.s0
    exact ⟨(h.cells c (List.mem_of_getElem? hi)).2.1, by omega⟩
theorem keys_meet {x y : Route} (hx : nonneg x) (hy : nonneg y) : (∃ k ∈ keysL x, k ∈ keysL y) ↔ meetR x y := by
  rw [meetR_iff]
  constructor
  · rintro ⟨k, h1, h2⟩
    obtain ⟨t, c, e1, h1⟩ := mem_keys.1 h1
    obtain ⟨t', c', e2, h2⟩ := mem_keys.1 h2
    have n1 := hx t c e1
    have n2 := hy t' c' e2
    rcases h1 with rfl | ⟨d, g1, g2, rfl⟩
    · rcases h2 with h2 | ⟨d', g3, g4, h2⟩
      · obtain ⟨rfl, rfl⟩ := slot_inj n1.1 n2.1 n1.2 n2.2 h2
        exact ⟨t, c, c, e1, e2, .inl rfl⟩
      · exact absurd h2 slot_pass
    · rcases h2 with h2 | ⟨d', g3, g4, h2⟩
      · exact absurd h2.symm slot_pass
      · have n3 := hx _ d g1
        have n4 := hy _ d' g3
        obtain ⟨⟨a1, a2⟩, rfl⟩ := pass_inj n1.1 n3.1 n2.1 n4.1 n1.2 n2.2 h2
        by_cases e : c = c'
        · exact ⟨t, c, c', e1, e2, .inl e⟩
        · exact ⟨t, c, c', e1, e2, .inr ⟨d, d', g1, g3, g2, by omega, by omega⟩⟩
  · rintro ⟨t, p, q, e1, e2, h⟩
    rcases h with rfl | ⟨u, v, g1, g2, g3, g4, g5⟩
    · exact ⟨slotL p t, mem_keys.2 ⟨t, p, e1, .inl rfl⟩, mem_keys.2 ⟨t, p, e2, .inl rfl⟩⟩
    · subst g4 g5
      refine ⟨passL p q t, mem_keys.2 ⟨t, p, e1, .inr ⟨q, g1, g3, rfl⟩⟩, mem_keys.2 ⟨t, q, e2, .inr ⟨p, g2, fun e => g3 e.symm, ?_⟩⟩⟩
      unfold passL
      rw [Int.min_comm, Int.max_comm]
theorem sb_inj {a b : List UInt8} (h : sb a = sb b) : a = b := by
  unfold sb at h
  simpa using h
theorem common_iff {x y : Route} : (∃ s ∈ (keysL x).map sb, s ∈ (keysL y).map sb) ↔ ∃ k ∈ keysL x, k ∈ keysL y := by
  constructor
  · rintro ⟨s, h1, h2⟩
    obtain ⟨a, ha, rfl⟩ := List.mem_map.1 h1
    obtain ⟨b, hb, e⟩ := List.mem_map.1 h2
    exact ⟨a, ha, sb_inj e ▸ hb⟩
  · rintro ⟨k, h1, h2⟩; exact ⟨sb k, List.mem_map.2 ⟨k, h1, rfl⟩, List.mem_map.2 ⟨k, h2, rfl⟩⟩
theorem conf_eq {m : Map} {es : List Int} {rs : List Route} {k : Int} (hI : Inv m es rs k) {j : Nat} {x : Route} {t : Int} (hx : checkR m x = 0) : confK rs j x t ↔ confM rs j x t := by
  have hg : okR m x := .inr (checkR_ok.1 hx)
  unfold confK confM
  constructor
  · rintro ⟨i, h1, h2, h3⟩; exact ⟨i, h1, h2, (keys_meet hg.nonneg ((hI.okR h1).cut.nonneg)).1 (common_iff.1 h3)⟩
  · rintro ⟨i, h1, h2, h3⟩; exact ⟨i, h1, h2, common_iff.2 ((keys_meet hg.nonneg ((hI.okR h1).cut.nonneg)).2 h3)⟩
theorem take_eq {m : Map} {es : List Int} {rs : List Route} {k : Int} (hI : Inv m es rs k) {j : Nat} {x : Route} {t : Int} : takeC confK m es rs j x t = takeC confM m es rs j x t := by
  unfold takeC
  by_cases hx : checkR m x = 0
  · have hx' : ¬ checkR m x ≠ 0 := fun e => e hx
    rw [if_neg hx', if_neg hx']
    by_cases h : confM rs j x t
    · rw [if_pos ((conf_eq hI hx).2 h), if_pos h]
    · rw [if_neg (fun e => h ((conf_eq hI hx).1 e)), if_neg h]
  · rw [if_pos hx, if_pos hx]
theorem apply_eq {m : Map} {es : List Int} {rs : List Route} {k : Int} (hI : Inv m es rs k) {r : Int} {c : Call} {t : Int} : applyC confK m es rs r c t = applyC confM m es rs r c t := by
  unfold applyC applyIn resC
  simp only [take_eq hI]
end Go.Proofs.Ytnfmjkjhiolfdaa
