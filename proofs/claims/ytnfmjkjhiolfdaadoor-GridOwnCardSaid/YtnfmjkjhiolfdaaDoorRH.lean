/- Good routes, what is left of them, and their keys. No program in sight. -/
import Derived.Test.YtnfmjkjhiolfdaaDoorRG
import Derived.Test.YtnfmjkjhiolfdaaDoorBK
set_option linter.unusedVariables false
set_option linter.unusedSimpArgs false
namespace Go.Proofs.YtnfmjkjhiolfdaaDoor
open Go Go.Sx Go.Proofs
/-- a good route -/
structure GoodR (m : Map) (x : Route) : Prop where
  n0 : x.Cells ≠ []
  n24 : x.Cells.length ≤ 24
  s0 : 0 ≤ x.Start
  s1 : x.Start + x.Cells.length - 1 ≤ 1073741824
  cells : ∀ c ∈ x.Cells, freeC m c
  step : stepCode m x.Cells = 0
theorem cellCode_ok {m : Map} : ∀ {l : List Int}, cellCode m l = 0 ↔ ∀ c ∈ l, freeC m c
  | [] => by simp [cellCode]
  | c :: r => by
    have ih := cellCode_ok (m := m) (l := r)
    unfold cellCode
    split
    · next h => exact ⟨fun e => (by cases e), fun e => absurd (e c (by simp)).2 h⟩
    · next h =>
      split
      · next h2 => exact ⟨fun e => (by cases e), fun e => absurd h2 (e c (by simp)).1⟩
      · next h2 =>
        rw [ih]
        exact ⟨fun e d hd => by rcases List.mem_cons.1 hd with rfl | hd; exact ⟨h2, Classical.not_not.1 h⟩; exact e d hd, fun e d hd => e d (by simp [hd])⟩
theorem checkR_ok {m : Map} {x : Route} : checkR m x = 0 ↔ GoodR m x := by
  unfold checkR
  constructor
  · intro h
    split at h
    · cases h
    · next h1 =>
      split at h
      · cases h
      · next h2 =>
        split at h
        · next h3 => exact absurd h h3
        · next h3 =>
          have h2 := Classical.not_not.1 h2
          have h3 := cellCode_ok.1 (Classical.not_not.1 h3)
          simp only [tickI] at h2
          exact ⟨fun e => h1 (.inl (by rw [e]; rfl)), by omega, by omega, by omega, h3, h⟩
  · intro h
    have hn : x.Cells.length ≠ 0 := fun e => h.n0 (List.eq_nil_of_length_eq_zero e)
    have h1 := h.n24
    have h2 := h.s0
    have h3 := h.s1
    rw [if_neg (by omega), if_neg (by simp only [tickI]; omega), if_neg (by rw [Classical.not_not]; exact cellCode_ok.2 h.cells)]
    exact h.step
theorem step_tail {m : Map} {a : Int} {r : List Int} (h : stepCode m (a :: r) = 0) : stepCode m r = 0 := by
  cases r with
  | nil => rfl
  | cons b r =>
    unfold stepCode at h
    split at h
    · exact h
    · cases h
theorem step_drop {m : Map} : ∀ {k : Nat} {l : List Int}, stepCode m l = 0 → stepCode m (l.drop k) = 0
  | 0, _, h => h
  | k + 1, [], h => h
  | k + 1, a :: r, h => step_drop (k := k) (step_tail h)
/-- none or a good one -/
def okR (m : Map) (x : Route) : Prop := x = zRoute ∨ GoodR m x
theorem GoodR.plain {m : Map} {x : Route} (h : GoodR m x) : plainR x := by
  have hn : x.Cells.length ≠ 0 := fun e => h.n0 (List.eq_nil_of_length_eq_zero e)
  have h1 := h.n24; have h2 := h.s0; have h3 := h.s1
  simp only [plainR]; omega
theorem cutR_z {t : Int} : cutR zRoute t = zRoute := by unfold cutR; rw [if_neg]; rintro ⟨_, h⟩; simp [zRoute] at h
theorem okR.cut {m : Map} {x : Route} {t : Int} (h : okR m x) : okR m (cutR x t) := by
  rcases h with rfl | h
  · exact .inl cutR_z
  · unfold cutR
    split
    · next hc =>
      have h1 := h.n24; have h2 := h.s0; have h3 := h.s1
      exact .inr ⟨fun e => by have := congrArg List.length e; simp at this; omega, by simp; omega, by simp only; omega, by simp only [List.length_drop]; omega, fun c hc => h.cells c (List.mem_of_mem_drop hc), step_drop h.step⟩
    · exact .inl rfl
theorem atR_zR {t : Int} : atR zRoute t = none := by unfold atR; split <;> simp [zRoute]
theorem at_cut {m : Map} {x : Route} {n t : Int} (h : okR m x) : atR (cutR x n) t = if n ≤ t then atR x t else none := by
  rcases h with rfl | h
  · rw [cutR_z, atR_zR]; split <;> rfl
  · have hp := h.plain
    have h1 := h.n24; have h2 := h.s0; have h3 := h.s1
    by_cases hc : (n - x.Start).toNat < x.Cells.length
    · have e : cutR x n = ⟨x.Start + (n - x.Start).toNat, x.Cells.drop (n - x.Start).toNat⟩ := by unfold cutR; rw [if_pos ⟨hp, hc⟩]
      have hp' : plainR (cutR x n) := by
        rw [e]; simp only [plainR, List.length_drop]; omega
      unfold atR
      by_cases hn : n ≤ t
      · rw [if_pos hn]
        by_cases hs : x.Start ≤ t
        · rw [if_pos ⟨hp', by rw [e]; simp only; omega⟩, if_pos ⟨hp, hs⟩, e]
          simp only [List.getElem?_drop]
          congr 1
          omega
        · rw [if_neg (by rw [e]; simp only; omega), if_neg (by omega)]
      · rw [if_neg hn]
        by_cases hs : n ≤ x.Start
        · have hz : (n - x.Start).toNat = 0 := by omega
          rw [if_neg (by rw [e]; simp only; omega)]
        · rw [if_neg (by rw [e]; simp only; omega)]
    · have e : cutR x n = zRoute := by unfold cutR; rw [if_neg (fun h => hc h.2)]
      rw [e, atR_zR]
      split
      · next hn =>
        unfold atR
        split
        · rw [List.getElem?_eq_none (by omega)]
        · rfl
      · rfl
theorem meetR_iff {x y : Route} : meetR x y ↔ ∃ t, meetAt x y t := ⟨fun h => h.2, fun ⟨t, h⟩ => ⟨by obtain ⟨p, q, e1, e2, _⟩ := h; exact ⟨(atR_some.1 e1).1, (atR_some.1 e2).1⟩, t, h⟩⟩
theorem meetAt_symm {x y : Route} {t : Int} (h : meetAt x y t) : meetAt y x t := by
  obtain ⟨p, q, e1, e2, h⟩ := h
  refine ⟨q, p, e2, e1, ?_⟩
  rcases h with h | ⟨u, v, a, b, c, d, e⟩
  · exact .inl h.symm
  · exact .inr ⟨v, u, b, a, by rw [e, ← d]; exact c.symm, e, d⟩
theorem meet_cut {m : Map} {x y : Route} {n t : Int} (hy : okR m y) : meetAt x (cutR y n) t ↔ n ≤ t ∧ meetAt x y t := by
  unfold meetAt
  rw [at_cut hy, at_cut hy]
  by_cases hn : n ≤ t
  · rw [if_pos hn, if_pos (by omega)]; exact ⟨fun h => ⟨hn, h⟩, fun h => h.2⟩
  · rw [if_neg hn]; exact ⟨fun ⟨p, q, _, e, _⟩ => (by cases e), fun h => absurd h.1 hn⟩
theorem meet_cut2 {m : Map} {x y : Route} {n t : Int} (hx : okR m x) (hy : okR m y) : meetAt (cutR x n) (cutR y n) t ↔ n ≤ t ∧ meetAt x y t := by
  rw [meet_cut hy]
  constructor
  · rintro ⟨h1, h2⟩; exact ⟨h1, meetAt_symm ((meet_cut hx).1 (meetAt_symm h2)).2⟩
  · rintro ⟨h1, h2⟩; exact ⟨h1, meetAt_symm ((meet_cut hx).2 ⟨h1, meetAt_symm h2⟩)⟩
def isDig (b : UInt8) : Prop := 48 ≤ b.toNat ∧ b.toNat ≤ 57
def dval (l : List UInt8) : Nat := l.foldl (fun a b => a * 10 + (b.toNat - 48)) 0
theorem dval_snoc {l : List UInt8} {b : UInt8} : dval (l ++ [b]) = dval l * 10 + (b.toNat - 48) := by simp [dval]
theorem dig_nat {k : Nat} : (UInt8.ofNat (48 + k % 10)).toNat = 48 + k % 10 := by
  rw [UInt8.toNat_ofNat']; omega
theorem nd_val (n : Nat) : dval (nd n) = n := by
  induction n using Nat.strongRecOn with
  | ind n ih =>
    by_cases h : n = 0
    · subst h; simp [nd, dval]
    · rw [nd_step h, dval_snoc, ih (n / 10) (by omega), dig_nat]; omega
theorem nd_dig (n : Nat) : ∀ b ∈ nd n, isDig b := by
  induction n using Nat.strongRecOn with
  | ind n ih =>
    by_cases h : n = 0
    · subst h; simp [nd]
    · rw [nd_step h]
      intro b hb
      rcases List.mem_append.1 hb with hb | hb
      · exact ih (n / 10) (by omega) b hb
      · rw [List.mem_singleton.1 hb]; unfold isDig; rw [dig_nat]; omega
theorem dgs_dig {n : Int} (h : 0 ≤ n) : ∀ b ∈ dgs n, isDig b := by
  unfold dgs
  split
  · intro b hb; rw [List.mem_singleton.1 hb]; unfold isDig; decide
  · rw [if_neg (by omega)]; exact nd_dig _
theorem dgs_val {n : Int} (h : 0 ≤ n) : dval (dgs n) = n.toNat := by
  unfold dgs
  split
  · next e => subst e; decide
  · rw [if_neg (by omega), nd_val]; omega
theorem dgs_inj {a b : Int} (ha : 0 ≤ a) (hb : 0 ≤ b) (h : dgs a = dgs b) : a = b := by
  have h1 := dgs_val ha
  rw [h, dgs_val hb] at h1
  omega
/-- split at a byte that is no digit -/
theorem cut_at {s : UInt8} (hs : ¬ isDig s) : ∀ {u u' v v' : List UInt8}, (∀ b ∈ u, isDig b) → (∀ b ∈ u', isDig b) → u ++ s :: v = u' ++ s :: v' → u = u' ∧ v = v'
  | [], [], v, v', _, _, h => by simpa using h
  | [], b :: u', v, v', _, h2, h => by
    simp only [List.nil_append, List.cons_append, List.cons.injEq] at h
    exact absurd (h.1 ▸ h2 b (by simp)) hs
  | b :: u, [], v, v', h1, _, h => by
    simp only [List.nil_append, List.cons_append, List.cons.injEq] at h
    exact absurd (h.1 ▸ h1 b (by simp)) hs
  | b :: u, b' :: u', v, v', h1, h2, h => by
    simp only [List.cons_append, List.cons.injEq] at h
    obtain ⟨e1, e2⟩ := cut_at hs (fun x hx => h1 x (by simp [hx])) (fun x hx => h2 x (by simp [hx])) h.2
    exact ⟨by rw [h.1, e1], e2⟩
theorem slot_inj {c c' t t' : Int} (h1 : 0 ≤ c) (h2 : 0 ≤ c') (h3 : 0 ≤ t) (h4 : 0 ≤ t') (h : slotL c t = slotL c' t') : c = c' ∧ t = t' := by
  simp only [slotL, List.append_assoc, List.cons_append, List.nil_append, List.cons.injEq, true_and] at h
  obtain ⟨e1, e2⟩ := cut_at (s := 64) (by unfold isDig; decide) (dgs_dig h1) (dgs_dig h2) h
  exact ⟨dgs_inj h1 h2 e1, dgs_inj h3 h4 e2⟩
theorem pass_inj {a b a' b' t t' : Int} (h1 : 0 ≤ a) (h2 : 0 ≤ b) (h3 : 0 ≤ a') (h4 : 0 ≤ b') (h5 : 0 ≤ t) (h6 : 0 ≤ t') (h : passL a b t = passL a' b' t') : (min a b = min a' b' ∧ max a b = max a' b') ∧ t = t' := by
  simp only [passL, List.append_assoc, List.cons_append, List.nil_append, List.cons.injEq, true_and] at h
  obtain ⟨e1, e2⟩ := cut_at (s := 45) (by unfold isDig; decide) (dgs_dig (by omega)) (dgs_dig (by omega)) h
  obtain ⟨e3, e4⟩ := cut_at (s := 64) (by unfold isDig; decide) (dgs_dig (by omega)) (dgs_dig (by omega)) e2
  exact ⟨⟨dgs_inj (by omega) (by omega) e1, dgs_inj (by omega) (by omega) e3⟩, dgs_inj h5 h6 e4⟩
theorem slot_pass {c t a b t' : Int} : slotL c t ≠ passL a b t' := by
  intro h
  simp only [slotL, passL, List.append_assoc, List.cons_append, List.nil_append, List.cons.injEq] at h
  exact absurd h.1 (by decide)
theorem mem_keysFrom {k : List UInt8} : ∀ {l : List Int} {s : Int}, k ∈ keysFrom s l ↔ ∃ (i : Nat) (c : Int), l[i]? = some c ∧ (k = slotL c (s + i) ∨ ∃ d, l[i + 1]? = some d ∧ c ≠ d ∧ k = passL c d (s + i))
  | [], s => by simp [keysFrom]
  | [c], s => by
    simp only [keysFrom, List.mem_singleton]
    constructor
    · intro h; exact ⟨0, c, rfl, .inl (by simpa using h)⟩
    · rintro ⟨i, c', h, h2⟩
      cases i with
      | zero =>
        simp only [List.getElem?_cons_zero, Option.some.injEq] at h
        subst h
        rcases h2 with h2 | ⟨d, h2, _⟩
        · simpa using h2
        · simp at h2
      | succ i => simp at h
  | c :: d :: r, s => by
    rw [keysFrom, List.mem_append, mem_keysFrom (l := d :: r)]
    constructor
    · rintro (h | ⟨i, c', h1, h2⟩)
      · rcases List.mem_cons.1 h with h | h
        · exact ⟨0, c, rfl, .inl (by simpa using h)⟩
        · split at h
          · simp at h
          · next hne => exact ⟨0, c, rfl, .inr ⟨d, rfl, fun e => hne e.symm, by simpa using h⟩⟩
      · refine ⟨i + 1, c', by simpa using h1, ?_⟩
        rw [show s + ((i + 1 : Nat) : Int) = s + 1 + i by omega]
        simpa using h2
    · rintro ⟨i, c', h1, h2⟩
      cases i with
      | zero =>
        left
        simp only [List.getElem?_cons_zero, Option.some.injEq] at h1
        subst h1
        rcases h2 with h2 | ⟨d', h2, h3, h4⟩
        · exact List.mem_cons.2 (.inl (by simpa using h2))
        · simp only [Nat.zero_add, List.getElem?_cons_succ, List.getElem?_cons_zero, Option.some.injEq] at h2
          subst h2
          rw [if_neg (fun e => h3 e.symm)]
          exact List.mem_cons.2 (.inr (by simpa using h4))
      | succ i =>
        right
        refine ⟨i, c', by simpa using h1, ?_⟩
        rw [show s + 1 + (i : Int) = s + ((i + 1 : Nat) : Int) by omega]
        simpa using h2
theorem mem_keys {k : List UInt8} {x : Route} : k ∈ keysL x ↔ ∃ t c, atR x t = some c ∧ (k = slotL c t ∨ ∃ d, atR x (t + 1) = some d ∧ c ≠ d ∧ k = passL c d t) := by
  unfold keysL
  split
  · next hp =>
    rw [mem_keysFrom]
    constructor
    · rintro ⟨i, c, h1, h2⟩
      refine ⟨x.Start + i, c, atR_some.2 ⟨hp, i, rfl, h1⟩, ?_⟩
      rcases h2 with h2 | ⟨d, h2, h3, h4⟩
      · exact .inl h2
      · exact .inr ⟨d, atR_some.2 ⟨hp, i + 1, by omega, h2⟩, h3, h4⟩
    · rintro ⟨t, c, h1, h2⟩
      obtain ⟨_, i, rfl, h5⟩ := atR_some.1 h1
      refine ⟨i, c, h5, ?_⟩
      rcases h2 with h2 | ⟨d, h2, h3, h4⟩
      · exact .inl h2
      · obtain ⟨_, i', e, h2⟩ := atR_some.1 h2
        obtain rfl : i' = i + 1 := by omega
        exact .inr ⟨d, h2, h3, h4⟩
  · next hp =>
    constructor
    · intro h; cases h
    · rintro ⟨t, c, h, _⟩; exact absurd (atR_some.1 h).1 hp
/-- its cells and ticks are none below 0 -/
def nonneg (x : Route) : Prop := ∀ t c, atR x t = some c → 0 ≤ c ∧ 0 ≤ t
theorem okR.nonneg {m : Map} {x : Route} (h : okR m x) : nonneg x := fun t c e => by
  rcases h with rfl | h
  · rw [atR_zR] at e; cases e
  · obtain ⟨_, i, rfl, hi⟩ := atR_some.1 e
    have := h.s0
    exact ⟨(h.cells c (List.mem_of_getElem? hi)).2.1, by omega⟩
theorem keys_meet {x y : Route} (hx : nonneg x) (hy : nonneg y) : (∃ k ∈ keysL x, k ∈ keysL y) ↔ meetR x y := by
  rw [meetR_iff]
  constructor
  · rintro ⟨k, h1, h2⟩
    obtain ⟨t, c, e1, h1⟩ := mem_keys.1 h1
    obtain ⟨t', c', e2, h2⟩ := mem_keys.1 h2
    have n1 := hx t c e1
    have n2 := hy t' c' e2
    rcases h1 with rfl | ⟨d, g1, g2, rfl⟩
    · rcases h2 with h2 | ⟨d', g3, g4, h2⟩
      · obtain ⟨rfl, rfl⟩ := slot_inj n1.1 n2.1 n1.2 n2.2 h2
        exact ⟨t, c, c, e1, e2, .inl rfl⟩
      · exact absurd h2 slot_pass
    · rcases h2 with h2 | ⟨d', g3, g4, h2⟩
      · exact absurd h2.symm slot_pass
      · have n3 := hx _ d g1
        have n4 := hy _ d' g3
        obtain ⟨⟨a1, a2⟩, rfl⟩ := pass_inj n1.1 n3.1 n2.1 n4.1 n1.2 n2.2 h2
        by_cases e : c = c'
        · exact ⟨t, c, c', e1, e2, .inl e⟩
        · exact ⟨t, c, c', e1, e2, .inr ⟨d, d', g1, g3, g2, by omega, by omega⟩⟩
  · rintro ⟨t, p, q, e1, e2, h⟩
    rcases h with rfl | ⟨u, v, g1, g2, g3, g4, g5⟩
    · exact ⟨slotL p t, mem_keys.2 ⟨t, p, e1, .inl rfl⟩, mem_keys.2 ⟨t, p, e2, .inl rfl⟩⟩
    · subst g4 g5
      refine ⟨passL p q t, mem_keys.2 ⟨t, p, e1, .inr ⟨q, g1, g3, rfl⟩⟩, mem_keys.2 ⟨t, q, e2, .inr ⟨p, g2, fun e => g3 e.symm, ?_⟩⟩⟩
      unfold passL
      rw [Int.min_comm, Int.max_comm]
theorem sb_inj {a b : List UInt8} (h : sb a = sb b) : a = b := by
  unfold sb at h
  simpa using h
theorem common_iff {x y : Route} : (∃ s ∈ (keysL x).map sb, s ∈ (keysL y).map sb) ↔ ∃ k ∈ keysL x, k ∈ keysL y := by
  constructor
  · rintro ⟨s, h1, h2⟩
    obtain ⟨a, ha, rfl⟩ := List.mem_map.1 h1
    obtain ⟨b, hb, e⟩ := List.mem_map.1 h2
    exact ⟨a, ha, sb_inj e ▸ hb⟩
  · rintro ⟨k, h1, h2⟩; exact ⟨sb k, List.mem_map.2 ⟨k, h1, rfl⟩, List.mem_map.2 ⟨k, h2, rfl⟩⟩
end Go.Proofs.YtnfmjkjhiolfdaaDoor
