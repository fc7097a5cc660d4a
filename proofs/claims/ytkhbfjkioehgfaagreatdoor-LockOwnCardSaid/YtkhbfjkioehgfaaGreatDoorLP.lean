/- Numerals and keys, texts. -/
import Derived.Test.YtkhbfjkioehgfaaGreatDoorL0
import Derived.Test.YtkhbfjkioehgfaaGreatDoorKC
import Derived.Test.YtkhbfjkioehgfaaGreatDoorKD
import Derived.Test.YtkhbfjkioehgfaaGreatDoorShelf3
import Derived.Laws.BitsLemmas
set_option linter.unusedVariables false
set_option linter.unusedSimpArgs false
namespace Go.Proofs.YtkhbfjkioehgfaaGreatDoor
open Go Go.Sx Go.Proofs
/-- a number's digits, the greatest first; none of 0 -/
def nd : Nat → List UInt8
  | 0 => []
  | n + 1 => nd ((n + 1) / 10) ++ [UInt8.ofNat (48 + (n + 1) % 10)]
decreasing_by omega
theorem nd_step {n : Nat} (h : n ≠ 0) : nd n = nd (n / 10) ++ [UInt8.ofNat (48 + n % 10)] := by
  cases n with
  | zero => exact absurd rfl h
  | succ n => rw [nd]
theorem nd_len : ∀ {k n : Nat}, n < 10 ^ k → (nd n).length ≤ k
  | k, 0, _ => by simp [nd]
  | 0, n + 1, h => by simp at h
  | k + 1, n + 1, h => by
    rw [nd_step (by omega), List.length_append]
    have : (n + 1) / 10 < 10 ^ k := by rw [Nat.pow_succ] at h; omega
    have := nd_len this
    simp; omega
/-- a number in decimal digits -/
def dgs (n : Int) : List UInt8 := if n = 0 then [48] else if n < 0 then [45] ++ nd n.natAbs else nd n.natAbs
theorem dgs_len {n : Int} (h : fits n) : (dgs n).length ≤ 20 := by
  have h1 : (nd n.natAbs).length ≤ 19 := nd_len (by unfold fits at h; omega)
  unfold dgs
  split
  · simp
  · split
    · simp; omega
    · omega
set_option maxHeartbeats 4000000 in
theorem digits_spec {W0 : World} {H : Heap} {n : Int} (hf : fits n) :
    Ct Tryz.prog 109 #[I n] W0 H [] (fun r H' B => r = .string (sb (dgs n)) ∧ B = [] ∧ H' = H) := by
  refine Ct.go fun R => ?_
  unfold fits at hf
  by_cases h0 : n = 0
  · refine walk ?_
    refine fin0 ?_
    exact ⟨by unfold dgs; rw [if_pos h0], rfl, rfl⟩
  refine walk ?_
  refine ex_loop (σ := Int × List UInt8) (fun s => (-9223372036854775808 ≤ s.1 ∧ s.1 ≤ 9223372036854775807) ∧ nd n.natAbs = nd s.1.natAbs ++ s.2) (fun s => [(0, I n), (3, .string (sb s.2)), (4, I s.1)]) (fun _ => H) (fun _ => R) (fun s => s.1.natAbs) (n, []) ⟨hf, by simp⟩ fun ⟨k, s⟩ ⟨hk, hs⟩ K hL => ?_
  simp only at hk hs
  dsimp only
  refine walk ?_
  refine ex_if rfl (fun hk0 => ?_) (fun hk0 => ?_)
  · have hd1 : (k.tmod 10).natAbs = k.natAbs % 10 := Int.natAbs_tmod k 10
    have hd2 : (k.tdiv 10).natAbs = k.natAbs / 10 := Int.natAbs_tdiv k 10
    have hd3 : -9 ≤ k.tmod 10 ∧ k.tmod 10 ≤ 9 := by omega
    have hd4 : fits (k.tdiv 10) := by unfold fits; omega
    have hg10 : (0 : Int) < 10 ∧ fits (k.tdiv 10) := ⟨by omega, hd4⟩
    have hln : (nd n.natAbs).length ≤ 19 := nd_len (by omega)
    haveI hsl : LenLe s 19 := ⟨by rw [hs] at hln; simp at hln; omega⟩
    have hstep := nd_step (n := k.natAbs) (by omega)
    refine walk ?_
    generalize k.tmod 10 = d at *
    refine ex_if rfl (fun hneg => ?_) (fun hneg => ?_)
    · refine walk ?_
      refine ops_bsN rfl rfl fun pb _ => ?_
      refine ops_b2s [IntKind.u8.wrap (48 + -d)] rfl rfl .here ?_
      have hw : (IntKind.u8.wrap (48 + -d)).toNat = 48 + k.natAbs % 10 := by rw [IntKind.wrap_u8]; omega
      rw [show ([IntKind.u8.wrap (48 + -d)].map fun n => UInt8.ofNat n.toNat) = [UInt8.ofNat (48 + k.natAbs % 10)] by simp only [List.map_cons, List.map_nil, hw]]
      refine walk ?_
      refine out_next hL (k.tdiv 10, [UInt8.ofNat (48 + k.natAbs % 10)] ++ s) ⟨by simp only; unfold fits at hd4; exact hd4, ?_⟩ (hμ := by simp only; omega)
      simp only
      rw [hs, hstep, hd2, List.append_assoc]
    · refine walk ?_
      refine ops_bsN rfl rfl fun pb _ => ?_
      refine ops_b2s [IntKind.u8.wrap (48 + d)] rfl rfl .here ?_
      have hw : (IntKind.u8.wrap (48 + d)).toNat = 48 + k.natAbs % 10 := by rw [IntKind.wrap_u8]; omega
      rw [show ([IntKind.u8.wrap (48 + d)].map fun n => UInt8.ofNat n.toNat) = [UInt8.ofNat (48 + k.natAbs % 10)] by simp only [List.map_cons, List.map_nil, hw]]
      refine walk ?_
      refine out_next hL (k.tdiv 10, [UInt8.ofNat (48 + k.natAbs % 10)] ++ s) ⟨by simp only; unfold fits at hd4; exact hd4, ?_⟩ (hμ := by simp only; omega)
      simp only
      rw [hs, hstep, hd2, List.append_assoc]
  · clear hL
    have hk1 : k = 0 := Classical.not_not.1 hk0
    subst hk1
    simp only [Int.natAbs_zero, nd, List.nil_append] at hs
    by_cases hneg : n < 0
    · haveI hsl : LenLe s 19 := ⟨by rw [← hs]; exact nd_len (by omega)⟩
      refine walk ?_
      refine fin0 ?_
      exact ⟨by unfold dgs; rw [if_neg h0, if_pos hneg, hs], rfl, rfl⟩
    · refine walk ?_
      refine fin0 ?_
      exact ⟨by unfold dgs; rw [if_neg h0, if_neg hneg, hs], rfl, rfl⟩
def slotL (c t : Int) : List UInt8 := [99] ++ dgs c ++ [64] ++ dgs t
def passL (a b t : Int) : List UInt8 := [112] ++ dgs (min a b) ++ [45] ++ dgs (max a b) ++ [64] ++ dgs t
theorem slotL_len {c t : Int} (h1 : fits c) (h2 : fits t) : (slotL c t).length ≤ 42 := by
  have := dgs_len h1; have := dgs_len h2; simp [slotL]; omega
theorem passL_len {a b t : Int} (h1 : fits a) (h2 : fits b) (h3 : fits t) : (passL a b t).length ≤ 63 := by
  have := dgs_len (n := min a b) (by unfold fits at *; omega); have := dgs_len (n := max a b) (by unfold fits at *; omega); have := dgs_len h3; simp [passL]; omega
theorem slot_spec {W0 : World} {H : Heap} {c t : Int} (h1 : fits c) (h2 : fits t) :
    Ct Tryz.prog 87 #[I c, I t] W0 H [] (fun r H' B => r = .string (sb (slotL c t)) ∧ B = [] ∧ H' = H) := by
  refine Ct.go fun R => ?_
  haveI l1 : LenLe (dgs c) 20 := ⟨dgs_len h1⟩
  haveI l2 : LenLe (dgs t) 20 := ⟨dgs_len h2⟩
  refine walk ?_
  refine ops_pcall rfl rfl (digits_spec h1) ?_
  refine walk ?_
  refine ops_pcall rfl rfl (digits_spec h2) ?_
  refine walk ?_
  refine fin0 ?_
  exact ⟨rfl, rfl, rfl⟩
theorem pass_le {W0 : World} {H : Heap} {a b t : Int} (h1 : fits a) (h2 : fits b) (h3 : fits t) (hab : ¬ b < a) :
    Ct Tryz.prog 88 #[I a, I b, I t] W0 H [] (fun r H' B => r = .string (sb (passL a b t)) ∧ B = [] ∧ H' = H) := by
  refine Ct.go fun R => ?_
  haveI l1 : LenLe (dgs a) 20 := ⟨dgs_len h1⟩
  haveI l2 : LenLe (dgs b) 20 := ⟨dgs_len h2⟩
  haveI l3 : LenLe (dgs t) 20 := ⟨dgs_len h3⟩
  refine walk ?_
  refine ops_pcall rfl rfl (digits_spec h1) ?_
  refine walk ?_
  refine ops_pcall rfl rfl (digits_spec h2) ?_
  refine walk ?_
  refine ops_pcall rfl rfl (digits_spec h3) ?_
  refine walk ?_
  refine fin0 ?_
  refine ⟨?_, rfl, rfl⟩
  unfold passL
  rw [show min a b = a by omega, show max a b = b by omega]
theorem pass_spec {W0 : World} {H : Heap} {a b t : Int} (h1 : fits a) (h2 : fits b) (h3 : fits t) :
    Ct Tryz.prog 88 #[I a, I b, I t] W0 H [] (fun r H' B => r = .string (sb (passL a b t)) ∧ B = [] ∧ H' = H) := by
  by_cases hab : b < a
  · refine Ct.go fun R => ?_
    refine walk ?_
    refine ops_pcall rfl rfl (pass_le (a := b) (b := a) h2 h1 h3 (by omega)) ?_
    refine walk ?_
    refine fin0 ?_
    refine ⟨?_, rfl, rfl⟩
    unfold passL
    rw [Int.min_comm, Int.max_comm]
  · exact pass_le h1 h2 h3 hab
def isDig (b : UInt8) : Prop := 48 ≤ b.toNat ∧ b.toNat ≤ 57
def dval (l : List UInt8) : Nat := l.foldl (fun a b => a * 10 + (b.toNat - 48)) 0
theorem dval_snoc {l : List UInt8} {b : UInt8} : dval (l ++ [b]) = dval l * 10 + (b.toNat - 48) := by simp [dval]
theorem dig_nat {k : Nat} : (UInt8.ofNat (48 + k % 10)).toNat = 48 + k % 10 := by
  rw [UInt8.toNat_ofNat']; omega
theorem nd_val (n : Nat) : dval (nd n) = n := by
  induction n using Nat.strongRecOn with
  | ind n ih =>
    by_cases h : n = 0
    · subst h; simp [nd, dval]
    · rw [nd_step h, dval_snoc, ih (n / 10) (by omega), dig_nat]; omega
theorem nd_dig (n : Nat) : ∀ b ∈ nd n, isDig b := by
  induction n using Nat.strongRecOn with
  | ind n ih =>
    by_cases h : n = 0
    · subst h; simp [nd]
    · rw [nd_step h]
      intro b hb
      rcases List.mem_append.1 hb with hb | hb
      · exact ih (n / 10) (by omega) b hb
      · rw [List.mem_singleton.1 hb]; unfold isDig; rw [dig_nat]; omega
theorem dgs_dig {n : Int} (h : 0 ≤ n) : ∀ b ∈ dgs n, isDig b := by
  unfold dgs
  split
  · intro b hb; rw [List.mem_singleton.1 hb]; unfold isDig; decide
  · rw [if_neg (by omega)]; exact nd_dig _
theorem dgs_val {n : Int} (h : 0 ≤ n) : dval (dgs n) = n.toNat := by
  unfold dgs
  split
  · next e => subst e; decide
  · rw [if_neg (by omega), nd_val]; omega
theorem dgs_inj {a b : Int} (ha : 0 ≤ a) (hb : 0 ≤ b) (h : dgs a = dgs b) : a = b := by
  have h1 := dgs_val ha
  rw [h, dgs_val hb] at h1
  omega
/-- split at a byte that is no digit -/
theorem cut_at {s : UInt8} (hs : ¬ isDig s) : ∀ {u u' v v' : List UInt8}, (∀ b ∈ u, isDig b) → (∀ b ∈ u', isDig b) → u ++ s :: v = u' ++ s :: v' → u = u' ∧ v = v'
  | [], [], v, v', _, _, h => by simpa using h
  | [], b :: u', v, v', _, h2, h => by
    simp only [List.nil_append, List.cons_append, List.cons.injEq] at h
    exact absurd (h.1 ▸ h2 b (by simp)) hs
  | b :: u, [], v, v', h1, _, h => by
    simp only [List.nil_append, List.cons_append, List.cons.injEq] at h
    exact absurd (h.1 ▸ h1 b (by simp)) hs
  | b :: u, b' :: u', v, v', h1, h2, h => by
    simp only [List.cons_append, List.cons.injEq] at h
    obtain ⟨e1, e2⟩ := cut_at hs (fun x hx => h1 x (by simp [hx])) (fun x hx => h2 x (by simp [hx])) h.2
    exact ⟨by rw [h.1, e1], e2⟩
theorem slot_inj {c c' t t' : Int} (h1 : 0 ≤ c) (h2 : 0 ≤ c') (h3 : 0 ≤ t) (h4 : 0 ≤ t') (h : slotL c t = slotL c' t') : c = c' ∧ t = t' := by
  simp only [slotL, List.append_assoc, List.cons_append, List.nil_append, List.cons.injEq, true_and] at h
  obtain ⟨e1, e2⟩ := cut_at (s := 64) (by unfold isDig; decide) (dgs_dig h1) (dgs_dig h2) h
  exact ⟨dgs_inj h1 h2 e1, dgs_inj h3 h4 e2⟩
theorem pass_inj {a b a' b' t t' : Int} (h1 : 0 ≤ a) (h2 : 0 ≤ b) (h3 : 0 ≤ a') (h4 : 0 ≤ b') (h5 : 0 ≤ t) (h6 : 0 ≤ t') (h : passL a b t = passL a' b' t') : (min a b = min a' b' ∧ max a b = max a' b') ∧ t = t' := by
  simp only [passL, List.append_assoc, List.cons_append, List.nil_append, List.cons.injEq, true_and] at h
  obtain ⟨e1, e2⟩ := cut_at (s := 45) (by unfold isDig; decide) (dgs_dig (by omega)) (dgs_dig (by omega)) h
  obtain ⟨e3, e4⟩ := cut_at (s := 64) (by unfold isDig; decide) (dgs_dig (by omega)) (dgs_dig (by omega)) e2
  exact ⟨⟨dgs_inj (by omega) (by omega) e1, dgs_inj (by omega) (by omega) e3⟩, dgs_inj h5 h6 e4⟩
theorem slot_pass {c t a b t' : Int} : slotL c t ≠ passL a b t' := by
  intro h
  simp only [slotL, passL, List.append_assoc, List.cons_append, List.nil_append, List.cons.injEq] at h
  exact absurd h.1 (by decide)
theorem sb_inj {a b : List UInt8} (h : sb a = sb b) : a = b := by
  unfold sb at h
  simpa using h
abbrev tickI (t : Int) : Prop := 0 ≤ t ∧ t ≤ 1073741824
theorem tick_spec {W0 : World} {H : Heap} {t : Int} :
    Ct Tryz.prog 89 #[I t] W0 H [] (fun r H' B => r = .bool (decide (tickI t)) ∧ B = [] ∧ H' = H) := by
  refine Ct.go fun R => ?_
  refine walkG ?_
  refine fin0 ?_
  exact ⟨bdec (by unfold tickI; omega), rfl, rfl⟩
theorem dec_nd : ∀ {u : Nat}, u ≠ 0 → Lib.decDigits u = nd u := fun {u} => by
  induction u using Nat.strongRecOn with
  | ind u ih =>
    intro h
    rw [Lib.decDigits, nd_step h]
    split
    · next h1 =>
      rw [show u / 10 = 0 by omega, show u % 10 = u by omega]; simp [nd]
    · next h1 => rw [ih (u / 10) (by omega) (by omega)]
theorem itoa_dgs {n : Int} : Lib.itoa n = dgs n := by
  unfold Lib.itoa dgs
  by_cases h0 : n = 0
  · subst h0; rw [if_neg (by omega), if_pos rfl]; simp [Lib.decDigits]
  rw [if_neg h0]
  by_cases h1 : n < 0
  · rw [if_pos h1, if_pos h1, dec_nd (by omega)]; rfl
  · rw [if_neg h1, if_neg h1, dec_nd (by omega), show n.toNat = n.natAbs by omega]
theorem itoa_spec {W0 : World} {H : Heap} {n : Int} (hT : TabH Tryz.prog H) (hn : fits n) :
    Ct Tryz.prog 81 #[I n] W0 H [] (fun r H' B => r = .string (sb (dgs n)) ∧ B = [] ∧ H' = H) := by
  have h := ct_itoa (W0 := W0) hT hn Tryz.strconv_Itoa
  rw [itoa_dgs] at h; exact h
end Go.Proofs.YtkhbfjkioehgfaaGreatDoor
