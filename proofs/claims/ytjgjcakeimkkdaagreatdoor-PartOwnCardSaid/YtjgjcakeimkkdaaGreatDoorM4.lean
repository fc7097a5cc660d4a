/- Numerals and keys, texts. A key is read, by the program. A key is read, by the reference. Expire, walked. What a table keeps to, and how it stands to the reference's. No program in sight. -/
import Derived.Test.YtjgjcakeimkkdaaGreatDoorM1
import Derived.Test.YtjgjcakeimkkdaaGreatDoorKC
import Derived.Test.YtjgjcakeimkkdaaGreatDoorKD
import Derived.Test.YtjgjcakeimkkdaaGreatDoorShelf3
import Derived.Laws.BitsLemmas
import Derived.Test.YtjgjcakeimkkdaaGreatDoorShelf2
import Derived.Lib.SmallJoins
import Derived.Lib.AtoiAllCases
import Derived.Test.YtjgjcakeimkkdaaGreatDoorM3
set_option linter.unusedVariables false
set_option linter.unusedSimpArgs false
namespace Go.Proofs.YtjgjcakeimkkdaaGreatDoor
open Go Go.Sx Go.Proofs
/-- a number's digits, the greatest first; none of 0 -/
def nd : Nat → List UInt8
  | 0 => []
  | n + 1 => nd ((n + 1) / 10) ++ [UInt8.ofNat (48 + (n + 1) % 10)]
decreasing_by omega
theorem nd_step {n : Nat} (h : n ≠ 0) : nd n = nd (n / 10) ++ [UInt8.ofNat (48 + n % 10)] := by
  cases n with
  | zero => exact absurd rfl h
  | succ n => rw [nd]
theorem nd_len : ∀ {k n : Nat}, n < 10 ^ k → (nd n).length ≤ k
  | k, 0, _ => by simp [nd]
  | 0, n + 1, h => by simp at h
  | k + 1, n + 1, h => by
    rw [nd_step (by omega), List.length_append]
    have : (n + 1) / 10 < 10 ^ k := by rw [Nat.pow_succ] at h; omega
    have := nd_len this
    simp; omega
/-- a number in decimal digits -/
def dgs (n : Int) : List UInt8 := if n = 0 then [48] else if n < 0 then [45] ++ nd n.natAbs else nd n.natAbs
theorem dgs_len {n : Int} (h : fits n) : (dgs n).length ≤ 20 := by
  have h1 : (nd n.natAbs).length ≤ 19 := nd_len (by unfold fits at h; omega)
  unfold dgs
  split
  · simp
  · split
    · simp; omega
    · omega
set_option maxHeartbeats 4000000 in
theorem digits_spec {W0 : World} {H : Heap} {n : Int} (hf : fits n) :
    Ct Tryz.prog 125 #[I n] W0 H [] (fun r H' B => r = .string (sb (dgs n)) ∧ B = [] ∧ H' = H) := by
  refine Ct.go fun R => ?_
  unfold fits at hf
  by_cases h0 : n = 0
  · refine walk ?_
    refine fin0 ?_
    exact ⟨by unfold dgs; rw [if_pos h0], rfl, rfl⟩
  refine walk ?_
  refine ex_loop (σ := Int × List UInt8) (fun s => (-9223372036854775808 ≤ s.1 ∧ s.1 ≤ 9223372036854775807) ∧ nd n.natAbs = nd s.1.natAbs ++ s.2) (fun s => [(0, I n), (3, .string (sb s.2)), (4, I s.1)]) (fun _ => H) (fun _ => R) (fun s => s.1.natAbs) (n, []) ⟨hf, by simp⟩ fun ⟨k, s⟩ ⟨hk, hs⟩ K hL => ?_
  simp only at hk hs
  dsimp only
  refine walk ?_
  refine ex_if rfl (fun hk0 => ?_) (fun hk0 => ?_)
  · have hd1 : (k.tmod 10).natAbs = k.natAbs % 10 := Int.natAbs_tmod k 10
    have hd2 : (k.tdiv 10).natAbs = k.natAbs / 10 := Int.natAbs_tdiv k 10
    have hd3 : -9 ≤ k.tmod 10 ∧ k.tmod 10 ≤ 9 := by omega
    have hd4 : fits (k.tdiv 10) := by unfold fits; omega
    have hg10 : (0 : Int) < 10 ∧ fits (k.tdiv 10) := ⟨by omega, hd4⟩
    have hln : (nd n.natAbs).length ≤ 19 := nd_len (by omega)
    haveI hsl : LenLe s 19 := ⟨by rw [hs] at hln; simp at hln; omega⟩
    have hstep := nd_step (n := k.natAbs) (by omega)
    refine walk ?_
    generalize k.tmod 10 = d at *
    refine ex_if rfl (fun hneg => ?_) (fun hneg => ?_)
    · refine walk ?_
      refine ops_bsN rfl rfl fun pb _ => ?_
      refine ops_b2s [IntKind.u8.wrap (48 + -d)] rfl rfl .here ?_
      have hw : (IntKind.u8.wrap (48 + -d)).toNat = 48 + k.natAbs % 10 := by rw [IntKind.wrap_u8]; omega
      rw [show ([IntKind.u8.wrap (48 + -d)].map fun n => UInt8.ofNat n.toNat) = [UInt8.ofNat (48 + k.natAbs % 10)] by simp only [List.map_cons, List.map_nil, hw]]
      refine walk ?_
      refine out_next hL (k.tdiv 10, [UInt8.ofNat (48 + k.natAbs % 10)] ++ s) ⟨by simp only; unfold fits at hd4; exact hd4, ?_⟩ (hμ := by simp only; omega)
      simp only
      rw [hs, hstep, hd2, List.append_assoc]
    · refine walk ?_
      refine ops_bsN rfl rfl fun pb _ => ?_
      refine ops_b2s [IntKind.u8.wrap (48 + d)] rfl rfl .here ?_
      have hw : (IntKind.u8.wrap (48 + d)).toNat = 48 + k.natAbs % 10 := by rw [IntKind.wrap_u8]; omega
      rw [show ([IntKind.u8.wrap (48 + d)].map fun n => UInt8.ofNat n.toNat) = [UInt8.ofNat (48 + k.natAbs % 10)] by simp only [List.map_cons, List.map_nil, hw]]
      refine walk ?_
      refine out_next hL (k.tdiv 10, [UInt8.ofNat (48 + k.natAbs % 10)] ++ s) ⟨by simp only; unfold fits at hd4; exact hd4, ?_⟩ (hμ := by simp only; omega)
      simp only
      rw [hs, hstep, hd2, List.append_assoc]
  · clear hL
    have hk1 : k = 0 := Classical.not_not.1 hk0
    subst hk1
    simp only [Int.natAbs_zero, nd, List.nil_append] at hs
    by_cases hneg : n < 0
    · haveI hsl : LenLe s 19 := ⟨by rw [← hs]; exact nd_len (by omega)⟩
      refine walk ?_
      refine fin0 ?_
      exact ⟨by unfold dgs; rw [if_neg h0, if_pos hneg, hs], rfl, rfl⟩
    · refine walk ?_
      refine fin0 ?_
      exact ⟨by unfold dgs; rw [if_neg h0, if_neg hneg, hs], rfl, rfl⟩
def slotL (c t : Int) : List UInt8 := [99] ++ dgs c ++ [64] ++ dgs t
def passL (a b t : Int) : List UInt8 := [112] ++ dgs (min a b) ++ [45] ++ dgs (max a b) ++ [64] ++ dgs t
theorem slotL_len {c t : Int} (h1 : fits c) (h2 : fits t) : (slotL c t).length ≤ 42 := by
  have := dgs_len h1; have := dgs_len h2; simp [slotL]; omega
theorem passL_len {a b t : Int} (h1 : fits a) (h2 : fits b) (h3 : fits t) : (passL a b t).length ≤ 63 := by
  have := dgs_len (n := min a b) (by unfold fits at *; omega); have := dgs_len (n := max a b) (by unfold fits at *; omega); have := dgs_len h3; simp [passL]; omega
theorem slot_spec {W0 : World} {H : Heap} {c t : Int} (h1 : fits c) (h2 : fits t) :
    Ct Tryz.prog 99 #[I c, I t] W0 H [] (fun r H' B => r = .string (sb (slotL c t)) ∧ B = [] ∧ H' = H) := by
  refine Ct.go fun R => ?_
  haveI l1 : LenLe (dgs c) 20 := ⟨dgs_len h1⟩
  haveI l2 : LenLe (dgs t) 20 := ⟨dgs_len h2⟩
  refine walk ?_
  refine ops_pcall rfl rfl (digits_spec h1) ?_
  refine walk ?_
  refine ops_pcall rfl rfl (digits_spec h2) ?_
  refine walk ?_
  refine fin0 ?_
  exact ⟨rfl, rfl, rfl⟩
theorem pass_le {W0 : World} {H : Heap} {a b t : Int} (h1 : fits a) (h2 : fits b) (h3 : fits t) (hab : ¬ b < a) :
    Ct Tryz.prog 100 #[I a, I b, I t] W0 H [] (fun r H' B => r = .string (sb (passL a b t)) ∧ B = [] ∧ H' = H) := by
  refine Ct.go fun R => ?_
  haveI l1 : LenLe (dgs a) 20 := ⟨dgs_len h1⟩
  haveI l2 : LenLe (dgs b) 20 := ⟨dgs_len h2⟩
  haveI l3 : LenLe (dgs t) 20 := ⟨dgs_len h3⟩
  refine walk ?_
  refine ops_pcall rfl rfl (digits_spec h1) ?_
  refine walk ?_
  refine ops_pcall rfl rfl (digits_spec h2) ?_
  refine walk ?_
  refine ops_pcall rfl rfl (digits_spec h3) ?_
  refine walk ?_
  refine fin0 ?_
  refine ⟨?_, rfl, rfl⟩
  unfold passL
  rw [show min a b = a by omega, show max a b = b by omega]
theorem pass_spec {W0 : World} {H : Heap} {a b t : Int} (h1 : fits a) (h2 : fits b) (h3 : fits t) :
    Ct Tryz.prog 100 #[I a, I b, I t] W0 H [] (fun r H' B => r = .string (sb (passL a b t)) ∧ B = [] ∧ H' = H) := by
  by_cases hab : b < a
  · refine Ct.go fun R => ?_
    refine walk ?_
    refine ops_pcall rfl rfl (pass_le (a := b) (b := a) h2 h1 h3 (by omega)) ?_
    refine walk ?_
    refine fin0 ?_
    refine ⟨?_, rfl, rfl⟩
    unfold passL
    rw [Int.min_comm, Int.max_comm]
  · exact pass_le h1 h2 h3 hab
def isDig (b : UInt8) : Prop := 48 ≤ b.toNat ∧ b.toNat ≤ 57
def dval (l : List UInt8) : Nat := l.foldl (fun a b => a * 10 + (b.toNat - 48)) 0
theorem dval_snoc {l : List UInt8} {b : UInt8} : dval (l ++ [b]) = dval l * 10 + (b.toNat - 48) := by simp [dval]
theorem dig_nat {k : Nat} : (UInt8.ofNat (48 + k % 10)).toNat = 48 + k % 10 := by
  rw [UInt8.toNat_ofNat']; omega
theorem nd_val (n : Nat) : dval (nd n) = n := by
  induction n using Nat.strongRecOn with
  | ind n ih =>
    by_cases h : n = 0
    · subst h; simp [nd, dval]
    · rw [nd_step h, dval_snoc, ih (n / 10) (by omega), dig_nat]; omega
theorem nd_dig (n : Nat) : ∀ b ∈ nd n, isDig b := by
  induction n using Nat.strongRecOn with
  | ind n ih =>
    by_cases h : n = 0
    · subst h; simp [nd]
    · rw [nd_step h]
      intro b hb
      rcases List.mem_append.1 hb with hb | hb
      · exact ih (n / 10) (by omega) b hb
      · rw [List.mem_singleton.1 hb]; unfold isDig; rw [dig_nat]; omega
theorem dgs_dig {n : Int} (h : 0 ≤ n) : ∀ b ∈ dgs n, isDig b := by
  unfold dgs
  split
  · intro b hb; rw [List.mem_singleton.1 hb]; unfold isDig; decide
  · rw [if_neg (by omega)]; exact nd_dig _
theorem dgs_val {n : Int} (h : 0 ≤ n) : dval (dgs n) = n.toNat := by
  unfold dgs
  split
  · next e => subst e; decide
  · rw [if_neg (by omega), nd_val]; omega
theorem dgs_inj {a b : Int} (ha : 0 ≤ a) (hb : 0 ≤ b) (h : dgs a = dgs b) : a = b := by
  have h1 := dgs_val ha
  rw [h, dgs_val hb] at h1
  omega
/-- split at a byte that is no digit -/
theorem cut_at {s : UInt8} (hs : ¬ isDig s) : ∀ {u u' v v' : List UInt8}, (∀ b ∈ u, isDig b) → (∀ b ∈ u', isDig b) → u ++ s :: v = u' ++ s :: v' → u = u' ∧ v = v'
  | [], [], v, v', _, _, h => by simpa using h
  | [], b :: u', v, v', _, h2, h => by
    simp only [List.nil_append, List.cons_append, List.cons.injEq] at h
    exact absurd (h.1 ▸ h2 b (by simp)) hs
  | b :: u, [], v, v', h1, _, h => by
    simp only [List.nil_append, List.cons_append, List.cons.injEq] at h
    exact absurd (h.1 ▸ h1 b (by simp)) hs
  | b :: u, b' :: u', v, v', h1, h2, h => by
    simp only [List.cons_append, List.cons.injEq] at h
    obtain ⟨e1, e2⟩ := cut_at hs (fun x hx => h1 x (by simp [hx])) (fun x hx => h2 x (by simp [hx])) h.2
    exact ⟨by rw [h.1, e1], e2⟩
theorem slot_inj {c c' t t' : Int} (h1 : 0 ≤ c) (h2 : 0 ≤ c') (h3 : 0 ≤ t) (h4 : 0 ≤ t') (h : slotL c t = slotL c' t') : c = c' ∧ t = t' := by
  simp only [slotL, List.append_assoc, List.cons_append, List.nil_append, List.cons.injEq, true_and] at h
  obtain ⟨e1, e2⟩ := cut_at (s := 64) (by unfold isDig; decide) (dgs_dig h1) (dgs_dig h2) h
  exact ⟨dgs_inj h1 h2 e1, dgs_inj h3 h4 e2⟩
theorem pass_inj {a b a' b' t t' : Int} (h1 : 0 ≤ a) (h2 : 0 ≤ b) (h3 : 0 ≤ a') (h4 : 0 ≤ b') (h5 : 0 ≤ t) (h6 : 0 ≤ t') (h : passL a b t = passL a' b' t') : (min a b = min a' b' ∧ max a b = max a' b') ∧ t = t' := by
  simp only [passL, List.append_assoc, List.cons_append, List.nil_append, List.cons.injEq, true_and] at h
  obtain ⟨e1, e2⟩ := cut_at (s := 45) (by unfold isDig; decide) (dgs_dig (by omega)) (dgs_dig (by omega)) h
  obtain ⟨e3, e4⟩ := cut_at (s := 64) (by unfold isDig; decide) (dgs_dig (by omega)) (dgs_dig (by omega)) e2
  exact ⟨⟨dgs_inj (by omega) (by omega) e1, dgs_inj (by omega) (by omega) e3⟩, dgs_inj h5 h6 e4⟩
theorem slot_pass {c t a b t' : Int} : slotL c t ≠ passL a b t' := by
  intro h
  simp only [slotL, passL, List.append_assoc, List.cons_append, List.nil_append, List.cons.injEq] at h
  exact absurd h.1 (by decide)
theorem sb_inj {a b : List UInt8} (h : sb a = sb b) : a = b := by
  unfold sb at h
  simpa using h
abbrev tickI (t : Int) : Prop := 0 ≤ t ∧ t ≤ 1073741824
theorem tick_spec {W0 : World} {H : Heap} {t : Int} :
    Ct Tryz.prog 101 #[I t] W0 H [] (fun r H' B => r = .bool (decide (tickI t)) ∧ B = [] ∧ H' = H) := by
  refine Ct.go fun R => ?_
  refine walkG ?_
  refine fin0 ?_
  exact ⟨bdec (by unfold tickI; omega), rfl, rfl⟩
theorem dec_nd : ∀ {u : Nat}, u ≠ 0 → Lib.decDigits u = nd u := fun {u} => by
  induction u using Nat.strongRecOn with
  | ind u ih =>
    intro h
    rw [Lib.decDigits, nd_step h]
    split
    · next h1 =>
      rw [show u / 10 = 0 by omega, show u % 10 = u by omega]; simp [nd]
    · next h1 => rw [ih (u / 10) (by omega) (by omega)]
theorem itoa_dgs {n : Int} : Lib.itoa n = dgs n := by
  unfold Lib.itoa dgs
  by_cases h0 : n = 0
  · subst h0; rw [if_neg (by omega), if_pos rfl]; simp [Lib.decDigits]
  rw [if_neg h0]
  by_cases h1 : n < 0
  · rw [if_pos h1, if_pos h1, dec_nd (by omega)]; rfl
  · rw [if_neg h1, if_neg h1, dec_nd (by omega), show n.toNat = n.natAbs by omega]
theorem itoa_spec {W0 : World} {H : Heap} {n : Int} (hT : TabH Tryz.prog H) (hn : fits n) :
    Ct Tryz.prog 115 #[I n] W0 H [] (fun r H' B => r = .string (sb (dgs n)) ∧ B = [] ∧ H' = H) := by
  have h := ct_itoa (W0 := W0) hT hn Tryz.strconv_Itoa
  rw [itoa_dgs] at h; exact h
end Go.Proofs.YtjgjcakeimkkdaaGreatDoor

set_option linter.unusedVariables false
set_option linter.unusedSimpArgs false
namespace Go.Proofs.YtjgjcakeimkkdaaGreatDoor
open Go Go.Sx Go.Proofs
instance : TIf Tryz.prog 196 := ⟨_, Tryz.underlying196⟩
/-- what stands ahead of the first c, and behind it -/
def cutB (c : UInt8) : List UInt8 → List UInt8 × List UInt8 × Bool
  | [] => ([], [], false)
  | b :: r => if b = c then ([], r, true) else (b :: (cutB c r).1, (cutB c r).2.1, (cutB c r).2.2)
theorem cutB_at {c : UInt8} {v : List UInt8} : ∀ {u : List UInt8}, c ∉ u → cutB c (u ++ c :: v) = (u, v, true)
  | [], _ => by simp [cutB]
  | b :: u, h => by
    have h1 : ¬ b = c := fun e => h (List.mem_cons.2 (.inl e.symm))
    have ih := cutB_at (v := v) (u := u) (fun e => h (List.mem_cons.2 (.inr e)))
    simp only [List.cons_append, cutB, ih, if_neg h1]
theorem cutB_ok {c : UInt8} : ∀ {l : List UInt8}, (cutB c l).2.2 = true → l = (cutB c l).1 ++ c :: (cutB c l).2.1
  | [], h => by cases h
  | b :: r, h => by
    unfold cutB at h ⊢
    split
    · next e => subst e; rfl
    · next e => rw [if_neg e] at h; simp only [List.cons_append]; rw [← cutB_ok (l := r) h]
theorem cutB_len {c : UInt8} : ∀ {l : List UInt8}, (cutB c l).1.length ≤ l.length ∧ (cutB c l).2.1.length ≤ l.length
  | [] => by simp [cutB]
  | b :: r => by
    have := cutB_len (c := c) (l := r)
    unfold cutB; split
    · simp
    · simp only [List.length_cons]; omega
theorem cutB_idx {c : UInt8} : ∀ {l : List UInt8}, (Lib.indexByte l c = -1 ∧ cutB c l = (l, [], false)) ∨ ∃ j : Nat, j < l.length ∧ Lib.indexByte l c = j ∧ cutB c l = (l.take j, l.drop (j + 1), true)
  | [] => .inl ⟨rfl, rfl⟩
  | b :: r => by
    by_cases e : b = c
    · subst e; exact .inr ⟨0, by simp, by simp [Lib.indexByte], by simp [cutB]⟩
    · have hb : (b == c) = false := by simpa using e
      rcases cutB_idx (c := c) (l := r) with ⟨h1, h2⟩ | ⟨j, h0, h1, h2⟩
      · exact .inl ⟨by simp [Lib.indexByte, hb, h1], by simp [cutB, e, h2]⟩
      · refine .inr ⟨j + 1, by simp; omega, ?_, by simp [cutB, e, h2]⟩
        have h3 : ¬ ((j : Int) = -1) := by omega
        simp [Lib.indexByte, hb, h1, h3]
/-- what stands behind the first sign, if that is c -/
def preB (c : UInt8) : List UInt8 → List UInt8 × Bool
  | [] => ([], false)
  | b :: r => if b = c then (r, true) else (b :: r, false)
theorem preB_lib {c : UInt8} {l : List UInt8} : Lib.trimPrefix l [c] = (preB c l).1 ∧ Lib.hasPrefix l [c] = (preB c l).2 := by
  cases l with
  | nil => simp [Lib.trimPrefix, Lib.hasPrefix, preB]
  | cons b r =>
    unfold preB Lib.trimPrefix Lib.hasPrefix
    by_cases e : b = c
    · subst e; simp [List.isPrefixOf]
    · have h1 : (c == b) = false := by simpa using fun h : c = b => e h.symm
      have h2 : [c].isPrefixOf (b :: r) = false := by simp [List.isPrefixOf, h1]
      simp [e, h2]
theorem preB_len {c : UInt8} {l : List UInt8} : (preB c l).1.length ≤ l.length := by
  cases l with
  | nil => simp [preB]
  | cons b r => by_cases e : b = c <;> simp [preB, e]
theorem preB_ok {c : UInt8} {l : List UInt8} (h : (preB c l).2 = true) : l = c :: (preB c l).1 := by
  cases l with
  | nil => cases h
  | cons b r =>
    by_cases e : b = c
    · subst e; simp [preB]
    · simp [preB, e] at h
theorem idx1_spec {W0 : World} {H : Heap} {l : List UInt8} {c : UInt8} :
    Ct Tryz.prog 132 #[.string (sb l), .string (sb [c])] W0 H [] (fun r H' B => r = I (Lib.indexByte l c) ∧ B = [] ∧ H' = H) :=
  ct_pure fun w _ => (Tryz.stringslite_Index_one (sb l) c w).mono fun e w' ⟨h1, h2⟩ => ⟨by rw [h1, sb_data], h2 ▸ .refl _ _⟩
instance : TFn Tryz.prog 113 := ⟨Tryz.call113⟩
instance : TBody Tryz.prog 113 Tryz.f113 (Tryz.f113.body.getD .skip) 23 := ⟨Tryz.func113, rfl, Tryz.ntmps113⟩
instance : TFn Tryz.prog 132 := ⟨Tryz.call132⟩
def cutV (c : UInt8) (l : List UInt8) : Value := .tuple #[.string (sb (cutB c l).1), .string (sb (cutB c l).2.1), .bool (cutB c l).2.2]
theorem cut0_spec {W0 : World} {H : Heap} {l : List UInt8} {c : UInt8} (hl : l.length ≤ cap47) :
    Ct Tryz.prog 113 #[.string (sb l), .string (sb [c])] W0 H [] (fun r H' B => r = cutV c l ∧ B = [] ∧ H' = H) := by
  refine Ct.go fun R => ?_
  simp only [cap47] at hl
  refine walk ?_
  refine ops_pcall rfl rfl idx1_spec ?_
  rcases cutB_idx (c := c) (l := l) with ⟨h1, h2⟩ | ⟨j, h0, h1, h2⟩
  · rw [h1]
    refine walk ?_
    refine fin0 ?_
    exact ⟨by unfold cutV; rw [h2], rfl, rfl⟩
  · rw [h1]
    refine walk ?_
    rw [show ((sb [c]).size : Int) = 1 from rfl]
    refine walk ?_
    refine fin0 ?_
    exact ⟨by unfold cutV; rw [h2], rfl, rfl⟩
theorem cutS_spec {W0 : World} {H : Heap} {l : List UInt8} {c : UInt8} (hl : l.length ≤ cap47) :
    Ct Tryz.prog 85 #[.string (sb l), .string (sb [c])] W0 H [] (fun r H' B => r = cutV c l ∧ B = [] ∧ H' = H) := by
  refine Ct.go fun R => ?_
  refine walk ?_
  refine ops_pcall rfl rfl (cut0_spec hl) ?_
  unfold cutV
  refine walk ?_
  refine fin0 ?_
  exact ⟨rfl, rfl, rfl⟩
theorem preS_spec {W0 : World} {H : Heap} {l : List UInt8} {c : UInt8} :
    Ct Tryz.prog 87 #[.string (sb l), .string (sb [c])] W0 H [] (fun r H' B => r = .tuple #[.string (sb (preB c l).1), .bool (preB c l).2] ∧ B = [] ∧ H' = H) :=
  ct_pure fun w _ => (Tryz.strings_CutPrefix (sb l) (sb [c]) w).mono fun e w' ⟨h1, h2⟩ => ⟨by rw [h1, sb_data, sb_data, preB_lib.1, preB_lib.2], h2 ▸ .refl _ _⟩
/-- the library's variables that the walks read -/
structure PkH (H : Heap) : Prop where
  tab : TabH Tryz.prog H
  syn : ∃ tp p, VarH Tryz.prog H "strconv.ErrSyntax" [.iface tp p]
  ran : ∃ tp p, VarH Tryz.prog H "strconv.ErrRange" [.iface tp p]
theorem PkH.mono {H H' : Heap} (h : PkH H) (hl : H.le H') : PkH H' := ⟨h.tab.mono hl, let ⟨a, b, c⟩ := h.syn; ⟨a, b, c.mono hl⟩, let ⟨a, b, c⟩ := h.ran; ⟨a, b, c.mono hl⟩⟩
def AtoiP (l : List UInt8) (r : Value) : Prop := (∃ v, Lib.atoiAll l = .ok v ∧ r = .tuple #[I v, .nilIface]) ∨ ((∀ v, Lib.atoiAll l ≠ .ok v) ∧ ∃ n t u, r = .tuple #[I n, .iface t u])
theorem atoi_spec {W0 : World} {H : Heap} {l : List UInt8} (hP : PkH H) (hl : l.length ≤ cap47) :
    Ct Tryz.prog 114 #[.string (sb l)] W0 H [] (fun r H' B => AtoiP l r ∧ B = [] ∧ H' = H) := by
  have hs : (sb l).size ≤ 281474976710656 := by rw [sb_size]; simp only [cap47] at hl; omega
  refine ct_pureP fun w hw => ?_
  cases h : Lib.atoiAll l
  · next v =>
    refine (Tryz.strconv_Atoi_ok (sb l) (by omega) v (by rw [sb_data]; exact h) w).mono fun e w' ⟨h1, h2⟩ => ⟨_, h1, .inl ⟨v, h, rfl⟩, ?_⟩
    rcases h2 with rfl | ⟨t, rfl⟩
    · exact .refl _ _
    · exact Joins.below_bytesWorld _ w _ _ (Nat.le_refl _)
  · obtain ⟨tp, p, hv⟩ := hP.syn
    refine (Any.strconv_Atoi_syntax_var Tryz.laysC172 (sb l) hs (by rw [sb_data]; exact h) tp p w (hv.var hw)).mono fun e w' ⟨N, h1, _, _, h2⟩ => ⟨_, h1, .inr ⟨fun v e => (by rw [h] at e; cases e), _, _, _, rfl⟩, h2⟩
  · obtain ⟨tp, p, hv⟩ := hP.ran
    refine (Any.strconv_Atoi_range_var Tryz.laysC172 (sb l) hs (by rw [sb_data]; exact h) tp p w (hv.var hw)).mono fun e w' ⟨N, h1, _, _, h2⟩ => ⟨_, h1, .inr ⟨fun v e => (by rw [h] at e; cases e), _, _, _, rfl⟩, h2⟩
theorem parse_app {v : List UInt8} : ∀ {u : List UInt8} {a b : Nat}, Lib.parseUint10 a u = .ok b → Lib.parseUint10 a (u ++ v) = Lib.parseUint10 b v
  | [], a, b, h => by simp only [Lib.parseUint10] at h; cases h; rfl
  | c :: u, a, b, h => by
    simp only [Lib.parseUint10, List.cons_append] at h ⊢
    split at h
    · next h1 =>
      rw [if_pos h1]
      split at h
      · cases h
      · next h2 =>
        rw [if_neg h2]
        split at h
        · cases h
        · next h3 => rw [if_neg h3]; exact parse_app h
    · cases h
theorem parse_nd : ∀ {n : Nat}, n < 10000000000000000000 → Lib.parseUint10 0 (nd n) = .ok n := fun {n} => by
  induction n using Nat.strongRecOn with
  | ind n ih =>
    intro hn
    by_cases h0 : n = 0
    · subst h0; simp [nd, Lib.parseUint10]
    · have hd := dig_nat (k := n)
      rw [nd_step h0, parse_app (ih (n / 10) (by omega) (by omega))]
      simp only [Lib.parseUint10]
      rw [hd, if_pos (by omega), if_neg (by omega), if_neg (by omega)]
      congr 1; omega
theorem atoi_dgs {v : Int} (h0 : 0 ≤ v) (h1 : v ≤ 1073741824) : Lib.atoiAll (dgs v) = .ok v := by
  have hp : Lib.parseUint10 0 (dgs v) = .ok v.toNat := by
    unfold dgs
    split
    · next h => subst h; simp [Lib.parseUint10]
    · rw [if_neg (by omega), show v.natAbs = v.toNat by omega]; exact parse_nd (by omega)
  have hd := dgs_dig h0
  cases hl : dgs v with
  | nil =>
    exfalso
    unfold dgs at hl
    split at hl
    · cases hl
    · rw [if_neg (by omega), nd_step (by omega)] at hl; simp at hl
  | cons c r =>
    rw [hl] at hp hd
    have hc := hd c (by simp)
    unfold isDig at hc
    have hm : Lib.parseMag (c :: r) = .ok v.toNat := by unfold Lib.parseMag; rw [if_neg (by simp)]; exact hp
    unfold Lib.atoiAll
    simp only
    rw [if_neg (by omega), hm]
    simp only
    rw [if_neg (by omega), if_neg (by omega), if_neg (by omega)]
    congr 1; omega
open Classical in
/-- the number that a text spells -/
noncomputable def numL (l : List UInt8) : Option Int := if h : ∃ v, (0 ≤ v ∧ v ≤ 1073741824) ∧ dgs v = l then some h.choose else none
theorem numL_iff {l : List UInt8} {v : Int} : numL l = some v ↔ (0 ≤ v ∧ v ≤ 1073741824) ∧ dgs v = l := by
  unfold numL
  constructor
  · intro h
    split at h
    · next hh => cases h; exact hh.choose_spec
    · cases h
  · intro h
    have hh : ∃ v, (0 ≤ v ∧ v ≤ 1073741824) ∧ dgs v = l := ⟨v, h⟩
    rw [dif_pos hh]
    have h2 := hh.choose_spec
    rw [dgs_inj h2.1.1 h.1.1 (h2.2.trans h.2.symm)]
def NumP (l : List UInt8) (r : Value) : Prop := ∃ n, r = .tuple #[I n, .bool (numL l).isSome] ∧ ∀ v, numL l = some v → n = v
theorem number_spec {W0 : World} {H : Heap} {l : List UInt8} (hP : PkH H) (hl : l.length ≤ cap47) :
    Ct Tryz.prog 86 #[.string (sb l)] W0 H [] (fun r H' B => NumP l r ∧ B = [] ∧ H' = H) := by
  refine Ct.go fun R => ?_
  refine walk ?_
  refine ops_call rfl rfl (atoi_spec hP hl) fun r1 H1 B hl1 ⟨hr, eB, eH⟩ => ?_
  subst eB eH
  rcases hr with ⟨v, h, rfl⟩ | ⟨hno, n, t, u, rfl⟩
  · have hb := Lib.atoiAll_bounds h
    have hf : fits v := by unfold fits; omega
    refine walkG ?_
    refine ops_gcall rfl rfl (fun hg => itoa_spec hP.tab hf) ?_
    refine walkG ?_
    refine fin0 ?_
    refine ⟨⟨v, ?_, fun v' h' => ?_⟩, rfl, rfl⟩
    · by_cases h2 : (0 ≤ v ∧ v ≤ 1073741824) ∧ dgs v = l
      · rw [numL_iff.2 h2, decide_eq_true (p := _ ∧ _) ⟨h2.1, by rw [h2.2]⟩]; rfl
      · have hnone : numL l = none := by
          cases h3 : numL l with
          | none => rfl
          | some v' =>
            obtain ⟨h4, h5⟩ := numL_iff.1 h3
            have h6 := atoi_dgs h4.1 h4.2
            rw [h5, h] at h6
            cases h6
            exact absurd ⟨h4, h5⟩ h2
        rw [hnone, decide_eq_false (p := _ ∧ _) (fun h3 => h2 ⟨h3.1, sb_inj h3.2⟩)]; rfl
    · obtain ⟨h1, h2⟩ := numL_iff.1 h'
      have h3 := atoi_dgs h1.1 h1.2
      rw [h2, h] at h3
      cases h3; rfl
  · have hnone : numL l = none := by
      cases h : numL l with
      | none => rfl
      | some v =>
        obtain ⟨h1, h2⟩ := numL_iff.1 h
        exact absurd (by rw [← h2]; exact atoi_dgs h1.1 h1.2) (hno v)
    refine walkG ?_
    refine fin0 ?_
    exact ⟨⟨n, by rw [hnone]; rfl, fun v h => (by rw [hnone] at h; cases h)⟩, rfl, rfl⟩
/-- k is written so -/
def isKey (l : List UInt8) (k : Int × Int × Int) : Prop := (k.2.1 = -1 ∧ tickI k.1 ∧ tickI k.2.2 ∧ l = slotL k.1 k.2.2) ∨ (tickI k.1 ∧ tickI k.2.1 ∧ k.1 < k.2.1 ∧ tickI k.2.2 ∧ l = passL k.1 k.2.1 k.2.2)
theorem isKey.uniq {l : List UInt8} {k k' : Int × Int × Int} (h : isKey l k) (h' : isKey l k') : k = k' := by
  obtain ⟨a, b, t⟩ := k
  obtain ⟨a', b', t'⟩ := k'
  simp only [isKey, tickI] at h h'
  rcases h with ⟨h1, h2, h3, h4⟩ | ⟨h1, h2, h3, h4, h5⟩
  · rcases h' with ⟨g1, g2, g3, g4⟩ | ⟨g1, g2, g3, g4, g5⟩
    · obtain ⟨e1, e2⟩ := slot_inj h2.1 g2.1 h3.1 g3.1 (h4.symm.trans g4)
      rw [e1, e2, h1, g1]
    · exact absurd (h4.symm.trans g5) slot_pass
  · rcases h' with ⟨g1, g2, g3, g4⟩ | ⟨g1, g2, g3, g4, g5⟩
    · exact absurd (g4.symm.trans h5) slot_pass
    · obtain ⟨⟨e1, e2⟩, e3⟩ := pass_inj h1.1 h2.1 g1.1 g2.1 h4.1 g4.1 (h5.symm.trans g5)
      rw [show a = a' by omega, show b = b' by omega, e3]
def ReadP (l : List UInt8) (r : Value) : Prop := (∃ k, isKey l k ∧ r = .tuple #[.agg #[I k.1, I k.2.1, I k.2.2], .bool true]) ∨ ((∀ k, ¬ isKey l k) ∧ r = .tuple #[.agg #[I 0, I 0, I 0], .bool false])
theorem no_dig {c : UInt8} (hc : ¬ isDig c) {n : Int} (h : 0 ≤ n) : c ∉ dgs n := fun e => hc (dgs_dig h c e)
theorem nd64 : ¬ isDig 64 := by unfold isDig; decide
theorem nd45 : ¬ isDig 45 := by unfold isDig; decide
theorem numL_dgs {n : Int} (h : tickI n) : numL (dgs n) = some n := numL_iff.2 ⟨h, rfl⟩
theorem slot_cut {c t : Int} (h : tickI c) : cutB 64 (slotL c t) = (99 :: dgs c, dgs t, true) := by
  have : slotL c t = (99 :: dgs c) ++ 64 :: dgs t := by simp [slotL]
  rw [this, cutB_at]
  intro e
  rcases List.mem_cons.1 e with e | e
  · cases e
  · exact no_dig nd64 h.1 e
theorem pass_cut {a b t : Int} (ha : tickI a) (hb : tickI b) (hab : a < b) : cutB 64 (passL a b t) = (112 :: (dgs a ++ 45 :: dgs b), dgs t, true) ∧ cutB 45 (dgs a ++ 45 :: dgs b) = (dgs a, dgs b, true) := by
  have : passL a b t = (112 :: (dgs a ++ 45 :: dgs b)) ++ 64 :: dgs t := by
    unfold passL; rw [show min a b = a by omega, show max a b = b by omega]; simp
  refine ⟨?_, cutB_at (no_dig nd45 ha.1)⟩
  rw [this, cutB_at]
  intro e
  rcases List.mem_cons.1 e with e | e
  · cases e
  · rcases List.mem_append.1 e with e | e
    · exact no_dig nd64 ha.1 e
    · rcases List.mem_cons.1 e with e | e
      · cases e
      · exact no_dig nd64 hb.1 e
/-- a key, as the program takes it apart -/
theorem key_parts {l : List UInt8} {k : Int × Int × Int} (h : isKey l k) : (cutB 64 l).2.2 = true ∧ numL (cutB 64 l).2.1 = some k.2.2 ∧
    ((k.2.1 = -1 ∧ preB 99 (cutB 64 l).1 = (dgs k.1, true) ∧ numL (dgs k.1) = some k.1) ∨ ((preB 99 (cutB 64 l).1).2 = false ∧ (preB 112 (cutB 64 l).1).2 = true ∧ (cutB 45 (preB 112 (cutB 64 l).1).1).2.2 = true ∧ numL (cutB 45 (preB 112 (cutB 64 l).1).1).1 = some k.1 ∧ numL (cutB 45 (preB 112 (cutB 64 l).1).1).2.1 = some k.2.1 ∧ k.1 < k.2.1)) := by
  rcases h with ⟨h1, h2, h3, rfl⟩ | ⟨h1, h2, h3, h4, rfl⟩
  · rw [slot_cut h2]
    exact ⟨rfl, numL_dgs h3, .inl ⟨h1, by simp [preB], numL_dgs h2⟩⟩
  · obtain ⟨e1, e2⟩ := pass_cut (t := k.2.2) h1 h2 h3
    rw [e1]
    refine ⟨rfl, numL_dgs h4, .inr ⟨by simp [preB], by simp [preB], ?_, ?_, ?_, h3⟩⟩ <;> simp only [preB, if_pos] <;> rw [e2]
    · exact numL_dgs h1
    · exact numL_dgs h2
theorem cap_le {a b : Nat} (h : a ≤ b) (hb : b ≤ cap47) : a ≤ cap47 := Nat.le_trans h hb
set_option maxHeartbeats 16000000 in
theorem read_spec {W0 : World} {H : Heap} {l : List UInt8} (hP : PkH H) (hl : l.length ≤ cap47) :
    Ct Tryz.prog 56 #[.string (sb l)] W0 H [] (fun r H' B => ReadP l r ∧ B = [] ∧ H' = H) := by
  refine Ct.go fun R => ?_
  have lc := cutB_len (c := 64) (l := l)
  have hk := fun k => key_parts (l := l) (k := k)
  have hok := cutB_ok (c := 64) (l := l)
  refine walk ?_
  refine ops_alloc rfl fun p2 _ => ?_
  refine walk ?_
  refine ops_pcall rfl rfl (cutS_spec (c := 64) hl) ?_
  unfold cutV
  obtain ⟨pl, tl, ok, hcc⟩ : ∃ pl tl ok, cutB 64 l = (pl, tl, ok) := ⟨_, _, _, rfl⟩
  simp only [hcc] at lc hk hok ⊢
  refine walk ?_
  refine ops_call rfl rfl (number_spec hP (cap_le lc.2 hl)) fun r1 H1 B hl1 ⟨⟨tick, er, htick⟩, eB, eH⟩ => ?_
  subst er eB eH
  refine walkG ?_
  refine ex_if rfl (fun hq => ?_) (fun hq => ?_)
  · have hno : ∀ k, ¬ isKey l k := fun k h => by
      have h1 := hk k h
      rcases hq with h2 | h2
      · rw [h1.1] at h2; cases h2
      · rw [h1.2.1] at h2; cases h2
    refine walk ?_
    refine fin0 ?_
    exact ⟨.inr ⟨hno, rfl⟩, rfl, rfl⟩
  have hok1 : ok = true := by cases ok with | true => rfl | false => exact absurd (.inl rfl) hq
  subst hok1
  obtain ⟨t, ht⟩ : ∃ t, numL tl = some t := by
    cases h : numL tl with
    | some t => exact ⟨t, rfl⟩
    | none => exact absurd (.inr (by rw [h]; rfl)) hq
  obtain rfl := htick t ht
  obtain ⟨tt, et⟩ := numL_iff.1 ht
  have hll := hok rfl
  refine walk ?_
  refine ops_pcall rfl rfl (preS_spec (c := 99) (l := pl)) ?_
  have lp := preB_len (c := 99) (l := pl)
  have hp := preB_ok (c := 99) (l := pl)
  obtain ⟨cell, pre, hpre⟩ : ∃ cell pre, preB 99 pl = (cell, pre) := ⟨_, _, rfl⟩
  simp only [hpre] at lp hp hk ⊢
  cases pre with
  | true =>
    refine walk ?_
    refine ops_call rfl rfl (number_spec hP (cap_le lp (cap_le lc.1 hl))) fun r2 H2 B hl2 ⟨⟨n, er, hn⟩, eB, eH⟩ => ?_
    subst er eB eH
    cases hc : numL cell with
    | none =>
      have hno : ∀ k, ¬ isKey l k := fun k h => by
        rcases (hk k h).2.2 with ⟨_, e, f⟩ | ⟨e, _⟩
        · have e := congrArg Prod.fst e
          simp only at e
          rw [e] at hc; rw [hc] at f; cases f
        · cases e
      rw [show Option.isSome (none : Option Int) = false from rfl]
      refine walk ?_
      refine fin0 ?_
      exact ⟨.inr ⟨hno, rfl⟩, rfl, rfl⟩
    | some c =>
      obtain rfl := hn c hc
      obtain ⟨tc, ec⟩ := numL_iff.1 hc
      rw [show Option.isSome (some n) = true from rfl]
      refine walk ?_
      refine fin0 ?_
      refine ⟨.inl ⟨(n, -1, tick), .inl ⟨rfl, tc, tt, ?_⟩, rfl⟩, rfl, rfl⟩
      rw [hll, hp rfl, ← ec, ← et]; simp [slotL]
  | false =>
    refine walk ?_
    refine ops_pcall rfl rfl (preS_spec (c := 112) (l := pl)) ?_
    have lp2 := preB_len (c := 112) (l := pl)
    have hp2 := preB_ok (c := 112) (l := pl)
    obtain ⟨two, pass, hpass⟩ : ∃ two pass, preB 112 pl = (two, pass) := ⟨_, _, rfl⟩
    simp only [hpass] at lp2 hp2 hk ⊢
    refine walk ?_
    refine ops_pcall rfl rfl (cutS_spec (c := 45) (l := two) (cap_le lp2 (cap_le lc.1 hl))) ?_
    unfold cutV
    have lc2 := cutB_len (c := 45) (l := two)
    have hok2 := cutB_ok (c := 45) (l := two)
    obtain ⟨one, other, ok2, hcc2⟩ : ∃ one other ok2, cutB 45 two = (one, other, ok2) := ⟨_, _, _, rfl⟩
    simp only [hcc2] at lc2 hok2 hk ⊢
    refine walk ?_
    refine ops_call rfl rfl (number_spec hP (cap_le lc2.1 (cap_le lp2 (cap_le lc.1 hl)))) fun r3 H3 B hl3 ⟨⟨a, er, ha⟩, eB, eH⟩ => ?_
    subst er eB eH
    refine walk ?_
    refine ops_call rfl rfl (number_spec hP (cap_le lc2.2 (cap_le lp2 (cap_le lc.1 hl)))) fun r4 H4 B hl4 ⟨⟨b, er, hb⟩, eB, eH⟩ => ?_
    subst er eB eH
    refine walkG ?_
    refine ex_if rfl (fun hq2 => ?_) (fun hq2 => ?_)
    · have hno : ∀ k, ¬ isKey l k := fun k h => by
        rcases (hk k h).2.2 with ⟨_, e, _⟩ | ⟨_, e1, e2, e3, e4, e5⟩
        · cases e
        · have := ha _ e3
          have := hb _ e4
          rw [e1, e2, e3, e4] at hq2
          rcases hq2 with (((h | h) | h) | h) | h
          · cases h
          · cases h
          · cases h
          · cases h
          · omega
      refine walk ?_
      refine fin0 ?_
      exact ⟨.inr ⟨hno, rfl⟩, rfl, rfl⟩
    · have hpa : pass = true := by cases pass with | true => rfl | false => exact absurd (.inl (.inl (.inl (.inl rfl)))) hq2
      have hoa : ok2 = true := by cases ok2 with | true => rfl | false => exact absurd (.inl (.inl (.inl (.inr rfl)))) hq2
      subst hpa hoa
      obtain ⟨a', ha'⟩ : ∃ a', numL one = some a' := by
        cases h : numL one with
        | some t => exact ⟨t, rfl⟩
        | none => exact absurd (.inl (.inl (.inr (by rw [h]; rfl)))) hq2
      obtain ⟨b', hb'⟩ : ∃ b', numL other = some b' := by
        cases h : numL other with
        | some t => exact ⟨t, rfl⟩
        | none => exact absurd (.inl (.inr (by rw [h]; rfl))) hq2
      obtain rfl := ha a' ha'
      obtain rfl := hb b' hb'
      obtain ⟨ta, ea⟩ := numL_iff.1 ha'
      obtain ⟨tb, eb⟩ := numL_iff.1 hb'
      have hab : a < b := by
        by_cases h : b ≤ a
        · exact absurd (.inr h) hq2
        · omega
      refine walk ?_
      refine fin0 ?_
      refine ⟨.inl ⟨(a, b, tick), .inr ⟨ta, tb, hab, tt, ?_⟩, rfl⟩, rfl, rfl⟩
      rw [hll, hp2 rfl, hok2 rfl, ← ea, ← eb, ← et]
      unfold passL
      rw [show min a b = a by omega, show max a b = b by omega]
      simp
end Go.Proofs.YtjgjcakeimkkdaaGreatDoor

set_option linter.unusedVariables false
set_option linter.unusedSimpArgs false
namespace Go.Proofs.YtjgjcakeimkkdaaGreatDoor
open Go Go.Sx Go.Proofs
/-- the number at the front, and its length -/
def digC (n : Nat) : List UInt8 → Nat × Nat
  | [] => (n, 0)
  | c :: r => if (48 ≤ c.toNat ∧ c.toNat ≤ 57) ∧ n < 1000000000000 then ((digC (10 * n + (c.toNat - 48)) r).1, (digC (10 * n + (c.toNat - 48)) r).2 + 1) else (n, 0)
theorem digC_len : ∀ {l : List UInt8} {n : Nat}, (digC n l).2 ≤ l.length
  | [], n => by simp [digC]
  | c :: r, n => by
    have := digC_len (l := r) (n := 10 * n + (c.toNat - 48))
    unfold digC; split
    · simp only [List.length_cons]; omega
    · simp
theorem digC_lt : ∀ {l : List UInt8} {n : Nat}, n < 10000000000009 → (digC n l).1 < 10000000000009
  | [], n, h => h
  | c :: r, n, h => by
    unfold digC; split
    · next h1 => exact digC_lt (by omega)
    · exact h
theorem digC_app {v : List UInt8} : ∀ {u : List UInt8} {a b : Nat}, digC a u = (b, u.length) → digC a (u ++ v) = ((digC b v).1, u.length + (digC b v).2)
  | [], a, b, h => by simp only [digC, List.length_nil, Prod.mk.injEq, and_true] at h; subst h; simp
  | c :: u, a, b, h => by
    by_cases h1 : (48 ≤ c.toNat ∧ c.toNat ≤ 57) ∧ a < 1000000000000
    · simp only [digC, if_pos h1, List.cons_append, List.length_cons, Prod.mk.injEq] at h ⊢
      have ih := digC_app (v := v) (u := u) (a := 10 * a + (c.toNat - 48)) (b := b) (Prod.ext h.1 (by have := h.2; simp only; omega))
      rw [ih]
      exact ⟨rfl, by simp only; omega⟩
    · simp [digC, h1] at h
theorem digC_nd {n : Nat} : n < 10000000000000 → digC 0 (nd n) = (n, (nd n).length) := by
  induction n using Nat.strongRecOn with
  | ind n ih =>
    intro hn
    by_cases h0 : n = 0
    · subst h0; simp [nd, digC]
    · have hd := dig_nat (k := n)
      have hs : digC (n / 10) [UInt8.ofNat (48 + n % 10)] = (n, 1) := by
        simp only [digC, hd]
        rw [if_pos (by omega)]
        simp only [Prod.mk.injEq, and_true]; omega
      rw [nd_step h0, digC_app (ih (n / 10) (by omega) (by omega)), hs]
      simp
theorem digC_stop {n : Nat} {x : UInt8} {r : List UInt8} (hx : ¬ isDig x) : digC n (x :: r) = (n, 0) := by
  unfold digC; rw [if_neg]; rintro ⟨h, _⟩; exact hx h
theorem digC_dgs {t : Int} (h : tickI t) {r : List UInt8} (hr : r = [] ∨ ∃ x q, r = x :: q ∧ ¬ isDig x) : digC 0 (dgs t ++ r) = (t.toNat, (dgs t).length) := by
  have hd : digC 0 (dgs t) = (t.toNat, (dgs t).length) := by
    unfold dgs
    split
    · next h => subst h; rfl
    · rw [if_neg (by simp only [tickI] at h; omega), show t.natAbs = t.toNat by omega]; exact digC_nd (by simp only [tickI] at h; omega)
  rw [digC_app hd]
  rcases hr with rfl | ⟨x, q, rfl, hx⟩
  · simp [digC]
  · rw [digC_stop hx]; simp
set_option maxHeartbeats 8000000 in
theorem digitsR_spec {W0 : World} {H : Heap} {l : List UInt8} {at0 : Nat} (hl : l.length ≤ cap47) (ha : at0 ≤ cap47 + 2) :
    Ct Tryz.prog 98 #[.string (sb l), I at0] W0 H [] (fun r H' B => r = .tuple #[I (digC 0 (l.drop at0)).1, I (at0 + (digC 0 (l.drop at0)).2 : Nat)] ∧ B = [] ∧ H' = H) := by
  refine Ct.go fun R => ?_
  simp only [cap47] at hl ha
  have hsz : (sb l).size = l.length := sb_size l
  refine walk ?_
  refine ex_loop (σ := Nat × Nat) (fun s => s.1 < 10000000000009 ∧ (at0 ≤ s.2 ∧ (s.2 ≤ l.length ∨ s.2 = at0)) ∧ (digC 0 (l.drop at0)).1 = (digC s.1 (l.drop s.2)).1 ∧ at0 + (digC 0 (l.drop at0)).2 = s.2 + (digC s.1 (l.drop s.2)).2) (fun s => [(0, .string (sb l)), (1, I s.2), (6, I s.1)]) (fun _ => H) (fun _ => R) (fun s => l.length - s.2) (0, at0) ⟨by simp, ⟨by simp, .inr rfl⟩, rfl, rfl⟩ fun ⟨n, p⟩ ⟨hn, hp, h1, h2⟩ K hL => ?_
  simp only at hn hp h1 h2
  dsimp only
  refine walkG ?_
  refine ex_if rfl (fun hc => ?_) (fun hc => ?_)
  · obtain ⟨⟨⟨c1, c2⟩, c3⟩, c4⟩ := hc
    have hpl : p < l.length := by omega
    have hdrop : l.drop p = l.getD p 0 :: l.drop (p + 1) := by rw [List.drop_eq_getElem_cons hpl]; simp [List.getD, hpl]
    rw [hdrop] at h1 h2
    have hpi : p < l.length := hpl
    have hw : ∀ x : UInt8, (48 : Int) ≤ x.toNat → IntKind.u8.wrap ((x.toNat : Int) - 48) = ((x.toNat - 48 : Nat) : Int) := fun x hx => by
      have := x.toNat_lt
      simp [IntKind.wrap, IntKind.bits, IntKind.signed]; omega
    have hf1 : fits (10 * (n : Int)) := by unfold fits; omega
    refine walk ?_
    rw [hw _ c2]
    have hf2 : fits (((l.getD p 0).toNat - 48 : Nat) : Int) := by unfold fits; omega
    refine walk ?_
    have hstep : digC n (l.getD p 0 :: l.drop (p + 1)) = ((digC (10 * n + ((l.getD p 0).toNat - 48)) (l.drop (p + 1))).1, (digC (10 * n + ((l.getD p 0).toNat - 48)) (l.drop (p + 1))).2 + 1) := by
      rw [digC, if_pos ⟨⟨by omega, by omega⟩, by omega⟩]
    rw [hstep] at h1 h2
    refine out_next hL (10 * n + ((l.getD p 0).toNat - 48), p + 1) ⟨by simp only; omega, by simp only; omega, h1, by simp only at h2 ⊢; omega⟩
  · clear hL
    have hend : digC n (l.drop p) = (n, 0) := by
      by_cases hpl : p < l.length
      · rw [List.drop_eq_getElem_cons hpl, digC, if_neg]
        rintro ⟨e1, e2⟩
        have hg : l.getD p 0 = l[p] := by simp [List.getD, hpl]
        exact hc ⟨⟨⟨by omega, by rw [hg]; omega⟩, by rw [hg]; omega⟩, by omega⟩
      · rw [List.drop_eq_nil_of_le (by omega)]; rfl
    rw [hend] at h1 h2
    refine walk ?_
    refine fin0 ?_
    exact ⟨by rw [h1, h2]; simp, rfl, rfl⟩
theorem dgs_end {t : Int} (h : tickI t) : digC 0 (dgs t) = (t.toNat, (dgs t).length) := by
  have := digC_dgs h (r := []) (.inl rfl)
  rwa [List.append_nil] at this
theorem parse_slot {c t : Int} (hc : tickI c) (ht : tickI t) : digC 0 ((slotL c t).drop 1) = (c.toNat, (dgs c).length) ∧ (slotL c t).getD (1 + (dgs c).length) 0 = 64 ∧ digC 0 ((slotL c t).drop (1 + (dgs c).length + 1)) = (t.toNat, (dgs t).length) := by
  have e : slotL c t = 99 :: (dgs c ++ 64 :: dgs t) := by simp [slotL]
  rw [e]
  refine ⟨digC_dgs hc (.inr ⟨64, _, rfl, nd64⟩), ?_, ?_⟩
  · rw [Nat.add_comm]; simp [List.getD]
  · rw [show 1 + (dgs c).length + 1 = ((dgs c).length + 1) + 1 by omega, List.drop_succ_cons, List.drop_append, List.drop_of_length_le (by omega)]
    simp only [List.nil_append, show (dgs c).length + 1 - (dgs c).length = 1 by omega, List.drop_succ_cons, List.drop_zero]
    exact dgs_end ht
theorem parse_pass {a b t : Int} (ha : tickI a) (hb : tickI b) (hab : a < b) (ht : tickI t) : digC 0 ((passL a b t).drop 1) = (a.toNat, (dgs a).length) ∧ (1 + (dgs a).length < (passL a b t).length ∧ (passL a b t).getD (1 + (dgs a).length) 0 = 45) ∧
    digC 0 ((passL a b t).drop (1 + (dgs a).length + 1)) = (b.toNat, (dgs b).length) ∧ digC 0 ((passL a b t).drop (1 + (dgs a).length + 1 + (dgs b).length + 1)) = (t.toNat, (dgs t).length) := by
  have e : passL a b t = 112 :: (dgs a ++ 45 :: (dgs b ++ 64 :: dgs t)) := by
    unfold passL; rw [show min a b = a by omega, show max a b = b by omega]; simp
  rw [e]
  have h1 : (112 :: (dgs a ++ 45 :: (dgs b ++ 64 :: dgs t))).drop (1 + (dgs a).length + 1) = dgs b ++ 64 :: dgs t := by
    rw [show 1 + (dgs a).length + 1 = ((dgs a).length + 1) + 1 by omega, List.drop_succ_cons, List.drop_append, List.drop_of_length_le (by omega)]
    simp only [List.nil_append, show (dgs a).length + 1 - (dgs a).length = 1 by omega, List.drop_succ_cons, List.drop_zero]
  refine ⟨digC_dgs ha (.inr ⟨45, _, rfl, nd45⟩), ⟨by simp; omega, by rw [Nat.add_comm]; simp [List.getD]⟩, by rw [h1]; exact digC_dgs hb (.inr ⟨64, _, rfl, nd64⟩), ?_⟩
  rw [show 1 + (dgs a).length + 1 + (dgs b).length + 1 = (1 + (dgs a).length + 1) + ((dgs b).length + 1) by omega, ← List.drop_drop, h1, List.drop_append, List.drop_of_length_le (by omega)]
  simp only [List.nil_append, show (dgs b).length + 1 - (dgs b).length = 1 by omega, List.drop_succ_cons, List.drop_zero]
  exact dgs_end ht
theorem cast_toNat {c : Int} (h : tickI c) : ((c.toNat : Nat) : Int) = c := by simp only [tickI] at h; omega
theorem key_A {l : List UInt8} {k : Int × Int × Int} {a na b nb t nt : Nat} (h : isKey l k) (ha : digC 0 (l.drop 1) = (a, na)) (hd : ((l.getD (1 + na) 0).toNat : Int) = 45) (hb : digC 0 (l.drop (1 + na + 1)) = (b, nb)) (ht : digC 0 (l.drop (1 + na + 1 + nb + 1)) = (t, nt)) :
    k = ((a : Int), (b : Int), (t : Int)) ∧ tickI k.1 ∧ tickI k.2.1 ∧ k.1 < k.2.1 ∧ tickI k.2.2 ∧ l = passL k.1 k.2.1 k.2.2 := by
  obtain ⟨x, y, z⟩ := k
  rcases h with ⟨h1, h2, h3, h4⟩ | ⟨h1, h2, h3, h4, h5⟩
  · exfalso
    obtain ⟨p1, p2, p3⟩ := parse_slot h2 h3
    rw [← h4] at p1 p2 p3
    rw [ha] at p1
    have e := congrArg Prod.snd p1
    simp only at e
    rw [e, p2] at hd
    exact absurd hd (by decide)
  · obtain ⟨p1, p2, p3, p4⟩ := parse_pass h1 h2 h3 h4
    rw [← h5] at p1 p2 p3 p4
    rw [ha] at p1
    have e1 := congrArg Prod.fst p1
    have e2 := congrArg Prod.snd p1
    simp only at e1 e2
    rw [← e2] at p3 p4
    rw [hb] at p3
    have e3 := congrArg Prod.fst p3
    have e4 := congrArg Prod.snd p3
    simp only at e3 e4
    rw [← e4, ht] at p4
    have e5 := congrArg Prod.fst p4
    simp only at e5
    refine ⟨?_, h1, h2, h3, h4, h5⟩
    rw [e1, e3, e5, cast_toNat h1, cast_toNat h2, cast_toNat h4]
theorem key_B {l : List UInt8} {k : Int × Int × Int} {a na t nt : Nat} (h : isKey l k) (ha : digC 0 (l.drop 1) = (a, na)) (hd : ¬ (1 + na < l.length ∧ ((l.getD (1 + na) 0).toNat : Int) = 45)) (ht : digC 0 (l.drop (1 + na + 1)) = (t, nt)) :
    k = ((a : Int), -1, (t : Int)) ∧ tickI k.1 ∧ tickI k.2.2 ∧ l = slotL k.1 k.2.2 := by
  obtain ⟨x, y, z⟩ := k
  rcases h with ⟨h1, h2, h3, h4⟩ | ⟨h1, h2, h3, h4, h5⟩
  · obtain ⟨p1, p2, p3⟩ := parse_slot h2 h3
    rw [← h4] at p1 p2 p3
    rw [ha] at p1
    have e1 := congrArg Prod.fst p1
    have e2 := congrArg Prod.snd p1
    simp only at e1 e2 h1
    rw [← e2, ht] at p3
    have e5 := congrArg Prod.fst p3
    simp only at e5
    refine ⟨?_, h2, h3, h4⟩
    rw [e1, e5, cast_toNat h2, cast_toNat h3, h1]
  · exfalso
    obtain ⟨p1, p2, p3, p4⟩ := parse_pass h1 h2 h3 h4
    rw [← h5] at p1 p2 p3 p4
    rw [ha] at p1
    have e2 := congrArg Prod.snd p1
    simp only at e2
    rw [← e2] at p2
    exact hd ⟨p2.1, by rw [p2.2]; decide⟩
set_option maxHeartbeats 16000000 in
theorem rRead_spec {W0 : World} {H : Heap} {l : List UInt8} (hl : l.length ≤ cap47) :
    Ct Tryz.prog 79 #[.string (sb l)] W0 H [] (fun r H' B => ReadP l r ∧ B = [] ∧ H' = H) := by
  refine Ct.go fun R => ?_
  have hsz : (sb l).size = l.length := sb_size l
  have hl' := hl
  simp only [cap47] at hl'
  refine walk ?_
  refine ops_alloc rfl fun p2 _ => ?_
  refine walk ?_
  refine ops_alloc rfl fun p4 _ => ?_
  refine walk ?_
  refine ops_pcall rfl rfl (digitsR_spec (at0 := 1) hl (by simp only [cap47]; omega)) ?_
  have n1 := digC_len (l := l.drop 1) (n := 0)
  have v1 := digC_lt (l := l.drop 1) (n := 0) (by omega)
  obtain ⟨a, na, ha⟩ : ∃ a na, digC 0 (l.drop 1) = (a, na) := ⟨_, _, rfl⟩
  rw [ha] at n1 v1 ⊢
  simp only [List.length_drop] at n1 v1 ⊢
  have hna : 1 + na ≤ l.length ∨ na = 0 := by omega
  clear n1
  refine walkG ?_
  refine ex_if rfl (fun hd => ?_) (fun hd => ?_)
  · have hlt : 1 + na < l.length := by omega
    refine walk ?_
    rw [show ((1 + na : Nat) : Int) + 1 = ((1 + na + 1 : Nat) : Int) by omega]
    refine ops_pcall rfl rfl (digitsR_spec (at0 := 1 + na + 1) hl (by simp only [cap47]; omega)) ?_
    have n2 := digC_len (l := l.drop (1 + na + 1)) (n := 0)
    have v2 := digC_lt (l := l.drop (1 + na + 1)) (n := 0) (by omega)
    obtain ⟨b, nb, hb⟩ : ∃ b nb, digC 0 (l.drop (1 + na + 1)) = (b, nb) := ⟨_, _, rfl⟩
    rw [hb] at n2 v2 ⊢
    simp only [List.length_drop] at n2 v2 ⊢
    have hnb : 1 + na + 1 + nb ≤ l.length := by omega
    clear n2
    refine walk ?_
    rw [show ((1 + na + 1 + nb : Nat) : Int) + 1 = ((1 + na + 1 + nb + 1 : Nat) : Int) by omega]
    refine ops_pcall rfl rfl (digitsR_spec (at0 := 1 + na + 1 + nb + 1) hl (by simp only [cap47]; omega)) ?_
    have v3 := digC_lt (l := l.drop (1 + na + 1 + nb + 1)) (n := 0) (by omega)
    obtain ⟨t, nt, ht⟩ : ∃ t nt, digC 0 (l.drop (1 + na + 1 + nb + 1)) = (t, nt) := ⟨_, _, rfl⟩
    rw [ht] at v3 ⊢
    simp only at v3 ⊢
    have fa : fits (a : Int) := by unfold fits; omega
    have fb : fits (b : Int) := by unfold fits; omega
    have ft : fits (t : Int) := by unfold fits; omega
    refine walk ?_
    refine ops_pcall rfl rfl (slot_spec fa ft) ?_
    refine walk ?_
    have hkA := fun k h => key_A (k := k) h ha hd.2 hb ht
    refine ex_if rfl (fun hab => ?_) (fun hab => ?_)
    · have hno : ∀ k, ¬ isKey l k := fun k h => by
        obtain ⟨e, _, _, h3, _⟩ := hkA k h
        subst e; simp only at h3; omega
      refine walk ?_
      refine fin0 ?_
      exact ⟨.inr ⟨hno, rfl⟩, rfl, rfl⟩
    · refine walk ?_
      refine ops_pcall rfl rfl (pass_spec fa fb ft) ?_
      refine walkG ?_
      refine ops_gcall rfl rfl (fun hg => tick_spec) ?_
      refine walkG ?_
      refine ops_gcall rfl rfl (fun hg => tick_spec) ?_
      refine walkG ?_
      refine ex_if rfl (fun hq => ?_) (fun hq => ?_)
      · have hno : ∀ k, ¬ isKey l k := fun k h => by
          obtain ⟨e, h1, h2, h3, h4, h5⟩ := hkA k h
          subst e
          simp only at h1 h2 h3 h4 h5
          rcases hq with ((hq | hq) | hq) | hq
          · exact hq (by rw [← h5])
          · exact hq h1
          · exact hq h4
          · simp only [tickI] at h2; omega
        refine walk ?_
        refine fin0 ?_
        exact ⟨.inr ⟨hno, rfl⟩, rfl, rfl⟩
      · have h1 : sb (passL a b t) = sb l := Classical.not_not.1 fun e => hq (.inl (.inl (.inl e)))
        have h2 : tickI a := Classical.not_not.1 fun e => hq (.inl (.inl (.inr e)))
        have h3 : tickI t := Classical.not_not.1 fun e => hq (.inl (.inr e))
        have h4 : ¬ (1073741824 < (b : Int)) := fun e => hq (.inr e)
        refine walk ?_
        refine fin0 ?_
        exact ⟨.inl ⟨((a : Int), (b : Int), (t : Int)), .inr ⟨h2, by unfold tickI; simp only; omega, by simp only; omega, h3, (sb_inj h1).symm⟩, rfl⟩, rfl, rfl⟩
  · refine walk ?_
    rw [show ((1 + na : Nat) : Int) + 1 = ((1 + na + 1 : Nat) : Int) by omega]
    refine ops_pcall rfl rfl (digitsR_spec (at0 := 1 + na + 1) hl (by simp only [cap47]; omega)) ?_
    have v3 := digC_lt (l := l.drop (1 + na + 1)) (n := 0) (by omega)
    obtain ⟨t, nt, ht⟩ : ∃ t nt, digC 0 (l.drop (1 + na + 1)) = (t, nt) := ⟨_, _, rfl⟩
    rw [ht] at v3 ⊢
    simp only at v3 ⊢
    have fa : fits (a : Int) := by unfold fits; omega
    have ft : fits (t : Int) := by unfold fits; omega
    have hkB := fun k h => key_B (k := k) h ha (fun e => hd ⟨by omega, e.2⟩) ht
    refine walk ?_
    refine ops_pcall rfl rfl (slot_spec fa ft) ?_
    refine walkG ?_
    refine ops_gcall rfl rfl (fun hg => tick_spec) ?_
    refine walkG ?_
    refine ops_gcall rfl rfl (fun hg => tick_spec) ?_
    refine walkG ?_
    refine ex_if rfl (fun hq => ?_) (fun hq => ?_)
    · have hno : ∀ k, ¬ isKey l k := fun k h => by
        obtain ⟨e, h1, h4, h5⟩ := hkB k h
        subst e
        simp only at h1 h4 h5
        rcases hq with ((hq | hq) | hq) | hq
        · exact hq (by rw [← h5])
        · exact hq h1
        · exact hq h4
        · omega
      refine walk ?_
      refine fin0 ?_
      exact ⟨.inr ⟨hno, rfl⟩, rfl, rfl⟩
    · have h1 : sb (slotL a t) = sb l := Classical.not_not.1 fun e => hq (.inl (.inl (.inl e)))
      have h2 : tickI a := Classical.not_not.1 fun e => hq (.inl (.inl (.inr e)))
      have h3 : tickI t := Classical.not_not.1 fun e => hq (.inl (.inr e))
      refine walk ?_
      refine fin0 ?_
      exact ⟨.inl ⟨((a : Int), -1, (t : Int)), .inl ⟨rfl, h2, h3, (sb_inj h1).symm⟩, rfl⟩, rfl, rfl⟩
theorem ReadP.form {l : List UInt8} {r : Value} (h : ReadP l r) : ∃ a b t ok, r = .tuple #[.agg #[I a, I b, I t], .bool ok] ∧ ((ok = true ∧ isKey l (a, b, t)) ∨ (ok = false ∧ (∀ k, ¬ isKey l k) ∧ a = 0 ∧ b = 0 ∧ t = 0)) := by
  rcases h with ⟨⟨a, b, t⟩, hk, rfl⟩ | ⟨hno, rfl⟩
  · exact ⟨a, b, t, true, rfl, .inl ⟨rfl, hk⟩⟩
  · exact ⟨0, 0, 0, false, rfl, .inr ⟨rfl, hno, rfl, rfl, rfl⟩⟩
end Go.Proofs.YtjgjcakeimkkdaaGreatDoor

set_option linter.unusedVariables false
set_option linter.unusedSimpArgs false
namespace Go.Proofs.YtjgjcakeimkkdaaGreatDoor
open Go Go.Sx Go.Proofs
open Classical in
/-- a key whose tick has gone by -/
noncomputable def goneK (now : Int) (k : ByteArray) : Bool := decide (∃ q, isKey k.data.toList q ∧ q.2.2 < now)
open Classical in
theorem goneK_yes {now : Int} {k : ByteArray} {a b t : Int} (h : isKey k.data.toList (a, b, t)) : goneK now k = true ↔ t < now := by
  unfold goneK
  rw [decide_eq_true_eq]
  constructor
  · rintro ⟨q, hq, hl⟩
    have e := h.uniq hq
    subst e
    exact hl
  · intro hl
    exact ⟨_, h, hl⟩
open Classical in
theorem goneK_no {now : Int} {k : ByteArray} (h : ∀ q, ¬ isKey k.data.toList q) : goneK now k = false := by
  unfold goneK
  rw [decide_eq_false_iff_not]
  rintro ⟨q, hq, _⟩
  exact h q hq
/-- the held keys without those -/
noncomputable def letGo (now : Int) (ks : List ByteArray) (l : List (ByteArray × Int)) : List (ByteArray × Int) := ks.foldl (fun l k => if goneK now k = true then mdel k l else l) l
theorem letGo_snoc {now : Int} {ks : List ByteArray} {k : ByteArray} {l : List (ByteArray × Int)} : letGo now (ks ++ [k]) l = if goneK now k = true then mdel k (letGo now ks l) else letGo now ks l := by unfold letGo; rw [List.foldl_append]; rfl
noncomputable def expireT (s : TS) (now : Int) : TS := ⟨letGo now (sortT (s.held.map (·.1))) s.held, s.locked, s.works⟩
noncomputable def expireL (s : TS) (now : Int) : List ByteArray := (sortT (s.held.map (·.1))).filter (goneK now)
theorem sb_self (k : ByteArray) : sb k.data.toList = k := (sb_of k).symm
set_option maxHeartbeats 4000000 in
theorem expire_spec {W0 : World} {H : Heap} {p : Nat} {s : TS} {now : Int} (hP : PkH H) (hs : TsOk s) :
    Ct Tryz.prog 95 #[.pointer (some ⟨p, 0, none⟩), I now] W0 H [tabO H p s] (fun r H' B => B = [ownS rStr 1 16 9 H' r (expireL s now), tabO H' p (expireT s now)]) := by
  refine Ct.go (vs := [.pointer (some ⟨p, 0, none⟩), I now]) fun R => ?_
  have hn := hs.hn
  have hcap : (1000000 : Nat) * 16 ≤ cap47 := by decide
  refine ex_open (A := tabO H p s) (σ := Nat × Nat × Nat) (B := fun a => [tRow p a.1 a.2.1 a.2.2, hMap H a.1 s, lMap H a.2.1 s, wMap H a.2.2 s]) (p := fun _ => True) (by repeat (first | exact Has.here | apply Has.there)) (fun h ⟨hb, lb, wb, hbig⟩ => ⟨(hb, lb, wb), trivial, hbig⟩) fun ⟨hb, lb, wb⟩ _ => ?_
  dsimp only
  refine walk ?_
  refine ops_call rfl rfl keys_ct fun r1 H1 B hl1 ⟨pk, er, eB, eH⟩ => ?_
  subst er eB eH
  have hc := sorted_ct (W0 := W0) (H := H1) (H0 := H1) (RV := rInt) (p := pk) (b := hb) (ms := s.held) hs.hk (by simp only [cap47]; omega)
  refine ops_call rfl rfl hc fun r2 H2 B hl2 ⟨eB, eH⟩ => ?_
  subst eB eH
  have hlen : (sortT (s.held.map (·.1))).length = s.held.length := by rw [sortT_len, List.length_map]
  have hmem : ∀ k ∈ sortT (s.held.map (·.1)), k.size ≤ cap47 := fun k hk => by
    obtain ⟨q, hq, rfl⟩ := List.mem_map.1 (mem_sortT.1 hk)
    exact hs.hk q hq
  unfold expireL expireT
  generalize sortT (s.held.map (·.1)) = ks at *
  refine ops_freeze r2 fun H3 hl3 hsl => ?_
  obtain ⟨b0, c0, rfl, hc0, hd0⟩ := hsl.1.shape
  have hP3 := hP.mono hl3
  refine walk ?_
  refine ex_loop (σ := Nat × Option Addr × Nat) (fun u => u.1 ≤ ks.length) (fun u => [(0, .pointer (some ⟨p, 0, none⟩)), (1, I now), (15, .slice b0 ks.length c0), (16, I ks.length), (17, I u.1), (5, .slice u.2.1 ((ks.take u.1).filter (goneK now)).length u.2.2)]) (fun _ => H3)
    (fun u => ownS rStr 1 16 9 H3 (.slice u.2.1 ((ks.take u.1).filter (goneK now)).length u.2.2) ((ks.take u.1).filter (goneK now)) :: mapO Value.string rInt false H2 hb (letGo now (ks.take u.1) s.held) :: tRow p hb lb wb :: lMap H2 lb s :: wMap H2 wb s :: R) (fun u => ks.length - u.1) (0, none, 0) (Nat.zero_le _) (hs0 := ?_) fun ⟨k, d, e⟩ hk0 K hL => ?_
  rotate_left
  · simp only [List.take_zero, List.filter_nil, List.length_nil]
    refine Sub.trans ?_ ownS_nil
    (repeat (first | exact Sub.refl _ | exact Sub.nil _ | (apply sub_pick; (repeat (first | exact Has.here | apply Has.there)); skip) | apply Sub.drop))
  simp only at hk0
  dsimp only
  have hll : ((ks.take k).filter (goneK now)).length ≤ k := by
    have := List.length_filter_le (goneK now) (ks.take k)
    rw [List.length_take] at this; omega
  refine walk ?_
  refine ex_if rfl (fun hk => ?_) (fun hk => ?_)
  · have hk1 : k < ks.length := by omega
    have ht := List.take_succ_eq_append_getElem hk1
    have hg := letGo_snoc (now := now) (ks := ks.take k) (k := ks[k]) (l := s.held)
    rw [← ht] at hg
    have hf : (ks.take (k + 1)).filter (goneK now) = (ks.take k).filter (goneK now) ++ if goneK now ks[k] = true then [ks[k]] else [] := by
      rw [ht, List.filter_append]
      by_cases h : goneK now ks[k] = true <;> simp [h]
    have hrd := read_spec (W0 := W0) (l := ks[k].data.toList) hP3 (by rw [← Lib.size_eq]; exact hmem _ (List.getElem_mem hk1))
    rw [sb_self] at hrd
    refine walk ?_
    refine ops_ixp rfl rfl hsl.1 hk1 fun b o c hr hc => ?_
    obtain ⟨rfl, hsz⟩ := hc
    refine walk ?_
    refine ops_call rfl rfl hrd fun r4 H4 B hl4 ⟨hrr, eB, eH⟩ => ?_
    subst eB eH
    obtain ⟨ka, kb, kt, ok, rfl, hkk⟩ := hrr.form
    refine walk ?_
    refine ops_alloc rfl fun p8 _ => ?_
    refine walk ?_
    rcases hkk with ⟨rfl, hkk⟩ | ⟨rfl, hno, rfl, rfl, rfl⟩
    · have hy := goneK_yes (now := now) hkk
      refine walkG ?_
      refine ex_if rfl (fun hq => ?_) (fun hq => ?_)
      · rw [if_pos (hy.2 hq)] at hg hf
        refine walk ?_
        refine ops_delete (ek := Value.string) rfl (by repeat (first | exact Has.here | apply Has.there)) ?_
        refine walk ?_
        refine ops_app1 (y := ks[k]) rfl rfl rfl ⟨rfl, hsz⟩ (by simp only [cap47]; omega) fun d3 e3 => ?_
        have hsl2 : ((ks.take k).filter (goneK now)).length + 1 = ((ks.take (k + 1)).filter (goneK now)).length := by rw [hf]; simp
        rw [hsl2, ← hf, ← hg]
        refine walk ?_
        exact out_next hL (k + 1, d3, e3) (by simp only; omega)
      · rw [if_neg (fun h => hq (hy.1 h))] at hg hf
        rw [List.append_nil] at hf
        rw [← hf, ← hg]
        refine walk ?_
        exact out_next hL (k + 1, d, e) (by simp only; omega)
    · have hno' := goneK_no (now := now) hno
      rw [if_neg (by rw [hno']; decide)] at hg hf
      rw [List.append_nil] at hf
      rw [← hf, ← hg]
      refine walk ?_
      exact out_next hL (k + 1, d, e) (by simp only; omega)
  · clear hL
    obtain rfl : k = ks.length := by omega
    refine walk ?_
    rw [List.take_length] at *
    refine finB [ownS rStr 1 16 9 H3 (.slice d (ks.filter (goneK now)).length e) (ks.filter (goneK now)), tabO H3 p ⟨letGo now ks s.held, s.locked, s.works⟩] ?_ (hs := ?_)
    · exact rfl
    · refine Sub.trans ?_ (Sub.cons (Sub.trans (tab_fold (H := H2) (s := ⟨letGo now ks s.held, s.locked, s.works⟩) (hb := hb) (lb := lb) (wb := wb)) (tab_up hl3)))
      (repeat (first | exact Sub.refl _ | exact Sub.nil _ | (apply sub_pick; (repeat (first | exact Has.here | apply Has.there)); skip) | apply Sub.drop))
end Go.Proofs.YtjgjcakeimkkdaaGreatDoor

set_option linter.unusedVariables false
set_option linter.unusedSimpArgs false
namespace Go.Proofs.YtjgjcakeimkkdaaGreatDoor
open Go Go.Sx Go.Proofs
/-- a work that may be kept -/
structure OkW (w : Work) : Prop where
  take : w.Take.length ≤ 40
  drop : w.Drop.length ≤ 40
  rob : fits w.Robot
  size : ∀ k ∈ w.ks, k.size ≤ cap47
def okX (x : K3) : Prop := fits x.1 ∧ fits x.2.1 ∧ fits x.2.2
structure Inv (n : Nat) (s : TS) : Prop where
  hd : (s.held.map (·.1)).Nodup
  ld : (s.locked.map (·.1)).Nodup
  wd : (s.works.map (·.1)).Nodup
  hk : ∀ k r, mget k s.held = some r → k.size ≤ cap47 ∧ fits r
  hn : s.held.length ≤ 40 * n
  wn : s.works.length ≤ n
  ww : ∀ x w, gW s x = some w → (OkW w ∧ w.ks.Nodup) ∧ okX x
  lk : ∀ k x, mget k s.locked = some x ↔ ∃ w, gW s x.k = some w ∧ k ∈ w.ks
  tk : ∀ x w, gW s x = some w → ∀ k ∈ w.Take, mget k s.held = none
theorem Inv.more {n n' : Nat} {s : TS} (h : Inv n s) (hn : n ≤ n') : Inv n' s := { h with hn := by have := h.hn; omega, wn := by have := h.wn; omega }
theorem Inv.ok {n : Nat} {s : TS} (h : Inv n s) (hn : n ≤ 1000) : TsOk s := by
  refine ⟨fun q hq => (h.hk q.1 q.2 (mget_of_mem h.hd hq)).1, fun q hq => (h.hk q.1 q.2 (mget_of_mem h.hd hq)).2, by have := h.hn; omega, fun q hq => ?_, by have := h.wn; omega⟩
  exact (h.ww q.1 q.2.2 (by unfold gW; rw [mget_of_mem h.wd (k := q.1) (v := q.2) hq]; rfl)).2
theorem inv0 : Inv 0 ⟨[], [], []⟩ := ⟨by simp, by simp, by simp, fun k r h => (by cases h), by simp, by simp, fun x w h => (by cases h), fun k x => ⟨fun h => (by cases h), fun ⟨w, h, _⟩ => (by cases h)⟩, fun x w h => (by cases h)⟩
theorem lockAll_get {x : Txn} {k : ByteArray} : ∀ {ks : List ByteArray} {l : List (ByteArray × Txn)}, (l.map (·.1)).Nodup → mget k (lockAll x ks l) = (if k ∈ ks then some x else mget k l) ∧ ((lockAll x ks l).map (·.1)).Nodup
  | [], l, hn => ⟨by simp [lockAll], hn⟩
  | a :: ks, l, hn => by
    unfold lockAll
    rw [List.foldl_cons]
    obtain ⟨h1, h2⟩ := lockAll_get (x := x) (k := k) (ks := ks) (l := mset a x l) (mset_nodup hn)
    unfold lockAll at h1 h2
    refine ⟨?_, h2⟩
    rw [h1, mget_mset]
    by_cases e : k ∈ ks
    · simp [e]
    · by_cases e2 : k = a <;> simp [e, e2]
theorem unlockAll_get {k : ByteArray} : ∀ {ks : List ByteArray} {l : List (ByteArray × Txn)}, (l.map (·.1)).Nodup → mget k (unlockAll ks l) = (if k ∈ ks then none else mget k l) ∧ ((unlockAll ks l).map (·.1)).Nodup
  | [], l, hn => ⟨by simp [unlockAll], hn⟩
  | a :: ks, l, hn => by
    unfold unlockAll
    rw [List.foldl_cons]
    obtain ⟨h1, h2⟩ := unlockAll_get (k := k) (ks := ks) (l := mdel a l) (mdel_nodup hn)
    unfold unlockAll at h1 h2
    refine ⟨?_, h2⟩
    rw [h1, mget_mdel a k hn]
    by_cases e : k ∈ ks
    · simp [e]
    · by_cases e2 : k = a <;> simp [e, e2]
theorem takeAll_get {r : Int} {k : ByteArray} : ∀ {ks : List ByteArray} {l : List (ByteArray × Int)}, (l.map (·.1)).Nodup → mget k (takeAll r ks l) = (if k ∈ ks then some r else mget k l) ∧ ((takeAll r ks l).map (·.1)).Nodup ∧ (takeAll r ks l).length ≤ l.length + ks.length
  | [], l, hn => ⟨by simp [takeAll], hn, by simp [takeAll]⟩
  | a :: ks, l, hn => by
    unfold takeAll
    rw [List.foldl_cons]
    obtain ⟨h1, h2, h3⟩ := takeAll_get (r := r) (k := k) (ks := ks) (l := mset a r l) (mset_nodup hn)
    unfold takeAll at h1 h2 h3
    refine ⟨?_, h2, ?_⟩
    · rw [h1, mget_mset]
      by_cases e : k ∈ ks
      · simp [e]
      · by_cases e2 : k = a <;> simp [e, e2]
    · have h4 : (mset a r l).length ≤ l.length + 1 := by rw [mset_len]; split <;> omega
      simp only [List.length_cons]; omega
theorem mdel_len {κ ν : Type} [DecidableEq κ] {m : List (κ × ν)} {k : κ} : (mdel k m).length ≤ m.length := (mdel_sub k m).length_le
theorem dropAll_get {r : Int} {k : ByteArray} : ∀ {ks : List ByteArray} {l : List (ByteArray × Int)}, (l.map (·.1)).Nodup → mget k (dropAll r ks l) = (if k ∈ ks ∧ mget k l = some r then none else mget k l) ∧ ((dropAll r ks l).map (·.1)).Nodup ∧ (dropAll r ks l).length ≤ l.length
  | [], l, hn => ⟨by simp [dropAll], hn, by simp [dropAll]⟩
  | a :: ks, l, hn => by
    unfold dropAll
    rw [List.foldl_cons]
    have hc : ((mget a l).isSome = true ∧ (mget a l).getD 0 = r) ↔ mget a l = some r := by
      cases mget a l <;> simp
    by_cases hq : mget a l = some r
    · rw [if_pos (hc.2 hq)]
      obtain ⟨h1, h2, h3⟩ := dropAll_get (r := r) (k := k) (ks := ks) (l := mdel a l) (mdel_nodup hn)
      unfold dropAll at h1 h2 h3
      refine ⟨?_, h2, by have := mdel_len (m := l) (k := a); omega⟩
      rw [h1, mget_mdel a k hn]
      by_cases e2 : k = a
      · subst e2; simp [hq]
      · simp [e2]
    · rw [if_neg fun h => hq (hc.1 h)]
      obtain ⟨h1, h2, h3⟩ := dropAll_get (r := r) (k := k) (ks := ks) (l := l) hn
      unfold dropAll at h1 h2 h3
      refine ⟨?_, h2, h3⟩
      rw [h1]
      by_cases e2 : k = a
      · subst e2; simp [hq]
      · simp [e2]
theorem letGo_get {now : Int} {k : ByteArray} : ∀ {ks : List ByteArray} {l : List (ByteArray × Int)}, (l.map (·.1)).Nodup → mget k (letGo now ks l) = (if k ∈ ks ∧ goneK now k = true then none else mget k l) ∧ ((letGo now ks l).map (·.1)).Nodup ∧ (letGo now ks l).length ≤ l.length
  | [], l, hn => ⟨by simp [letGo], hn, by simp [letGo]⟩
  | a :: ks, l, hn => by
    unfold letGo
    rw [List.foldl_cons]
    by_cases hq : goneK now a = true
    · rw [if_pos hq]
      obtain ⟨h1, h2, h3⟩ := letGo_get (now := now) (k := k) (ks := ks) (l := mdel a l) (mdel_nodup hn)
      unfold letGo at h1 h2 h3
      refine ⟨?_, h2, by have := mdel_len (m := l) (k := a); omega⟩
      rw [h1, mget_mdel a k hn]
      by_cases e2 : k = a
      · subst e2; simp [hq]
      · simp [e2]
    · rw [if_neg hq]
      obtain ⟨h1, h2, h3⟩ := letGo_get (now := now) (k := k) (ks := ks) (l := l) hn
      unfold letGo at h1 h2 h3
      refine ⟨?_, h2, h3⟩
      rw [h1]
      by_cases e2 : k = a
      · subst e2; simp [hq]
      · simp [e2]
theorem wayT_iff {s : TS} {w : Work} : ∀ {l : List ByteArray} {i : Nat}, wayT s w i l = true ↔ ∀ j (hj : j < l.length), mget l[j] s.locked = none ∧ (w.Take.length ≤ i + j ∨ mget l[j] s.held = none)
  | [], i => by simp [wayT]
  | k :: l, i => by
    have ih := wayT_iff (s := s) (w := w) (l := l) (i := i + 1)
    simp only [wayT, Bool.and_eq_true, ih, Bool.not_eq_true', Option.isSome_eq_false_iff, Option.isNone_iff_eq_none, Bool.or_eq_true, decide_eq_true_eq]
    constructor
    · rintro ⟨⟨h1, h2⟩, h3⟩ j hj
      cases j with
      | zero => exact ⟨h1, by simpa using h2⟩
      | succ j =>
        have := h3 j (by simpa using hj)
        rw [show i + 1 + j = i + (j + 1) by omega] at this
        simpa using this
    · intro h
      refine ⟨?_, fun j hj => ?_⟩
      · have := h 0 (by simp)
        simpa using this
      · have := h (j + 1) (by simpa using hj)
        rw [show i + 1 + j = i + (j + 1) by omega]
        simpa using this
theorem wayT_ks {s : TS} {w : Work} (h : wayT s w 0 w.ks = true) : (∀ k ∈ w.ks, mget k s.locked = none) ∧ ∀ k ∈ w.Take, mget k s.held = none := by
  rw [wayT_iff] at h
  refine ⟨fun k hk => ?_, fun k hk => ?_⟩
  · obtain ⟨j, hj, rfl⟩ := List.getElem_of_mem hk
    exact (h j hj).1
  · obtain ⟨j, hj, rfl⟩ := List.getElem_of_mem hk
    have hj2 : j < w.ks.length := by simp only [Work.ks, List.length_append]; omega
    have e : w.ks[j] = w.Take[j] := by simp only [Work.ks]; rw [List.getElem_append_left hj]
    have := (h j hj2).2
    rw [e] at this
    rcases this with h1 | h1
    · omega
    · exact h1
theorem prepE_zero {s : TS} {x : Txn} {w : Work} (h : prepE s x w = 0) : gW s x.k = none ∧ w.ks.Nodup ∧ wayT s w 0 w.ks = true := by
  unfold prepE at h
  split at h
  · cases h
  · next h1 =>
    split at h
    · cases h
    · next h2 =>
      split at h
      · next h3 =>
        refine ⟨?_, ?_, h3⟩
        · unfold gW
          cases hm : mget x.k s.works with
          | none => rfl
          | some v => rw [hm] at h1; exact absurd rfl h1
        · rw [dupT_iff] at h2; exact Classical.byContradiction h2
      · cases h
theorem gW_prep {s : TS} {x : Txn} {w : Work} {cs : List Value} (k : K3) : gW (prepT s x w cs) k = if k = x.k then some w else gW s k := by
  unfold gW prepT
  rw [mget_mset]
  split <;> rfl
theorem Inv.prep {n : Nat} {s : TS} {x : Txn} {w : Work} {cs : List Value} (h : Inv n s) (hw : OkW w) (hx : okX x.k) (he : prepE s x w = 0) : Inv (n + 1) (prepT s x w cs) := by
  obtain ⟨h1, h2, h3⟩ := prepE_zero he
  obtain ⟨h4, h5⟩ := wayT_ks h3
  have hl := fun k => lockAll_get (x := x) (k := k) (ks := w.ks) h.ld
  have hg := fun k => gW_prep (s := s) (x := x) (w := w) (cs := cs) k
  refine ⟨h.hd, (hl ⟨#[]⟩).2, mset_nodup h.wd, h.hk, by have := h.hn; show s.held.length ≤ _; omega, ?_, fun y w' hy => ?_, fun k y => ?_, fun y w' hy => ?_⟩
  · show (mset x.k (cs, w) s.works).length ≤ _
    rw [mset_len]
    have := h.wn
    split <;> omega
  · rw [hg] at hy
    split at hy
    · next e => cases hy; subst e; exact ⟨⟨hw, h2⟩, hx⟩
    · exact h.ww y w' hy
  · show mget k (lockAll x w.ks s.locked) = some y ↔ _
    rw [(hl k).1, hg]
    by_cases hk : k ∈ w.ks
    · rw [if_pos hk]
      constructor
      · intro e
        cases e
        exact ⟨w, by rw [if_pos rfl], hk⟩
      · rintro ⟨w', e1, e2⟩
        split at e1
        · next e => rw [k_inj e]
        · have := (h.lk k y).2 ⟨w', e1, e2⟩
          rw [h4 k hk] at this; cases this
    · rw [if_neg hk, h.lk k y]
      constructor
      · rintro ⟨w', e1, e2⟩
        refine ⟨w', ?_, e2⟩
        rw [if_neg, e1]
        intro e; rw [e, h1] at e1; cases e1
      · rintro ⟨w', e1, e2⟩
        split at e1
        · cases e1; exact absurd e2 hk
        · exact ⟨w', e1, e2⟩
  · rw [hg] at hy
    split at hy
    · cases hy; exact h5
    · exact h.tk y w' hy
theorem gW_apply {s : TS} (hn : (s.works.map (·.1)).Nodup) {x : Txn} {w : Work} {yes : Bool} (k : K3) : gW (applyW s x yes w) k = if k = x.k then none else gW s k := by
  unfold gW applyW
  rw [mget_mdel x.k k hn]
  split <;> rfl
theorem Inv.apply {n : Nat} {s : TS} {x : Txn} {w : Work} {yes : Bool} (h : Inv n s) (hg0 : gW s x.k = some w) : Inv (n + 1) (applyW s x yes w) := by
  obtain ⟨⟨hw, hnd⟩, hx⟩ := h.ww x.k w hg0
  have hg := fun k => gW_apply (s := s) h.wd (x := x) (w := w) (yes := yes) k
  have hl := fun k => unlockAll_get (k := k) (ks := w.ks) h.ld
  have hdr := fun k => dropAll_get (r := w.Robot) (k := k) (ks := w.Drop) h.hd
  have htk := fun k => takeAll_get (r := w.Robot) (k := k) (ks := w.Take) (l := dropAll w.Robot w.Drop s.held) (hdr k).2.1
  have hheld : ∀ k, mget k (applyW s x yes w).held = some w.Robot ∧ k ∈ w.Take ∨ mget k (applyW s x yes w).held = none ∨ mget k (applyW s x yes w).held = mget k s.held := fun k => by
    cases yes with
    | false => exact .inr (.inr rfl)
    | true =>
      show mget k (takeAll w.Robot w.Take (dropAll w.Robot w.Drop s.held)) = some w.Robot ∧ _ ∨ mget k (takeAll w.Robot w.Take (dropAll w.Robot w.Drop s.held)) = none ∨ mget k (takeAll w.Robot w.Take (dropAll w.Robot w.Drop s.held)) = _
      rw [(htk k).1, (hdr k).1]
      by_cases h1 : k ∈ w.Take
      · exact .inl ⟨by rw [if_pos h1], h1⟩
      · rw [if_neg h1]
        by_cases h2 : k ∈ w.Drop ∧ mget k s.held = some w.Robot
        · exact .inr (.inl (by rw [if_pos h2]))
        · exact .inr (.inr (by rw [if_neg h2]))
  refine ⟨?_, (hl ⟨#[]⟩).2, mdel_nodup h.wd, fun k r hk => ?_, ?_, ?_, fun y w' hy => ?_, fun k y => ?_, fun y w' hy k hk => ?_⟩
  · cases yes with
    | false => exact h.hd
    | true => exact (htk ⟨#[]⟩).2.1
  · rcases hheld k with ⟨h1, h2⟩ | h1 | h1
    · rw [h1] at hk; cases hk
      exact ⟨hw.size k (by simp [Work.ks, h2]), hw.rob⟩
    · rw [h1] at hk; cases hk
    · rw [h1] at hk; exact h.hk k r hk
  · have h1 := h.hn
    cases yes with
    | false => show s.held.length ≤ _; omega
    | true =>
      show (takeAll w.Robot w.Take (dropAll w.Robot w.Drop s.held)).length ≤ _
      have h2 := (htk ⟨#[]⟩).2.2
      have h3 := (hdr ⟨#[]⟩).2.2
      have h4 := hw.take
      omega
  · show (mdel x.k s.works).length ≤ _
    have := mdel_len (m := s.works) (k := x.k)
    have := h.wn
    omega
  · rw [hg] at hy
    split at hy
    · cases hy
    · exact h.ww y w' hy
  · show mget k (unlockAll w.ks s.locked) = some y ↔ _
    rw [(hl k).1, hg]
    by_cases hk : k ∈ w.ks
    · rw [if_pos hk]
      constructor
      · intro e; cases e
      · rintro ⟨w', e1, e2⟩
        split at e1
        · cases e1
        · next e =>
          have a1 := (h.lk k y).2 ⟨w', e1, e2⟩
          have a2 := (h.lk k x).2 ⟨w, hg0, hk⟩
          rw [a1] at a2
          cases a2
          exact absurd rfl e
    · rw [if_neg hk, h.lk k y]
      constructor
      · rintro ⟨w', e1, e2⟩
        refine ⟨w', ?_, e2⟩
        rw [if_neg, e1]
        intro e; rw [e, hg0] at e1; cases e1; exact hk e2
      · rintro ⟨w', e1, e2⟩
        split at e1
        · cases e1
        · exact ⟨w', e1, e2⟩
  · rw [hg] at hy
    split at hy
    · cases hy
    · next e =>
      rcases hheld k with ⟨h1, h2⟩ | h1 | h1
      · have a1 := (h.lk k (toTx y)).2 ⟨w', by rw [k_toTx]; exact hy, by simp [Work.ks, hk]⟩
        have a2 := (h.lk k x).2 ⟨w, hg0, by simp [Work.ks, h2]⟩
        rw [a1] at a2
        cases a2
        exact absurd (k_toTx y).symm e
      · exact h1
      · rw [h1]; exact h.tk y w' hy k hk
theorem Inv.expire {n : Nat} {s : TS} {now : Int} (h : Inv n s) : Inv n (expireT s now) ∧ ∀ k, mget k (expireT s now).held = if goneK now k = true then none else mget k s.held := by
  have hl := fun k => letGo_get (now := now) (k := k) (ks := sortT (s.held.map (·.1))) h.hd
  have hm : ∀ k, mget k (expireT s now).held = if goneK now k = true then none else mget k s.held := fun k => by
    show mget k (letGo now (sortT (s.held.map (·.1))) s.held) = _
    rw [(hl k).1]
    by_cases hg : goneK now k = true
    · rw [if_pos hg]
      split
      · rfl
      · next e =>
        cases hk : mget k s.held with
        | none => rfl
        | some v => exact absurd ⟨mem_sortT.2 (mget_key.2 ⟨v, hk⟩), hg⟩ e
    · rw [if_neg hg, if_neg fun h => hg h.2]
  refine ⟨⟨(hl ⟨#[]⟩).2.1, h.ld, h.wd, fun k r hk => ?_, Nat.le_trans (hl ⟨#[]⟩).2.2 h.hn, h.wn, h.ww, h.lk, fun y w hy k hk => ?_⟩, hm⟩
  · rw [hm] at hk
    split at hk
    · cases hk
    · exact h.hk k r hk
  · rw [hm]
    split
    · rfl
    · exact h.tk y w hy k hk
end Go.Proofs.YtjgjcakeimkkdaaGreatDoor
