/- A name that no file has. -/
import Derived.Test.YtjafnombaehcaaaDQ
import Derived.Test.YtjafnombaehcaaaKC
import Derived.Laws.BitsLemmas
set_option linter.unusedVariables false
set_option linter.unusedSimpArgs false
namespace Go.Proofs.Ytjafnombaehcaaa
open Go Go.Sx Go.Proofs
/-- a number's digits, the greatest first; none of 0 -/
def nd : Nat → List UInt8
  | 0 => []
  | n + 1 => nd ((n + 1) / 10) ++ [UInt8.ofNat (48 + (n + 1) % 10)]
decreasing_by omega
theorem nd_step {n : Nat} (h : n ≠ 0) : nd n = nd (n / 10) ++ [UInt8.ofNat (48 + n % 10)] := by
  cases n with
  | zero => exact absurd rfl h
  | succ n => rw [nd]
theorem nd_len : ∀ {k n : Nat}, n < 10 ^ k → (nd n).length ≤ k
  | k, 0, _ => by simp [nd]
  | 0, n + 1, h => by simp at h
  | k + 1, n + 1, h => by
    rw [nd_step (by omega), List.length_append]
    have : (n + 1) / 10 < 10 ^ k := by rw [Nat.pow_succ] at h; omega
    have := nd_len this
    simp; omega
/-- a number in decimal digits -/
def dgs (n : Int) : List UInt8 := if n = 0 then [48] else if n < 0 then [45] ++ nd n.natAbs else nd n.natAbs
theorem dgs_len {n : Int} (h : fits n) : (dgs n).length ≤ 20 := by
  have h1 : (nd n.natAbs).length ≤ 19 := nd_len (by unfold fits at h; omega)
  unfold dgs
  split
  · simp
  · split
    · simp; omega
    · omega
set_option maxHeartbeats 4000000 in
theorem digits_spec {W0 : World} {H : Heap} {n : Int} (hf : fits n) :
    Ct Try.prog 47 #[I n] W0 H [] (fun r H' B => r = .string (sb (dgs n)) ∧ B = [] ∧ H' = H) := by
  refine Ct.go fun R => ?_
  unfold fits at hf
  by_cases h0 : n = 0
  · refine walk ?_
    refine fin0 ?_
    exact ⟨by unfold dgs; rw [if_pos h0], rfl, rfl⟩
  refine walk ?_
  refine ex_loop (σ := Int × List UInt8) (fun s => (-9223372036854775808 ≤ s.1 ∧ s.1 ≤ 9223372036854775807) ∧ nd n.natAbs = nd s.1.natAbs ++ s.2) (fun s => [(0, I n), (3, .string (sb s.2)), (4, I s.1)]) (fun _ => H) (fun _ => R) (fun s => s.1.natAbs) (n, []) ⟨hf, by simp⟩ fun ⟨k, s⟩ ⟨hk, hs⟩ K hL => ?_
  simp only at hk hs
  dsimp only
  refine walk ?_
  refine ex_if rfl (fun hk0 => ?_) (fun hk0 => ?_)
  · have hd1 : (k.tmod 10).natAbs = k.natAbs % 10 := Int.natAbs_tmod k 10
    have hd2 : (k.tdiv 10).natAbs = k.natAbs / 10 := Int.natAbs_tdiv k 10
    have hd3 : -9 ≤ k.tmod 10 ∧ k.tmod 10 ≤ 9 := by omega
    have hd4 : fits (k.tdiv 10) := by unfold fits; omega
    have hg10 : (0 : Int) < 10 ∧ fits (k.tdiv 10) := ⟨by omega, hd4⟩
    have hln : (nd n.natAbs).length ≤ 19 := nd_len (by omega)
    haveI hsl : LenLe s 19 := ⟨by rw [hs] at hln; simp at hln; omega⟩
    have hstep := nd_step (n := k.natAbs) (by omega)
    refine walk ?_
    generalize k.tmod 10 = d at *
    refine ex_if rfl (fun hneg => ?_) (fun hneg => ?_)
    · refine walk ?_
      refine ops_bsN rfl rfl fun pb _ => ?_
      refine ops_b2s [IntKind.u8.wrap (48 + -d)] rfl rfl .here ?_
      have hw : (IntKind.u8.wrap (48 + -d)).toNat = 48 + k.natAbs % 10 := by rw [IntKind.wrap_u8]; omega
      rw [show ([IntKind.u8.wrap (48 + -d)].map fun n => UInt8.ofNat n.toNat) = [UInt8.ofNat (48 + k.natAbs % 10)] by simp only [List.map_cons, List.map_nil, hw]]
      refine walk ?_
      refine out_next hL (k.tdiv 10, [UInt8.ofNat (48 + k.natAbs % 10)] ++ s) ⟨by simp only; unfold fits at hd4; exact hd4, ?_⟩ (hμ := by simp only; omega)
      simp only
      rw [hs, hstep, hd2, List.append_assoc]
    · refine walk ?_
      refine ops_bsN rfl rfl fun pb _ => ?_
      refine ops_b2s [IntKind.u8.wrap (48 + d)] rfl rfl .here ?_
      have hw : (IntKind.u8.wrap (48 + d)).toNat = 48 + k.natAbs % 10 := by rw [IntKind.wrap_u8]; omega
      rw [show ([IntKind.u8.wrap (48 + d)].map fun n => UInt8.ofNat n.toNat) = [UInt8.ofNat (48 + k.natAbs % 10)] by simp only [List.map_cons, List.map_nil, hw]]
      refine walk ?_
      refine out_next hL (k.tdiv 10, [UInt8.ofNat (48 + k.natAbs % 10)] ++ s) ⟨by simp only; unfold fits at hd4; exact hd4, ?_⟩ (hμ := by simp only; omega)
      simp only
      rw [hs, hstep, hd2, List.append_assoc]
  · clear hL
    have hk1 : k = 0 := Classical.not_not.1 hk0
    subst hk1
    simp only [Int.natAbs_zero, nd, List.nil_append] at hs
    by_cases hneg : n < 0
    · haveI hsl : LenLe s 19 := ⟨by rw [← hs]; exact nd_len (by omega)⟩
      refine walk ?_
      refine fin0 ?_
      exact ⟨by unfold dgs; rw [if_neg h0, if_pos hneg, hs], rfl, rfl⟩
    · refine walk ?_
      refine fin0 ?_
      exact ⟨by unfold dgs; rw [if_neg h0, if_neg hneg, hs], rfl, rfl⟩
def isDig (b : UInt8) : Prop := 48 ≤ b.toNat ∧ b.toNat ≤ 57
def dval (l : List UInt8) : Nat := l.foldl (fun a b => a * 10 + (b.toNat - 48)) 0
theorem dval_snoc {l : List UInt8} {b : UInt8} : dval (l ++ [b]) = dval l * 10 + (b.toNat - 48) := by simp [dval]
theorem dig_nat {k : Nat} : (UInt8.ofNat (48 + k % 10)).toNat = 48 + k % 10 := by
  rw [UInt8.toNat_ofNat']; omega
theorem nd_val (n : Nat) : dval (nd n) = n := by
  induction n using Nat.strongRecOn with
  | ind n ih =>
    by_cases h : n = 0
    · subst h; simp [nd, dval]
    · rw [nd_step h, dval_snoc, ih (n / 10) (by omega), dig_nat]; omega
theorem nd_dig (n : Nat) : ∀ b ∈ nd n, isDig b := by
  induction n using Nat.strongRecOn with
  | ind n ih =>
    by_cases h : n = 0
    · subst h; simp [nd]
    · rw [nd_step h]
      intro b hb
      rcases List.mem_append.1 hb with hb | hb
      · exact ih (n / 10) (by omega) b hb
      · rw [List.mem_singleton.1 hb]; unfold isDig; rw [dig_nat]; omega
theorem dgs_dig {n : Int} (h : 0 ≤ n) : ∀ b ∈ dgs n, isDig b := by
  unfold dgs
  split
  · intro b hb; rw [List.mem_singleton.1 hb]; unfold isDig; decide
  · rw [if_neg (by omega)]; exact nd_dig _
theorem dgs_val {n : Int} (h : 0 ≤ n) : dval (dgs n) = n.toNat := by
  unfold dgs
  split
  · next e => subst e; decide
  · rw [if_neg (by omega), nd_val]; omega
theorem dgs_inj {a b : Int} (ha : 0 ≤ a) (hb : 0 ≤ b) (h : dgs a = dgs b) : a = b := by
  have h1 := dgs_val ha
  rw [h, dgs_val hb] at h1
  omega
theorem nodup_len {α : Type} : ∀ {l1 l2 : List α}, l1.Nodup → (∀ x ∈ l1, x ∈ l2) → l1.length ≤ l2.length
  | [], _, _, _ => Nat.zero_le _
  | a :: l1, l2, hn, hs => by
    obtain ⟨s, t, rfl⟩ := List.append_of_mem (hs a (by simp))
    rw [List.nodup_cons] at hn
    have := nodup_len (l1 := l1) (l2 := s ++ t) hn.2 fun x hx => by
      have h1 := hs x (by simp [hx])
      have h2 : x ≠ a := fun e => hn.1 (e ▸ hx)
      simp only [List.mem_append, List.mem_cons] at h1 ⊢
      rcases h1 with h | h | h
      · exact .inl h
      · exact absurd h h2
      · exact .inr h
    simp only [List.length_append, List.length_cons] at this ⊢
    omega
def missL (i : Nat) : List UInt8 := 113 :: dgs i
theorem missL_inj {i j : Nat} (h : sb (missL i) = sb (missL j)) : i = j := by
  rw [sb_inj] at h
  have := dgs_inj (by omega) (by omega) (List.cons.inj h).2
  omega
theorem missL_ok {i : Nat} (h : i ≤ 1000) : okN (sb (missL i)) := by
  have h1 : (dgs (i : Int)).length ≤ 20 := dgs_len (by unfold fits; omega)
  refine ⟨by rw [sb_data]; simp only [missL, List.length_cons]; omega, ?_⟩
  rw [sb_data]
  intro u hu
  rcases List.mem_cons.1 hu with rfl | hu
  · simp only [okB]; decide
  · have := dgs_dig (n := i) (by omega) u hu
    unfold isDig at this
    simp only [okB]
    omega
/-- the names up to i are all taken: there are at least as many files -/
theorem miss_bound {fs : List RF} {i : Nat} (h : ∀ j < i, atF fs (sb (missL j)) ≠ none) : i ≤ fs.length := by
  have h1 : ((List.range i).map fun j => sb (missL j)).Nodup := by
    rw [List.nodup_iff_pairwise_ne, List.pairwise_map]
    refine List.Pairwise.imp (fun {a b} hab => ?_) (List.nodup_iff_pairwise_ne.1 List.nodup_range)
    exact fun e => hab (missL_inj e)
  have h2 := nodup_len (l2 := fs.map (·.Name)) h1 fun x hx => by
    obtain ⟨j, hj, rfl⟩ := List.mem_map.1 hx
    rcases at_cases fs (sb (missL j)) with ⟨ha, _⟩ | ⟨k, hk, _, _, hkn⟩
    · exact absurd ha (h j (List.mem_range.1 hj))
    · exact List.mem_map.2 ⟨fs[k], List.getElem_mem hk, hkn⟩
  simpa using h2
set_option maxHeartbeats 4000000 in
theorem missing_spec {W0 : World} {H : Heap} {m : Drive} {c : List Value} (h0 : rDrive H c m) (hb : m.Files.length ≤ 256) :
    Ct Try.prog 34 #[.agg c.toArray] W0 H [] (fun r H' B => (∃ n, r = .string n ∧ okN n ∧ atF m.Files n = none) ∧ B = [] ∧ H' = H) := by
  refine Ct.go (vs := [.agg c.toArray]) fun R => ?_
  obtain ⟨b0, c0, rfl⟩ := rd_open h0
  refine walk ?_
  refine ops_box rfl rfl fun p1 _ => ?_
  refine walk ?_
  refine ex_loop (σ := Nat) (fun i => ∀ j < i, atF m.Files (sb (missL j)) ≠ none) (fun i => [(1, .pointer (some ⟨p1, 0, none⟩)), (3, I i)]) (fun _ => H) (fun _ => row p1 38 [.slice b0 m.Files.length c0, I m.Steps, .bool m.Armed, I m.Left] :: R) (fun i => m.Files.length + 1 - i) 0 (fun j hj => by omega) fun i hi K hL => ?_
  have hib := miss_bound hi
  have hfi : fits (i : Int) := by unfold fits; omega
  have hdl := dgs_len hfi
  have hms : (sb (missL i)).size ≤ cap47 := by rw [sb_size]; simp only [missL, List.length_cons, cap47]; omega
  refine walk ?_
  refine ops_pcall rfl rfl (digits_spec hfi) ?_
  refine ops_catS rfl rfl (by show 1 + (sb (dgs i)).size ≤ _; rw [sb_size]; omega) ?_
  rw [show ((⟨#[113]⟩ : ByteArray) ++ sb (dgs i)) = sb (missL i) from sb_append [113] (dgs i)]
  refine walk ?_
  refine ops_pcall rfl rfl (at_spec h0 hms) ?_
  rcases at_cases m.Files (sb (missL i)) with ⟨ha, hx⟩ | ⟨k, hk, ha, hx, hkn⟩
  · rw [hx]
    refine walk ?_
    refine fin0 ?_
    exact ⟨⟨_, rfl, missL_ok (by omega), ha⟩, rfl, rfl⟩
  · rw [hx]
    have hnx : ∀ j < i + 1, atF m.Files (sb (missL j)) ≠ none := fun j hj => by
      by_cases h : j = i
      · subst h; rw [ha]; exact fun e => by cases e
      · exact hi j (by omega)
    have hib2 := miss_bound hnx
    have hfi2 : fits ((i : Int) + 1) := by unfold fits; omega
    refine walk ?_
    exact out_next hL (i + 1) hnx
end Go.Proofs.Ytjafnombaehcaaa
