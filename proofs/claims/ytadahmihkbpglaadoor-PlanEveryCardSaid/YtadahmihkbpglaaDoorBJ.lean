/- Digits, keys. -/
import Derived.Test.YtadahmihkbpglaaDoorBG
import Derived.Test.YtadahmihkbpglaaDoorKC
import Derived.Laws.BitsLemmas
set_option linter.unusedVariables false
set_option linter.unusedSimpArgs false
namespace Go.Proofs.YtadahmihkbpglaaDoor
open Go Go.Sx Go.Proofs
/-- a number's digits, the greatest first; none of 0 -/
def nd : Nat → List UInt8
  | 0 => []
  | n + 1 => nd ((n + 1) / 10) ++ [UInt8.ofNat (48 + (n + 1) % 10)]
decreasing_by omega
theorem nd_step {n : Nat} (h : n ≠ 0) : nd n = nd (n / 10) ++ [UInt8.ofNat (48 + n % 10)] := by
  cases n with
  | zero => exact absurd rfl h
  | succ n => rw [nd]
theorem nd_len : ∀ {k n : Nat}, n < 10 ^ k → (nd n).length ≤ k
  | k, 0, _ => by simp [nd]
  | 0, n + 1, h => by simp at h
  | k + 1, n + 1, h => by
    rw [nd_step (by omega), List.length_append]
    have : (n + 1) / 10 < 10 ^ k := by rw [Nat.pow_succ] at h; omega
    have := nd_len this
    simp; omega
/-- a number in decimal digits -/
def dgs (n : Int) : List UInt8 := if n = 0 then [48] else if n < 0 then [45] ++ nd n.natAbs else nd n.natAbs
theorem dgs_len {n : Int} (h : fits n) : (dgs n).length ≤ 20 := by
  have h1 : (nd n.natAbs).length ≤ 19 := nd_len (by unfold fits at h; omega)
  unfold dgs
  split
  · simp
  · split
    · simp; omega
    · omega
set_option maxHeartbeats 4000000 in
theorem digits_spec {W0 : World} {H : Heap} {n : Int} (hf : fits n) :
    Ct Tryd.prog 34 #[I n] W0 H [] (fun r H' B => r = .string (sb (dgs n)) ∧ B = [] ∧ H' = H) := by
  refine Ct.go fun R => ?_
  unfold fits at hf
  by_cases h0 : n = 0
  · refine walk ?_
    refine fin0 ?_
    exact ⟨by unfold dgs; rw [if_pos h0], rfl, rfl⟩
  refine walk ?_
  refine ex_loop (σ := Int × List UInt8) (fun s => (-9223372036854775808 ≤ s.1 ∧ s.1 ≤ 9223372036854775807) ∧ nd n.natAbs = nd s.1.natAbs ++ s.2) (fun s => [(0, I n), (3, .string (sb s.2)), (4, I s.1)]) (fun _ => H) (fun _ => R) (fun s => s.1.natAbs) (n, []) ⟨hf, by simp⟩ fun ⟨k, s⟩ ⟨hk, hs⟩ K hL => ?_
  simp only at hk hs
  dsimp only
  refine walk ?_
  refine ex_if rfl (fun hk0 => ?_) (fun hk0 => ?_)
  · have hd1 : (k.tmod 10).natAbs = k.natAbs % 10 := Int.natAbs_tmod k 10
    have hd2 : (k.tdiv 10).natAbs = k.natAbs / 10 := Int.natAbs_tdiv k 10
    have hd3 : -9 ≤ k.tmod 10 ∧ k.tmod 10 ≤ 9 := by omega
    have hd4 : fits (k.tdiv 10) := by unfold fits; omega
    have hg10 : (0 : Int) < 10 ∧ fits (k.tdiv 10) := ⟨by omega, hd4⟩
    have hln : (nd n.natAbs).length ≤ 19 := nd_len (by omega)
    haveI hsl : LenLe s 19 := ⟨by rw [hs] at hln; simp at hln; omega⟩
    have hstep := nd_step (n := k.natAbs) (by omega)
    refine walk ?_
    generalize k.tmod 10 = d at *
    refine ex_if rfl (fun hneg => ?_) (fun hneg => ?_)
    · refine walk ?_
      refine ops_bsN rfl rfl fun pb _ => ?_
      refine ops_b2s [IntKind.u8.wrap (48 + -d)] rfl rfl .here ?_
      have hw : (IntKind.u8.wrap (48 + -d)).toNat = 48 + k.natAbs % 10 := by rw [IntKind.wrap_u8]; omega
      rw [show ([IntKind.u8.wrap (48 + -d)].map fun n => UInt8.ofNat n.toNat) = [UInt8.ofNat (48 + k.natAbs % 10)] by simp only [List.map_cons, List.map_nil, hw]]
      refine walk ?_
      refine out_next hL (k.tdiv 10, [UInt8.ofNat (48 + k.natAbs % 10)] ++ s) ⟨by simp only; unfold fits at hd4; exact hd4, ?_⟩ (hμ := by simp only; omega)
      simp only
      rw [hs, hstep, hd2, List.append_assoc]
    · refine walk ?_
      refine ops_bsN rfl rfl fun pb _ => ?_
      refine ops_b2s [IntKind.u8.wrap (48 + d)] rfl rfl .here ?_
      have hw : (IntKind.u8.wrap (48 + d)).toNat = 48 + k.natAbs % 10 := by rw [IntKind.wrap_u8]; omega
      rw [show ([IntKind.u8.wrap (48 + d)].map fun n => UInt8.ofNat n.toNat) = [UInt8.ofNat (48 + k.natAbs % 10)] by simp only [List.map_cons, List.map_nil, hw]]
      refine walk ?_
      refine out_next hL (k.tdiv 10, [UInt8.ofNat (48 + k.natAbs % 10)] ++ s) ⟨by simp only; unfold fits at hd4; exact hd4, ?_⟩ (hμ := by simp only; omega)
      simp only
      rw [hs, hstep, hd2, List.append_assoc]
  · clear hL
    have hk1 : k = 0 := Classical.not_not.1 hk0
    subst hk1
    simp only [Int.natAbs_zero, nd, List.nil_append] at hs
    by_cases hneg : n < 0
    · haveI hsl : LenLe s 19 := ⟨by rw [← hs]; exact nd_len (by omega)⟩
      refine walk ?_
      refine fin0 ?_
      exact ⟨by unfold dgs; rw [if_neg h0, if_pos hneg, hs], rfl, rfl⟩
    · refine walk ?_
      refine fin0 ?_
      exact ⟨by unfold dgs; rw [if_neg h0, if_neg hneg, hs], rfl, rfl⟩
end Go.Proofs.YtadahmihkbpglaaDoor
