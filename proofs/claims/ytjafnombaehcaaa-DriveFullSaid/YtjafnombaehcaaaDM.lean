/- The reference's small functions: Name, At, Dead, step. -/
import Derived.Test.YtjafnombaehcaaaDL
set_option linter.unusedVariables false
set_option linter.unusedSimpArgs false
namespace Go.Proofs.Ytjafnombaehcaaa
open Go Go.Sx Go.Proofs
set_option maxHeartbeats 4000000 in
theorem rName_spec {W0 : World} {H : Heap} {l : List UInt8} (hl : l.length ≤ cap47) :
    Ct Try.prog 40 #[.string (sb l)] W0 H [] (fun r H' B => r = .bool (decide (okL l)) ∧ B = [] ∧ H' = H) := by
  refine Ct.go (vs := [.string (sb l)]) fun R => ?_
  have hsz : (sb l).size = l.length := sb_size l
  simp only [cap47] at hl
  refine walk ?_
  refine ex_loop (σ := Nat) (fun k => k ≤ l.length ∧ ∀ u ∈ l.take k, okB (u.toNat : Int)) (fun k => [(0, .string (sb l)), (3, I k)]) (fun _ => H) (fun _ => R) (fun k => l.length - k) 0 ⟨Nat.zero_le _, by simp⟩ fun k ⟨hk0, hk⟩ K hL => ?_
  refine walk ?_
  rw [hsz]
  refine ex_if rfl (fun hk1 => ?_) (fun hk1 => ?_)
  · have hk2 : k < l.length := by omega
    have ht := List.take_succ_eq_append_getElem hk2
    have hgd : l.getD k 0 = l[k] := by simp [List.getD, hk2]
    refine walkG ?_
    rw [hgd]
    have hmem := List.getElem_mem hk2
    generalize l[k] = u at *
    refine ex_if rfl (fun hx => ?_) (fun hx => ?_)
    · refine walk ?_
      refine fin0 ?_
      refine ⟨?_, rfl, rfl⟩
      rw [decide_eq_false]
      intro h
      have := h.2 u hmem
      simp only [okB] at this
      omega
    · refine walk ?_
      refine out_next hL (k + 1) ⟨by omega, fun x hx' => ?_⟩
      rw [ht] at hx'
      rcases List.mem_append.1 hx' with hx' | hx'
      · exact hk x hx'
      · rw [List.mem_singleton.1 hx']
        simp only [okB]
        omega
  · clear hL
    obtain rfl : k = l.length := by omega
    rw [List.take_length] at hk
    refine walkG ?_
    refine fin0 ?_
    refine ⟨?_, rfl, rfl⟩
    simp only [hsz]
    refine congrArg Value.bool (decide_eq_decide.2 ?_)
    simp only [okL]
    constructor
    · intro h; exact ⟨by omega, hk⟩
    · intro h; omega
theorem rNameN_spec {W0 : World} {H : Heap} {n : ByteArray} (hn : n.size ≤ cap47) :
    Ct Try.prog 40 #[.string n] W0 H [] (fun r H' B => r = .bool (decide (okN n)) ∧ B = [] ∧ H' = H) := by
  have h := rName_spec (W0 := W0) (H := H) (l := n.data.toList) (by rw [← Lib.size_eq]; exact hn)
  rw [← sb_of n] at h
  exact h
/-- the place of a file -/
def atI : List RF → ByteArray → Int → Int
  | [], _, _ => -1
  | g :: r, n, k => if g.Name = n then k else atI r n (k + 1)
theorem atI_snoc {n : ByteArray} : ∀ {l : List RF} {r : List RF} {k : Int}, (∀ g ∈ l, g.Name ≠ n) → atI (l ++ r) n k = atI r n (k + l.length)
  | [], r, k, _ => by simp
  | g :: l, r, k, h => by
    rw [List.cons_append, atI, if_neg (h g (by simp)), atI_snoc fun x hx => h x (by simp [hx])]
    congr 1
    simp only [List.length_cons]; omega
theorem at_cases (fs : List RF) (n : ByteArray) : (atF fs n = none ∧ atI fs n 0 = -1) ∨ ∃ k, ∃ h : k < fs.length, atF fs n = some fs[k] ∧ atI fs n 0 = k ∧ fs[k].Name = n := by
  have key : ∀ (l r : List RF), (∀ g ∈ l, g.Name ≠ n) → fs = l ++ r → (atF fs n = none ∧ atI fs n 0 = -1) ∨ ∃ k, ∃ h : k < fs.length, atF fs n = some fs[k] ∧ atI fs n 0 = k ∧ fs[k].Name = n := by
    intro l r
    induction r generalizing l with
    | nil =>
      intro h e
      left
      subst e
      refine ⟨?_, by rw [atI_snoc h]; rfl⟩
      unfold atF
      rw [List.find?_eq_none]
      intro g hg
      simpa using h g (by simpa using hg)
    | cons g r ih =>
      intro h e
      by_cases hg : g.Name = n
      · right
        subst e
        refine ⟨l.length, by simp, ?_, ?_, by simpa using hg⟩
        · unfold atF
          rw [List.find?_append, List.find?_eq_none.2 (fun x hx => by simpa using h x hx)]
          simp [hg]
        · rw [atI_snoc h, atI, if_pos hg]; simp
      · refine ih (l ++ [g]) (fun x hx => ?_) (by simp [e])
        rcases List.mem_append.1 hx with hx | hx
        · exact h x hx
        · rw [List.mem_singleton.1 hx]; exact hg
  exact key [] fs (fun g hg => by cases hg) rfl
abbrev rRF := rConvoyref02File
set_option maxHeartbeats 4000000 in
theorem at_spec {W0 : World} {H : Heap} {m : Drive} {c : List Value} {n : ByteArray} (h0 : rDrive H c m) (hn : n.size ≤ cap47) :
    Ct Try.prog 41 #[.agg c.toArray, .string n] W0 H [] (fun r H' B => r = I (atI m.Files n 0) ∧ B = [] ∧ H' = H) := by
  refine Ct.go (vs := [.agg c.toArray, .string n]) fun R => ?_
  obtain ⟨s0, rfl, h1, f1, f2⟩ := h0
  obtain ⟨b0, c0, rfl, hc0, hd0⟩ := h1.1.shape
  refine walk ?_
  refine ops_box rfl rfl fun p2 _ => ?_
  refine walk ?_
  refine ex_loop (σ := Nat) (fun k => k ≤ m.Files.length ∧ ∀ g ∈ m.Files.take k, g.Name ≠ n) (fun k => [(1, .string n), (2, .pointer (some ⟨p2, 0, none⟩)), (5, I k)]) (fun _ => H) (fun _ => row p2 38 (m.cv (.slice b0 m.Files.length c0)) :: R) (fun k => m.Files.length - k) 0 ⟨Nat.zero_le _, by simp⟩ fun k ⟨hk0, hk⟩ K hL => ?_
  refine walk ?_
  refine ex_if rfl (fun hk1 => ?_) (fun hk1 => ?_)
  · have hk2 : k < m.Files.length := by omega
    refine walk ?_
    refine ops_ixp rfl rfl h1.1 hk2 (fun b off c hr hc => ?_)
    obtain ⟨rfl, hn1, hn2, hn3⟩ := hc
    refine walk ?_
    have ht := List.take_succ_eq_append_getElem hk2
    refine ex_if rfl (fun hq => ?_) (fun hq => ?_)
    · refine walk ?_
      refine fin0 ?_
      refine ⟨?_, rfl, rfl⟩
      have e : atI m.Files n 0 = k := by
        conv => lhs; rw [split_at hk2]
        rw [atI_snoc hk, atI, if_pos hq, List.length_take]
        omega
      rw [e]
    · have hfl := h1.2
      simp only [cap47] at hfl
      refine walk ?_
      refine out_next hL (k + 1) ⟨by omega, fun x hx' => ?_⟩
      rw [ht] at hx'
      rcases List.mem_append.1 hx' with hx' | hx'
      · exact hk x hx'
      · rw [List.mem_singleton.1 hx']
        exact hq
  · clear hL
    obtain rfl : k = m.Files.length := by omega
    rw [List.take_length] at hk
    refine walk ?_
    refine fin0 ?_
    refine ⟨?_, rfl, rfl⟩
    have e := atI_snoc (r := []) (k := 0) hk
    rw [List.append_nil] at e
    rw [e]; rfl
theorem rDead_spec {W0 : World} {H : Heap} {m : Drive} {c : List Value} (h0 : rDrive H c m) :
    Ct Try.prog 33 #[.agg c.toArray] W0 H [] (fun r H' B => r = .bool (decide (deadD m)) ∧ B = [] ∧ H' = H) := by
  refine Ct.go (vs := [.agg c.toArray]) fun R => ?_
  obtain ⟨s0, rfl, h1, f1, f2⟩ := h0
  obtain ⟨fs, st, ar, lf⟩ := m
  dsimp only at *
  refine walk ?_
  refine ops_box rfl rfl fun p2 _ => ?_
  cases ar with
  | false =>
    refine walk ?_
    refine fin0 ?_
    exact ⟨by simp [deadD], rfl, rfl⟩
  | true =>
    refine walk ?_
    refine fin0 ?_
    exact ⟨by simp [deadD], rfl, rfl⟩
theorem rStep_spec {W0 : World} {H : Heap} {m : Drive} {c : List Value} (h0 : rDrive H c m) (f3 : fits (m.Steps + 1)) (f4 : fits (m.Left - 1)) :
    Ct Try.prog 43 #[.agg c.toArray] W0 H [] (fun r H' B => ∃ c', r = .agg c'.toArray ∧ rDrive H c' (stepM m) ∧ B = [] ∧ H' = H) := by
  refine Ct.go (vs := [.agg c.toArray]) fun R => ?_
  obtain ⟨s0, rfl, h1, f1, f2⟩ := h0
  obtain ⟨b0, c0, rfl, hc0, hd0⟩ := h1.1.shape
  obtain ⟨fs, st, ar, lf⟩ := m
  dsimp only at *
  refine walk ?_
  refine ops_box rfl rfl fun p2 _ => ?_
  refine walk ?_
  refine ops_alloc rfl fun p4 _ => ?_
  cases ar with
  | false =>
    refine walk ?_
    refine fin0 ?_
    exact ⟨_, rfl, ⟨_, rfl, h1, f3, f2⟩, rfl, rfl⟩
  | true =>
    refine walk ?_
    refine fin0 ?_
    exact ⟨_, rfl, ⟨_, rfl, h1, f3, f4⟩, rfl, rfl⟩
end Go.Proofs.Ytjafnombaehcaaa
