/- The planner's better. -/
import Derived.Test.YtadahmihkbpglaaDoorPG
import Derived.Test.YtadahmihkbpglaaDoorE31
set_option linter.unusedVariables false
set_option linter.unusedSimpArgs false
namespace Go.Proofs.YtadahmihkbpglaaDoor
open Go Go.Sx Go.Proofs
theorem nan_spec {W0 : World} {H : Heap} {x : Int} :
    Ct Tryd.prog 62 #[I x] W0 H [] (fun r H' B => r = .bool false ∧ B = [] ∧ H' = H) := by
  refine Ct.go fun R => ?_
  refine walk ?_
  refine fin0 ?_
  exact ⟨by simp, rfl, rfl⟩
def cmpI (a b : Int) : Int := if a < b then -1 else if b < a then 1 else 0
theorem cmp_spec {W0 : World} {H : Heap} {a b : Int} :
    Ct Tryd.prog 52 #[I a, I b] W0 H [] (fun r H' B => r = I (cmpI a b) ∧ B = [] ∧ H' = H) := by
  refine Ct.go fun R => ?_
  refine walk ?_
  refine ops_pcall rfl rfl nan_spec ?_
  refine walk ?_
  refine ops_pcall rfl rfl nan_spec ?_
  refine walk ?_
  refine ex_if rfl (fun h => ?_) (fun h => ?_)
  · refine walk ?_
    refine fin0 ?_
    exact ⟨by unfold cmpI; rw [if_pos h], rfl, rfl⟩
  refine walk ?_
  refine ex_if rfl (fun h2 => ?_) (fun h2 => ?_)
  · refine walk ?_
    refine fin0 ?_
    exact ⟨by unfold cmpI; rw [if_neg h, if_pos h2], rfl, rfl⟩
  · refine walk ?_
    refine fin0 ?_
    exact ⟨by unfold cmpI; rw [if_neg h, if_neg h2], rfl, rfl⟩
def orI : List Int → Int
  | [] => 0
  | x :: r => if x ≠ 0 then x else orI r
theorem or_spec {W0 : World} {H : Heap} {v : Value} {xs : List Int} (h0 : SlR rInt 1 H v xs) :
    Ct Tryd.prog 51 #[v] W0 H [] (fun r H' B => r = I (orI xs) ∧ B = [] ∧ H' = H) := by
  refine Ct.go fun R => ?_
  obtain ⟨b0, c0, rfl, hc0, hd0⟩ := h0.shape
  refine walk ?_
  refine ex_loop (σ := Nat) (fun k => k ≤ xs.length ∧ orI (xs.drop k) = orI xs) (fun k => [(3, I 0), (6, .slice b0 xs.length c0), (7, I xs.length), (8, I k)]) (fun _ => H) (fun _ => R) (fun k => xs.length - k) 0 ⟨Nat.zero_le _, rfl⟩ fun k ⟨hk0, hd⟩ K hL => ?_
  refine walk ?_
  refine ex_if rfl (fun hk => ?_) (fun hk => ?_)
  · have hk1 : k < xs.length := by omega
    rw [List.drop_eq_getElem_cons hk1, orI] at hd
    refine walk ?_
    refine ex_if rfl (fun hq => ?_) (fun hq => ?_)
    · rw [if_pos hq] at hd
      refine walk ?_
      refine fin0 ?_
      exact ⟨by rw [hd], rfl, rfl⟩
    · rw [if_neg hq] at hd
      refine walk ?_
      refine out_next hL (k + 1) ⟨by omega, hd⟩
  · clear hL
    refine walk ?_
    refine fin0 ?_
    obtain rfl : k = xs.length := by omega
    rw [List.drop_length] at hd
    exact ⟨by rw [← hd]; rfl, rfl, rfl⟩
theorem cmp_fits {a b : Int} : fits (cmpI a b) := by unfold cmpI; split; · unfold fits; omega
                                                     · split <;> unfold fits <;> omega
theorem or4 {a1 a2 a3 a4 b1 b2 b3 b4 : Int} : orI [cmpI a1 b1, cmpI a2 b2, cmpI a3 b3, cmpI a4 b4] < 0 ↔ a1 < b1 ∨ a1 = b1 ∧ (a2 < b2 ∨ a2 = b2 ∧ (a3 < b3 ∨ a3 = b3 ∧ a4 < b4)) := by
  simp only [orI, cmpI]
  repeat' split
  all_goals omega
set_option maxHeartbeats 4000000 in
theorem better_spec {W0 : World} {H : Heap} {a b : RestV} :
    Ct Tryd.prog 31 #[.agg a.cv.toArray, .agg b.cv.toArray] W0 H [] (fun r H' B => r = .bool (decide (betV a b)) ∧ B = []) := by
  refine Ct.go (vs := [.agg a.cv.toArray, .agg b.cv.toArray]) fun R => ?_
  obtain ⟨o1, a1, a2, a3, a4⟩ := a
  obtain ⟨o2, b1, b2, b3, b4⟩ := b
  have ntt : ¬ ¬ true = true := fun h => h rfl
  have nff : ¬ false = true := fun h => by cases h
  refine walk ?_
  refine ops_box rfl rfl fun p2 _ => ?_
  refine ops_box rfl rfl fun p3 _ => ?_
  cases o1 with
  | false =>
    refine walk ?_
    refine fin0 ?_
    exact ⟨by simp [betV], rfl⟩
  | true =>
    cases o2 with
    | false =>
      refine walk ?_
      refine fin0 ?_
      exact ⟨by simp [betV], rfl⟩
    | true =>
      refine walk ?_
      refine ex_any 21 [row p2 64 [.bool true, I a1, I a2, I a3, I a4], row p3 64 [.bool true, I b1, I b2, I b3, I b4]] ?_
      (first | refine gny_p 0 rfl rfl rfl ?_ | refine gny_ld 0 rfl rfl rfl rfl ?_ | refine gny_ldH 0 rfl rfl rfl ‹HRow _ _ 0 _› rfl ?_ | refine gny_T 0 rfl rfl rfl ?_ | refine gny_F 0 rfl rfl rfl ?_ | refine gny_B 0 rfl rfl rfl ?_ | refine gny_skip 0 rfl rfl ?_ | refine gny_sp 0 rfl rfl rfl ?_ | refine gny_sB 0 rfl rfl rfl ?_ | refine gny_sld 0 rfl rfl rfl rfl ?_ | refine gny_sldH 0 rfl rfl rfl ‹HRow _ _ 0 _› rfl ?_ | refine gny_ldN 0 rfl rfl rfl rfl ?_ | refine gny_bld 0 rfl rfl rfl ?_); (first | refine gny_p 1 rfl rfl rfl ?_ | refine gny_ld 1 rfl rfl rfl rfl ?_ | refine gny_ldH 1 rfl rfl rfl ‹HRow _ _ 0 _› rfl ?_ | refine gny_T 1 rfl rfl rfl ?_ | refine gny_F 1 rfl rfl rfl ?_ | refine gny_B 1 rfl rfl rfl ?_ | refine gny_skip 1 rfl rfl ?_ | refine gny_sp 1 rfl rfl rfl ?_ | refine gny_sB 1 rfl rfl rfl ?_ | refine gny_sld 1 rfl rfl rfl rfl ?_ | refine gny_sldH 1 rfl rfl rfl ‹HRow _ _ 0 _› rfl ?_ | refine gny_ldN 1 rfl rfl rfl rfl ?_ | refine gny_bld 1 rfl rfl rfl ?_); (first | refine gny_p 2 rfl rfl rfl ?_ | refine gny_ld 2 rfl rfl rfl rfl ?_ | refine gny_ldH 2 rfl rfl rfl ‹HRow _ _ 0 _› rfl ?_ | refine gny_T 2 rfl rfl rfl ?_ | refine gny_F 2 rfl rfl rfl ?_ | refine gny_B 2 rfl rfl rfl ?_ | refine gny_skip 2 rfl rfl ?_ | refine gny_sp 2 rfl rfl rfl ?_ | refine gny_sB 2 rfl rfl rfl ?_ | refine gny_sld 2 rfl rfl rfl rfl ?_ | refine gny_sldH 2 rfl rfl rfl ‹HRow _ _ 0 _› rfl ?_ | refine gny_ldN 2 rfl rfl rfl rfl ?_ | refine gny_bld 2 rfl rfl rfl ?_); (first | refine gny_p 3 rfl rfl rfl ?_ | refine gny_ld 3 rfl rfl rfl rfl ?_ | refine gny_ldH 3 rfl rfl rfl ‹HRow _ _ 0 _› rfl ?_ | refine gny_T 3 rfl rfl rfl ?_ | refine gny_F 3 rfl rfl rfl ?_ | refine gny_B 3 rfl rfl rfl ?_ | refine gny_skip 3 rfl rfl ?_ | refine gny_sp 3 rfl rfl rfl ?_ | refine gny_sB 3 rfl rfl rfl ?_ | refine gny_sld 3 rfl rfl rfl rfl ?_ | refine gny_sldH 3 rfl rfl rfl ‹HRow _ _ 0 _› rfl ?_ | refine gny_ldN 3 rfl rfl rfl rfl ?_ | refine gny_bld 3 rfl rfl rfl ?_); (first | refine gny_p 5 rfl rfl rfl ?_ | refine gny_ld 5 rfl rfl rfl rfl ?_ | refine gny_ldH 5 rfl rfl rfl ‹HRow _ _ 0 _› rfl ?_ | refine gny_T 5 rfl rfl rfl ?_ | refine gny_F 5 rfl rfl rfl ?_ | refine gny_B 5 rfl rfl rfl ?_ | refine gny_skip 5 rfl rfl ?_ | refine gny_sp 5 rfl rfl rfl ?_ | refine gny_sB 5 rfl rfl rfl ?_ | refine gny_sld 5 rfl rfl rfl rfl ?_ | refine gny_sldH 5 rfl rfl rfl ‹HRow _ _ 0 _› rfl ?_ | refine gny_ldN 5 rfl rfl rfl rfl ?_ | refine gny_bld 5 rfl rfl rfl ?_); (first | refine gny_p 6 rfl rfl rfl ?_ | refine gny_ld 6 rfl rfl rfl rfl ?_ | refine gny_ldH 6 rfl rfl rfl ‹HRow _ _ 0 _› rfl ?_ | refine gny_T 6 rfl rfl rfl ?_ | refine gny_F 6 rfl rfl rfl ?_ | refine gny_B 6 rfl rfl rfl ?_ | refine gny_skip 6 rfl rfl ?_ | refine gny_sp 6 rfl rfl rfl ?_ | refine gny_sB 6 rfl rfl rfl ?_ | refine gny_sld 6 rfl rfl rfl rfl ?_ | refine gny_sldH 6 rfl rfl rfl ‹HRow _ _ 0 _› rfl ?_ | refine gny_ldN 6 rfl rfl rfl rfl ?_ | refine gny_bld 6 rfl rfl rfl ?_); (first | refine gny_p 7 rfl rfl rfl ?_ | refine gny_ld 7 rfl rfl rfl rfl ?_ | refine gny_ldH 7 rfl rfl rfl ‹HRow _ _ 0 _› rfl ?_ | refine gny_T 7 rfl rfl rfl ?_ | refine gny_F 7 rfl rfl rfl ?_ | refine gny_B 7 rfl rfl rfl ?_ | refine gny_skip 7 rfl rfl ?_ | refine gny_sp 7 rfl rfl rfl ?_ | refine gny_sB 7 rfl rfl rfl ?_ | refine gny_sld 7 rfl rfl rfl rfl ?_ | refine gny_sldH 7 rfl rfl rfl ‹HRow _ _ 0 _› rfl ?_ | refine gny_ldN 7 rfl rfl rfl rfl ?_ | refine gny_bld 7 rfl rfl rfl ?_); (first | refine gny_p 8 rfl rfl rfl ?_ | refine gny_ld 8 rfl rfl rfl rfl ?_ | refine gny_ldH 8 rfl rfl rfl ‹HRow _ _ 0 _› rfl ?_ | refine gny_T 8 rfl rfl rfl ?_ | refine gny_F 8 rfl rfl rfl ?_ | refine gny_B 8 rfl rfl rfl ?_ | refine gny_skip 8 rfl rfl ?_ | refine gny_sp 8 rfl rfl rfl ?_ | refine gny_sB 8 rfl rfl rfl ?_ | refine gny_sld 8 rfl rfl rfl rfl ?_ | refine gny_sldH 8 rfl rfl rfl ‹HRow _ _ 0 _› rfl ?_ | refine gny_ldN 8 rfl rfl rfl rfl ?_ | refine gny_bld 8 rfl rfl rfl ?_); (first | refine gny_p 10 rfl rfl rfl ?_ | refine gny_ld 10 rfl rfl rfl rfl ?_ | refine gny_ldH 10 rfl rfl rfl ‹HRow _ _ 0 _› rfl ?_ | refine gny_T 10 rfl rfl rfl ?_ | refine gny_F 10 rfl rfl rfl ?_ | refine gny_B 10 rfl rfl rfl ?_ | refine gny_skip 10 rfl rfl ?_ | refine gny_sp 10 rfl rfl rfl ?_ | refine gny_sB 10 rfl rfl rfl ?_ | refine gny_sld 10 rfl rfl rfl rfl ?_ | refine gny_sldH 10 rfl rfl rfl ‹HRow _ _ 0 _› rfl ?_ | refine gny_ldN 10 rfl rfl rfl rfl ?_ | refine gny_bld 10 rfl rfl rfl ?_); (first | refine gny_p 11 rfl rfl rfl ?_ | refine gny_ld 11 rfl rfl rfl rfl ?_ | refine gny_ldH 11 rfl rfl rfl ‹HRow _ _ 0 _› rfl ?_ | refine gny_T 11 rfl rfl rfl ?_ | refine gny_F 11 rfl rfl rfl ?_ | refine gny_B 11 rfl rfl rfl ?_ | refine gny_skip 11 rfl rfl ?_ | refine gny_sp 11 rfl rfl rfl ?_ | refine gny_sB 11 rfl rfl rfl ?_ | refine gny_sld 11 rfl rfl rfl rfl ?_ | refine gny_sldH 11 rfl rfl rfl ‹HRow _ _ 0 _› rfl ?_ | refine gny_ldN 11 rfl rfl rfl rfl ?_ | refine gny_bld 11 rfl rfl rfl ?_); (first | refine gny_p 12 rfl rfl rfl ?_ | refine gny_ld 12 rfl rfl rfl rfl ?_ | refine gny_ldH 12 rfl rfl rfl ‹HRow _ _ 0 _› rfl ?_ | refine gny_T 12 rfl rfl rfl ?_ | refine gny_F 12 rfl rfl rfl ?_ | refine gny_B 12 rfl rfl rfl ?_ | refine gny_skip 12 rfl rfl ?_ | refine gny_sp 12 rfl rfl rfl ?_ | refine gny_sB 12 rfl rfl rfl ?_ | refine gny_sld 12 rfl rfl rfl rfl ?_ | refine gny_sldH 12 rfl rfl rfl ‹HRow _ _ 0 _› rfl ?_ | refine gny_ldN 12 rfl rfl rfl rfl ?_ | refine gny_bld 12 rfl rfl rfl ?_); (first | refine gny_p 13 rfl rfl rfl ?_ | refine gny_ld 13 rfl rfl rfl rfl ?_ | refine gny_ldH 13 rfl rfl rfl ‹HRow _ _ 0 _› rfl ?_ | refine gny_T 13 rfl rfl rfl ?_ | refine gny_F 13 rfl rfl rfl ?_ | refine gny_B 13 rfl rfl rfl ?_ | refine gny_skip 13 rfl rfl ?_ | refine gny_sp 13 rfl rfl rfl ?_ | refine gny_sB 13 rfl rfl rfl ?_ | refine gny_sld 13 rfl rfl rfl rfl ?_ | refine gny_sldH 13 rfl rfl rfl ‹HRow _ _ 0 _› rfl ?_ | refine gny_ldN 13 rfl rfl rfl rfl ?_ | refine gny_bld 13 rfl rfl rfl ?_); (first | refine gny_p 15 rfl rfl rfl ?_ | refine gny_ld 15 rfl rfl rfl rfl ?_ | refine gny_ldH 15 rfl rfl rfl ‹HRow _ _ 0 _› rfl ?_ | refine gny_T 15 rfl rfl rfl ?_ | refine gny_F 15 rfl rfl rfl ?_ | refine gny_B 15 rfl rfl rfl ?_ | refine gny_skip 15 rfl rfl ?_ | refine gny_sp 15 rfl rfl rfl ?_ | refine gny_sB 15 rfl rfl rfl ?_ | refine gny_sld 15 rfl rfl rfl rfl ?_ | refine gny_sldH 15 rfl rfl rfl ‹HRow _ _ 0 _› rfl ?_ | refine gny_ldN 15 rfl rfl rfl rfl ?_ | refine gny_bld 15 rfl rfl rfl ?_); (first | refine gny_p 16 rfl rfl rfl ?_ | refine gny_ld 16 rfl rfl rfl rfl ?_ | refine gny_ldH 16 rfl rfl rfl ‹HRow _ _ 0 _› rfl ?_ | refine gny_T 16 rfl rfl rfl ?_ | refine gny_F 16 rfl rfl rfl ?_ | refine gny_B 16 rfl rfl rfl ?_ | refine gny_skip 16 rfl rfl ?_ | refine gny_sp 16 rfl rfl rfl ?_ | refine gny_sB 16 rfl rfl rfl ?_ | refine gny_sld 16 rfl rfl rfl rfl ?_ | refine gny_sldH 16 rfl rfl rfl ‹HRow _ _ 0 _› rfl ?_ | refine gny_ldN 16 rfl rfl rfl rfl ?_ | refine gny_bld 16 rfl rfl rfl ?_); (first | refine gny_p 17 rfl rfl rfl ?_ | refine gny_ld 17 rfl rfl rfl rfl ?_ | refine gny_ldH 17 rfl rfl rfl ‹HRow _ _ 0 _› rfl ?_ | refine gny_T 17 rfl rfl rfl ?_ | refine gny_F 17 rfl rfl rfl ?_ | refine gny_B 17 rfl rfl rfl ?_ | refine gny_skip 17 rfl rfl ?_ | refine gny_sp 17 rfl rfl rfl ?_ | refine gny_sB 17 rfl rfl rfl ?_ | refine gny_sld 17 rfl rfl rfl rfl ?_ | refine gny_sldH 17 rfl rfl rfl ‹HRow _ _ 0 _› rfl ?_ | refine gny_ldN 17 rfl rfl rfl rfl ?_ | refine gny_bld 17 rfl rfl rfl ?_); (first | refine gny_p 18 rfl rfl rfl ?_ | refine gny_ld 18 rfl rfl rfl rfl ?_ | refine gny_ldH 18 rfl rfl rfl ‹HRow _ _ 0 _› rfl ?_ | refine gny_T 18 rfl rfl rfl ?_ | refine gny_F 18 rfl rfl rfl ?_ | refine gny_B 18 rfl rfl rfl ?_ | refine gny_skip 18 rfl rfl ?_ | refine gny_sp 18 rfl rfl rfl ?_ | refine gny_sB 18 rfl rfl rfl ?_ | refine gny_sld 18 rfl rfl rfl rfl ?_ | refine gny_sldH 18 rfl rfl rfl ‹HRow _ _ 0 _› rfl ?_ | refine gny_ldN 18 rfl rfl rfl rfl ?_ | refine gny_bld 18 rfl rfl rfl ?_)
      refine gny_pcall 4 rfl rfl rfl cmp_spec ?_
      refine gny_pcall 9 rfl rfl rfl cmp_spec ?_
      refine gny_pcall 14 rfl rfl rfl cmp_spec ?_
      refine gny_pcall 19 rfl rfl rfl cmp_spec ?_
      refine gny_bsN 20 rfl rfl rfl fun pb hb => ?_
      refine any_rest rfl ?_
      refine ops_frzR .here fun H1 hl1 hr1 => ?_
      have hf : ∀ x ∈ [cmpI a1 b1, cmpI a2 b2, cmpI a3 b3, cmpI a4 b4], fits x := fun x hx => by
        simp only [List.mem_cons, List.not_mem_nil, or_false] at hx
        rcases hx with rfl | rfl | rfl | rfl <;> exact cmp_fits
      have hs4 : SlR rInt 1 H1 (.slice (some ⟨pb, 0, none⟩) 4 4) [cmpI a1 b1, cmpI a2 b2, cmpI a3 b3, cmpI a4 b4] := slr_of_hrow (xs := [cmpI a1 b1, cmpI a2 b2, cmpI a3 b3, cmpI a4 b4]) hr1 (RL.mk1 (R := rInt) (val := fun x => .int .i64 x) (ok := fits) hf) (by simp) (by simp)
      refine ops_pcall rfl rfl (or_spec hs4) ?_
      refine walkG ?_
      refine fin0 ?_
      refine ⟨?_, rfl⟩
      simp only [betV, and_self, if_true]
      exact bdec or4
end Go.Proofs.YtadahmihkbpglaaDoor
