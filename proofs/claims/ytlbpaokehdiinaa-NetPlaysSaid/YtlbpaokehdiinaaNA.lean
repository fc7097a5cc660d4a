/- What the references' comparisons of texts, numbers, works, routes, calls, replies and messages do. -/
import Derived.Test.YtlbpaokehdiinaaTy
set_option linter.unusedVariables false
set_option linter.unusedSimpArgs false
namespace Go.Proofs.Ytlbpaokehdiinaa
open Go Go.Sx Go.Proofs
abbrev I (n : Int) : Value := .int .i64 n
theorem texts_spec {W0 : World} {H : Heap} {v0 v1 : Value} {xs ys : List ByteArray} (h0 : SlR rStr 1 H v0 xs) (h1 : SlR rStr 1 H v1 ys) :
    Ct Try.prog 33 #[v0, v1] W0 H [] (fun r H' B => r = .bool (decide (xs = ys)) ∧ B = [] ∧ H' = H) := by
  refine Ct.go fun R => ?_
  obtain ⟨b0, c0, rfl, hc0, hd0⟩ := h0.shape
  obtain ⟨b1, c1, rfl, hc1, hd1⟩ := h1.shape
  refine walk ?_
  refine ex_if rfl (fun h => ?_) (fun h => ?_)
  · refine walk ?_
    refine fin0 ?_
    exact ⟨by simp; rintro rfl; exact h rfl, rfl, rfl⟩
  refine walk ?_
  refine ex_loop (fun k => k ≤ xs.length ∧ xs.take k = ys.take k) (fun k => [(0, .slice b0 xs.length c0), (1, .slice b1 ys.length c1), (12, I xs.length), (13, I k)]) (fun _ => H) (fun _ => R) (fun k => xs.length - k) 0 ⟨Nat.zero_le _, rfl⟩ fun k ⟨hk0, ht⟩ K hL => ?_
  refine walk ?_
  refine ex_if rfl (fun hk => ?_) (fun hk => ?_)
  · refine walk ?_
    refine ex_if rfl (fun hq => ?_) (fun hq => ?_)
    · refine walk ?_
      refine fin0 ?_
      exact ⟨by simp; rintro rfl; exact hq rfl, rfl, rfl⟩
    · refine walk ?_
      refine out_next hL (k + 1) ⟨by omega, ?_⟩
      simp at hq
      rw [List.take_succ_eq_append_getElem (by omega), List.take_succ_eq_append_getElem (by omega), ht, hq]
  · refine walk ?_
    refine fin0 ?_
    obtain rfl : k = xs.length := by omega
    exact ⟨by rw [List.take_length] at ht; simp; rw [ht]; exact List.take_of_length_le (by omega), rfl, rfl⟩
theorem ints_spec {W0 : World} {H : Heap} {v0 v1 : Value} {xs ys : List Int} (h0 : SlR rInt 1 H v0 xs) (h1 : SlR rInt 1 H v1 ys) :
    Ct Try.prog 36 #[v0, v1] W0 H [] (fun r H' B => r = .bool (decide (xs = ys)) ∧ B = [] ∧ H' = H) := by
  refine Ct.go fun R => ?_
  obtain ⟨b0, c0, rfl, hc0, hd0⟩ := h0.shape
  obtain ⟨b1, c1, rfl, hc1, hd1⟩ := h1.shape
  refine walk ?_
  refine ex_if rfl (fun h => ?_) (fun h => ?_)
  · refine walk ?_
    refine fin0 ?_
    exact ⟨by simp; rintro rfl; exact h rfl, rfl, rfl⟩
  refine walk ?_
  refine ex_loop (fun k => k ≤ xs.length ∧ xs.take k = ys.take k) (fun k => [(0, .slice b0 xs.length c0), (1, .slice b1 ys.length c1), (12, I xs.length), (13, I k)]) (fun _ => H) (fun _ => R) (fun k => xs.length - k) 0 ⟨Nat.zero_le _, rfl⟩ fun k ⟨hk0, ht⟩ K hL => ?_
  refine walk ?_
  refine ex_if rfl (fun hk => ?_) (fun hk => ?_)
  · refine walk ?_
    refine ex_if rfl (fun hq => ?_) (fun hq => ?_)
    · refine walk ?_
      refine fin0 ?_
      exact ⟨by simp; rintro rfl; exact hq rfl, rfl, rfl⟩
    · refine walk ?_
      refine out_next hL (k + 1) ⟨by omega, ?_⟩
      simp at hq
      rw [List.take_succ_eq_append_getElem (by omega), List.take_succ_eq_append_getElem (by omega), ht, hq]
  · refine walk ?_
    refine fin0 ?_
    obtain rfl : k = xs.length := by omega
    exact ⟨by rw [List.take_length] at ht; simp; rw [ht]; exact List.take_of_length_le (by omega), rfl, rfl⟩
theorem sameRoute_spec {W0 : World} {H : Heap} {c d : List Value} {x y : Route} (h0 : rRoute H c x) (h1 : rRoute H d y) :
    Ct Try.prog 34 #[.agg c.toArray, .agg d.toArray] W0 H [] (fun r H' B => r = .bool (decide (x = y)) ∧ B = [] ∧ H' = H) := by
  refine Ct.go fun R => ?_
  obtain ⟨xs, xc⟩ := x
  obtain ⟨ys, yc⟩ := y
  obtain ⟨s, rfl, h2, h0⟩ := h0
  obtain ⟨t, rfl, h3, h1⟩ := h1
  dsimp only at *
  refine walk ?_
  refine ops_box rfl rfl fun p0 _ => ?_
  refine ops_box rfl rfl fun p1 _ => ?_
  by_cases e1 : xs = ys
  · refine walk ?_
    refine ops_call rfl rfl (ints_spec h0.1 h1.1) fun r H' B hl ⟨e, eB, eH⟩ => ?_
    subst e eB eH
    refine walk ?_
    refine fin0 ?_
    exact ⟨by simp [e1], rfl, rfl⟩
  · refine walk ?_
    refine fin0 ?_
    exact ⟨by simp [e1], rfl, rfl⟩
theorem sameWork_spec {W0 : World} {H : Heap} {c d : List Value} {x y : Work} (h0 : rWork H c x) (h1 : rWork H d y) :
    Ct Try.prog 22 #[.agg c.toArray, .agg d.toArray] W0 H [] (fun r H' B => r = .bool (decide (x = y)) ∧ B = [] ∧ H' = H) := by
  refine Ct.go fun R => ?_
  obtain ⟨xr, xt, xd⟩ := x
  obtain ⟨yr, yt, yd⟩ := y
  obtain ⟨s1, s2, rfl, f1, h0, h0'⟩ := h0
  obtain ⟨t1, t2, rfl, f2, h1, h1'⟩ := h1
  dsimp only at *
  refine walk ?_
  refine ops_box rfl rfl fun p0 _ => ?_
  refine ops_box rfl rfl fun p1 _ => ?_
  by_cases e1 : xr = yr
  · refine walk ?_
    refine ops_call rfl rfl (texts_spec h0.1 h1.1) fun r H' B hl ⟨e, eB, eH⟩ => ?_
    subst e eB eH
    refine walk ?_
    refine ops_case (fun e2 => ?_) (fun e2 => ?_)
    · refine walk ?_
      refine ops_call rfl rfl (texts_spec h0'.1 h1'.1) fun r H' B hl ⟨e, eB, eH⟩ => ?_
      subst e eB eH
      refine walk ?_
      refine fin0 ?_
      exact ⟨by simp [e1, e2], rfl, rfl⟩
    · refine walk ?_
      refine fin0 ?_
      exact ⟨by simp [e2], rfl, rfl⟩
  · refine walk ?_
    refine fin0 ?_
    exact ⟨by simp [e1], rfl, rfl⟩
theorem sameCall_spec {W0 : World} {H : Heap} {c d : List Value} {x y : Call} (h0 : rCall H c x) (h1 : rCall H d y) :
    Ct Try.prog 23 #[.agg c.toArray, .agg d.toArray] W0 H [] (fun r H' B => r = .bool (decide (x = y)) ∧ B = [] ∧ H' = H) := by
  refine Ct.go fun R => ?_
  obtain ⟨xv, xe, xr⟩ := x
  obtain ⟨yv, ye, yr⟩ := y
  obtain ⟨s, rfl, f1, f2, f3, h0⟩ := h0
  obtain ⟨t, rfl, g1, g2, g3, h1⟩ := h1
  dsimp only at *
  refine walk ?_
  refine ops_box rfl rfl fun p0 _ => ?_
  refine ops_box rfl rfl fun p1 _ => ?_
  by_cases e1 : xv = yv
  · by_cases e2 : xe = ye
    · refine walk ?_
      refine ops_call rfl rfl (sameRoute_spec (x := xr) (y := yr) ⟨s, rfl, f3, h0⟩ ⟨t, rfl, g3, h1⟩) fun r H' B hl ⟨e, eB, eH⟩ => ?_
      subst e eB eH
      refine walk ?_
      refine fin0 ?_
      exact ⟨by simp [e1, e2], rfl, rfl⟩
    · refine walk ?_
      refine fin0 ?_
      exact ⟨by simp [e2], rfl, rfl⟩
  · refine walk ?_
    refine fin0 ?_
    exact ⟨by simp [e1], rfl, rfl⟩
theorem sameReply_spec {W0 : World} {H : Heap} {c d : List Value} {x y : Reply} (h0 : rReply H c x) (h1 : rReply H d y) :
    Ct Try.prog 24 #[.agg c.toArray, .agg d.toArray] W0 H [] (fun r H' B => r = .bool (decide (x = y)) ∧ B = [] ∧ H' = H) := by
  refine Ct.go fun R => ?_
  obtain ⟨xv, xe, xr⟩ := x
  obtain ⟨yv, ye, yr⟩ := y
  obtain ⟨s, rfl, f1, f2, f3, h0⟩ := h0
  obtain ⟨t, rfl, g1, g2, g3, h1⟩ := h1
  dsimp only at *
  refine walk ?_
  refine ops_box rfl rfl fun p0 _ => ?_
  refine ops_box rfl rfl fun p1 _ => ?_
  by_cases e1 : xv = yv
  · by_cases e2 : xe = ye
    · refine walk ?_
      refine ops_call rfl rfl (sameRoute_spec (x := xr) (y := yr) ⟨s, rfl, f3, h0⟩ ⟨t, rfl, g3, h1⟩) fun r H' B hl ⟨e, eB, eH⟩ => ?_
      subst e eB eH
      refine walk ?_
      refine fin0 ?_
      exact ⟨by simp [e1, e2], rfl, rfl⟩
    · refine walk ?_
      refine fin0 ?_
      exact ⟨by simp [e2], rfl, rfl⟩
  · refine walk ?_
    refine fin0 ?_
    exact ⟨by simp [e1], rfl, rfl⟩
end Go.Proofs.Ytlbpaokehdiinaa
