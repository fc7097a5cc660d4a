/- Lists of numbers, routes and replies held against each other; copies; small questions. -/
import Derived.Test.YtadahmihkbpglaaDoorTy
set_option linter.unusedVariables false
set_option linter.unusedSimpArgs false
namespace Go.Proofs.YtadahmihkbpglaaDoor
open Go Go.Sx Go.Proofs
abbrev I (n : Int) : Value := .int .i64 n
theorem bdec {p q : Prop} [Decidable p] [Decidable q] (h : p ↔ q) : Value.bool (decide p) = Value.bool (decide q) := by rw [decide_eq_decide.2 h]
theorem ints_spec {W0 : World} {H : Heap} {v0 v1 : Value} {xs ys : List Int} (h0 : SlR rInt 1 H v0 xs) (h1 : SlR rInt 1 H v1 ys) :
    Ct Tryd.prog 20 #[v0, v1] W0 H [] (fun r H' B => r = .bool (decide (xs = ys)) ∧ B = [] ∧ H' = H) := by
  refine Ct.go fun R => ?_
  obtain ⟨b0, c0, rfl, hc0, hd0⟩ := h0.shape
  obtain ⟨b1, c1, rfl, hc1, hd1⟩ := h1.shape
  refine walk ?_
  refine ex_if rfl (fun h => ?_) (fun h => ?_)
  · refine walk ?_
    refine fin0 ?_
    exact ⟨by simp; rintro rfl; exact h rfl, rfl, rfl⟩
  refine walk ?_
  refine ex_loop (fun k => k ≤ xs.length ∧ xs.take k = ys.take k) (fun k => [(0, .slice b0 xs.length c0), (1, .slice b1 ys.length c1), (12, I xs.length), (13, I k)]) (fun _ => H) (fun _ => R) (fun k => xs.length - k) 0 ⟨Nat.zero_le _, rfl⟩ fun k ⟨hk0, ht⟩ K hL => ?_
  refine walk ?_
  refine ex_if rfl (fun hk => ?_) (fun hk => ?_)
  · refine walk ?_
    refine ex_if rfl (fun hq => ?_) (fun hq => ?_)
    · refine walk ?_
      refine fin0 ?_
      exact ⟨by simp; rintro rfl; exact hq rfl, rfl, rfl⟩
    · refine walk ?_
      refine out_next hL (k + 1) ⟨by omega, ?_⟩
      simp at hq
      rw [List.take_succ_eq_append_getElem (by omega), List.take_succ_eq_append_getElem (by omega), ht, hq]
  · refine walk ?_
    refine fin0 ?_
    obtain rfl : k = xs.length := by omega
    exact ⟨by rw [List.take_length] at ht; simp; rw [ht]; exact List.take_of_length_le (by omega), rfl, rfl⟩
theorem wA {p q : Prop} (hq : q) (h : Held q → p := by
    intro hq
    repeat (first
      | refine Go.Sx.ops_p rfl rfl ?_ | refine Go.Sx.ops_ld rfl rfl rfl ?_ | refine Go.Sx.ops_T rfl rfl ?_ | refine Go.Sx.ops_F rfl rfl ?_ | refine Go.Sx.ops_B rfl rfl ?_ | refine Go.Sx.ops_skip rfl ?_
      | refine Go.Sx.ops_gp rfl rfl ?_ | refine Go.Sx.ops_gB rfl rfl ?_ | refine Go.Sx.ops_gld rfl rfl rfl ?_
      | refine Go.Sx.ops_st rfl rfl rfl rfl ?_ | refine Go.Sx.ops_ldN rfl rfl rfl ?_ | refine Go.Sx.ops_ext rfl rfl rfl ?_ | refine Go.Sx.ops_bld rfl rfl ?_ | refine Go.Sx.ops_ldHz rfl rfl ‹Go.Sx.HRow _ _ 0 _› rfl ?_ | refine Go.Sx.ops_ldHNz rfl rfl ‹Go.Sx.HRow _ _ 0 _› rfl ?_ | refine Go.Sx.ops_ldH rfl rfl ‹Go.Sx.HRow _ _ _ _› rfl rfl ?_ | refine Go.Sx.ops_ldH0 rfl rfl ‹Go.Sx.HRow _ _ _ _› rfl ?_ | refine Go.Sx.ops_ix rfl rfl rfl ‹Go.Sx.SlR _ _ _ _ _› (by omega) ?_
      | refine Go.Sx.ops_gldH0 rfl rfl ‹Go.Sx.HRow _ _ 0 _› rfl ?_ | refine Go.Sx.ops_gldN rfl rfl rfl ?_ | refine Go.Sx.ops_gext rfl rfl rfl ?_ | refine Go.Sx.ops_gix rfl rfl rfl ‹Go.Sx.SlR _ _ _ _ _› (by intro hg; omega) ?_
      | refine Go.Sx.ops_gcall rfl rfl (fun hg => ints_spec (xs := xc) (ys := yc) ‹_› ‹_›) ?_
      | refine Go.Sx.ops_pcall rfl rfl (ints_spec (xs := xc) (ys := yc) ‹_› ‹_›) ?_
      | refine Go.Sx.ops_nil ?_ | refine Go.Sx.ex_seq ?_ | refine Go.Sx.ex_reg ?_ | refine Go.Sx.out_seq ?_ | refine Go.Sx.ex_c rfl ?_ | refine Go.Sx.ex_sT ?_ | refine Go.Sx.ex_sF ?_ | refine Go.Sx.ex_blk ?_ | refine Go.Sx.out_blk ?_
      | refine Go.Sx.ex_skip ?_ | refine Go.Sx.ex_exit ?_ | refine Go.Sx.ex_ret ?_ | refine Go.Sx.out_eseq ?_ | refine Go.Sx.out_eblk ?_ | refine Go.Sx.out_ecut ?_ | refine Go.Sx.out_epass rfl ?_ | refine Go.Sx.out_rseq ?_ | refine Go.Sx.out_rblk ?_ | refine Go.Sx.out_rcut ?_
      | refine Go.Sx.ex_quiet (by decide +kernel) (fun _ _ _ _ _ h => h) ?_)
    exact hq.out) : p := h ⟨hq⟩
theorem sameRoute_spec {W0 : World} {H : Heap} {c d : List Value} {x y : Route} (h0 : rRoute H c x) (h1 : rRoute H d y) :
    Ct Tryd.prog 14 #[.agg c.toArray, .agg d.toArray] W0 H [] (fun r H' B => r = .bool (decide (x = y)) ∧ B = [] ∧ H' = H) := by
  refine Ct.go fun R => ?_
  obtain ⟨xs, xc⟩ := x
  obtain ⟨ys, yc⟩ := y
  obtain ⟨s, rfl, h2, h0⟩ := h0
  obtain ⟨t, rfl, h3, h1⟩ := h1
  dsimp only at *
  have k0 := h0.1
  have k1 := h1.1
  refine walk ?_
  refine ops_box rfl rfl fun p0 _ => ?_
  refine ops_box rfl rfl fun p1 _ => ?_
  refine wA ?_
  refine fin0 ?_
  exact ⟨bdec (by simp), rfl, rfl⟩
theorem wB {p q : Prop} (hq : q) (h : Held q → p := by
    intro hq
    repeat (first
      | refine Go.Sx.ops_p rfl rfl ?_ | refine Go.Sx.ops_ld rfl rfl rfl ?_ | refine Go.Sx.ops_T rfl rfl ?_ | refine Go.Sx.ops_F rfl rfl ?_ | refine Go.Sx.ops_B rfl rfl ?_ | refine Go.Sx.ops_skip rfl ?_
      | refine Go.Sx.ops_gp rfl rfl ?_ | refine Go.Sx.ops_gB rfl rfl ?_ | refine Go.Sx.ops_gld rfl rfl rfl ?_
      | refine Go.Sx.ops_st rfl rfl rfl rfl ?_ | refine Go.Sx.ops_ldN rfl rfl rfl ?_ | refine Go.Sx.ops_ext rfl rfl rfl ?_ | refine Go.Sx.ops_bld rfl rfl ?_ | refine Go.Sx.ops_ldHz rfl rfl ‹Go.Sx.HRow _ _ 0 _› rfl ?_ | refine Go.Sx.ops_ldHNz rfl rfl ‹Go.Sx.HRow _ _ 0 _› rfl ?_ | refine Go.Sx.ops_ldH rfl rfl ‹Go.Sx.HRow _ _ _ _› rfl rfl ?_ | refine Go.Sx.ops_ldH0 rfl rfl ‹Go.Sx.HRow _ _ _ _› rfl ?_ | refine Go.Sx.ops_ix rfl rfl rfl ‹Go.Sx.SlR _ _ _ _ _› (by omega) ?_
      | refine Go.Sx.ops_gldH0 rfl rfl ‹Go.Sx.HRow _ _ 0 _› rfl ?_ | refine Go.Sx.ops_gldN rfl rfl rfl ?_ | refine Go.Sx.ops_gext rfl rfl rfl ?_ | refine Go.Sx.ops_gix rfl rfl rfl ‹Go.Sx.SlR _ _ _ _ _› (by intro hg; omega) ?_
      | refine Go.Sx.ops_gcall rfl rfl (fun hg => sameRoute_spec (x := xr) (y := yr) ⟨s, rfl, f3, h0⟩ ⟨t, rfl, g3, h1⟩) ?_
      | refine Go.Sx.ops_pcall rfl rfl (sameRoute_spec (x := xr) (y := yr) ⟨s, rfl, f3, h0⟩ ⟨t, rfl, g3, h1⟩) ?_
      | refine Go.Sx.ops_nil ?_ | refine Go.Sx.ex_seq ?_ | refine Go.Sx.ex_reg ?_ | refine Go.Sx.out_seq ?_ | refine Go.Sx.ex_c rfl ?_ | refine Go.Sx.ex_sT ?_ | refine Go.Sx.ex_sF ?_ | refine Go.Sx.ex_blk ?_ | refine Go.Sx.out_blk ?_
      | refine Go.Sx.ex_skip ?_ | refine Go.Sx.ex_exit ?_ | refine Go.Sx.ex_ret ?_ | refine Go.Sx.out_eseq ?_ | refine Go.Sx.out_eblk ?_ | refine Go.Sx.out_ecut ?_ | refine Go.Sx.out_epass rfl ?_ | refine Go.Sx.out_rseq ?_ | refine Go.Sx.out_rblk ?_ | refine Go.Sx.out_rcut ?_
      | refine Go.Sx.ex_quiet (by decide +kernel) (fun _ _ _ _ _ h => h) ?_)
    exact hq.out) : p := h ⟨hq⟩
theorem cloneI_spec {W0 : World} {H : Heap} {v : Value} {xs : List Int} (h0 : SlB rInt 1 8 H v xs) :
    Ct Tryd.prog 21 #[v] W0 H [] (fun r H' B => B = [ownS rInt 1 8 3 H r xs] ∧ H' = H) := by
  refine Ct.go fun R => ?_
  obtain ⟨b0, c0, rfl, hc0, hd0⟩ := h0.1.shape
  refine walk ?_
  refine ex_if rfl (fun h => ?_) (fun h => ?_)
  · subst h
    refine walk ?_
    obtain rfl : xs = [] := by
      obtain ⟨⟨cs, ⟨b, c, e, _, hl, _, h⟩, _⟩, _⟩ := h0
      cases e
      rcases h with h | ⟨b, off, h, _⟩
      · exact List.eq_nil_of_length_eq_zero h
      · cases h
    refine finB [ownS rInt 1 8 3 H (.slice none 0 0) []] ?_ (hs := ownS_nil)
    exact ⟨rfl, rfl⟩
  · refine walk ?_
    refine ops_mk0 (w := 8) rInt rfl fun b => ?_
    refine walk ?_
    refine ops_appS rfl rfl h0.1 (by simpa using h0.2) fun base cap => ?_
    refine walk ?_
    refine finB [_] ?_
    exact ⟨rfl, rfl⟩
/-- can a route's ticks be counted? -/
abbrev plainR (x : Route) : Prop := (x.Cells.length ≤ 24 ∧ 0 ≤ x.Start) ∧ x.Start ≤ 1073741824
theorem plain_spec {W0 : World} {H : Heap} {c : List Value} {x : Route} (h0 : rRoute H c x) :
    Ct Tryd.prog 35 #[.agg c.toArray] W0 H [] (fun r H' B => r = .bool (decide (plainR x)) ∧ B = [] ∧ H' = H) := by
  refine Ct.go fun R => ?_
  obtain ⟨s, rfl, h2, h0⟩ := h0
  obtain ⟨b0, c0, rfl, hc0, hd0⟩ := h0.1.shape
  refine walk ?_
  refine ops_box rfl rfl fun p0 _ => ?_
  refine walkG ?_
  refine fin0 ?_
  exact ⟨bdec (by unfold plainR; omega), rfl, rfl⟩
abbrev tickI (t : Int) : Prop := 0 ≤ t ∧ t ≤ 1073741824
theorem tick_spec {W0 : World} {H : Heap} {t : Int} :
    Ct Tryd.prog 40 #[I t] W0 H [] (fun r H' B => r = .bool (decide (tickI t)) ∧ B = [] ∧ H' = H) := by
  refine Ct.go fun R => ?_
  refine walkG ?_
  refine fin0 ?_
  exact ⟨bdec (by unfold tickI; omega), rfl, rfl⟩
theorem wC {p q : Prop} (hq : q) (h : Held q → p := by
    intro hq
    repeat (first
      | refine Go.Sx.ops_p rfl rfl ?_ | refine Go.Sx.ops_ld rfl rfl rfl ?_ | refine Go.Sx.ops_T rfl rfl ?_ | refine Go.Sx.ops_F rfl rfl ?_ | refine Go.Sx.ops_B rfl rfl ?_ | refine Go.Sx.ops_skip rfl ?_
      | refine Go.Sx.ops_gp rfl rfl ?_ | refine Go.Sx.ops_gB rfl rfl ?_ | refine Go.Sx.ops_gld rfl rfl rfl ?_
      | refine Go.Sx.ops_st rfl rfl rfl rfl ?_ | refine Go.Sx.ops_ldN rfl rfl rfl ?_ | refine Go.Sx.ops_ext rfl rfl rfl ?_ | refine Go.Sx.ops_bld rfl rfl ?_ | refine Go.Sx.ops_ldHz rfl rfl ‹Go.Sx.HRow _ _ 0 _› rfl ?_ | refine Go.Sx.ops_ldHNz rfl rfl ‹Go.Sx.HRow _ _ 0 _› rfl ?_ | refine Go.Sx.ops_ldH rfl rfl ‹Go.Sx.HRow _ _ _ _› rfl rfl ?_ | refine Go.Sx.ops_ldH0 rfl rfl ‹Go.Sx.HRow _ _ _ _› rfl ?_ | refine Go.Sx.ops_ix rfl rfl rfl ‹Go.Sx.SlR _ _ _ _ _› (by omega) ?_
      | refine Go.Sx.ops_gldH0 rfl rfl ‹Go.Sx.HRow _ _ 0 _› rfl ?_ | refine Go.Sx.ops_gldN rfl rfl rfl ?_ | refine Go.Sx.ops_gext rfl rfl rfl ?_ | refine Go.Sx.ops_gix rfl rfl rfl ‹Go.Sx.SlR _ _ _ _ _› (by intro hg; omega) ?_
      | refine Go.Sx.ops_gcall rfl rfl (fun hg => tick_spec) ?_
      | refine Go.Sx.ops_pcall rfl rfl (tick_spec) ?_
      | refine Go.Sx.ops_nil ?_ | refine Go.Sx.ex_seq ?_ | refine Go.Sx.ex_reg ?_ | refine Go.Sx.out_seq ?_ | refine Go.Sx.ex_c rfl ?_ | refine Go.Sx.ex_sT ?_ | refine Go.Sx.ex_sF ?_ | refine Go.Sx.ex_blk ?_ | refine Go.Sx.out_blk ?_
      | refine Go.Sx.ex_skip ?_ | refine Go.Sx.ex_exit ?_ | refine Go.Sx.ex_ret ?_ | refine Go.Sx.out_eseq ?_ | refine Go.Sx.out_eblk ?_ | refine Go.Sx.out_ecut ?_ | refine Go.Sx.out_epass rfl ?_ | refine Go.Sx.out_rseq ?_ | refine Go.Sx.out_rblk ?_ | refine Go.Sx.out_rcut ?_
      | refine Go.Sx.ex_quiet (by decide +kernel) (fun _ _ _ _ _ h => h) ?_)
    exact hq.out) : p := h ⟨hq⟩
abbrev robI (r : Int) : Prop := 0 ≤ r ∧ r < 16
end Go.Proofs.YtadahmihkbpglaaDoor
