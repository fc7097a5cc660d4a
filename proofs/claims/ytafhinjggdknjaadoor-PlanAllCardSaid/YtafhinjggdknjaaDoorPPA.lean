/- The best plan, from the last tick back. No program in sight. -/
import Derived.Test.YtafhinjggdknjaaDoorPEP
import Derived.Test.YtafhinjggdknjaaDoorPMA
set_option linter.unusedVariables false
set_option linter.unusedSimpArgs false
namespace Go.Proofs.YtafhinjggdknjaaDoor
open Go Go.Sx Go.X Go.Proofs
abbrev I (n : Int) : Value := .int .i64 n
theorem bdec {p q : Prop} [Decidable p] [Decidable q] (h : p ↔ q) : Value.bool (decide p) = Value.bool (decide q) := by rw [decide_eq_decide.2 h]
theorem ints_spec {W0 : GW} {H : Heap} {v0 v1 : Value} {xs ys : List Int} (h0 : SlR rInt 1 H v0 xs) (h1 : SlR rInt 1 H v1 ys) :
    Ct Tryd.prog 11 #[v0, v1] W0 H [] (fun r H' B => r = .bool (decide (xs = ys)) ∧ B = [] ∧ H' = H) := by
  refine Ct.go fun R => ?_
  obtain ⟨b0, c0, rfl, hc0, hd0⟩ := h0.shape
  obtain ⟨b1, c1, rfl, hc1, hd1⟩ := h1.shape
  refine walk ?_
  refine ex_if rfl (fun h => ?_) (fun h => ?_)
  · refine walk ?_
    refine fin0 ?_
    exact ⟨by simp; rintro rfl; exact h rfl, rfl, rfl⟩
  refine walk ?_
  refine ex_loop (fun k => k ≤ xs.length ∧ xs.take k = ys.take k) (fun k => [(0, .slice b0 xs.length c0), (1, .slice b1 ys.length c1), (12, I xs.length), (13, I k)]) (fun _ => H) (fun _ => R) (fun k => xs.length - k) 0 ⟨Nat.zero_le _, rfl⟩ fun k ⟨hk0, ht⟩ K hL => ?_
  refine walk ?_
  refine ex_if rfl (fun hk => ?_) (fun hk => ?_)
  · refine walk ?_
    refine ex_if rfl (fun hq => ?_) (fun hq => ?_)
    · refine walk ?_
      refine fin0 ?_
      exact ⟨by simp; rintro rfl; exact hq rfl, rfl, rfl⟩
    · refine walk ?_
      refine out_next hL (k + 1) ⟨by omega, ?_⟩
      simp at hq
      rw [List.take_succ_eq_append_getElem (by omega), List.take_succ_eq_append_getElem (by omega), ht, hq]
  · refine walk ?_
    refine fin0 ?_
    obtain rfl : k = xs.length := by omega
    exact ⟨by rw [List.take_length] at ht; simp; rw [ht]; exact List.take_of_length_le (by omega), rfl, rfl⟩
theorem wA {p q : Prop} (hq : q) (h : Held q → p := by
    intro hq
    repeat (first
      | refine Go.Sx.ops_p rfl rfl ?_ | refine Go.Sx.ops_ld rfl rfl rfl ?_ | refine Go.Sx.ops_T rfl rfl ?_ | refine Go.Sx.ops_F rfl rfl ?_ | refine Go.Sx.ops_B rfl rfl ?_ | refine Go.Sx.ops_skip rfl ?_
      | refine Go.Sx.ops_gp rfl rfl ?_ | refine Go.Sx.ops_gB rfl rfl ?_ | refine Go.Sx.ops_gld rfl rfl rfl ?_
      | refine Go.Sx.ops_st rfl rfl rfl rfl ?_ | refine Go.Sx.ops_ldN rfl rfl rfl ?_ | refine Go.Sx.ops_ext rfl rfl rfl ?_ | refine Go.Sx.ops_bld rfl rfl ?_ | refine Go.Sx.ops_ldHz rfl rfl ‹Go.Sx.HRow _ _ 0 _› rfl ?_ | refine Go.Sx.ops_ldHNz rfl rfl ‹Go.Sx.HRow _ _ 0 _› rfl ?_ | refine Go.Sx.ops_ldH rfl rfl ‹Go.Sx.HRow _ _ _ _› rfl rfl ?_ | refine Go.Sx.ops_ldH0 rfl rfl ‹Go.Sx.HRow _ _ _ _› rfl ?_ | refine Go.Sx.ops_ix rfl rfl rfl ‹Go.Sx.SlR _ _ _ _ _› (by omega) ?_
      | refine Go.Sx.ops_gldH0 rfl rfl ‹Go.Sx.HRow _ _ 0 _› rfl ?_ | refine Go.Sx.ops_gldN rfl rfl rfl ?_ | refine Go.Sx.ops_gext rfl rfl rfl ?_ | refine Go.Sx.ops_gix rfl rfl rfl ‹Go.Sx.SlR _ _ _ _ _› (by intro hg; omega) ?_
      | refine Go.Sx.ops_gcall rfl rfl (fun hg => ints_spec (xs := xc) (ys := yc) ‹_› ‹_›) ?_
      | refine Go.Sx.ops_pcall rfl rfl (ints_spec (xs := xc) (ys := yc) ‹_› ‹_›) ?_
      | refine Go.Sx.ops_nil ?_ | refine Go.Sx.ex_seq ?_ | refine Go.Sx.ex_reg ?_ | refine Go.Sx.out_seq ?_ | refine Go.Sx.ex_c rfl ?_ | refine Go.Sx.ex_sT ?_ | refine Go.Sx.ex_sF ?_ | refine Go.Sx.ex_blk ?_ | refine Go.Sx.out_blk ?_
      | refine Go.Sx.ex_skip ?_ | refine Go.Sx.ex_exit ?_ | refine Go.Sx.ex_ret ?_ | refine Go.Sx.out_eseq ?_ | refine Go.Sx.out_eblk ?_ | refine Go.Sx.out_ecut ?_ | refine Go.Sx.out_epass rfl ?_ | refine Go.Sx.out_rseq ?_ | refine Go.Sx.out_rblk ?_ | refine Go.Sx.out_rcut ?_
      | refine Go.Sx.ex_quiet (by decide +kernel) (fun _ _ _ _ _ h => h) ?_)
    exact hq.out) : p := h ⟨hq⟩
theorem sameRoute_spec {W0 : GW} {H : Heap} {c d : List Value} {x y : Route} (h0 : rRoute H c x) (h1 : rRoute H d y) :
    Ct Tryd.prog 10 #[.agg c.toArray, .agg d.toArray] W0 H [] (fun r H' B => r = .bool (decide (x = y)) ∧ B = [] ∧ H' = H) := by
  refine Ct.go fun R => ?_
  obtain ⟨xs, xc⟩ := x
  obtain ⟨ys, yc⟩ := y
  obtain ⟨s, rfl, h2, h0⟩ := h0
  obtain ⟨t, rfl, h3, h1⟩ := h1
  dsimp only at *
  have k0 := h0.1
  have k1 := h1.1
  refine walk ?_
  refine ops_box rfl rfl fun p0 _ => ?_
  refine ops_box rfl rfl fun p1 _ => ?_
  refine wA ?_
  refine fin0 ?_
  exact ⟨bdec (by simp), rfl, rfl⟩
theorem cloneI_spec {W0 : GW} {H : Heap} {v : Value} {xs : List Int} (h0 : SlB rInt 1 8 H v xs) :
    Ct Tryd.prog 12 #[v] W0 H [] (fun r H' B => B = [ownS rInt 1 8 3 H r xs] ∧ H' = H) := by
  refine Ct.go fun R => ?_
  obtain ⟨b0, c0, rfl, hc0, hd0⟩ := h0.1.shape
  refine walk ?_
  refine ex_if rfl (fun h => ?_) (fun h => ?_)
  · subst h
    refine walk ?_
    obtain rfl : xs = [] := by
      obtain ⟨⟨cs, ⟨b, c, e, _, hl, _, h⟩, _⟩, _⟩ := h0
      cases e
      rcases h with h | ⟨b, off, h, _⟩
      · exact List.eq_nil_of_length_eq_zero h
      · cases h
    refine finB [ownS rInt 1 8 3 H (.slice none 0 0) []] ?_ (hs := ownS_nil)
    exact ⟨rfl, rfl⟩
  · refine walk ?_
    refine ops_mk0 (w := 8) rInt rfl fun b => ?_
    refine walk ?_
    refine ops_appS rfl rfl h0.1 (by simpa using h0.2) fun base cap => ?_
    refine walk ?_
    refine finB [_] ?_
    exact ⟨rfl, rfl⟩
abbrev tickI (t : Int) : Prop := 0 ≤ t ∧ t ≤ 1073741824
abbrev isC (m : Map) (c : Int) : Prop := 0 ≤ c ∧ c < m.W * m.H
abbrev freeC (m : Map) (c : Int) : Prop := c ∉ m.Blocked ∧ isC m c
abbrev sidesM (m : Map) : Prop := (1 ≤ m.W ∧ m.W ≤ 16) ∧ (1 ≤ m.H ∧ m.H ≤ 16)
abbrev headM (m : Map) : Prop := sidesM m ∧ (1 ≤ m.Shards ∧ m.Shards ≤ 4 ∧ m.Shards ≤ m.W)
abbrev goodM (m : Map) : Prop := headM m ∧ ∀ c ∈ m.Blocked, isC m c
abbrev adj (x y : Int) : Prop := (x = 0 ∧ (y = 1 ∨ y = -1)) ∨ (y = 0 ∧ (x = 1 ∨ x = -1))
abbrev besideC (m : Map) (a b : Int) : Prop := (isC m a ∧ isC m b) ∧ adj (a.tmod m.W - b.tmod m.W) (a.tdiv m.W - b.tdiv m.W)
abbrev nearC (m : Map) (a b : Int) : Prop := (freeC m a ∧ freeC m b) ∧ (a = b ∨ besideC m a b)
theorem area {m : Map} (h : sidesM m) : 1 ≤ m.W * m.H ∧ m.W * m.H ≤ 256 := by
  obtain ⟨⟨h1, h2⟩, h3, h4⟩ := h
  have a : m.W * m.H ≤ 16 * m.H := Int.mul_le_mul_of_nonneg_right h2 (by omega)
  have b : 1 * m.H ≤ m.W * m.H := Int.mul_le_mul_of_nonneg_right h1 (by omega)
  omega
theorem area_fits {m : Map} (h : sidesM m) : fits (m.W * m.H) := by have := area h; unfold fits; omega
theorem cell_xy {m : Map} (h : sidesM m) {c : Int} (hc : isC m c) : (0 ≤ c.tmod m.W ∧ c.tmod m.W < m.W) ∧ 0 ≤ c.tdiv m.W ∧ c.tdiv m.W < m.H := by
  obtain ⟨⟨h1, h2⟩, h3, h4⟩ := h
  have hw : 0 < m.W := by omega
  rw [Int.tmod_eq_emod_of_nonneg hc.1, Int.tdiv_eq_ediv_of_nonneg hc.1]
  exact ⟨⟨Int.emod_nonneg _ (by omega), Int.emod_lt_of_pos _ hw⟩, Int.ediv_nonneg hc.1 (by omega), Int.ediv_lt_of_lt_mul hw (by rw [Int.mul_comm]; exact hc.2)⟩
theorem rIs_spec {W0 : GW} {H : Heap} {c : List Value} {m : Map} {x : Int} (h0 : rMap H c m) (hf : fits (m.W * m.H)) :
    Ct Tryd.prog 14 #[.agg c.toArray, I x] W0 H [] (fun r H' B => r = .bool (decide (isC m x)) ∧ B = [] ∧ H' = H) := by
  refine Ct.go fun R => ?_
  obtain ⟨s, rfl, f1, f2, f3, h0⟩ := h0
  refine walk ?_
  refine ops_box rfl rfl fun p0 _ => ?_
  refine walkG ?_
  refine fin0 ?_
  exact ⟨rfl, rfl, rfl⟩
theorem rGood_spec {W0 : GW} {H : Heap} {c : List Value} {m : Map} (h0 : rMap H c m) :
    Ct Tryd.prog 6 #[.agg c.toArray] W0 H [] (fun r H' B => r = .bool (decide (goodM m)) ∧ B = [] ∧ H' = H) := by
  refine Ct.go fun R => ?_
  obtain ⟨s, rfl, f1, f2, f3, h0⟩ := h0
  obtain ⟨b0, c0, rfl, hc0, hd0⟩ := h0.1.shape
  have k0 := h0.1
  refine walk ?_
  refine ops_box rfl rfl fun p0 _ => ?_
  refine walkG ?_
  refine ex_if rfl (fun h => ?_) (fun h => ?_)
  · refine walk ?_
    refine fin0 ?_
    refine ⟨?_, rfl, rfl⟩
    have : ¬ goodM m := fun e => by have := e.1; simp only [headM, sidesM] at this; omega
    simp [this]
  have hh : headM m := by simp only [headM, sidesM]; omega
  have hf := area_fits hh.1
  refine walk ?_
  refine ex_loop (fun k => k ≤ m.Blocked.length ∧ ∀ x ∈ m.Blocked.take k, isC m x) (fun k => [(1, .pointer (some ⟨p0, 0, none⟩)), (3, I k)]) (fun _ => H) (fun _ => row p0 24 (m.cv (.slice b0 m.Blocked.length c0)) :: R) (fun k => m.Blocked.length - k) 0 ⟨Nat.zero_le _, by simp⟩ fun k ⟨hk0, ht⟩ K hL => ?_
  refine walk ?_
  refine ex_if rfl (fun hk => ?_) (fun hk => ?_)
  · have hk1 : k < m.Blocked.length := by omega
    refine walk ?_
    refine ex_any 8 [row p0 24 (m.cv (.slice b0 m.Blocked.length c0))] ?_
    refine stepY 0 ?_; refine stepY 1 ?_; refine stepY 2 ?_; refine stepY 3 ?_
    refine gny_el 4 5 rfl rfl rfl rfl rfl k0 hk1 ?_
    refine gny_pcall 6 rfl rfl rfl (rIs_spec (m := m) ⟨_, rfl, f1, f2, f3, h0⟩ hf) ?_
    refine stepY 7 ?_
    refine any_rest rfl ?_
    refine walk ?_
    refine ex_if rfl (fun hq => ?_) (fun hq => ?_)
    · refine walk ?_
      refine fin0 ?_
      refine ⟨?_, rfl, rfl⟩
      have : ¬ goodM m := fun e => hq (e.2 _ (List.getElem_mem _))
      simp [this]
    · refine walk ?_
      refine out_next hL (k + 1) ⟨by omega, ?_⟩
      rw [List.take_succ_eq_append_getElem hk1]
      intro x hx
      rcases List.mem_append.1 hx with hx | hx
      · exact ht x hx
      · rw [List.mem_singleton.1 hx]; exact Classical.not_not.1 hq
  · clear hL
    obtain rfl : k = m.Blocked.length := by omega
    refine walk ?_
    refine fin0 ?_
    rw [List.take_length] at ht
    have : goodM m := ⟨hh, ht⟩
    exact ⟨by rw [decide_eq_true this], rfl, rfl⟩
structure rG (W0 : GW) (H : Heap) (p : Value) (m : Map) : Prop where
  ex : ∃ b s mb mm, p = .pointer (some ⟨b, 0, none⟩) ∧ HRow H b 0 [I m.W, I m.H, I m.Shards, s, .map (some mb)] ∧ SlB rInt 1 8 H s m.Blocked ∧ mapW (fun x : Int => Value.int .i64 x) rInt false W0 H mb mm ∧ ∀ x, (mget x mm).getD 0 = if x ∈ m.Blocked then 1 else 0
  good : goodM m
  fs : fits m.Shards
theorem rG.mono {W0 : GW} {H H' : Heap} {p : Value} {m : Map} (h : rG W0 H p m) (hl : H.le H') : rG W0 H' p m := by
  obtain ⟨⟨b, s, mb, mm, e, h1, h2, h3, h4⟩, hg, hf⟩ := h
  exact ⟨⟨b, s, mb, mm, e, h1.mono hl, h2.mono hl, h3.mono hl, h4⟩, hg, hf⟩
theorem gIsR_spec {W0 : GW} {H : Heap} {p : Value} {m : Map} {x : Int} (h : rG W0 H p m) :
    Ct Tryd.prog 13 #[p, I x] W0 H [] (fun r H' B => r = .bool (decide (isC m x)) ∧ B = [] ∧ H' = H) := by
  refine Ct.go fun R => ?_
  obtain ⟨⟨b, s, mb, mm, rfl, h1, h2, h3, h4⟩, hg, hfs⟩ := h
  have hf := area_fits hg.1.1
  refine walkG ?_
  refine fin0 ?_
  exact ⟨rfl, rfl, rfl⟩
theorem place_no {W0 : GW} {H : Heap} {p : Value} {m : Map} {x : Int} (h : rG W0 H p m) (hx : ¬ isC m x) :
    Ct Tryd.prog 49 #[p, I x] W0 H [] (fun r H' B => r = .tuple #[I 0, I 0, I 121] ∧ B = [] ∧ H' = H) := by
  refine Ct.go fun R => ?_
  refine walk ?_
  refine ops_pcall rfl rfl (gIsR_spec h) ?_
  rw [decide_eq_false hx]
  refine walk ?_
  refine fin0 ?_
  exact ⟨rfl, rfl, rfl⟩
theorem place_yes {W0 : GW} {H : Heap} {p : Value} {m : Map} {x : Int} (h : rG W0 H p m) (hx : isC m x) :
    Ct Tryd.prog 49 #[p, I x] W0 H [] (fun r H' B => r = .tuple #[I (x.tmod m.W), I (x.tdiv m.W), I 0] ∧ B = [] ∧ H' = H) := by
  refine Ct.go fun R => ?_
  refine walk ?_
  refine ops_pcall rfl rfl (gIsR_spec h) ?_
  rw [decide_eq_true hx]
  obtain ⟨⟨b, s, mb, mm, rfl, h1, h2, h3, h4⟩, hg, hfs⟩ := h
  obtain ⟨⟨x1, x2⟩, x3, x4⟩ := cell_xy hg.1.1 hx
  have hsd := hg.1.1
  simp only [sidesM] at hsd
  have hw : 0 < m.W := by omega
  have g1 : 0 < m.W ∧ fits (x.tdiv m.W) := ⟨hw, by unfold fits; omega⟩
  refine walkG ?_
  refine fin0 ?_
  exact ⟨rfl, rfl, rfl⟩
theorem gFree_spec {W0 : GW} {H : Heap} {p : Value} {m : Map} {x : Int} (h : rG W0 H p m) :
    Ct Tryd.prog 21 #[p, I x] W0 H [] (fun r H' B => r = .bool (decide (freeC m x)) ∧ B = [] ∧ H' = H) := by
  refine Ct.go fun R => ?_
  refine walk ?_
  refine ops_pcall rfl rfl (gIsR_spec h) ?_
  obtain ⟨⟨b, s, mb, mm, rfl, h1, h2, h3, h4⟩, hg, hfs⟩ := h
  refine walkG ?_
  refine ops_glkW (z := (0 : Int)) rfl rfl h3 ?_
  rw [h4]
  refine walkG ?_
  refine fin0 ?_
  refine ⟨bdec ?_, rfl, rfl⟩
  simp only [freeC]
  constructor
  · rintro ⟨hc, hb⟩; refine ⟨fun e => ?_, hc⟩; rw [if_pos e] at hb; omega
  · rintro ⟨hb, hc⟩; exact ⟨hc, if_neg hb⟩
theorem sq_adj {x y : Int} : x * x + y * y = 1 ↔ adj x y := by
  simp only [adj]
  constructor
  · intro h
    have nn : ∀ z : Int, 0 ≤ z * z := fun z => by
      rcases Int.le_total 0 z with hz | hz
      · exact Int.mul_nonneg hz hz
      · exact Int.mul_nonneg_of_nonpos_of_nonpos hz hz
    have big : ∀ z : Int, 2 ≤ z → 4 ≤ z * z := fun z hz => Int.mul_le_mul hz hz (by omega) (by omega)
    have small : ∀ z : Int, z * z ≤ 1 → -1 ≤ z ∧ z ≤ 1 := fun z hz => by
      refine ⟨Classical.byContradiction fun e => ?_, Classical.byContradiction fun e => ?_⟩
      · have := big (-z) (by omega); rw [Int.neg_mul_neg] at this; omega
      · have := big z (by omega); omega
    have nx := nn x
    have ny := nn y
    obtain ⟨x1, x2⟩ := small x (by omega)
    obtain ⟨y1, y2⟩ := small y (by omega)
    have hx : x = -1 ∨ x = 0 ∨ x = 1 := by omega
    have hy : y = -1 ∨ y = 0 ∨ y = 1 := by omega
    rcases hx with rfl | rfl | rfl <;> rcases hy with rfl | rfl | rfl <;> simp_all
  · rintro (⟨rfl, rfl | rfl⟩ | ⟨rfl, rfl | rfl⟩) <;> simp
theorem sq_fits {x : Int} (h : -16 < x ∧ x < 16) : 0 ≤ x * x ∧ x * x ≤ 225 := by
  have : x.natAbs ≤ 15 := by omega
  have h2 : x.natAbs * x.natAbs ≤ 15 * 15 := Nat.mul_le_mul this this
  have h3 : (x.natAbs * x.natAbs : Nat) = (x * x : Int) := Int.natAbs_mul_self
  omega
theorem gBeside_spec {W0 : GW} {H : Heap} {p : Value} {m : Map} {x y : Int} (h : rG W0 H p m) :
    Ct Tryd.prog 50 #[p, I x, I y] W0 H [] (fun r H' B => r = .bool (decide (besideC m x y)) ∧ B = [] ∧ H' = H) := by
  refine Ct.go fun R => ?_
  by_cases hx : isC m x
  · by_cases hy : isC m y
    · refine walk ?_
      refine ops_pcall rfl rfl (place_yes h hx) ?_
      refine walk ?_
      refine ops_pcall rfl rfl (place_yes h hy) ?_
      obtain ⟨⟨x1, x2⟩, x3, x4⟩ := cell_xy h.good.1.1 hx
      obtain ⟨⟨y1, y2⟩, y3, y4⟩ := cell_xy h.good.1.1 hy
      have hsd := h.good.1.1
      simp only [sidesM] at hsd
      have q1 := sq_fits (x := x.tmod m.W - y.tmod m.W) (by omega)
      have q2 := sq_fits (x := x.tdiv m.W - y.tdiv m.W) (by omega)
      have q3 : fits ((x.tmod m.W - y.tmod m.W) * (x.tmod m.W - y.tmod m.W)) := by unfold fits; omega
      have q4 : fits ((x.tdiv m.W - y.tdiv m.W) * (x.tdiv m.W - y.tdiv m.W)) := by unfold fits; omega
      refine walkG ?_
      refine fin0 ?_
      exact ⟨bdec (by rw [sq_adj]; exact ⟨fun e => ⟨⟨hx, hy⟩, e⟩, fun e => e.2⟩), rfl, rfl⟩
    · refine walk ?_
      refine ops_pcall rfl rfl (place_yes h hx) ?_
      refine walk ?_
      refine ops_pcall rfl rfl (place_no h hy) ?_
      refine walk ?_
      refine fin0 ?_
      exact ⟨by simp [besideC, hy], rfl, rfl⟩
  · by_cases hy : isC m y
    · refine walk ?_
      refine ops_pcall rfl rfl (place_no h hx) ?_
      refine walk ?_
      refine ops_pcall rfl rfl (place_yes h hy) ?_
      refine walk ?_
      refine fin0 ?_
      exact ⟨by simp [besideC, hx], rfl, rfl⟩
    · refine walk ?_
      refine ops_pcall rfl rfl (place_no h hx) ?_
      refine walk ?_
      refine ops_pcall rfl rfl (place_no h hy) ?_
      refine walk ?_
      refine fin0 ?_
      exact ⟨by simp [besideC, hx], rfl, rfl⟩
theorem gIsO_spec {W0 : GW} {H : Heap} {b : Nat} {s mp : Value} {m : Map} {x : Int} (hf : fits (m.W * m.H)) :
    Ct Tryd.prog 13 #[.pointer (some ⟨b, 0, none⟩), I x] W0 H [row b 49 [I m.W, I m.H, I m.Shards, s, mp]] (fun r H' B => r = .bool (decide (isC m x)) ∧ B = [row b 49 [I m.W, I m.H, I m.Shards, s, mp]] ∧ H' = H) := by
  refine Ct.go fun R => ?_
  refine walkG ?_
  refine finB [row b 49 [I m.W, I m.H, I m.Shards, s, mp]] ?_
  exact ⟨rfl, rfl, rfl⟩
def GPost (W0 : GW) (m : Map) (r : Value) (H' : Heap) (B : List HProp) : Prop := ∃ p e, r = .tuple #[p, e] ∧ B = [] ∧ ((goodM m ∧ rG W0 H' p m ∧ e = I 0) ∨ (¬ goodM m ∧ p = .pointer none ∧ e = I 120))
set_option maxHeartbeats 8000000 in
theorem gNew_spec {W0 : GW} {H : Heap} {c : List Value} {m : Map} (h0 : rMap H c m) :
    Ct Tryd.prog 5 #[.agg c.toArray] W0 H [] (GPost W0 m) := by
  refine Ct.go fun R => ?_
  obtain ⟨s, rfl, f1, f2, f3, h0⟩ := h0
  obtain ⟨b0, c0, rfl, hc0, hd0⟩ := h0.1.shape
  have k0 := h0.1
  refine walk ?_
  refine ops_box rfl rfl fun p0 _ => ?_
  refine walkG ?_
  refine ex_if rfl (fun h => ?_) (fun h => ?_)
  · refine walk ?_
    refine fin0 ?_
    refine ⟨_, _, rfl, rfl, .inr ⟨fun e => ?_, rfl, rfl⟩⟩
    have e := e.1
    simp only [headM, sidesM] at e
    rw [Int.min_def] at h; split at h <;> omega
  have hh : headM m := by simp only [headM, sidesM]; rw [Int.min_def] at h; split at h <;> omega
  have hf := area_fits hh.1
  refine walk ?_
  refine ops_makeMap (fun x : Int => Value.int .i64 x) rInt false rfl fun mb hmb => ?_
  refine walk ?_
  refine ops_box rfl rfl fun pg _ => ?_
  refine walk ?_
  refine ops_call rfl rfl (cloneI_spec h0) fun r1 H1 B hl1 ⟨eB, eH⟩ => ?_
  subst eB eH
  refine ops_shape r1 fun d1 e1 e _ _ _ => ?_
  subst e
  refine walk ?_
  refine ex_loop (σ := Nat × List (Int × Int)) (fun s => s.1 ≤ m.Blocked.length ∧ (∀ x ∈ m.Blocked.take s.1, isC m x) ∧ ∀ x, (mget x s.2).getD 0 = if x ∈ m.Blocked.take s.1 then 1 else 0) (fun s => [(4, .pointer (some ⟨pg, 0, none⟩)), (50, .slice b0 m.Blocked.length c0), (51, I m.Blocked.length), (52, I s.1)]) (fun _ => H1)
    (fun s => row pg 49 [I m.W, I m.H, I m.Shards, .slice d1 m.Blocked.length e1, .map (some mb)] :: mapO (fun x : Int => Value.int .i64 x) rInt false H1 mb s.2 :: ownS rInt 1 8 3 H1 (.slice d1 m.Blocked.length e1) m.Blocked :: R) (fun s => m.Blocked.length - s.1) (0, []) ⟨Nat.zero_le _, by simp, by simp [mget]⟩ fun ⟨k, mm⟩ ⟨hk0, ht, hm⟩ K hL => ?_
  simp only at hk0 ht hm
  dsimp only
  refine walk ?_
  refine ex_if rfl (fun hk => ?_) (fun hk => ?_)
  · have hk1 : k < m.Blocked.length := by omega
    refine walk ?_
    refine ops_pcall rfl rfl (gIsO_spec hf) ?_
    refine walkG ?_
    refine ex_if rfl (fun hq => ?_) (fun hq => ?_)
    · refine walk ?_
      refine fin0 ?_
      exact ⟨_, _, rfl, rfl, .inr ⟨fun e => hq (e.2 _ (List.getElem_mem _)), rfl, rfl⟩⟩
    · refine walk ?_
      have hone : rInt H1 [I 1] (1 : Int) := ⟨rfl, by unfold fits; omega⟩
      refine ops_update rfl (cs := [I 1]) rfl hone (by repeat (first | exact Has.here | apply Has.there)) ?_
      refine walk ?_
      refine out_next hL (k + 1, mset (m.Blocked[k]) 1 mm) ⟨by simp only; omega, fun x hx => ?_, fun x => ?_⟩
      · simp only at hx
        rw [List.take_succ_eq_append_getElem hk1] at hx
        rcases List.mem_append.1 hx with hx | hx
        · exact ht x hx
        · rw [List.mem_singleton.1 hx]; exact Classical.not_not.1 hq
      · simp only
        rw [mget_mset, List.take_succ_eq_append_getElem hk1]
        by_cases e : x = m.Blocked[k]
        · rw [if_pos e, if_pos (List.mem_append.2 (.inr (List.mem_singleton.2 e)))]; rfl
        · rw [if_neg e, hm]
          by_cases e2 : x ∈ m.Blocked.take k
          · rw [if_pos e2, if_pos (List.mem_append_left _ e2)]
          · rw [if_neg e2, if_neg]
            intro h
            rcases List.mem_append.1 h with h | h
            · exact e2 h
            · exact e (List.mem_singleton.1 h)
  · clear hL
    obtain rfl : k = m.Blocked.length := by omega
    rw [List.take_length] at ht
    rw [List.take_length] at hm
    refine walk ?_
    refine out_freeze (.slice d1 m.Blocked.length e1) fun H2 hl2 hfz => ?_
    refine out_frzMap (ms := mm) (by repeat (first | exact Has.here | apply Has.there)) hl2 fun H3 hl3 hmap => ?_
    refine out_frzR (by repeat (first | exact Has.here | apply Has.there)) fun H4 hl4 hrow => ?_
    refine fin0 ?_
    exact ⟨_, _, rfl, rfl, .inl ⟨⟨hh, ht⟩, ⟨⟨pg, _, mb, mm, rfl, hrow, hfz.mono (hl3.trans hl4), (hmap.mono hl4).toW, hm⟩, ⟨hh, ht⟩, f3⟩, rfl⟩⟩
abbrev bigT : Int := 9223372036854775807
structure PRest where
  comes : Int
  far : Int
  passes : Int
  next : Int
def rlt (a b : PRest) : Prop := a.comes < b.comes ∨ a.comes = b.comes ∧ (a.far < b.far ∨ a.far = b.far ∧ (a.passes < b.passes ∨ a.passes = b.passes ∧ a.next < b.next))
instance {a b : PRest} : Decidable (rlt a b) := by unfold rlt; infer_instance
theorem rlt_tot {a b : PRest} (h : ¬ rlt a b) : a = b ∨ rlt b a := by
  obtain ⟨a1, a2, a3, a4⟩ := a
  obtain ⟨b1, b2, b3, b4⟩ := b
  simp only [rlt, PRest.mk.injEq] at *
  omega
theorem rlt_trans {a b c : PRest} (h : rlt a b) (h' : rlt b c) : rlt a c := by
  simp only [rlt] at *
  omega
def relax (goal t c to : Int) (y : PRest) : PRest := ⟨if c = goal ∧ y.comes = t + 1 then t else y.comes, y.far, y.passes + (if to = c then 0 else 1), to⟩
def pickB (cur x : Option PRest) : Option PRest := match x with
  | none => cur
  | some x => match cur with
    | none => some x
    | some b => if rlt x b then some x else some b
def bestOf (f : Int → Option PRest) (l : List Int) : Option PRest := l.foldl (fun cur to => pickB cur (f to)) none
theorem bestOf_snoc {f : Int → Option PRest} {l : List Int} {to : Int} : bestOf f (l ++ [to]) = pickB (bestOf f l) (f to) := by
  unfold bestOf; rw [List.foldl_append]; rfl
theorem bestOf_spec {f : Int → Option PRest} : ∀ {l : List Int} (n : Nat), l.length = n → (bestOf f l = none ∧ ∀ to ∈ l, f to = none) ∨ ∃ x, bestOf f l = some x ∧ (∃ to ∈ l, f to = some x) ∧ ∀ to ∈ l, ∀ y, f to = some y → x = y ∨ rlt x y
  | l, 0, h => by
    have : l = [] := List.length_eq_zero_iff.1 h
    subst this; exact .inl ⟨rfl, by simp⟩
  | l, n + 1, h => by
    obtain ⟨m, a, rfl⟩ : ∃ m a, l = m ++ [a] := ⟨l.dropLast, l.getLast (by intro e; subst e; cases h), (List.dropLast_concat_getLast _).symm⟩
    have hm : m.length = n := by simpa using h
    rw [bestOf_snoc]
    have ih := bestOf_spec (f := f) (l := m) n hm
    cases hf : f a with
    | none =>
      unfold pickB
      rcases ih with ⟨h1, h2⟩ | ⟨x, h1, ⟨to, h2, h3⟩, h4⟩
      · refine .inl ⟨h1, fun to ht => ?_⟩
        rcases List.mem_append.1 ht with ht | ht
        · exact h2 to ht
        · rw [List.mem_singleton.1 ht]; exact hf
      · refine .inr ⟨x, h1, ⟨to, List.mem_append_left _ h2, h3⟩, fun to' ht y hy => ?_⟩
        rcases List.mem_append.1 ht with ht | ht
        · exact h4 to' ht y hy
        · rw [List.mem_singleton.1 ht, hf] at hy; cases hy
    | some z =>
      rcases ih with ⟨h1, h2⟩ | ⟨x, h1, ⟨to, h2, h3⟩, h4⟩
      · rw [h1]
        refine .inr ⟨z, rfl, ⟨a, by simp, hf⟩, fun to' ht y hy => ?_⟩
        rcases List.mem_append.1 ht with ht | ht
        · rw [h2 to' ht] at hy; cases hy
        · rw [List.mem_singleton.1 ht, hf] at hy; cases hy; exact .inl rfl
      · rw [h1]
        simp only [pickB]
        by_cases hz : rlt z x
        · rw [if_pos hz]
          refine .inr ⟨z, rfl, ⟨a, by simp, hf⟩, fun to' ht y hy => ?_⟩
          rcases List.mem_append.1 ht with ht | ht
          · rcases h4 to' ht y hy with e | e
            · subst e; exact .inr hz
            · exact .inr (rlt_trans hz e)
          · rw [List.mem_singleton.1 ht, hf] at hy; cases hy; exact .inl rfl
        · rw [if_neg hz]
          refine .inr ⟨x, rfl, ⟨to, List.mem_append_left _ h2, h3⟩, fun to' ht y hy => ?_⟩
          rcases List.mem_append.1 ht with ht | ht
          · exact h4 to' ht y hy
          · rw [List.mem_singleton.1 ht, hf] at hy; cases hy
            rcases rlt_tot hz with e | e
            · exact .inl e.symm
            · exact .inr e
section
variable (nx : Int → List Int) (av : Int → Int → Bool) (pk : Int → Int → Int → Bool) (goal : Int) (dist : Int → Int)
def candP (T' : Int → Option PRest) (t c to : Int) : Option PRest := match T' to with
  | none => none
  | some y => if to = c ∨ pk t c to = true then some (relax goal t c to y) else none
def tabP : Nat → Int → Int → Option PRest
  | 0, t, c => if av t c = true then some ⟨if c = goal then t else bigT, dist c, 0, 0⟩ else none
  | k + 1, t, c => if av t c = true then bestOf (candP pk goal (tabP k (t + 1)) t c) (nx c) else none
def nextO (o : Option PRest) : Int := match o with | some x => x.next | none => 0
def pathP : Nat → Int → Int → List Int
  | 0, _, c => [c]
  | k + 1, t, c => c :: pathP k (t + 1) (nextO (tabP nx av pk goal dist (k + 1) t c))
def okP : Int → List Int → Prop
  | _, [] => False
  | t, [c] => av t c = true
  | t, c :: d :: l => av t c = true ∧ d ∈ nx c ∧ (d = c ∨ pk t c d = true) ∧ okP (t + 1) (d :: l)
def comesA : Int → List Int → Int
  | _, [] => bigT
  | t, [c] => if c = goal then t else bigT
  | t, c :: d :: l => if c = goal ∧ comesA (t + 1) (d :: l) = t + 1 then t else comesA (t + 1) (d :: l)
def lastA : List Int → Int
  | [] => 0
  | [c] => c
  | _ :: d :: l => lastA (d :: l)
def passA : List Int → Int
  | c :: d :: l => passA (d :: l) + if d = c then 0 else 1
  | _ => 0
def lexL : List Int → List Int → Prop
  | a :: l, b :: m => a < b ∨ a = b ∧ lexL l m
  | _, _ => False
def tlt3 (x1 x2 x3 y1 y2 y3 : Int) : Prop := x1 < y1 ∨ x1 = y1 ∧ (x2 < y2 ∨ x2 = y2 ∧ x3 < y3)
def bltP (t : Int) (a b : List Int) : Prop := tlt3 (comesA goal t a) (dist (lastA a)) (passA a) (comesA goal t b) (dist (lastA b)) (passA b) ∨ (comesA goal t a = comesA goal t b ∧ dist (lastA a) = dist (lastA b) ∧ passA a = passA b) ∧ lexL a b
theorem comes_ge : ∀ {l : List Int} {t : Int}, t + l.length ≤ bigT → t ≤ comesA goal t l
  | [], t, h => by simpa [comesA] using h
  | [c], t, h => by
    simp only [List.length_cons, List.length_nil] at h
    simp only [comesA]; split
    · exact Int.le_refl _
    · omega
  | c :: d :: l, t, h => by
    have := comes_ge (l := d :: l) (t := t + 1) (by simp only [List.length_cons] at *; omega)
    simp only [comesA]; split <;> omega
theorem path_head {k : Nat} {t c : Int} : ∃ l, pathP nx av pk goal dist k t c = c :: l ∧ l.length = k := by
  induction k generalizing t c with
  | zero => exact ⟨[], rfl, rfl⟩
  | succ k ih =>
    obtain ⟨l, e, hl⟩ := ih (t := t + 1) (c := nextO (tabP nx av pk goal dist (k + 1) t c))
    exact ⟨_, rfl, by rw [e]; simp [hl]⟩
theorem blt_cons {t c d : Int} {l m : List Int} (hl : t + 1 + (d :: l).length ≤ bigT) (hm : m.length = l.length) (h : bltP goal dist (t + 1) (d :: l) (d :: m)) : bltP goal dist t (c :: d :: l) (c :: d :: m) := by
  have g1 := comes_ge goal (l := d :: l) (t := t + 1) hl
  have g2 := comes_ge goal (l := d :: m) (t := t + 1) (by simp only [List.length_cons, hm] at *; omega)
  unfold bltP at *
  simp only [comesA, lastA, passA, lexL] at *
  rcases h with h | ⟨⟨h1, h2, h3⟩, h4⟩
  · left
    simp only [tlt3] at *
    by_cases hc : c = goal
    · simp only [hc, true_and] at *
      split <;> split <;> omega
    · simp only [hc, false_and, if_false] at *
      omega
  · right
    rw [h1, h3]
    exact ⟨⟨rfl, h2, rfl⟩, .inr ⟨trivial, h4⟩⟩
theorem tab_spec : ∀ {k : Nat} {t c : Int}, t + k + 1 ≤ bigT →
    (tabP nx av pk goal dist k t c = none ∧ ∀ l, l.length = k → ¬ okP nx av pk t (c :: l)) ∨
    ∃ x, tabP nx av pk goal dist k t c = some x ∧ okP nx av pk t (pathP nx av pk goal dist k t c) ∧ (x.comes = comesA goal t (pathP nx av pk goal dist k t c) ∧ x.far = dist (lastA (pathP nx av pk goal dist k t c)) ∧ x.passes = passA (pathP nx av pk goal dist k t c)) ∧
      ∀ l, l.length = k → okP nx av pk t (c :: l) → c :: l = pathP nx av pk goal dist k t c ∨ bltP goal dist t (pathP nx av pk goal dist k t c) (c :: l)
  | 0, t, c, hb => by
    by_cases ha : av t c = true
    · refine .inr ⟨_, by simp only [tabP]; rw [if_pos ha], ha, ⟨rfl, rfl, rfl⟩, fun l hl ho => .inl ?_⟩
      rw [List.length_eq_zero_iff.1 hl]; rfl
    · refine .inl ⟨by simp only [tabP]; rw [if_neg ha], fun l hl ho => ha ?_⟩
      rw [List.length_eq_zero_iff.1 hl] at ho; exact ho
  | k + 1, t, c, hb => by
    by_cases ha : av t c = true
    rotate_left
    · refine .inl ⟨by simp only [tabP]; rw [if_neg ha], fun l hl ho => ha ?_⟩
      match l, hl, ho with
      | d :: l, _, ho => exact ho.1
    have ih : ∀ d, _ := fun d => tab_spec (k := k) (t := t + 1) (c := d) (by omega)
    have hT : tabP nx av pk goal dist (k + 1) t c = bestOf (candP pk goal (tabP nx av pk goal dist k (t + 1)) t c) (nx c) := by
      simp only [tabP]; rw [if_pos ha]
    have hP : pathP nx av pk goal dist (k + 1) t c = c :: pathP nx av pk goal dist k (t + 1) (nextO (tabP nx av pk goal dist (k + 1) t c)) := rfl
    have hcand : ∀ d m, (d :: m).length = k + 1 → okP nx av pk t (c :: d :: m) → d ∈ nx c ∧ okP nx av pk (t + 1) (d :: m) ∧ ∃ y, tabP nx av pk goal dist k (t + 1) d = some y ∧ candP pk goal (tabP nx av pk goal dist k (t + 1)) t c d = some (relax goal t c d y) := by
      intro d m hl ho
      obtain ⟨_, h2, h3, h4⟩ := ho
      rcases ih d with ⟨_, h⟩ | ⟨y, h, _⟩
      · exact absurd h4 (h m (by simpa using hl))
      · refine ⟨h2, h4, y, h, ?_⟩
        simp only [candP, h]; rw [if_pos h3]
    rcases bestOf_spec (f := candP pk goal (tabP nx av pk goal dist k (t + 1)) t c) (l := nx c) _ rfl with ⟨h1, h2⟩ | ⟨x, h1, ⟨to, hto, hx⟩, h4⟩
    · refine .inl ⟨hT.trans h1, fun l hl ho => ?_⟩
      match l, hl, ho with
      | d :: m, hl, ho =>
        obtain ⟨q1, _, y, _, q2⟩ := hcand d m hl ho
        rw [h2 d q1] at q2; cases q2
    · have hTx := hT.trans h1
      rcases ih to with ⟨h, _⟩ | ⟨y, hy, hok, ⟨y1, y2, y3⟩, hmin⟩
      · simp only [candP, h] at hx; cases hx
      simp only [candP, hy] at hx
      by_cases hg : to = c ∨ pk t c to = true
      rotate_left
      · rw [if_neg hg] at hx; cases hx
      rw [if_pos hg] at hx
      have hx := Option.some.inj hx
      have hn : nextO (tabP nx av pk goal dist (k + 1) t c) = to := by rw [hTx, ← hx]; rfl
      rw [hn] at hP
      obtain ⟨pl, pe, pn⟩ := path_head nx av pk goal dist (k := k) (t := t + 1) (c := to)
      rw [hP]
      have x1 : x.comes = comesA goal t (c :: pathP nx av pk goal dist k (t + 1) to) := by
        rw [← hx]; simp only [relax]; rw [y1, pe]; rfl
      have x2 : x.far = dist (lastA (c :: pathP nx av pk goal dist k (t + 1) to)) := by
        rw [← hx]; simp only [relax]; rw [y2, pe]; rfl
      have x3 : x.passes = passA (c :: pathP nx av pk goal dist k (t + 1) to) := by
        rw [← hx]; simp only [relax]; rw [y3, pe]; rfl
      have x4 : x.next = to := by rw [← hx]; rfl
      refine .inr ⟨x, hTx, ?_, ⟨x1, x2, x3⟩, fun l hl ho => ?_⟩
      · rw [pe]; rw [pe] at hok; exact ⟨ha, hto, hg, hok⟩
      match l, hl, ho with
      | d :: m, hl, ho =>
        obtain ⟨q1, q2, yd, q3, q4⟩ := hcand d m hl ho
        have hm : m.length = k := by simpa using hl
        by_cases hd : d = to
        · subst hd
          rcases hmin m hm q2 with e | e
          · exact .inl (by rw [e])
          · right
            rw [pe] at e ⊢
            exact blt_cons goal dist (by simp only [List.length_cons]; omega) (by omega) e
        · right
          have hlt : rlt x (relax goal t c d yd) := by
            rcases h4 d q1 _ q4 with e | e
            · exfalso; apply hd; rw [← x4, e]; rfl
            · exact e
          rcases ih d with ⟨h, _⟩ | ⟨yd', hyd, _, ⟨z1, z2, z3⟩, hmind⟩
          · rw [h] at q3; cases q3
          rw [q3] at hyd
          obtain rfl := Option.some.inj hyd
          obtain ⟨dl, de, dn⟩ := path_head nx av pk goal dist (k := k) (t := t + 1) (c := d)
          have w1 : (relax goal t c d yd).comes = comesA goal t (c :: d :: dl) := by simp only [relax]; rw [z1, de]; rfl
          have w2 : (relax goal t c d yd).far = dist (lastA (c :: d :: dl)) := by simp only [relax]; rw [z2, de]; rfl
          have w3 : (relax goal t c d yd).passes = passA (c :: d :: dl) := by simp only [relax]; rw [z3, de]; rfl
          have w4 : (relax goal t c d yd).next = d := rfl
          have hle : c :: d :: m = c :: d :: dl ∨ bltP goal dist t (c :: d :: dl) (c :: d :: m) := by
            rcases hmind m hm q2 with e | e
            · rw [de] at e; exact .inl (by rw [e])
            · rw [de] at e
              exact .inr (blt_cons goal dist (by simp only [List.length_cons]; omega) (by omega) e)
          unfold rlt at hlt
          rw [x1, x2, x3, x4, w1, w2, w3, w4] at hlt
          have hlex : to < d → lexL (c :: pathP nx av pk goal dist k (t + 1) to) (c :: d :: m) := fun h => by
            rw [pe]; exact .inr ⟨rfl, .inl h⟩
          rcases hle with e | e
          · unfold bltP tlt3
            rw [e]
            by_cases h5 : to < d
            · have h6 := hlex h5
              rw [e] at h6
              rcases hlt with h | ⟨ha1, h | ⟨hb1, h | ⟨hc1, h⟩⟩⟩
              · left; omega
              · left; omega
              · left; omega
              · exact .inr ⟨⟨ha1, hb1, hc1⟩, h6⟩
            · left; omega
          · unfold bltP tlt3 at e ⊢
            by_cases h5 : to < d
            · have h6 := hlex h5
              rcases e with e | ⟨⟨e1, e2, e3⟩, _⟩
              · left; omega
              · rcases hlt with h | ⟨ha1, h | ⟨hb1, h | ⟨hc1, h⟩⟩⟩
                · left; omega
                · left; omega
                · left; omega
                · right; exact ⟨⟨by omega, by omega, by omega⟩, h6⟩
            · left
              rcases e with e | ⟨⟨e1, e2, e3⟩, _⟩ <;> omega
end
end Go.Proofs.YtafhinjggdknjaaDoor
