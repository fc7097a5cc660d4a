/- The reference's floor: cells, free ones, neighbours. -/
import Derived.Test.YtadahmihkbpglaaDoorBA
set_option linter.unusedVariables false
set_option linter.unusedSimpArgs false
namespace Go.Proofs.YtadahmihkbpglaaDoor
open Go Go.Sx Go.Proofs
/-- a cell of the map -/
abbrev isC (m : Map) (c : Int) : Prop := 0 ≤ c ∧ c < m.W * m.H
/-- a free one -/
abbrev freeC (m : Map) (c : Int) : Prop := c ∉ m.Blocked ∧ isC m c
/-- sides that a map may have -/
abbrev sidesM (m : Map) : Prop := (1 ≤ m.W ∧ m.W ≤ 16) ∧ (1 ≤ m.H ∧ m.H ≤ 16)
abbrev headM (m : Map) : Prop := sidesM m ∧ (1 ≤ m.Shards ∧ m.Shards ≤ 4 ∧ m.Shards ≤ m.W)
abbrev goodM (m : Map) : Prop := headM m ∧ ∀ c ∈ m.Blocked, isC m c
abbrev adj (x y : Int) : Prop := (x = 0 ∧ (y = 1 ∨ y = -1)) ∨ (y = 0 ∧ (x = 1 ∨ x = -1))
abbrev besideC (m : Map) (a b : Int) : Prop := (isC m a ∧ isC m b) ∧ adj (a.tmod m.W - b.tmod m.W) (a.tdiv m.W - b.tdiv m.W)
abbrev nearC (m : Map) (a b : Int) : Prop := (freeC m a ∧ freeC m b) ∧ (a = b ∨ besideC m a b)
theorem area {m : Map} (h : sidesM m) : 1 ≤ m.W * m.H ∧ m.W * m.H ≤ 256 := by
  obtain ⟨⟨h1, h2⟩, h3, h4⟩ := h
  have a : m.W * m.H ≤ 16 * m.H := Int.mul_le_mul_of_nonneg_right h2 (by omega)
  have b : 1 * m.H ≤ m.W * m.H := Int.mul_le_mul_of_nonneg_right h1 (by omega)
  omega
theorem area_fits {m : Map} (h : sidesM m) : fits (m.W * m.H) := by have := area h; unfold fits; omega
/-- a cell's column and row -/
theorem cell_xy {m : Map} (h : sidesM m) {c : Int} (hc : isC m c) : (0 ≤ c.tmod m.W ∧ c.tmod m.W < m.W) ∧ 0 ≤ c.tdiv m.W ∧ c.tdiv m.W < m.H := by
  obtain ⟨⟨h1, h2⟩, h3, h4⟩ := h
  have hw : 0 < m.W := by omega
  rw [Int.tmod_eq_emod_of_nonneg hc.1, Int.tdiv_eq_ediv_of_nonneg hc.1]
  exact ⟨⟨Int.emod_nonneg _ (by omega), Int.emod_lt_of_pos _ hw⟩, Int.ediv_nonneg hc.1 (by omega), Int.ediv_lt_of_lt_mul hw (by rw [Int.mul_comm]; exact hc.2)⟩
theorem rIs_spec {W0 : World} {H : Heap} {c : List Value} {m : Map} {x : Int} (h0 : rMap H c m) (hf : fits (m.W * m.H)) :
    Ct Tryd.prog 23 #[.agg c.toArray, I x] W0 H [] (fun r H' B => r = .bool (decide (isC m x)) ∧ B = [] ∧ H' = H) := by
  refine Ct.go fun R => ?_
  obtain ⟨s, rfl, f1, f2, f3, h0⟩ := h0
  refine walk ?_
  refine ops_box rfl rfl fun p0 _ => ?_
  refine walkG ?_
  refine fin0 ?_
  exact ⟨rfl, rfl, rfl⟩
theorem wIs {p q : Prop} (hq : q) (h : Held q → p := by
    intro hq
    repeat (first
      | refine Go.Sx.ops_p rfl rfl ?_ | refine Go.Sx.ops_ld rfl rfl rfl ?_ | refine Go.Sx.ops_T rfl rfl ?_ | refine Go.Sx.ops_F rfl rfl ?_ | refine Go.Sx.ops_B rfl rfl ?_ | refine Go.Sx.ops_skip rfl ?_
      | refine Go.Sx.ops_gp rfl rfl ?_ | refine Go.Sx.ops_gB rfl rfl ?_ | refine Go.Sx.ops_gld rfl rfl rfl ?_
      | refine Go.Sx.ops_st rfl rfl rfl rfl ?_ | refine Go.Sx.ops_ldN rfl rfl rfl ?_ | refine Go.Sx.ops_ext rfl rfl rfl ?_ | refine Go.Sx.ops_bld rfl rfl ?_ | refine Go.Sx.ops_ldHz rfl rfl ‹Go.Sx.HRow _ _ 0 _› rfl ?_ | refine Go.Sx.ops_ldHNz rfl rfl ‹Go.Sx.HRow _ _ 0 _› rfl ?_ | refine Go.Sx.ops_ldH rfl rfl ‹Go.Sx.HRow _ _ _ _› rfl rfl ?_ | refine Go.Sx.ops_ldH0 rfl rfl ‹Go.Sx.HRow _ _ _ _› rfl ?_ | refine Go.Sx.ops_ix rfl rfl rfl ‹Go.Sx.SlR _ _ _ _ _› (by omega) ?_
      | refine Go.Sx.ops_gldH0 rfl rfl ‹Go.Sx.HRow _ _ 0 _› rfl ?_ | refine Go.Sx.ops_gldN rfl rfl rfl ?_ | refine Go.Sx.ops_gext rfl rfl rfl ?_ | refine Go.Sx.ops_gix rfl rfl rfl ‹Go.Sx.SlR _ _ _ _ _› (by intro hg; omega) ?_
      | refine Go.Sx.ops_gcall rfl rfl (fun hg => rIs_spec (m := m) ⟨_, rfl, ‹_›, ‹_›, ‹_›, ‹_›⟩ ‹_›) ?_
      | refine Go.Sx.ops_pcall rfl rfl (rIs_spec (m := m) ⟨_, rfl, ‹_›, ‹_›, ‹_›, ‹_›⟩ ‹_›) ?_
      | refine Go.Sx.ops_nil ?_ | refine Go.Sx.ex_seq ?_ | refine Go.Sx.ex_reg ?_ | refine Go.Sx.out_seq ?_ | refine Go.Sx.ex_c rfl ?_ | refine Go.Sx.ex_sT ?_ | refine Go.Sx.ex_sF ?_ | refine Go.Sx.ex_blk ?_ | refine Go.Sx.out_blk ?_
      | refine Go.Sx.ex_skip ?_ | refine Go.Sx.ex_exit ?_ | refine Go.Sx.ex_ret ?_ | refine Go.Sx.out_eseq ?_ | refine Go.Sx.out_eblk ?_ | refine Go.Sx.out_ecut ?_ | refine Go.Sx.out_epass rfl ?_ | refine Go.Sx.out_rseq ?_ | refine Go.Sx.out_rblk ?_ | refine Go.Sx.out_rcut ?_
      | refine Go.Sx.ex_quiet (by decide +kernel) (fun _ _ _ _ _ h => h) ?_)
    exact hq.out) : p := h ⟨hq⟩
theorem rFree_spec {W0 : World} {H : Heap} {c : List Value} {m : Map} {x : Int} (h0 : rMap H c m) (hf : fits (m.W * m.H)) :
    Ct Tryd.prog 39 #[.agg c.toArray, I x] W0 H [] (fun r H' B => r = .bool (decide (freeC m x)) ∧ B = [] ∧ H' = H) := by
  refine Ct.go fun R => ?_
  obtain ⟨s, rfl, f1, f2, f3, h0⟩ := h0
  obtain ⟨b0, c0, rfl, hc0, hd0⟩ := h0.1.shape
  have k0 := h0.1
  refine walk ?_
  refine ops_box rfl rfl fun p0 _ => ?_
  refine walk ?_
  refine ex_loop (fun k => k ≤ m.Blocked.length ∧ x ∉ m.Blocked.take k) (fun k => [(1, I x), (2, .pointer (some ⟨p0, 0, none⟩)), (5, I k)]) (fun _ => H) (fun _ => row p0 24 (m.cv (.slice b0 m.Blocked.length c0)) :: R) (fun k => m.Blocked.length - k) 0 ⟨Nat.zero_le _, by simp⟩ fun k ⟨hk0, ht⟩ K hL => ?_
  refine walk ?_
  refine ex_if rfl (fun hk => ?_) (fun hk => ?_)
  · have hk1 : k < m.Blocked.length := by omega
    refine walk ?_
    refine ex_if rfl (fun hq => ?_) (fun hq => ?_)
    · refine walk ?_
      refine fin0 ?_
      refine ⟨?_, rfl, rfl⟩
      have : ¬ freeC m x := fun h => h.1 (hq ▸ List.getElem_mem _)
      simp [this]
    · refine walk ?_
      refine out_next hL (k + 1) ⟨by omega, ?_⟩
      rw [List.take_succ_eq_append_getElem hk1]
      simp only [List.mem_append, List.mem_singleton, not_or]
      exact ⟨ht, fun e => hq e.symm⟩
  · clear hL
    obtain rfl : k = m.Blocked.length := by omega
    refine wIs ?_
    refine fin0 ?_
    rw [List.take_length] at ht
    exact ⟨bdec (by simp [freeC, ht]), rfl, rfl⟩
theorem rBeside_spec {W0 : World} {H : Heap} {c : List Value} {m : Map} {x y : Int} (h0 : rMap H c m) (hm : sidesM m) :
    Ct Tryd.prog 55 #[.agg c.toArray, I x, I y] W0 H [] (fun r H' B => r = .bool (decide (besideC m x y)) ∧ B = [] ∧ H' = H) := by
  refine Ct.go fun R => ?_
  obtain ⟨s, rfl, f1, f2, f3, h0⟩ := h0
  have hf := area_fits hm
  refine walk ?_
  refine ops_box rfl rfl fun p0 _ => ?_
  refine wIs ?_
  refine ex_if rfl (fun h => ?_) (fun h => ?_)
  · refine walk ?_
    refine fin0 ?_
    refine ⟨?_, rfl, rfl⟩
    have : ¬ besideC m x y := fun e => by rcases h with h | h; exact h e.1.1; exact h e.1.2
    simp [this]
  · have hx : isC m x := Classical.not_not.1 fun e => h (.inl e)
    have hy : isC m y := Classical.not_not.1 fun e => h (.inr e)
    obtain ⟨⟨x1, x2⟩, x3, x4⟩ := cell_xy hm hx
    obtain ⟨⟨y1, y2⟩, y3, y4⟩ := cell_xy hm hy
    have hw : 0 < m.W := by omega
    have g1 : 0 < m.W ∧ fits (x.tdiv m.W) := ⟨hw, by unfold fits; omega⟩
    have g2 : 0 < m.W ∧ fits (y.tdiv m.W) := ⟨hw, by unfold fits; omega⟩
    refine walkG ?_
    refine fin0 ?_
    refine ⟨bdec ?_, rfl, rfl⟩
    constructor
    · intro h'; exact ⟨⟨hx, hy⟩, by simp only [adj]; omega⟩
    · intro h'; have h2 := h'.2; simp only [adj] at h2; omega
theorem wNr {p q : Prop} (hq : q) (h : Held q → p := by
    intro hq
    repeat (first
      | refine Go.Sx.ops_p rfl rfl ?_ | refine Go.Sx.ops_ld rfl rfl rfl ?_ | refine Go.Sx.ops_T rfl rfl ?_ | refine Go.Sx.ops_F rfl rfl ?_ | refine Go.Sx.ops_B rfl rfl ?_ | refine Go.Sx.ops_skip rfl ?_
      | refine Go.Sx.ops_gp rfl rfl ?_ | refine Go.Sx.ops_gB rfl rfl ?_ | refine Go.Sx.ops_gld rfl rfl rfl ?_
      | refine Go.Sx.ops_st rfl rfl rfl rfl ?_ | refine Go.Sx.ops_ldN rfl rfl rfl ?_ | refine Go.Sx.ops_ext rfl rfl rfl ?_ | refine Go.Sx.ops_bld rfl rfl ?_ | refine Go.Sx.ops_ldHz rfl rfl ‹Go.Sx.HRow _ _ 0 _› rfl ?_ | refine Go.Sx.ops_ldHNz rfl rfl ‹Go.Sx.HRow _ _ 0 _› rfl ?_ | refine Go.Sx.ops_ldH rfl rfl ‹Go.Sx.HRow _ _ _ _› rfl rfl ?_ | refine Go.Sx.ops_ldH0 rfl rfl ‹Go.Sx.HRow _ _ _ _› rfl ?_ | refine Go.Sx.ops_ix rfl rfl rfl ‹Go.Sx.SlR _ _ _ _ _› (by omega) ?_
      | refine Go.Sx.ops_gldH0 rfl rfl ‹Go.Sx.HRow _ _ 0 _› rfl ?_ | refine Go.Sx.ops_gldN rfl rfl rfl ?_ | refine Go.Sx.ops_gext rfl rfl rfl ?_ | refine Go.Sx.ops_gix rfl rfl rfl ‹Go.Sx.SlR _ _ _ _ _› (by intro hg; omega) ?_
      | refine Go.Sx.ops_gcall rfl rfl (fun hg => rFree_spec (m := m) ⟨_, rfl, ‹_›, ‹_›, ‹_›, ‹_›⟩ ‹_›) ?_
      | refine Go.Sx.ops_pcall rfl rfl (rFree_spec (m := m) ⟨_, rfl, ‹_›, ‹_›, ‹_›, ‹_›⟩ ‹_›) ?_
      | refine Go.Sx.ops_gcall rfl rfl (fun hg => rBeside_spec (m := m) ⟨_, rfl, ‹_›, ‹_›, ‹_›, ‹_›⟩ ‹_›) ?_
      | refine Go.Sx.ops_pcall rfl rfl (rBeside_spec (m := m) ⟨_, rfl, ‹_›, ‹_›, ‹_›, ‹_›⟩ ‹_›) ?_
      | refine Go.Sx.ops_nil ?_ | refine Go.Sx.ex_seq ?_ | refine Go.Sx.ex_reg ?_ | refine Go.Sx.out_seq ?_ | refine Go.Sx.ex_c rfl ?_ | refine Go.Sx.ex_sT ?_ | refine Go.Sx.ex_sF ?_ | refine Go.Sx.ex_blk ?_ | refine Go.Sx.out_blk ?_
      | refine Go.Sx.ex_skip ?_ | refine Go.Sx.ex_exit ?_ | refine Go.Sx.ex_ret ?_ | refine Go.Sx.out_eseq ?_ | refine Go.Sx.out_eblk ?_ | refine Go.Sx.out_ecut ?_ | refine Go.Sx.out_epass rfl ?_ | refine Go.Sx.out_rseq ?_ | refine Go.Sx.out_rblk ?_ | refine Go.Sx.out_rcut ?_
      | refine Go.Sx.ex_quiet (by decide +kernel) (fun _ _ _ _ _ h => h) ?_)
    exact hq.out) : p := h ⟨hq⟩
theorem rNear_spec {W0 : World} {H : Heap} {c : List Value} {m : Map} {x y : Int} (h0 : rMap H c m) (hm : sidesM m) :
    Ct Tryd.prog 56 #[.agg c.toArray, I x, I y] W0 H [] (fun r H' B => r = .bool (decide (nearC m x y)) ∧ B = [] ∧ H' = H) := by
  refine Ct.go fun R => ?_
  obtain ⟨s, rfl, f1, f2, f3, h0⟩ := h0
  have hf := area_fits hm
  refine walk ?_
  refine ops_box rfl rfl fun p0 _ => ?_
  refine wNr ?_
  refine fin0 ?_
  exact ⟨bdec (by simp only [nearC]), rfl, rfl⟩
end Go.Proofs.YtadahmihkbpglaaDoor
