/- The floor itself: made, asked. -/
import Derived.Test.YtadahmihkbpglaaDoorBB
set_option linter.unusedVariables false
set_option linter.unusedSimpArgs false
namespace Go.Proofs.YtadahmihkbpglaaDoor
open Go Go.Sx Go.Proofs
/-- a floor, only read -/
structure rG (H : Heap) (p : Value) (m : Map) : Prop where
  ex : ∃ b s mb mm, p = .pointer (some ⟨b, 0, none⟩) ∧ HRow H b 0 [I m.W, I m.H, I m.Shards, s, .map (some mb)] ∧ SlB rInt 1 8 H s m.Blocked ∧ mapH (fun x : Int => Value.int .i64 x) rInt false H mb mm ∧ ∀ x, (mget x mm).getD 0 = if x ∈ m.Blocked then 1 else 0
  good : goodM m
  fs : fits m.Shards
theorem rG.mono {H H' : Heap} {p : Value} {m : Map} (h : rG H p m) (hl : H.le H') : rG H' p m := by
  obtain ⟨⟨b, s, mb, mm, e, h1, h2, h3, h4⟩, hg, hf⟩ := h
  exact ⟨⟨b, s, mb, mm, e, h1.mono hl, h2.mono hl, h3.mono hl, h4⟩, hg, hf⟩
/-- the pointer that is checked for nil -/
theorem gIsR_spec {W0 : World} {H : Heap} {p : Value} {m : Map} {x : Int} (h : rG H p m) :
    Ct Tryd.prog 22 #[p, I x] W0 H [] (fun r H' B => r = .bool (decide (isC m x)) ∧ B = [] ∧ H' = H) := by
  refine Ct.go fun R => ?_
  obtain ⟨⟨b, s, mb, mm, rfl, h1, h2, h3, h4⟩, hg, hfs⟩ := h
  have hf := area_fits hg.1.1
  refine walkG ?_
  refine fin0 ?_
  exact ⟨rfl, rfl, rfl⟩
theorem wG {p q : Prop} (hq : q) (h : Held q → p := by
    intro hq
    repeat (first
      | refine Go.Sx.ops_p rfl rfl ?_ | refine Go.Sx.ops_ld rfl rfl rfl ?_ | refine Go.Sx.ops_T rfl rfl ?_ | refine Go.Sx.ops_F rfl rfl ?_ | refine Go.Sx.ops_B rfl rfl ?_ | refine Go.Sx.ops_skip rfl ?_
      | refine Go.Sx.ops_gp rfl rfl ?_ | refine Go.Sx.ops_gB rfl rfl ?_ | refine Go.Sx.ops_gld rfl rfl rfl ?_
      | refine Go.Sx.ops_st rfl rfl rfl rfl ?_ | refine Go.Sx.ops_ldN rfl rfl rfl ?_ | refine Go.Sx.ops_ext rfl rfl rfl ?_ | refine Go.Sx.ops_bld rfl rfl ?_ | refine Go.Sx.ops_ldHz rfl rfl ‹Go.Sx.HRow _ _ 0 _› rfl ?_ | refine Go.Sx.ops_ldHNz rfl rfl ‹Go.Sx.HRow _ _ 0 _› rfl ?_ | refine Go.Sx.ops_ldH rfl rfl ‹Go.Sx.HRow _ _ _ _› rfl rfl ?_ | refine Go.Sx.ops_ldH0 rfl rfl ‹Go.Sx.HRow _ _ _ _› rfl ?_ | refine Go.Sx.ops_ix rfl rfl rfl ‹Go.Sx.SlR _ _ _ _ _› (by omega) ?_
      | refine Go.Sx.ops_gldH0 rfl rfl ‹Go.Sx.HRow _ _ 0 _› rfl ?_ | refine Go.Sx.ops_gldN rfl rfl rfl ?_ | refine Go.Sx.ops_gext rfl rfl rfl ?_ | refine Go.Sx.ops_gix rfl rfl rfl ‹Go.Sx.SlR _ _ _ _ _› (by intro hg; omega) ?_
      | refine Go.Sx.ops_gcall rfl rfl (fun hg => gIsR_spec ‹rG _ _ _›) ?_
      | refine Go.Sx.ops_pcall rfl rfl (gIsR_spec ‹rG _ _ _›) ?_
      | refine Go.Sx.ops_nil ?_ | refine Go.Sx.ex_seq ?_ | refine Go.Sx.ex_reg ?_ | refine Go.Sx.out_seq ?_ | refine Go.Sx.ex_c rfl ?_ | refine Go.Sx.ex_sT ?_ | refine Go.Sx.ex_sF ?_ | refine Go.Sx.ex_blk ?_ | refine Go.Sx.out_blk ?_
      | refine Go.Sx.ex_skip ?_ | refine Go.Sx.ex_exit ?_ | refine Go.Sx.ex_ret ?_ | refine Go.Sx.out_eseq ?_ | refine Go.Sx.out_eblk ?_ | refine Go.Sx.out_ecut ?_ | refine Go.Sx.out_epass rfl ?_ | refine Go.Sx.out_rseq ?_ | refine Go.Sx.out_rblk ?_ | refine Go.Sx.out_rcut ?_
      | refine Go.Sx.ex_quiet (by decide +kernel) (fun _ _ _ _ _ h => h) ?_)
    exact hq.out) : p := h ⟨hq⟩
theorem place_no {W0 : World} {H : Heap} {p : Value} {m : Map} {x : Int} (h : rG H p m) (hx : ¬ isC m x) :
    Ct Tryd.prog 44 #[p, I x] W0 H [] (fun r H' B => r = .tuple #[I 0, I 0, I 121] ∧ B = [] ∧ H' = H) := by
  refine Ct.go fun R => ?_
  refine walk ?_
  refine ops_pcall rfl rfl (gIsR_spec h) ?_
  rw [decide_eq_false hx]
  refine walk ?_
  refine fin0 ?_
  exact ⟨rfl, rfl, rfl⟩
theorem place_yes {W0 : World} {H : Heap} {p : Value} {m : Map} {x : Int} (h : rG H p m) (hx : isC m x) :
    Ct Tryd.prog 44 #[p, I x] W0 H [] (fun r H' B => r = .tuple #[I (x.tmod m.W), I (x.tdiv m.W), I 0] ∧ B = [] ∧ H' = H) := by
  refine Ct.go fun R => ?_
  refine walk ?_
  refine ops_pcall rfl rfl (gIsR_spec h) ?_
  rw [decide_eq_true hx]
  obtain ⟨⟨b, s, mb, mm, rfl, h1, h2, h3, h4⟩, hg, hfs⟩ := h
  obtain ⟨⟨x1, x2⟩, x3, x4⟩ := cell_xy hg.1.1 hx
  have hsd := hg.1.1
  simp only [sidesM] at hsd
  have hw : 0 < m.W := by omega
  have g1 : 0 < m.W ∧ fits (x.tdiv m.W) := ⟨hw, by unfold fits; omega⟩
  refine walkG ?_
  refine fin0 ?_
  exact ⟨rfl, rfl, rfl⟩
theorem gFree_spec {W0 : World} {H : Heap} {p : Value} {m : Map} {x : Int} (h : rG H p m) :
    Ct Tryd.prog 26 #[p, I x] W0 H [] (fun r H' B => r = .bool (decide (freeC m x)) ∧ B = [] ∧ H' = H) := by
  refine Ct.go fun R => ?_
  refine walk ?_
  refine ops_pcall rfl rfl (gIsR_spec h) ?_
  obtain ⟨⟨b, s, mb, mm, rfl, h1, h2, h3, h4⟩, hg, hfs⟩ := h
  refine walkG ?_
  refine ops_glkH (z := (0 : Int)) rfl rfl h3 ?_
  rw [h4]
  refine walkG ?_
  refine fin0 ?_
  refine ⟨bdec ?_, rfl, rfl⟩
  simp only [freeC]
  constructor
  · rintro ⟨hc, hb⟩; refine ⟨fun e => ?_, hc⟩; rw [if_pos e] at hb; omega
  · rintro ⟨hb, hc⟩; exact ⟨hc, if_neg hb⟩
theorem sq_adj {x y : Int} : x * x + y * y = 1 ↔ adj x y := by
  simp only [adj]
  constructor
  · intro h
    have nn : ∀ z : Int, 0 ≤ z * z := fun z => by
      rcases Int.le_total 0 z with hz | hz
      · exact Int.mul_nonneg hz hz
      · exact Int.mul_nonneg_of_nonpos_of_nonpos hz hz
    have big : ∀ z : Int, 2 ≤ z → 4 ≤ z * z := fun z hz => Int.mul_le_mul hz hz (by omega) (by omega)
    have small : ∀ z : Int, z * z ≤ 1 → -1 ≤ z ∧ z ≤ 1 := fun z hz => by
      refine ⟨Classical.byContradiction fun e => ?_, Classical.byContradiction fun e => ?_⟩
      · have := big (-z) (by omega); rw [Int.neg_mul_neg] at this; omega
      · have := big z (by omega); omega
    have nx := nn x
    have ny := nn y
    obtain ⟨x1, x2⟩ := small x (by omega)
    obtain ⟨y1, y2⟩ := small y (by omega)
    have hx : x = -1 ∨ x = 0 ∨ x = 1 := by omega
    have hy : y = -1 ∨ y = 0 ∨ y = 1 := by omega
    rcases hx with rfl | rfl | rfl <;> rcases hy with rfl | rfl | rfl <;> simp_all
  · rintro (⟨rfl, rfl | rfl⟩ | ⟨rfl, rfl | rfl⟩) <;> simp
theorem sq_fits {x : Int} (h : -16 < x ∧ x < 16) : 0 ≤ x * x ∧ x * x ≤ 225 := by
  have : x.natAbs ≤ 15 := by omega
  have h2 : x.natAbs * x.natAbs ≤ 15 * 15 := Nat.mul_le_mul this this
  have h3 : (x.natAbs * x.natAbs : Nat) = (x * x : Int) := Int.natAbs_mul_self
  omega
theorem gBeside_spec {W0 : World} {H : Heap} {p : Value} {m : Map} {x y : Int} (h : rG H p m) :
    Ct Tryd.prog 48 #[p, I x, I y] W0 H [] (fun r H' B => r = .bool (decide (besideC m x y)) ∧ B = [] ∧ H' = H) := by
  refine Ct.go fun R => ?_
  by_cases hx : isC m x
  · by_cases hy : isC m y
    · refine walk ?_
      refine ops_pcall rfl rfl (place_yes h hx) ?_
      refine walk ?_
      refine ops_pcall rfl rfl (place_yes h hy) ?_
      obtain ⟨⟨x1, x2⟩, x3, x4⟩ := cell_xy h.good.1.1 hx
      obtain ⟨⟨y1, y2⟩, y3, y4⟩ := cell_xy h.good.1.1 hy
      have hsd := h.good.1.1
      simp only [sidesM] at hsd
      have q1 := sq_fits (x := x.tmod m.W - y.tmod m.W) (by omega)
      have q2 := sq_fits (x := x.tdiv m.W - y.tdiv m.W) (by omega)
      have q3 : fits ((x.tmod m.W - y.tmod m.W) * (x.tmod m.W - y.tmod m.W)) := by unfold fits; omega
      have q4 : fits ((x.tdiv m.W - y.tdiv m.W) * (x.tdiv m.W - y.tdiv m.W)) := by unfold fits; omega
      refine walkG ?_
      refine fin0 ?_
      exact ⟨bdec (by rw [sq_adj]; exact ⟨fun e => ⟨⟨hx, hy⟩, e⟩, fun e => e.2⟩), rfl, rfl⟩
    · refine walk ?_
      refine ops_pcall rfl rfl (place_yes h hx) ?_
      refine walk ?_
      refine ops_pcall rfl rfl (place_no h hy) ?_
      refine walk ?_
      refine fin0 ?_
      exact ⟨by simp [besideC, hy], rfl, rfl⟩
  · by_cases hy : isC m y
    · refine walk ?_
      refine ops_pcall rfl rfl (place_no h hx) ?_
      refine walk ?_
      refine ops_pcall rfl rfl (place_yes h hy) ?_
      refine walk ?_
      refine fin0 ?_
      exact ⟨by simp [besideC, hx], rfl, rfl⟩
    · refine walk ?_
      refine ops_pcall rfl rfl (place_no h hx) ?_
      refine walk ?_
      refine ops_pcall rfl rfl (place_no h hy) ?_
      refine walk ?_
      refine fin0 ?_
      exact ⟨by simp [besideC, hx], rfl, rfl⟩
theorem index_spec {W0 : World} {H : Heap} {v : Value} {xs : List Int} {y : Int} (h0 : SlR rInt 1 H v xs) :
    Ct Tryd.prog 65 #[v, I y] W0 H [] (fun r H' B => ∃ i : Int, r = I i ∧ (0 ≤ i ↔ y ∈ xs) ∧ B = [] ∧ H' = H) := by
  refine Ct.go fun R => ?_
  obtain ⟨b0, c0, rfl, hc0, hd0⟩ := h0.shape
  refine walk ?_
  refine ex_loop (fun k => k ≤ xs.length ∧ y ∉ xs.take k) (fun k => [(0, .slice b0 xs.length c0), (1, I y), (7, I xs.length), (8, I k)]) (fun _ => H) (fun _ => R) (fun k => xs.length - k) 0 ⟨Nat.zero_le _, by simp⟩ fun k ⟨hk0, ht⟩ K hL => ?_
  refine walk ?_
  refine ex_if rfl (fun hk => ?_) (fun hk => ?_)
  · have hk1 : k < xs.length := by omega
    refine walk ?_
    refine ex_if rfl (fun hq => ?_) (fun hq => ?_)
    · refine walk ?_
      refine fin0 ?_
      exact ⟨_, rfl, ⟨fun _ => hq ▸ List.getElem_mem _, fun _ => by omega⟩, rfl, rfl⟩
    · refine walk ?_
      refine out_next hL (k + 1) ⟨by omega, ?_⟩
      rw [List.take_succ_eq_append_getElem hk1]
      simp only [List.mem_append, List.mem_singleton, not_or]
      exact ⟨ht, hq⟩
  · clear hL
    obtain rfl : k = xs.length := by omega
    rw [List.take_length] at ht
    refine walk ?_
    refine fin0 ?_
    exact ⟨-1, rfl, ⟨fun e => by omega, fun e => absurd e ht⟩, rfl, rfl⟩
theorem contains_spec {W0 : World} {H : Heap} {v : Value} {xs : List Int} {y : Int} (h0 : SlR rInt 1 H v xs) :
    Ct Tryd.prog 58 #[v, I y] W0 H [] (fun r H' B => r = .bool (decide (y ∈ xs)) ∧ B = [] ∧ H' = H) := by
  refine Ct.go fun R => ?_
  refine walk ?_
  refine ops_call rfl rfl (index_spec (y := y) h0) fun r H' B hl ⟨i, er, hi, eB, eH⟩ => ?_
  subst er eB eH
  refine walkG ?_
  refine fin0 ?_
  exact ⟨bdec hi, rfl, rfl⟩
theorem gIsO_spec {W0 : World} {H : Heap} {b : Nat} {s mp : Value} {m : Map} {x : Int} (hf : fits (m.W * m.H)) :
    Ct Tryd.prog 22 #[.pointer (some ⟨b, 0, none⟩), I x] W0 H [row b 53 [I m.W, I m.H, I m.Shards, s, mp]] (fun r H' B => r = .bool (decide (isC m x)) ∧ B = [row b 53 [I m.W, I m.H, I m.Shards, s, mp]] ∧ H' = H) := by
  refine Ct.go fun R => ?_
  refine walkG ?_
  refine finB [row b 53 [I m.W, I m.H, I m.Shards, s, mp]] ?_
  exact ⟨rfl, rfl, rfl⟩
/-- a new floor, or none -/
def GPost (m : Map) (r : Value) (H' : Heap) (B : List HProp) : Prop := ∃ p e, r = .tuple #[p, e] ∧ B = [] ∧ ((goodM m ∧ rG H' p m ∧ e = I 0) ∨ (¬ goodM m ∧ p = .pointer none ∧ e = I 120))
set_option maxHeartbeats 8000000 in
theorem gNew_spec {W0 : World} {H : Heap} {c : List Value} {m : Map} (h0 : rMap H c m) :
    Ct Tryd.prog 8 #[.agg c.toArray] W0 H [] (GPost m) := by
  refine Ct.go fun R => ?_
  obtain ⟨s, rfl, f1, f2, f3, h0⟩ := h0
  obtain ⟨b0, c0, rfl, hc0, hd0⟩ := h0.1.shape
  have k0 := h0.1
  refine walk ?_
  refine ops_box rfl rfl fun p0 _ => ?_
  refine walkG ?_
  refine ex_if rfl (fun h => ?_) (fun h => ?_)
  · refine walk ?_
    refine fin0 ?_
    refine ⟨_, _, rfl, rfl, .inr ⟨fun e => ?_, rfl, rfl⟩⟩
    have e := e.1
    simp only [headM, sidesM] at e
    rw [Int.min_def] at h; split at h <;> omega
  have hh : headM m := by simp only [headM, sidesM]; rw [Int.min_def] at h; split at h <;> omega
  have hf := area_fits hh.1
  refine walk ?_
  refine ops_makeMap (fun x : Int => Value.int .i64 x) rInt false rfl fun mb hmb => ?_
  refine walk ?_
  refine ops_box rfl rfl fun pg _ => ?_
  refine walk ?_
  refine ops_call rfl rfl (cloneI_spec h0) fun r1 H1 B hl1 ⟨eB, eH⟩ => ?_
  subst eB eH
  refine ops_shape r1 fun d1 e1 e _ _ _ => ?_
  subst e
  refine walk ?_
  refine ex_loop (σ := Nat × List (Int × Int)) (fun s => s.1 ≤ m.Blocked.length ∧ (∀ x ∈ m.Blocked.take s.1, isC m x) ∧ ∀ x, (mget x s.2).getD 0 = if x ∈ m.Blocked.take s.1 then 1 else 0) (fun s => [(4, .pointer (some ⟨pg, 0, none⟩)), (50, .slice b0 m.Blocked.length c0), (51, I m.Blocked.length), (52, I s.1)]) (fun _ => H1)
    (fun s => row pg 53 [I m.W, I m.H, I m.Shards, .slice d1 m.Blocked.length e1, .map (some mb)] :: mapO (fun x : Int => Value.int .i64 x) rInt false H1 mb s.2 :: ownS rInt 1 8 3 H1 (.slice d1 m.Blocked.length e1) m.Blocked :: R) (fun s => m.Blocked.length - s.1) (0, []) ⟨Nat.zero_le _, by simp, by simp [mget]⟩ fun ⟨k, mm⟩ ⟨hk0, ht, hm⟩ K hL => ?_
  simp only at hk0 ht hm
  dsimp only
  refine walk ?_
  refine ex_if rfl (fun hk => ?_) (fun hk => ?_)
  · have hk1 : k < m.Blocked.length := by omega
    refine walk ?_
    refine ops_pcall rfl rfl (gIsO_spec hf) ?_
    refine walkG ?_
    refine ex_if rfl (fun hq => ?_) (fun hq => ?_)
    · refine walk ?_
      refine fin0 ?_
      exact ⟨_, _, rfl, rfl, .inr ⟨fun e => hq (e.2 _ (List.getElem_mem _)), rfl, rfl⟩⟩
    · refine walk ?_
      have hone : rInt H1 [I 1] (1 : Int) := ⟨rfl, by unfold fits; omega⟩
      refine ops_update rfl (cs := [I 1]) rfl hone (by repeat (first | exact Has.here | apply Has.there)) ?_
      refine walk ?_
      refine out_next hL (k + 1, mset (m.Blocked[k]) 1 mm) ⟨by simp only; omega, fun x hx => ?_, fun x => ?_⟩
      · simp only at hx
        rw [List.take_succ_eq_append_getElem hk1] at hx
        rcases List.mem_append.1 hx with hx | hx
        · exact ht x hx
        · rw [List.mem_singleton.1 hx]; exact Classical.not_not.1 hq
      · simp only
        rw [mget_mset, List.take_succ_eq_append_getElem hk1]
        by_cases e : x = m.Blocked[k]
        · rw [if_pos e, if_pos (List.mem_append.2 (.inr (List.mem_singleton.2 e)))]; rfl
        · rw [if_neg e, hm]
          by_cases e2 : x ∈ m.Blocked.take k
          · rw [if_pos e2, if_pos (List.mem_append_left _ e2)]
          · rw [if_neg e2, if_neg]
            intro h
            rcases List.mem_append.1 h with h | h
            · exact e2 h
            · exact e (List.mem_singleton.1 h)
  · clear hL
    obtain rfl : k = m.Blocked.length := by omega
    rw [List.take_length] at ht
    rw [List.take_length] at hm
    refine walk ?_
    refine out_freeze (.slice d1 m.Blocked.length e1) fun H2 hl2 hfz => ?_
    refine out_frzMap (ms := mm) (by repeat (first | exact Has.here | apply Has.there)) hl2 fun H3 hl3 hmap => ?_
    refine out_frzR (by repeat (first | exact Has.here | apply Has.there)) fun H4 hl4 hrow => ?_
    refine fin0 ?_
    exact ⟨_, _, rfl, rfl, .inl ⟨⟨hh, ht⟩, ⟨⟨pg, _, mb, mm, rfl, hrow, hfz.mono (hl3.trans hl4), hmap.mono hl4, hm⟩, ⟨hh, ht⟩, f3⟩, rfl⟩⟩
end Go.Proofs.YtadahmihkbpglaaDoor
