/- The floor: is one near? A route on it. -/
import Derived.Test.YtadahmihkbpglaaDoorBE
import Derived.Test.YtadahmihkbpglaaDoorBC
set_option linter.unusedVariables false
set_option linter.unusedSimpArgs false
namespace Go.Proofs.YtadahmihkbpglaaDoor
open Go Go.Sx Go.Proofs
theorem beside_symm {m : Map} {a b : Int} : besideC m a b ↔ besideC m b a := by
  simp only [besideC, adj]
  constructor <;> rintro ⟨⟨h1, h2⟩, h3⟩ <;> exact ⟨⟨h2, h1⟩, by omega⟩
theorem xy_eq {m : Map} (h : sidesM m) {c : Int} (hc : isC m c) : c = c.tdiv m.W * m.W + c.tmod m.W := (Int.tdiv_mul_add_tmod c m.W).symm
theorem mem_nextL {m : Map} (hs : sidesM m) {x b : Int} (hx : freeC m x) : b ∈ nextL m x ↔ nearC m x b := by
  unfold nextL
  rw [mem_compact, List.mem_mergeSort]
  unfold nextC
  rw [List.mem_filter, decide_eq_true_eq]
  constructor
  · rintro ⟨_, h1, h2⟩
    refine ⟨⟨hx, h1⟩, ?_⟩
    rcases h2 with h2 | h2
    · exact .inl h2.symm
    · exact .inr (beside_symm.1 h2)
  · rintro ⟨⟨_, h1⟩, h2⟩
    refine ⟨?_, h1, ?_⟩
    · simp only [cands, List.mem_cons, List.not_mem_nil, or_false]
      rcases h2 with h2 | h2
      · omega
      · obtain ⟨⟨ha, hb⟩, hadj⟩ := h2
        have e1 := xy_eq hs ha
        have e2 := xy_eq hs hb
        simp only [adj] at hadj
        rcases hadj with ⟨h3, h4 | h4⟩ | ⟨h3, h4 | h4⟩
        · have : x.tdiv m.W = b.tdiv m.W + 1 := by omega
          rw [this, Int.add_mul] at e1; omega
        · have : b.tdiv m.W = x.tdiv m.W + 1 := by omega
          rw [this, Int.add_mul] at e2; omega
        · have : x.tdiv m.W = b.tdiv m.W := by omega
          rw [this] at e1; omega
        · have : x.tdiv m.W = b.tdiv m.W := by omega
          rw [this] at e1; omega
    · rcases h2 with h2 | h2
      · exact .inl h2.symm
      · exact .inr (beside_symm.1 h2)
theorem gNear_spec {W0 : World} {H : Heap} {p : Value} {m : Map} {x y : Int} (h : rG H p m) :
    Ct Tryd.prog 45 #[p, I x, I y] W0 H [] (fun r H' B => r = .bool (decide (nearC m x y)) ∧ B = []) := by
  refine Ct.go fun R => ?_
  by_cases hx : freeC m x
  · refine walk ?_
    refine ops_call rfl rfl (gNext_yes h hx) fun r H1 B hl eB => ?_
    subst eB
    refine walk ?_
    refine ops_freeze r fun H2 hl2 q => ?_
    refine ops_pcall rfl rfl (contains_spec q.1) ?_
    refine walk ?_
    refine fin0 ?_
    exact ⟨bdec (mem_nextL h.good.1.1 hx), rfl⟩
  · refine walk ?_
    refine ops_pcall rfl rfl (gNext_no h hx) ?_
    refine walk ?_
    refine ops_pcall rfl rfl (contains_spec (xs := []) (SlR.nil _ _ _ _ _ (by omega))) ?_
    refine walk ?_
    refine fin0 ?_
    exact ⟨by simp [nearC, hx], rfl⟩
set_option maxHeartbeats 8000000 in
theorem check_spec {W0 : World} {H : Heap} {p : Value} {d : List Value} {m : Map} {x : Route} (hG : rG H p m) (h1 : rRoute H d x) :
    Ct Tryd.prog 19 #[p, .agg d.toArray] W0 H [] (fun r H' B => r = I (checkR m x) ∧ B = []) := by
  refine Ct.go fun R => ?_
  obtain ⟨t, rfl, g1, h1⟩ := h1
  obtain ⟨b1, c1, rfl, hc1, hd1⟩ := h1.1.shape
  have k1 := h1.1
  have hfc := k1.fits
  refine walk ?_
  refine ops_box rfl rfl fun p3 _ => ?_
  refine walkG ?_
  refine ex_if rfl (fun h => ?_) (fun h => ?_)
  · refine walk ?_
    refine fin0 ?_
    exact ⟨by unfold checkR; rw [if_pos (by omega)], rfl⟩
  have hn : ¬ (x.Cells.length = 0 ∨ 24 < x.Cells.length) := by omega
  refine walkG ?_
  refine ex_if rfl (fun h => ?_) (fun h => ?_)
  · refine walk ?_
    refine fin0 ?_
    exact ⟨by unfold checkR; rw [if_neg hn, if_pos (by simp only [tickI]; omega)], rfl⟩
  have ht : tickI x.Start ∧ tickI (x.Start + x.Cells.length - 1) := by simp only [tickI]; omega
  have hcode : checkR m x = if cellCode m x.Cells ≠ 0 then cellCode m x.Cells else stepCode m x.Cells := by unfold checkR; rw [if_neg hn, if_neg (fun e => e ht)]
  refine walk ?_
  refine ex_loop (fun k => k ≤ x.Cells.length ∧ cellCode m x.Cells = cellCode m (x.Cells.drop k)) (fun k => [(0, p), (3, .pointer (some ⟨p3, 0, none⟩)), (5, I x.Cells.length), (35, .slice b1 x.Cells.length c1), (36, I x.Cells.length), (37, I k)]) (fun _ => H) (fun _ => row p3 36 (x.cv (.slice b1 x.Cells.length c1)) :: R) (fun k => x.Cells.length - k) 0 ⟨Nat.zero_le _, rfl⟩ fun k ⟨hk0, hc⟩ K hL => ?_
  refine walk ?_
  refine ex_if rfl (fun hk => ?_) (fun hk => ?_)
  · have hk1 : k < x.Cells.length := by omega
    rw [List.drop_eq_getElem_cons hk1, cellCode] at hc
    by_cases hq : isC m x.Cells[k]
    · rw [if_neg (fun e => e hq)] at hc
      refine walk ?_
      refine ops_pcall rfl rfl (place_yes hG hq) ?_
      refine walk ?_
      refine ops_pcall rfl rfl (gFree_spec hG) ?_
      refine walkG ?_
      refine ex_if rfl (fun hq2 => ?_) (fun hq2 => ?_)
      · refine walk ?_
        refine fin0 ?_
        rw [if_pos (Classical.not_not.1 fun e => hq2 ⟨e, hq⟩)] at hc
        exact ⟨by rw [hcode, hc]; rfl, rfl⟩
      · rw [if_neg fun e => (Classical.not_not.1 hq2).1 e] at hc
        refine walk ?_
        exact out_next hL (k + 1) ⟨by omega, hc⟩
    · rw [if_pos hq] at hc
      refine walk ?_
      refine ops_pcall rfl rfl (place_no hG hq) ?_
      refine walk ?_
      refine fin0 ?_
      exact ⟨by rw [hcode, hc]; rfl, rfl⟩
  · clear hL
    obtain rfl : k = x.Cells.length := by omega
    rw [List.drop_length, cellCode] at hc
    have hz : cellCode m x.Cells = 0 := hc
    clear hc
    refine walk ?_
    refine ex_loop (σ := Nat × Heap) (fun s => 1 ≤ s.1 ∧ s.1 ≤ x.Cells.length ∧ stepCode m x.Cells = stepCode m (x.Cells.drop (s.1 - 1)) ∧ H.le s.2) (fun s => [(0, p), (3, .pointer (some ⟨p3, 0, none⟩)), (5, I x.Cells.length), (11, I s.1)]) (fun s => s.2) (fun _ => row p3 36 (x.cv (.slice b1 x.Cells.length c1)) :: R) (fun s => x.Cells.length - s.1) (1, H) ⟨by simp only; omega, by simp only; omega, rfl, .refl _⟩ fun ⟨j, H2⟩ ⟨hj0, hj1, hc, hl2⟩ K hL => ?_
    simp only at hj0 hj1 hc hl2
    dsimp only
    rw [if_neg (by rw [hz]; simp)] at hcode
    refine walk ?_
    refine ex_if rfl (fun hk => ?_) (fun hk => ?_)
    · have hk1 : j < x.Cells.length := by omega
      obtain ⟨i, rfl⟩ : ∃ i, j = i + 1 := ⟨j - 1, by omega⟩
      rw [Nat.add_sub_cancel, List.drop_eq_getElem_cons (by omega), List.drop_eq_getElem_cons (i := i + 1) hk1, stepCode] at hc
      have k2 := k1.mono hl2
      refine walk ?_
      refine ex_any 14 [row p3 36 (x.cv (.slice b1 x.Cells.length c1))] ?_
      (first | refine gny_p 0 rfl rfl rfl ?_ | refine gny_ld 0 rfl rfl rfl rfl ?_ | refine gny_ldH 0 rfl rfl rfl ‹HRow _ _ 0 _› rfl ?_ | refine gny_T 0 rfl rfl rfl ?_ | refine gny_F 0 rfl rfl rfl ?_ | refine gny_B 0 rfl rfl rfl ?_ | refine gny_skip 0 rfl rfl ?_ | refine gny_sp 0 rfl rfl rfl ?_ | refine gny_sB 0 rfl rfl rfl ?_ | refine gny_sld 0 rfl rfl rfl rfl ?_ | refine gny_sldH 0 rfl rfl rfl ‹HRow _ _ 0 _› rfl ?_ | refine gny_ldN 0 rfl rfl rfl rfl ?_ | refine gny_bld 0 rfl rfl rfl ?_); (first | refine gny_p 1 rfl rfl rfl ?_ | refine gny_ld 1 rfl rfl rfl rfl ?_ | refine gny_ldH 1 rfl rfl rfl ‹HRow _ _ 0 _› rfl ?_ | refine gny_T 1 rfl rfl rfl ?_ | refine gny_F 1 rfl rfl rfl ?_ | refine gny_B 1 rfl rfl rfl ?_ | refine gny_skip 1 rfl rfl ?_ | refine gny_sp 1 rfl rfl rfl ?_ | refine gny_sB 1 rfl rfl rfl ?_ | refine gny_sld 1 rfl rfl rfl rfl ?_ | refine gny_sldH 1 rfl rfl rfl ‹HRow _ _ 0 _› rfl ?_ | refine gny_ldN 1 rfl rfl rfl rfl ?_ | refine gny_bld 1 rfl rfl rfl ?_); (first | refine gny_p 2 rfl rfl rfl ?_ | refine gny_ld 2 rfl rfl rfl rfl ?_ | refine gny_ldH 2 rfl rfl rfl ‹HRow _ _ 0 _› rfl ?_ | refine gny_T 2 rfl rfl rfl ?_ | refine gny_F 2 rfl rfl rfl ?_ | refine gny_B 2 rfl rfl rfl ?_ | refine gny_skip 2 rfl rfl ?_ | refine gny_sp 2 rfl rfl rfl ?_ | refine gny_sB 2 rfl rfl rfl ?_ | refine gny_sld 2 rfl rfl rfl rfl ?_ | refine gny_sldH 2 rfl rfl rfl ‹HRow _ _ 0 _› rfl ?_ | refine gny_ldN 2 rfl rfl rfl rfl ?_ | refine gny_bld 2 rfl rfl rfl ?_); (first | refine gny_p 3 rfl rfl rfl ?_ | refine gny_ld 3 rfl rfl rfl rfl ?_ | refine gny_ldH 3 rfl rfl rfl ‹HRow _ _ 0 _› rfl ?_ | refine gny_T 3 rfl rfl rfl ?_ | refine gny_F 3 rfl rfl rfl ?_ | refine gny_B 3 rfl rfl rfl ?_ | refine gny_skip 3 rfl rfl ?_ | refine gny_sp 3 rfl rfl rfl ?_ | refine gny_sB 3 rfl rfl rfl ?_ | refine gny_sld 3 rfl rfl rfl rfl ?_ | refine gny_sldH 3 rfl rfl rfl ‹HRow _ _ 0 _› rfl ?_ | refine gny_ldN 3 rfl rfl rfl rfl ?_ | refine gny_bld 3 rfl rfl rfl ?_)
      refine gny_pure (v := I i) 4 rfl rfl ((op_sub (a := ((i + 1 : Nat) : Int)) (b := 1) rfl rfl (by unfold fits; omega)).cast (by congr 1; omega)) ?_ (by decide +kernel) (fun _ _ _ h => h) (.refl _) (by (repeat (first | exact Sub.refl _ | exact Sub.nil _ | (apply sub_pick; (repeat (first | exact Has.here | apply Has.there)); skip) | apply Sub.drop))) rfl
      refine gny_el 5 6 (jj := i) rfl rfl rfl rfl rfl k2 (by omega) ?_
      (first | refine gny_p 7 rfl rfl rfl ?_ | refine gny_ld 7 rfl rfl rfl rfl ?_ | refine gny_ldH 7 rfl rfl rfl ‹HRow _ _ 0 _› rfl ?_ | refine gny_T 7 rfl rfl rfl ?_ | refine gny_F 7 rfl rfl rfl ?_ | refine gny_B 7 rfl rfl rfl ?_ | refine gny_skip 7 rfl rfl ?_ | refine gny_sp 7 rfl rfl rfl ?_ | refine gny_sB 7 rfl rfl rfl ?_ | refine gny_sld 7 rfl rfl rfl rfl ?_ | refine gny_sldH 7 rfl rfl rfl ‹HRow _ _ 0 _› rfl ?_ | refine gny_ldN 7 rfl rfl rfl rfl ?_ | refine gny_bld 7 rfl rfl rfl ?_); (first | refine gny_p 8 rfl rfl rfl ?_ | refine gny_ld 8 rfl rfl rfl rfl ?_ | refine gny_ldH 8 rfl rfl rfl ‹HRow _ _ 0 _› rfl ?_ | refine gny_T 8 rfl rfl rfl ?_ | refine gny_F 8 rfl rfl rfl ?_ | refine gny_B 8 rfl rfl rfl ?_ | refine gny_skip 8 rfl rfl ?_ | refine gny_sp 8 rfl rfl rfl ?_ | refine gny_sB 8 rfl rfl rfl ?_ | refine gny_sld 8 rfl rfl rfl rfl ?_ | refine gny_sldH 8 rfl rfl rfl ‹HRow _ _ 0 _› rfl ?_ | refine gny_ldN 8 rfl rfl rfl rfl ?_ | refine gny_bld 8 rfl rfl rfl ?_); (first | refine gny_p 9 rfl rfl rfl ?_ | refine gny_ld 9 rfl rfl rfl rfl ?_ | refine gny_ldH 9 rfl rfl rfl ‹HRow _ _ 0 _› rfl ?_ | refine gny_T 9 rfl rfl rfl ?_ | refine gny_F 9 rfl rfl rfl ?_ | refine gny_B 9 rfl rfl rfl ?_ | refine gny_skip 9 rfl rfl ?_ | refine gny_sp 9 rfl rfl rfl ?_ | refine gny_sB 9 rfl rfl rfl ?_ | refine gny_sld 9 rfl rfl rfl rfl ?_ | refine gny_sldH 9 rfl rfl rfl ‹HRow _ _ 0 _› rfl ?_ | refine gny_ldN 9 rfl rfl rfl rfl ?_ | refine gny_bld 9 rfl rfl rfl ?_)
      refine gny_el 10 11 (jj := i + 1) rfl rfl rfl rfl rfl k2 hk1 ?_
      refine gny_call 12 rfl rfl rfl (gNear_spec (hG.mono hl2)) fun r7 H7 B hl7 ⟨er, eB⟩ => ?_
      subst er eB
      refine ⟨(by (repeat (first | exact Sub.refl _ | exact Sub.nil _ | (apply sub_pick; (repeat (first | exact Has.here | apply Has.there)); skip) | apply Sub.drop))), ?_⟩
      (first | refine gny_p 13 rfl rfl rfl ?_ | refine gny_ld 13 rfl rfl rfl rfl ?_ | refine gny_ldH 13 rfl rfl rfl ‹HRow _ _ 0 _› rfl ?_ | refine gny_T 13 rfl rfl rfl ?_ | refine gny_F 13 rfl rfl rfl ?_ | refine gny_B 13 rfl rfl rfl ?_ | refine gny_skip 13 rfl rfl ?_ | refine gny_sp 13 rfl rfl rfl ?_ | refine gny_sB 13 rfl rfl rfl ?_ | refine gny_sld 13 rfl rfl rfl rfl ?_ | refine gny_sldH 13 rfl rfl rfl ‹HRow _ _ 0 _› rfl ?_ | refine gny_ldN 13 rfl rfl rfl rfl ?_ | refine gny_bld 13 rfl rfl rfl ?_)
      refine any_rest rfl ?_
      refine walk ?_
      refine ex_if rfl (fun hq => ?_) (fun hq => ?_)
      · refine walk ?_
        refine fin0 ?_
        rw [if_neg hq] at hc
        exact ⟨by rw [hcode, hc], rfl⟩
      · rw [if_pos (Classical.not_not.1 hq)] at hc
        refine walk ?_
        refine out_next hL (i + 1 + 1, H7) ⟨by simp only; omega, by simp only; omega, ?_, by simp only; exact hl2.trans hl7⟩
        simp only
        rw [hc, Nat.add_sub_cancel, List.drop_eq_getElem_cons hk1]
    · clear hL
      obtain rfl : j = x.Cells.length := by omega
      refine walk ?_
      refine fin0 ?_
      have : x.Cells.drop (x.Cells.length - 1) = [x.Cells[x.Cells.length - 1]] := by
        rw [List.drop_eq_getElem_cons (by omega), List.drop_eq_nil_of_le (by omega)]
      rw [this, stepCode_one] at hc
      exact ⟨by rw [hcode, hc], rfl⟩
end Go.Proofs.YtadahmihkbpglaaDoor
