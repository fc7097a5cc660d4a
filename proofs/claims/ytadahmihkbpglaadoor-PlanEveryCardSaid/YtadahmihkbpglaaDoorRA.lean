/- Keys as the program writes them. -/
import Derived.Test.YtadahmihkbpglaaDoorBK
import Derived.Test.YtadahmihkbpglaaDoorKC
import Derived.Test.YtadahmihkbpglaaDoorShelf
set_option linter.unusedVariables false
set_option linter.unusedSimpArgs false
namespace Go.Proofs.YtadahmihkbpglaaDoor
open Go Go.Sx Go.Proofs
theorem dec_nd : ∀ {u : Nat}, u ≠ 0 → Lib.decDigits u = nd u := fun {u} => by
  induction u using Nat.strongRecOn with
  | ind u ih =>
    intro h
    rw [Lib.decDigits, nd_step h]
    split
    · next h1 =>
      rw [show u / 10 = 0 by omega, show u % 10 = u by omega]; simp [nd]
    · next h1 => rw [ih (u / 10) (by omega) (by omega)]
theorem itoa_dgs {n : Int} : Lib.itoa n = dgs n := by
  unfold Lib.itoa dgs
  by_cases h0 : n = 0
  · subst h0; rw [if_neg (by omega), if_pos rfl]; simp [Lib.decDigits]
  rw [if_neg h0]
  by_cases h1 : n < 0
  · rw [if_pos h1, if_pos h1, dec_nd (by omega)]; rfl
  · rw [if_neg h1, if_neg h1, dec_nd (by omega), show n.toNat = n.natAbs by omega]
theorem itoa_spec {W0 : World} {H : Heap} {n : Int} (hT : TabH Tryd.prog H) (hn : fits n) :
    Ct Tryd.prog 47 #[I n] W0 H [] (fun r H' B => r = .string (sb (dgs n)) ∧ B = [] ∧ H' = H) := by
  have h := ct_itoa (W0 := W0) hT hn Tryd.strconv_Itoa
  rw [itoa_dgs] at h; exact h
theorem gSlot_spec {W0 : World} {H : Heap} {c t : Int} (hT : TabH Tryd.prog H) (h1 : fits c) (h2 : fits t) :
    Ct Tryd.prog 27 #[I c, I t] W0 H [] (fun r H' B => r = .string (sb (slotL c t)) ∧ B = [] ∧ H' = H) := by
  refine Ct.go fun R => ?_
  haveI l1 : LenLe (dgs c) 20 := ⟨dgs_len h1⟩
  haveI l2 : LenLe (dgs t) 20 := ⟨dgs_len h2⟩
  refine walk ?_
  refine ops_pcall rfl rfl (itoa_spec hT h1) ?_
  refine walk ?_
  refine ops_pcall rfl rfl (itoa_spec hT h2) ?_
  refine walk ?_
  refine fin0 ?_
  exact ⟨rfl, rfl, rfl⟩
theorem gPass_spec {W0 : World} {H : Heap} {a b t : Int} (hT : TabH Tryd.prog H) (h1 : fits a) (h2 : fits b) (h3 : fits t) :
    Ct Tryd.prog 30 #[I a, I b, I t] W0 H [] (fun r H' B => r = .string (sb (passL a b t)) ∧ B = [] ∧ H' = H) := by
  have h4 : fits (min a b) := by unfold fits at *; omega
  have h5 : fits (max a b) := by unfold fits at *; omega
  refine Ct.go fun R => ?_
  haveI l1 : LenLe (dgs (min a b)) 20 := ⟨dgs_len h4⟩
  haveI l2 : LenLe (dgs (max a b)) 20 := ⟨dgs_len h5⟩
  haveI l3 : LenLe (dgs t) 20 := ⟨dgs_len h3⟩
  refine walk ?_
  refine ops_pcall rfl rfl (itoa_spec hT h4) ?_
  refine walk ?_
  refine ops_pcall rfl rfl (itoa_spec hT h5) ?_
  refine walk ?_
  refine ops_pcall rfl rfl (itoa_spec hT h3) ?_
  refine walk ?_
  refine fin0 ?_
  exact ⟨rfl, rfl, rfl⟩
theorem texts_spec {W0 : World} {H : Heap} {v0 v1 : Value} {xs ys : List ByteArray} (h0 : SlR rStr 1 H v0 xs) (h1 : SlR rStr 1 H v1 ys) :
    Ct Tryd.prog 13 #[v0, v1] W0 H [] (fun r H' B => r = .bool (decide (xs = ys)) ∧ B = [] ∧ H' = H) := by
  refine Ct.go fun R => ?_
  obtain ⟨b0, c0, rfl, hc0, hd0⟩ := h0.shape
  obtain ⟨b1, c1, rfl, hc1, hd1⟩ := h1.shape
  refine walk ?_
  refine ex_if rfl (fun h => ?_) (fun h => ?_)
  · refine walk ?_
    refine fin0 ?_
    exact ⟨by rw [decide_eq_false (p := xs = ys) (by rintro rfl; exact h rfl)], rfl, rfl⟩
  refine walk ?_
  refine ex_loop (fun k => k ≤ xs.length ∧ xs.take k = ys.take k) (fun k => [(0, .slice b0 xs.length c0), (1, .slice b1 ys.length c1), (12, I xs.length), (13, I k)]) (fun _ => H) (fun _ => R) (fun k => xs.length - k) 0 ⟨Nat.zero_le _, rfl⟩ fun k ⟨hk0, ht⟩ K hL => ?_
  refine walk ?_
  refine ex_if rfl (fun hk => ?_) (fun hk => ?_)
  · refine walk ?_
    refine ex_if rfl (fun hq => ?_) (fun hq => ?_)
    · refine walk ?_
      refine fin0 ?_
      exact ⟨by rw [decide_eq_false (p := xs = ys) (by rintro rfl; exact hq rfl)], rfl, rfl⟩
    · refine walk ?_
      refine out_next hL (k + 1) ⟨by omega, ?_⟩
      simp at hq
      rw [List.take_succ_eq_append_getElem (by omega), List.take_succ_eq_append_getElem (by omega), ht, hq]
  · refine walk ?_
    refine fin0 ?_
    obtain rfl : k = xs.length := by omega
    exact ⟨by rw [List.take_length] at ht; rw [decide_eq_true (p := xs = ys) (by rw [ht]; exact List.take_of_length_le (by omega))], rfl, rfl⟩
set_option maxHeartbeats 8000000 in
theorem pKeys_spec {W0 : World} {H : Heap} {c : List Value} {x : Route} (hT : TabH Tryd.prog H) (h0 : rRoute H c x) :
    Ct Tryd.prog 15 #[.agg c.toArray] W0 H [] (fun r H' B => SlB rStr 1 16 H' r ((keysL x).map sb) ∧ B = []) := by
  refine Ct.go (vs := [.agg c.toArray]) fun R => ?_
  have g0 := h0
  obtain ⟨s, rfl, f0, h0⟩ := h0
  obtain ⟨b0, c0, rfl, hc0, hd0⟩ := h0.1.shape
  have k0 := h0.1
  have hfc := k0.fits
  refine walk ?_
  refine ops_box rfl rfl fun p1 _ => ?_
  refine walk ?_
  refine ops_pcall rfl rfl (plain_spec g0) ?_
  refine walk ?_
  refine ex_if rfl (fun hp => ?_) (fun hp => ?_)
  · refine walk ?_
    refine fin0 ?_
    refine ⟨?_, rfl⟩
    unfold keysL
    rw [if_neg hp]; exact SlB.nil
  replace hp : plainR x := Classical.not_not.1 hp
  have hpp := hp
  simp only [plainR] at hpp
  refine walk ?_
  refine ex_L (ownS_nil (R := rStr) (sz := 1) (w := 16) (T := 9) (H := H) (base := none)) ?_
  refine ex_loop (σ := Nat × Value × List (List UInt8)) (fun s => s.1 ≤ x.Cells.length ∧ s.2.2 ++ keysFrom (x.Start + s.1) (x.Cells.drop s.1) = keysFrom x.Start x.Cells ∧ s.2.2.length ≤ 2 * s.1) (fun s => [(1, .pointer (some ⟨p1, 0, none⟩)), (3, s.2.1), (10, .slice b0 x.Cells.length c0), (11, I x.Cells.length), (12, I s.1)]) (fun _ => H) (fun s => row p1 36 (x.cv (.slice b0 x.Cells.length c0)) :: ownS rStr 1 16 9 H s.2.1 (s.2.2.map sb) :: R) (fun s => x.Cells.length - s.1) (0, nilS, []) ⟨Nat.zero_le _, by simp, by simp⟩ (hs0 := fun _ h => big_swap h) fun ⟨k, v, out⟩ ⟨hk0, hout, hlen⟩ K hL => ?_
  simp only at hk0 hout hlen
  dsimp only
  refine walk ?_
  refine ex_if rfl (fun hk => ?_) (fun hk => ?_)
  · have hk : k < x.Cells.length := by omega
    have hfk := hfc _ (List.getElem_mem hk)
    have hft : fits (x.Start + k) := by unfold fits; omega
    refine walk ?_
    refine ops_pcall rfl rfl (gSlot_spec hT hfk hft) ?_
    refine ops_app1 (y := sb (slotL x.Cells[k] (x.Start + k))) rfl rfl rfl ⟨rfl, by rw [sb_size]; have := slotL_len hfk hft; simp only [cap47]; omega⟩ (by simp only [List.length_map, cap47]; omega) fun b2 c2 => ?_
    refine walkG ?_
    refine ex_if rfl (fun hq => ?_) (fun hq => ?_)
    · have hk1 : k + 1 < x.Cells.length := by omega
      have hg1 : x.Cells.getD (k + 1) default = x.Cells[k + 1] := by simp [List.getD, hk1]
      rw [hg1] at hq
      have hfk1 := hfc _ (List.getElem_mem hk1)
      rw [List.drop_eq_getElem_cons hk, List.drop_eq_getElem_cons hk1, keysFrom, if_neg hq.2, ← List.drop_eq_getElem_cons hk1] at hout
      refine walk ?_
      refine ex_any 15 [row p1 36 (x.cv (.slice b0 x.Cells.length c0))] ?_
      (first | refine gny_p 0 rfl rfl rfl ?_ | refine gny_ld 0 rfl rfl rfl rfl ?_ | refine gny_ldH 0 rfl rfl rfl ‹HRow _ _ 0 _› rfl ?_ | refine gny_T 0 rfl rfl rfl ?_ | refine gny_F 0 rfl rfl rfl ?_ | refine gny_B 0 rfl rfl rfl ?_ | refine gny_skip 0 rfl rfl ?_ | refine gny_sp 0 rfl rfl rfl ?_ | refine gny_sB 0 rfl rfl rfl ?_ | refine gny_sld 0 rfl rfl rfl rfl ?_ | refine gny_sldH 0 rfl rfl rfl ‹HRow _ _ 0 _› rfl ?_ | refine gny_ldN 0 rfl rfl rfl rfl ?_ | refine gny_bld 0 rfl rfl rfl ?_); (first | refine gny_p 1 rfl rfl rfl ?_ | refine gny_ld 1 rfl rfl rfl rfl ?_ | refine gny_ldH 1 rfl rfl rfl ‹HRow _ _ 0 _› rfl ?_ | refine gny_T 1 rfl rfl rfl ?_ | refine gny_F 1 rfl rfl rfl ?_ | refine gny_B 1 rfl rfl rfl ?_ | refine gny_skip 1 rfl rfl ?_ | refine gny_sp 1 rfl rfl rfl ?_ | refine gny_sB 1 rfl rfl rfl ?_ | refine gny_sld 1 rfl rfl rfl rfl ?_ | refine gny_sldH 1 rfl rfl rfl ‹HRow _ _ 0 _› rfl ?_ | refine gny_ldN 1 rfl rfl rfl rfl ?_ | refine gny_bld 1 rfl rfl rfl ?_); (first | refine gny_p 2 rfl rfl rfl ?_ | refine gny_ld 2 rfl rfl rfl rfl ?_ | refine gny_ldH 2 rfl rfl rfl ‹HRow _ _ 0 _› rfl ?_ | refine gny_T 2 rfl rfl rfl ?_ | refine gny_F 2 rfl rfl rfl ?_ | refine gny_B 2 rfl rfl rfl ?_ | refine gny_skip 2 rfl rfl ?_ | refine gny_sp 2 rfl rfl rfl ?_ | refine gny_sB 2 rfl rfl rfl ?_ | refine gny_sld 2 rfl rfl rfl rfl ?_ | refine gny_sldH 2 rfl rfl rfl ‹HRow _ _ 0 _› rfl ?_ | refine gny_ldN 2 rfl rfl rfl rfl ?_ | refine gny_bld 2 rfl rfl rfl ?_); (first | refine gny_p 3 rfl rfl rfl ?_ | refine gny_ld 3 rfl rfl rfl rfl ?_ | refine gny_ldH 3 rfl rfl rfl ‹HRow _ _ 0 _› rfl ?_ | refine gny_T 3 rfl rfl rfl ?_ | refine gny_F 3 rfl rfl rfl ?_ | refine gny_B 3 rfl rfl rfl ?_ | refine gny_skip 3 rfl rfl ?_ | refine gny_sp 3 rfl rfl rfl ?_ | refine gny_sB 3 rfl rfl rfl ?_ | refine gny_sld 3 rfl rfl rfl rfl ?_ | refine gny_sldH 3 rfl rfl rfl ‹HRow _ _ 0 _› rfl ?_ | refine gny_ldN 3 rfl rfl rfl rfl ?_ | refine gny_bld 3 rfl rfl rfl ?_); (first | refine gny_p 4 rfl rfl rfl ?_ | refine gny_ld 4 rfl rfl rfl rfl ?_ | refine gny_ldH 4 rfl rfl rfl ‹HRow _ _ 0 _› rfl ?_ | refine gny_T 4 rfl rfl rfl ?_ | refine gny_F 4 rfl rfl rfl ?_ | refine gny_B 4 rfl rfl rfl ?_ | refine gny_skip 4 rfl rfl ?_ | refine gny_sp 4 rfl rfl rfl ?_ | refine gny_sB 4 rfl rfl rfl ?_ | refine gny_sld 4 rfl rfl rfl rfl ?_ | refine gny_sldH 4 rfl rfl rfl ‹HRow _ _ 0 _› rfl ?_ | refine gny_ldN 4 rfl rfl rfl rfl ?_ | refine gny_bld 4 rfl rfl rfl ?_); (first | refine gny_p 5 rfl rfl rfl ?_ | refine gny_ld 5 rfl rfl rfl rfl ?_ | refine gny_ldH 5 rfl rfl rfl ‹HRow _ _ 0 _› rfl ?_ | refine gny_T 5 rfl rfl rfl ?_ | refine gny_F 5 rfl rfl rfl ?_ | refine gny_B 5 rfl rfl rfl ?_ | refine gny_skip 5 rfl rfl ?_ | refine gny_sp 5 rfl rfl rfl ?_ | refine gny_sB 5 rfl rfl rfl ?_ | refine gny_sld 5 rfl rfl rfl rfl ?_ | refine gny_sldH 5 rfl rfl rfl ‹HRow _ _ 0 _› rfl ?_ | refine gny_ldN 5 rfl rfl rfl rfl ?_ | refine gny_bld 5 rfl rfl rfl ?_)
      refine gny_el 6 7 (jj := k + 1) rfl rfl rfl rfl rfl k0 hk1 ?_
      (first | refine gny_p 8 rfl rfl rfl ?_ | refine gny_ld 8 rfl rfl rfl rfl ?_ | refine gny_ldH 8 rfl rfl rfl ‹HRow _ _ 0 _› rfl ?_ | refine gny_T 8 rfl rfl rfl ?_ | refine gny_F 8 rfl rfl rfl ?_ | refine gny_B 8 rfl rfl rfl ?_ | refine gny_skip 8 rfl rfl ?_ | refine gny_sp 8 rfl rfl rfl ?_ | refine gny_sB 8 rfl rfl rfl ?_ | refine gny_sld 8 rfl rfl rfl rfl ?_ | refine gny_sldH 8 rfl rfl rfl ‹HRow _ _ 0 _› rfl ?_ | refine gny_ldN 8 rfl rfl rfl rfl ?_ | refine gny_bld 8 rfl rfl rfl ?_); (first | refine gny_p 9 rfl rfl rfl ?_ | refine gny_ld 9 rfl rfl rfl rfl ?_ | refine gny_ldH 9 rfl rfl rfl ‹HRow _ _ 0 _› rfl ?_ | refine gny_T 9 rfl rfl rfl ?_ | refine gny_F 9 rfl rfl rfl ?_ | refine gny_B 9 rfl rfl rfl ?_ | refine gny_skip 9 rfl rfl ?_ | refine gny_sp 9 rfl rfl rfl ?_ | refine gny_sB 9 rfl rfl rfl ?_ | refine gny_sld 9 rfl rfl rfl rfl ?_ | refine gny_sldH 9 rfl rfl rfl ‹HRow _ _ 0 _› rfl ?_ | refine gny_ldN 9 rfl rfl rfl rfl ?_ | refine gny_bld 9 rfl rfl rfl ?_); (first | refine gny_p 10 rfl rfl rfl ?_ | refine gny_ld 10 rfl rfl rfl rfl ?_ | refine gny_ldH 10 rfl rfl rfl ‹HRow _ _ 0 _› rfl ?_ | refine gny_T 10 rfl rfl rfl ?_ | refine gny_F 10 rfl rfl rfl ?_ | refine gny_B 10 rfl rfl rfl ?_ | refine gny_skip 10 rfl rfl ?_ | refine gny_sp 10 rfl rfl rfl ?_ | refine gny_sB 10 rfl rfl rfl ?_ | refine gny_sld 10 rfl rfl rfl rfl ?_ | refine gny_sldH 10 rfl rfl rfl ‹HRow _ _ 0 _› rfl ?_ | refine gny_ldN 10 rfl rfl rfl rfl ?_ | refine gny_bld 10 rfl rfl rfl ?_); (first | refine gny_p 11 rfl rfl rfl ?_ | refine gny_ld 11 rfl rfl rfl rfl ?_ | refine gny_ldH 11 rfl rfl rfl ‹HRow _ _ 0 _› rfl ?_ | refine gny_T 11 rfl rfl rfl ?_ | refine gny_F 11 rfl rfl rfl ?_ | refine gny_B 11 rfl rfl rfl ?_ | refine gny_skip 11 rfl rfl ?_ | refine gny_sp 11 rfl rfl rfl ?_ | refine gny_sB 11 rfl rfl rfl ?_ | refine gny_sld 11 rfl rfl rfl rfl ?_ | refine gny_sldH 11 rfl rfl rfl ‹HRow _ _ 0 _› rfl ?_ | refine gny_ldN 11 rfl rfl rfl rfl ?_ | refine gny_bld 11 rfl rfl rfl ?_)
      refine gny_pcall 12 rfl rfl rfl (gPass_spec hT hfk hfk1 hft) ?_
      refine any_app1 13 14 (y := sb (passL x.Cells[k] x.Cells[k + 1] (x.Start + k))) rfl rfl rfl ⟨rfl, by rw [sb_size]; have := passL_len hfk hfk1 hft; simp only [cap47]; omega⟩ (by simp only [List.length_append, List.length_map, List.length_cons, List.length_nil, cap47]; omega) fun b3 c3 => ⟨(by (repeat (first | exact Sub.refl _ | exact Sub.nil _ | (apply sub_pick; (repeat (first | exact Has.here | apply Has.there)); skip) | apply Sub.drop))), ?_⟩
      refine any_rest rfl ?_
      refine walk ?_
      refine out_next hL (k + 1, .slice b3 ((out.map sb ++ [sb (slotL x.Cells[k] (x.Start + k))]).length + 1) c3, out ++ [slotL x.Cells[k] (x.Start + k)] ++ [passL x.Cells[k] x.Cells[k + 1] (x.Start + k)]) ⟨by simp only; omega, ?_, by simp; omega⟩ (hs := ?_)
      · simp only
        rw [← hout, show x.Start + ((k + 1 : Nat) : Int) = x.Start + k + 1 by omega]
        simp
      · simp only [List.map_append, List.map_cons, List.map_nil]
        (repeat (first | exact Sub.refl _ | exact Sub.nil _ | (apply sub_pick; (repeat (first | exact Has.here | apply Has.there)); skip) | apply Sub.drop))
    · have hout2 : out ++ [slotL x.Cells[k] (x.Start + k)] ++ keysFrom (x.Start + (k + 1 : Nat)) (x.Cells.drop (k + 1)) = keysFrom x.Start x.Cells := by
        rw [← hout, List.drop_eq_getElem_cons hk]
        by_cases hk1 : k + 1 < x.Cells.length
        · have hg1 : x.Cells.getD (k + 1) default = x.Cells[k + 1] := by simp [List.getD, hk1]
          rw [hg1] at hq
          have he : x.Cells[k + 1] = x.Cells[k] := Classical.byContradiction fun e => hq ⟨by omega, e⟩
          rw [List.drop_eq_getElem_cons hk1, keysFrom, if_pos he, show x.Start + ((k + 1 : Nat) : Int) = x.Start + k + 1 by omega]
          simp
        · rw [List.drop_eq_nil_of_le (i := k + 1) (by omega), keysFrom, keysFrom]; simp
      refine walk ?_
      refine out_next hL (k + 1, .slice b2 ((out.map sb).length + 1) c2, out ++ [slotL x.Cells[k] (x.Start + k)]) ⟨by simp only; omega, hout2, by simp; omega⟩ (hs := ?_)
      simp only [List.map_append, List.map_cons, List.map_nil]
      (repeat (first | exact Sub.refl _ | exact Sub.nil _ | (apply sub_pick; (repeat (first | exact Has.here | apply Has.there)); skip) | apply Sub.drop))
  · clear hL
    have hke : k = x.Cells.length := by omega
    subst hke
    rw [List.drop_length, keysFrom, List.append_nil] at hout
    refine walk ?_
    refine out_freeze v fun H1 hl1 hf => ?_
    refine fin0 ?_
    refine ⟨?_, rfl⟩
    unfold keysL
    rw [if_pos hp, ← hout]; exact hf
end Go.Proofs.YtadahmihkbpglaaDoor
