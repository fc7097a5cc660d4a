/- RouteCuts, walked. -/
import Derived.Test.YtnfmjkjhiolfdaaDoorRI
import Derived.Test.YtnfmjkjhiolfdaaDoorBG
import Derived.Test.YtnfmjkjhiolfdaaDoorKC
set_option linter.unusedVariables false
set_option linter.unusedSimpArgs false
namespace Go.Proofs.YtnfmjkjhiolfdaaDoor
open Go Go.Sx Go.Proofs
instance : TAr Tryd.prog 41 2 3 := ⟨Tryd.underlying41⟩
theorem cut_later {m : Map} {x : Route} {a b : Int} (h : GoodR m x) : cutR (cutR x a) (max a b) = cutR x (max a b) := by
  have hp := h.plain
  have h1 := h.n24; have h2 := h.s0; have h3 := h.s1
  by_cases hc : (a - x.Start).toNat < x.Cells.length
  · have e : cutR x a = ⟨x.Start + (a - x.Start).toNat, x.Cells.drop (a - x.Start).toNat⟩ := by unfold cutR; rw [if_pos ⟨hp, hc⟩]
    have hp' : plainR (cutR x a) := by
      rcases okR.cut (t := a) (.inr h : okR m x) with h' | h'
      · rw [e] at h'; simp [zRoute] at h'; omega
      · exact h'.plain
    rw [e] at hp' ⊢
    by_cases hb : (max a b - x.Start).toNat < x.Cells.length
    · have e1 : ((max a b) - (x.Start + ((a - x.Start).toNat : Nat))).toNat = (max a b - x.Start).toNat - (a - x.Start).toNat := by omega
      unfold cutR
      rw [if_pos ⟨hp', by simp only [List.length_drop, e1]; omega⟩, if_pos ⟨hp, hb⟩]
      simp only [e1, List.drop_drop]
      congr 1
      · omega
      · congr 1; omega
    · unfold cutR
      rw [if_neg, if_neg (fun h => hb h.2)]
      rintro ⟨_, h4⟩
      simp only [List.length_drop] at h4
      omega
  · have e : cutR x a = zRoute := by unfold cutR; rw [if_neg (fun h => hc h.2)]
    have e2 : cutR x (max a b) = zRoute := by unfold cutR; rw [if_neg (fun h => hc (by have := h.2; omega))]
    rw [e, e2]
    exact cutR_z
theorem cutR_fits {x : Route} {t : Int} : fits (cutR x t).Start := by
  unfold cutR
  split
  · next h => have h1 := h.1; simp only [plainR] at h1; unfold fits; simp only; omega
  · exact fits0
theorem rArr2 {H : Heap} {cs : List Value} {xs : List Int} (h : rArrI 2 H cs xs) : ∃ a b, xs = [a, b] ∧ cs = [I a, I b] ∧ fits a ∧ fits b := by
  obtain ⟨rfl, hl, hf⟩ := h
  match xs, hl with
  | [a, b], _ => exact ⟨a, b, rfl, rfl, hf a (by simp), hf b (by simp)⟩
set_option maxHeartbeats 16000000 in
theorem cuts_spec {W0 : World} {H : Heap} {c d e : List Value} {m : Map} {x : Route} {l : List Int} (hT : TabH Tryd.prog H) (h0 : rMap H c m) (h1 : rRoute H d x) (h2 : rArrI 2 H e l) :
    Ct Tryd.prog 5 #[.agg c.toArray, .agg d.toArray, .agg e.toArray] W0 H [] (fun r H' B => r = .bool true ∧ B = []) := by
  refine Ct.go (vs := [.agg c.toArray, .agg d.toArray, .agg e.toArray]) fun R => ?_
  have g0 := h0
  have g1 := h1
  obtain ⟨a, b, rfl, rfl, fa, fb⟩ := rArr2 h2
  obtain ⟨s0, rfl, f1, f2, f3, h0⟩ := h0
  obtain ⟨s1, rfl, f4, h1⟩ := h1
  refine walk ?_
  refine ops_box rfl rfl fun p3 _ => ?_
  refine ops_box rfl rfl fun p4 _ => ?_
  refine ops_box rfl rfl fun p5 _ => ?_
  refine walk ?_
  refine ops_call (vs := []) rfl rfl (awake13_spec hT) fun r1 H1 B hl1 ⟨er, eB⟩ => ?_
  subst er eB
  refine walk ?_
  refine ops_call (vs := [.agg (x.cv s1).toArray]) rfl rfl (own13_spec (rRoute_up g1 hl1)) fun r2 H2 B hl2 ⟨v2, er, eB, eH⟩ => ?_
  subst er eB eH
  refine ops_shape v2 fun d2 e2 e _ _ _ => ?_
  subst e
  refine ops_freeze (.slice d2 (clipR x).Cells.length e2) fun H3 hl3 hv2 => ?_
  refine walk ?_
  have gx : rRoute H3 [I x.Start, .slice d2 (clipR x).Cells.length e2] (clipR x) := ⟨_, rfl, f4, hv2⟩
  clear hv2
  have cx : clipR (clipR x) = clipR x := clip2
  rw [show x.Start = (clipR x).Start from rfl] at gx ⊢
  generalize clipR x = x' at *
  have hle3 : H.le H3 := hl1.trans hl3
  have hx40 : x'.Cells.length ≤ 40 := by rw [← cx]; simp [clipR]; omega
  clear hl1 hl3 hl2
  refine ops_call (vs := [.agg (m.cv s0).toArray]) rfl rfl (gNew_spec (RdOk.mono (R := rMap) hle3 g0)) fun r4 H4 B hl4 ⟨g, e, er, eB, h⟩ => ?_
  subst er eB
  have hle4 := hle3.trans hl4
  have g4 := RdOk.mono (R := rMap) hle4 g0
  have gx4 := rRoute_up gx hl4
  rcases h with ⟨hm, hG, rfl⟩ | ⟨hm, rfl, rfl⟩
  rotate_left
  · refine walkG ?_
    refine ops_pcall rfl rfl (rGood_spec g4) ?_
    rw [decide_eq_false hm]
    refine walkG ?_
    refine fin0 ?_
    exact ⟨rfl, rfl⟩
  have hGp := hG
  obtain ⟨⟨bg, s, mb, mm, rfl, q1, q2, q3, q4⟩, hgd, hfs⟩ := hGp
  refine walkG ?_
  refine ops_call (vs := [.pointer (some ⟨bg, 0, none⟩), .agg [I x'.Start, .slice d2 x'.Cells.length e2].toArray]) rfl rfl (check_spec hG gx4) fun r5 H5 B hl5 ⟨er, eB⟩ => ?_
  subst er eB
  have hle5 := hle4.trans hl5
  have g5 := RdOk.mono (R := rMap) hle5 g0
  have gx5 := rRoute_up gx4 hl5
  refine walkG ?_
  refine ex_if rfl (fun hq => ?_) (fun hq => ?_)
  · refine walk ?_
    refine ops_pcall rfl rfl (rGood_spec g5) ?_
    rw [decide_eq_true (p := goodM m) hm]
    refine walkG ?_
    refine ops_pcall rfl rfl (rCheck_spec (m := m) g5 gx5 hm.1.1) ?_
    refine walkG ?_
    refine fin0 ?_
    exact ⟨rfl, rfl⟩
  have hcx : GoodR m x' := checkR_ok.1 (Classical.not_not.1 hq)
  refine walk ?_
  refine ops_call (vs := [.agg [I x'.Start, .slice d2 x'.Cells.length e2].toArray, I a]) rfl rfl (cut_spec gx5 fa) fun r6 H6 B hl6 ⟨v6, er, eB⟩ => ?_
  subst er eB
  refine ops_shape v6 fun d6 e6 e _ _ _ => ?_
  subst e
  refine ops_freeze (.slice d6 (cutR x' a).Cells.length e6) fun H7 hl7 hv6 => ?_
  have gc7 : rRoute H7 [I (cutR x' a).Start, .slice d6 (cutR x' a).Cells.length e6] (cutR x' a) := ⟨_, rfl, cutR_fits, hv6⟩
  have hle7 := hle5.trans (hl6.trans hl7)
  have gx7 := rRoute_up gx5 (hl6.trans hl7)
  refine ops_alloc rfl fun p11 _ => ?_
  have hok := okR.cut (t := a) (.inr hcx : okR m x')
  have fm : fits (max a b) := by unfold fits at *; omega
  by_cases hn : 0 < (cutR x' a).Cells.length
  · have hgc : GoodR m (cutR x' a) := by
      rcases hok with h | h
      · rw [h] at hn; simp [zRoute] at hn
      · exact h
    refine walk ?_
    refine ops_call (vs := [.pointer (some ⟨bg, 0, none⟩), .agg [I (cutR x' a).Start, .slice d6 (cutR x' a).Cells.length e6].toArray]) rfl rfl (check_spec (hG.mono (hl5.trans (hl6.trans hl7))) gc7) fun r8 H8 B hl8 ⟨er, eB⟩ => ?_
    subst er eB
    rw [checkR_ok.2 hgc]
    refine walk ?_
    have gc8 := rRoute_up gc7 hl8
    have gx8 := rRoute_up gx7 hl8
    refine ex_any 12 [row p4 26 [I x'.Start, .slice d2 x'.Cells.length e2], row p11 26 [I (cutR x' a).Start, .slice d6 (cutR x' a).Cells.length e6]] ?_
    (first | refine gny_p 0 rfl rfl rfl ?_ | refine gny_ld 0 rfl rfl rfl rfl ?_ | refine gny_ldH 0 rfl rfl rfl ‹HRow _ _ 0 _› rfl ?_ | refine gny_T 0 rfl rfl rfl ?_ | refine gny_F 0 rfl rfl rfl ?_ | refine gny_B 0 rfl rfl rfl ?_ | refine gny_skip 0 rfl rfl ?_ | refine gny_sp 0 rfl rfl rfl ?_ | refine gny_sB 0 rfl rfl rfl ?_ | refine gny_sld 0 rfl rfl rfl rfl ?_ | refine gny_sldH 0 rfl rfl rfl ‹HRow _ _ 0 _› rfl ?_ | refine gny_ldN 0 rfl rfl rfl rfl ?_ | refine gny_bld 0 rfl rfl rfl ?_); (first | refine gny_p 1 rfl rfl rfl ?_ | refine gny_ld 1 rfl rfl rfl rfl ?_ | refine gny_ldH 1 rfl rfl rfl ‹HRow _ _ 0 _› rfl ?_ | refine gny_T 1 rfl rfl rfl ?_ | refine gny_F 1 rfl rfl rfl ?_ | refine gny_B 1 rfl rfl rfl ?_ | refine gny_skip 1 rfl rfl ?_ | refine gny_sp 1 rfl rfl rfl ?_ | refine gny_sB 1 rfl rfl rfl ?_ | refine gny_sld 1 rfl rfl rfl rfl ?_ | refine gny_sldH 1 rfl rfl rfl ‹HRow _ _ 0 _› rfl ?_ | refine gny_ldN 1 rfl rfl rfl rfl ?_ | refine gny_bld 1 rfl rfl rfl ?_); (first | refine gny_p 2 rfl rfl rfl ?_ | refine gny_ld 2 rfl rfl rfl rfl ?_ | refine gny_ldH 2 rfl rfl rfl ‹HRow _ _ 0 _› rfl ?_ | refine gny_T 2 rfl rfl rfl ?_ | refine gny_F 2 rfl rfl rfl ?_ | refine gny_B 2 rfl rfl rfl ?_ | refine gny_skip 2 rfl rfl ?_ | refine gny_sp 2 rfl rfl rfl ?_ | refine gny_sB 2 rfl rfl rfl ?_ | refine gny_sld 2 rfl rfl rfl rfl ?_ | refine gny_sldH 2 rfl rfl rfl ‹HRow _ _ 0 _› rfl ?_ | refine gny_ldN 2 rfl rfl rfl rfl ?_ | refine gny_bld 2 rfl rfl rfl ?_); (first | refine gny_p 3 rfl rfl rfl ?_ | refine gny_ld 3 rfl rfl rfl rfl ?_ | refine gny_ldH 3 rfl rfl rfl ‹HRow _ _ 0 _› rfl ?_ | refine gny_T 3 rfl rfl rfl ?_ | refine gny_F 3 rfl rfl rfl ?_ | refine gny_B 3 rfl rfl rfl ?_ | refine gny_skip 3 rfl rfl ?_ | refine gny_sp 3 rfl rfl rfl ?_ | refine gny_sB 3 rfl rfl rfl ?_ | refine gny_sld 3 rfl rfl rfl rfl ?_ | refine gny_sldH 3 rfl rfl rfl ‹HRow _ _ 0 _› rfl ?_ | refine gny_ldN 3 rfl rfl rfl rfl ?_ | refine gny_bld 3 rfl rfl rfl ?_); (first | refine gny_p 5 rfl rfl rfl ?_ | refine gny_ld 5 rfl rfl rfl rfl ?_ | refine gny_ldH 5 rfl rfl rfl ‹HRow _ _ 0 _› rfl ?_ | refine gny_T 5 rfl rfl rfl ?_ | refine gny_F 5 rfl rfl rfl ?_ | refine gny_B 5 rfl rfl rfl ?_ | refine gny_skip 5 rfl rfl ?_ | refine gny_sp 5 rfl rfl rfl ?_ | refine gny_sB 5 rfl rfl rfl ?_ | refine gny_sld 5 rfl rfl rfl rfl ?_ | refine gny_sldH 5 rfl rfl rfl ‹HRow _ _ 0 _› rfl ?_ | refine gny_ldN 5 rfl rfl rfl rfl ?_ | refine gny_bld 5 rfl rfl rfl ?_); (first | refine gny_p 6 rfl rfl rfl ?_ | refine gny_ld 6 rfl rfl rfl rfl ?_ | refine gny_ldH 6 rfl rfl rfl ‹HRow _ _ 0 _› rfl ?_ | refine gny_T 6 rfl rfl rfl ?_ | refine gny_F 6 rfl rfl rfl ?_ | refine gny_B 6 rfl rfl rfl ?_ | refine gny_skip 6 rfl rfl ?_ | refine gny_sp 6 rfl rfl rfl ?_ | refine gny_sB 6 rfl rfl rfl ?_ | refine gny_sld 6 rfl rfl rfl rfl ?_ | refine gny_sldH 6 rfl rfl rfl ‹HRow _ _ 0 _› rfl ?_ | refine gny_ldN 6 rfl rfl rfl rfl ?_ | refine gny_bld 6 rfl rfl rfl ?_); (first | refine gny_p 7 rfl rfl rfl ?_ | refine gny_ld 7 rfl rfl rfl rfl ?_ | refine gny_ldH 7 rfl rfl rfl ‹HRow _ _ 0 _› rfl ?_ | refine gny_T 7 rfl rfl rfl ?_ | refine gny_F 7 rfl rfl rfl ?_ | refine gny_B 7 rfl rfl rfl ?_ | refine gny_skip 7 rfl rfl ?_ | refine gny_sp 7 rfl rfl rfl ?_ | refine gny_sB 7 rfl rfl rfl ?_ | refine gny_sld 7 rfl rfl rfl rfl ?_ | refine gny_sldH 7 rfl rfl rfl ‹HRow _ _ 0 _› rfl ?_ | refine gny_ldN 7 rfl rfl rfl rfl ?_ | refine gny_bld 7 rfl rfl rfl ?_); (first | refine gny_p 8 rfl rfl rfl ?_ | refine gny_ld 8 rfl rfl rfl rfl ?_ | refine gny_ldH 8 rfl rfl rfl ‹HRow _ _ 0 _› rfl ?_ | refine gny_T 8 rfl rfl rfl ?_ | refine gny_F 8 rfl rfl rfl ?_ | refine gny_B 8 rfl rfl rfl ?_ | refine gny_skip 8 rfl rfl ?_ | refine gny_sp 8 rfl rfl rfl ?_ | refine gny_sB 8 rfl rfl rfl ?_ | refine gny_sld 8 rfl rfl rfl rfl ?_ | refine gny_sldH 8 rfl rfl rfl ‹HRow _ _ 0 _› rfl ?_ | refine gny_ldN 8 rfl rfl rfl rfl ?_ | refine gny_bld 8 rfl rfl rfl ?_)
    refine gny_call (vs := [.agg [I (cutR x' a).Start, .slice d6 (cutR x' a).Cells.length e6].toArray, I (max a b)]) 4 rfl rfl rfl (cut_spec gc8 fm) fun r9 H9 B hl9 ⟨v9, er, eB⟩ => ?_
    subst er eB
    refine ⟨(by (repeat (first | exact Sub.refl _ | exact Sub.nil _ | (apply sub_pick; (repeat (first | exact Has.here | apply Has.there)); skip) | apply Sub.drop))), ?_⟩
    refine any_freeze v9 fun H10 hl10 hv9 => ?_
    refine gny_call (vs := [.agg [I x'.Start, .slice d2 x'.Cells.length e2].toArray, I (max a b)]) 9 rfl rfl rfl (cut_spec (rRoute_up gx8 (hl9.trans hl10)) fm) fun r11 H11 B hl11 ⟨v11, er, eB⟩ => ?_
    subst er eB
    refine ⟨(by (repeat (first | exact Sub.refl _ | exact Sub.nil _ | (apply sub_pick; (repeat (first | exact Has.here | apply Has.there)); skip) | apply Sub.drop))), ?_⟩
    refine any_freeze v11 fun H12 hl12 hv11 => ?_
    refine gny_pcall 10 rfl rfl rfl (sameRoute_spec (x := cutR (cutR x' a) (max a b)) (y := cutR x' (max a b)) ⟨_, rfl, cutR_fits, hv9.mono (hl11.trans hl12)⟩ ⟨_, rfl, cutR_fits, hv11⟩) ?_
    rw [decide_eq_true (p := _ = _) (cut_later hcx)]
    (first | refine gny_p 11 rfl rfl rfl ?_ | refine gny_ld 11 rfl rfl rfl rfl ?_ | refine gny_ldH 11 rfl rfl rfl ‹HRow _ _ 0 _› rfl ?_ | refine gny_T 11 rfl rfl rfl ?_ | refine gny_F 11 rfl rfl rfl ?_ | refine gny_B 11 rfl rfl rfl ?_ | refine gny_skip 11 rfl rfl ?_ | refine gny_sp 11 rfl rfl rfl ?_ | refine gny_sB 11 rfl rfl rfl ?_ | refine gny_sld 11 rfl rfl rfl rfl ?_ | refine gny_sldH 11 rfl rfl rfl ‹HRow _ _ 0 _› rfl ?_ | refine gny_ldN 11 rfl rfl rfl rfl ?_ | refine gny_bld 11 rfl rfl rfl ?_)
    refine any_rest rfl ?_
    refine walk ?_
    have hwl : IntKind.u64.wrap ((x'.Cells.length : Int) + 1) = x'.Cells.length + 1 := by simp [IntKind.wrap, IntKind.bits, IntKind.signed]; omega
    rw [hwl]
    obtain ⟨j, hj, hjl⟩ : ∃ j : Nat, (IntKind.u64.wrap a).tmod ((x'.Cells.length : Int) + 1) = j ∧ j ≤ x'.Cells.length := by
      have hw : 0 ≤ IntKind.u64.wrap a := by simp [IntKind.wrap, IntKind.bits, IntKind.signed]; omega
      refine ⟨((IntKind.u64.wrap a).tmod ((x'.Cells.length : Int) + 1)).toNat, ?_, ?_⟩ <;> rw [Int.tmod_eq_emod_of_nonneg hw]
      · have := Int.emod_nonneg (IntKind.u64.wrap a) (b := (x'.Cells.length : Int) + 1) (by omega); omega
      · have := Int.emod_lt_of_pos (IntKind.u64.wrap a) (b := (x'.Cells.length : Int) + 1) (by omega); omega
    have hfit : fits ((IntKind.u64.wrap a).tmod ((x'.Cells.length : Int) + 1)) := by rw [hj]; unfold fits; omega
    have hpos : (0 : Int) < (x'.Cells.length : Int) + 1 := by omega
    refine walk ?_
    rw [hj]
    refine walk ?_
    have gx12 := rRoute_up gx8 (hl9.trans (hl10.trans (hl11.trans hl12)))
    have kx : SlB rInt 1 8 H12 (.slice d2 x'.Cells.length e2) x'.Cells := by obtain ⟨s, e, _, h⟩ := gx12; cases e; exact h
    obtain ⟨_, _, ee, hce, hde⟩ := kx.1.shape
    cases ee
    have hsl := kx.1.slc (l := j) (h := x'.Cells.length) (by omega) (by omega)
    rw [show (x'.Cells.drop j).take (x'.Cells.length - j) = x'.Cells.drop j from List.take_of_length_le (by simp)] at hsl
    have hs3 : SlB rInt 1 8 H12 (slc d2 e2 (j : Int).toNat (x'.Cells.length : Int).toNat 1) (x'.Cells.drop j) := ⟨hsl, by have := kx.2; simp only [List.length_drop]; omega⟩
    have fs : fits x'.Start := rRoute.fits0 gx12
    have hsr : rRoute H12 [I x'.Start, .slice d2 j e2] ⟨x'.Start, x'.Cells.take j⟩ := ⟨_, rfl, fs, slr_take kx.1 hjl, by have := kx.2; simp only [List.length_take]; omega⟩
    have hjn := join_spec (W0 := W0) hsr hs3 (by simp only [List.length_take, List.length_drop, cap47]; omega)
    simp only [List.take_append_drop] at hjn
    refine ex_any 14 [row p4 26 [I x'.Start, .slice d2 x'.Cells.length e2]] ?_
    (first | refine gny_p 0 rfl rfl rfl ?_ | refine gny_ld 0 rfl rfl rfl rfl ?_ | refine gny_ldH 0 rfl rfl rfl ‹HRow _ _ 0 _› rfl ?_ | refine gny_T 0 rfl rfl rfl ?_ | refine gny_F 0 rfl rfl rfl ?_ | refine gny_B 0 rfl rfl rfl ?_ | refine gny_skip 0 rfl rfl ?_ | refine gny_sp 0 rfl rfl rfl ?_ | refine gny_sB 0 rfl rfl rfl ?_ | refine gny_sld 0 rfl rfl rfl rfl ?_ | refine gny_sldH 0 rfl rfl rfl ‹HRow _ _ 0 _› rfl ?_ | refine gny_ldN 0 rfl rfl rfl rfl ?_ | refine gny_bld 0 rfl rfl rfl ?_); (first | refine gny_p 1 rfl rfl rfl ?_ | refine gny_ld 1 rfl rfl rfl rfl ?_ | refine gny_ldH 1 rfl rfl rfl ‹HRow _ _ 0 _› rfl ?_ | refine gny_T 1 rfl rfl rfl ?_ | refine gny_F 1 rfl rfl rfl ?_ | refine gny_B 1 rfl rfl rfl ?_ | refine gny_skip 1 rfl rfl ?_ | refine gny_sp 1 rfl rfl rfl ?_ | refine gny_sB 1 rfl rfl rfl ?_ | refine gny_sld 1 rfl rfl rfl rfl ?_ | refine gny_sldH 1 rfl rfl rfl ‹HRow _ _ 0 _› rfl ?_ | refine gny_ldN 1 rfl rfl rfl rfl ?_ | refine gny_bld 1 rfl rfl rfl ?_); (first | refine gny_p 2 rfl rfl rfl ?_ | refine gny_ld 2 rfl rfl rfl rfl ?_ | refine gny_ldH 2 rfl rfl rfl ‹HRow _ _ 0 _› rfl ?_ | refine gny_T 2 rfl rfl rfl ?_ | refine gny_F 2 rfl rfl rfl ?_ | refine gny_B 2 rfl rfl rfl ?_ | refine gny_skip 2 rfl rfl ?_ | refine gny_sp 2 rfl rfl rfl ?_ | refine gny_sB 2 rfl rfl rfl ?_ | refine gny_sld 2 rfl rfl rfl rfl ?_ | refine gny_sldH 2 rfl rfl rfl ‹HRow _ _ 0 _› rfl ?_ | refine gny_ldN 2 rfl rfl rfl rfl ?_ | refine gny_bld 2 rfl rfl rfl ?_); (first | refine gny_p 3 rfl rfl rfl ?_ | refine gny_ld 3 rfl rfl rfl rfl ?_ | refine gny_ldH 3 rfl rfl rfl ‹HRow _ _ 0 _› rfl ?_ | refine gny_T 3 rfl rfl rfl ?_ | refine gny_F 3 rfl rfl rfl ?_ | refine gny_B 3 rfl rfl rfl ?_ | refine gny_skip 3 rfl rfl ?_ | refine gny_sp 3 rfl rfl rfl ?_ | refine gny_sB 3 rfl rfl rfl ?_ | refine gny_sld 3 rfl rfl rfl rfl ?_ | refine gny_sldH 3 rfl rfl rfl ‹HRow _ _ 0 _› rfl ?_ | refine gny_ldN 3 rfl rfl rfl rfl ?_ | refine gny_bld 3 rfl rfl rfl ?_); (first | refine gny_p 4 rfl rfl rfl ?_ | refine gny_ld 4 rfl rfl rfl rfl ?_ | refine gny_ldH 4 rfl rfl rfl ‹HRow _ _ 0 _› rfl ?_ | refine gny_T 4 rfl rfl rfl ?_ | refine gny_F 4 rfl rfl rfl ?_ | refine gny_B 4 rfl rfl rfl ?_ | refine gny_skip 4 rfl rfl ?_ | refine gny_sp 4 rfl rfl rfl ?_ | refine gny_sB 4 rfl rfl rfl ?_ | refine gny_sld 4 rfl rfl rfl rfl ?_ | refine gny_sldH 4 rfl rfl rfl ‹HRow _ _ 0 _› rfl ?_ | refine gny_ldN 4 rfl rfl rfl rfl ?_ | refine gny_bld 4 rfl rfl rfl ?_); (first | refine gny_p 5 rfl rfl rfl ?_ | refine gny_ld 5 rfl rfl rfl rfl ?_ | refine gny_ldH 5 rfl rfl rfl ‹HRow _ _ 0 _› rfl ?_ | refine gny_T 5 rfl rfl rfl ?_ | refine gny_F 5 rfl rfl rfl ?_ | refine gny_B 5 rfl rfl rfl ?_ | refine gny_skip 5 rfl rfl ?_ | refine gny_sp 5 rfl rfl rfl ?_ | refine gny_sB 5 rfl rfl rfl ?_ | refine gny_sld 5 rfl rfl rfl rfl ?_ | refine gny_sldH 5 rfl rfl rfl ‹HRow _ _ 0 _› rfl ?_ | refine gny_ldN 5 rfl rfl rfl rfl ?_ | refine gny_bld 5 rfl rfl rfl ?_); (first | refine gny_p 6 rfl rfl rfl ?_ | refine gny_ld 6 rfl rfl rfl rfl ?_ | refine gny_ldH 6 rfl rfl rfl ‹HRow _ _ 0 _› rfl ?_ | refine gny_T 6 rfl rfl rfl ?_ | refine gny_F 6 rfl rfl rfl ?_ | refine gny_B 6 rfl rfl rfl ?_ | refine gny_skip 6 rfl rfl ?_ | refine gny_sp 6 rfl rfl rfl ?_ | refine gny_sB 6 rfl rfl rfl ?_ | refine gny_sld 6 rfl rfl rfl rfl ?_ | refine gny_sldH 6 rfl rfl rfl ‹HRow _ _ 0 _› rfl ?_ | refine gny_ldN 6 rfl rfl rfl rfl ?_ | refine gny_bld 6 rfl rfl rfl ?_); (first | refine gny_p 7 rfl rfl rfl ?_ | refine gny_ld 7 rfl rfl rfl rfl ?_ | refine gny_ldH 7 rfl rfl rfl ‹HRow _ _ 0 _› rfl ?_ | refine gny_T 7 rfl rfl rfl ?_ | refine gny_F 7 rfl rfl rfl ?_ | refine gny_B 7 rfl rfl rfl ?_ | refine gny_skip 7 rfl rfl ?_ | refine gny_sp 7 rfl rfl rfl ?_ | refine gny_sB 7 rfl rfl rfl ?_ | refine gny_sld 7 rfl rfl rfl rfl ?_ | refine gny_sldH 7 rfl rfl rfl ‹HRow _ _ 0 _› rfl ?_ | refine gny_ldN 7 rfl rfl rfl rfl ?_ | refine gny_bld 7 rfl rfl rfl ?_); (first | refine gny_p 8 rfl rfl rfl ?_ | refine gny_ld 8 rfl rfl rfl rfl ?_ | refine gny_ldH 8 rfl rfl rfl ‹HRow _ _ 0 _› rfl ?_ | refine gny_T 8 rfl rfl rfl ?_ | refine gny_F 8 rfl rfl rfl ?_ | refine gny_B 8 rfl rfl rfl ?_ | refine gny_skip 8 rfl rfl ?_ | refine gny_sp 8 rfl rfl rfl ?_ | refine gny_sB 8 rfl rfl rfl ?_ | refine gny_sld 8 rfl rfl rfl rfl ?_ | refine gny_sldH 8 rfl rfl rfl ‹HRow _ _ 0 _› rfl ?_ | refine gny_ldN 8 rfl rfl rfl rfl ?_ | refine gny_bld 8 rfl rfl rfl ?_); (first | refine gny_p 9 rfl rfl rfl ?_ | refine gny_ld 9 rfl rfl rfl rfl ?_ | refine gny_ldH 9 rfl rfl rfl ‹HRow _ _ 0 _› rfl ?_ | refine gny_T 9 rfl rfl rfl ?_ | refine gny_F 9 rfl rfl rfl ?_ | refine gny_B 9 rfl rfl rfl ?_ | refine gny_skip 9 rfl rfl ?_ | refine gny_sp 9 rfl rfl rfl ?_ | refine gny_sB 9 rfl rfl rfl ?_ | refine gny_sld 9 rfl rfl rfl rfl ?_ | refine gny_sldH 9 rfl rfl rfl ‹HRow _ _ 0 _› rfl ?_ | refine gny_ldN 9 rfl rfl rfl rfl ?_ | refine gny_bld 9 rfl rfl rfl ?_)
    refine gny_pure 10 rfl rfl (op_slice (l := (j : Int)) (h := (x'.Cells.length : Int)) rfl rfl rfl (by omega) (by omega) (by omega)) ?_ (by decide +kernel) (fun _ _ _ h => h) (.refl _) (by (repeat (first | exact Sub.refl _ | exact Sub.nil _ | (apply sub_pick; (repeat (first | exact Has.here | apply Has.there)); skip) | apply Sub.drop))) rfl
    (first | refine gny_p 12 rfl rfl rfl ?_ | refine gny_ld 12 rfl rfl rfl rfl ?_ | refine gny_ldH 12 rfl rfl rfl ‹HRow _ _ 0 _› rfl ?_ | refine gny_T 12 rfl rfl rfl ?_ | refine gny_F 12 rfl rfl rfl ?_ | refine gny_B 12 rfl rfl rfl ?_ | refine gny_skip 12 rfl rfl ?_ | refine gny_sp 12 rfl rfl rfl ?_ | refine gny_sB 12 rfl rfl rfl ?_ | refine gny_sld 12 rfl rfl rfl rfl ?_ | refine gny_sldH 12 rfl rfl rfl ‹HRow _ _ 0 _› rfl ?_ | refine gny_ldN 12 rfl rfl rfl rfl ?_ | refine gny_bld 12 rfl rfl rfl ?_)
    refine gny_call (vs := [.agg [I x'.Start, .slice d2 j e2].toArray, slc d2 e2 (j : Int).toNat (x'.Cells.length : Int).toNat 1]) 11 rfl rfl rfl hjn fun r13 H13 B hl13 ⟨v13, er, eB⟩ => ?_
    subst er eB
    refine ⟨(by (repeat (first | exact Sub.refl _ | exact Sub.nil _ | (apply sub_pick; (repeat (first | exact Has.here | apply Has.there)); skip) | apply Sub.drop))), ?_⟩
    refine any_freeze v13 fun H14 hl14 hv13 => ?_
    refine gny_pcall 13 rfl rfl rfl (sameRoute_spec (x := x') (y := x') ⟨_, rfl, rRoute.fits0 gx12, hv13⟩ (rRoute_up gx12 (hl13.trans hl14))) ?_
    rw [decide_eq_true (p := _ = _) rfl]
    refine any_rest rfl ?_
    refine walk ?_
    refine fin0 ?_
    exact ⟨rfl, rfl⟩
  · have hz : cutR x' a = zRoute := by
      rcases hok with h | h
      · exact h
      · exact absurd (by have := h.n0; exact List.length_pos_iff.2 this) hn
    have hz1 : (cutR x' a).Start = 0 := by rw [hz]; rfl
    have hz2 : (cutR x' a).Cells.length = 0 := by rw [hz]; rfl
    refine walk ?_
    have gc8 := rRoute_up gc7 (Heap.le.refl H7)
    have gx8 := rRoute_up gx7 (Heap.le.refl H7)
    refine ex_any 12 [row p4 26 [I x'.Start, .slice d2 x'.Cells.length e2], row p11 26 [I (cutR x' a).Start, .slice d6 (cutR x' a).Cells.length e6]] ?_
    (first | refine gny_p 0 rfl rfl rfl ?_ | refine gny_ld 0 rfl rfl rfl rfl ?_ | refine gny_ldH 0 rfl rfl rfl ‹HRow _ _ 0 _› rfl ?_ | refine gny_T 0 rfl rfl rfl ?_ | refine gny_F 0 rfl rfl rfl ?_ | refine gny_B 0 rfl rfl rfl ?_ | refine gny_skip 0 rfl rfl ?_ | refine gny_sp 0 rfl rfl rfl ?_ | refine gny_sB 0 rfl rfl rfl ?_ | refine gny_sld 0 rfl rfl rfl rfl ?_ | refine gny_sldH 0 rfl rfl rfl ‹HRow _ _ 0 _› rfl ?_ | refine gny_ldN 0 rfl rfl rfl rfl ?_ | refine gny_bld 0 rfl rfl rfl ?_); (first | refine gny_p 1 rfl rfl rfl ?_ | refine gny_ld 1 rfl rfl rfl rfl ?_ | refine gny_ldH 1 rfl rfl rfl ‹HRow _ _ 0 _› rfl ?_ | refine gny_T 1 rfl rfl rfl ?_ | refine gny_F 1 rfl rfl rfl ?_ | refine gny_B 1 rfl rfl rfl ?_ | refine gny_skip 1 rfl rfl ?_ | refine gny_sp 1 rfl rfl rfl ?_ | refine gny_sB 1 rfl rfl rfl ?_ | refine gny_sld 1 rfl rfl rfl rfl ?_ | refine gny_sldH 1 rfl rfl rfl ‹HRow _ _ 0 _› rfl ?_ | refine gny_ldN 1 rfl rfl rfl rfl ?_ | refine gny_bld 1 rfl rfl rfl ?_); (first | refine gny_p 2 rfl rfl rfl ?_ | refine gny_ld 2 rfl rfl rfl rfl ?_ | refine gny_ldH 2 rfl rfl rfl ‹HRow _ _ 0 _› rfl ?_ | refine gny_T 2 rfl rfl rfl ?_ | refine gny_F 2 rfl rfl rfl ?_ | refine gny_B 2 rfl rfl rfl ?_ | refine gny_skip 2 rfl rfl ?_ | refine gny_sp 2 rfl rfl rfl ?_ | refine gny_sB 2 rfl rfl rfl ?_ | refine gny_sld 2 rfl rfl rfl rfl ?_ | refine gny_sldH 2 rfl rfl rfl ‹HRow _ _ 0 _› rfl ?_ | refine gny_ldN 2 rfl rfl rfl rfl ?_ | refine gny_bld 2 rfl rfl rfl ?_); (first | refine gny_p 3 rfl rfl rfl ?_ | refine gny_ld 3 rfl rfl rfl rfl ?_ | refine gny_ldH 3 rfl rfl rfl ‹HRow _ _ 0 _› rfl ?_ | refine gny_T 3 rfl rfl rfl ?_ | refine gny_F 3 rfl rfl rfl ?_ | refine gny_B 3 rfl rfl rfl ?_ | refine gny_skip 3 rfl rfl ?_ | refine gny_sp 3 rfl rfl rfl ?_ | refine gny_sB 3 rfl rfl rfl ?_ | refine gny_sld 3 rfl rfl rfl rfl ?_ | refine gny_sldH 3 rfl rfl rfl ‹HRow _ _ 0 _› rfl ?_ | refine gny_ldN 3 rfl rfl rfl rfl ?_ | refine gny_bld 3 rfl rfl rfl ?_); (first | refine gny_p 5 rfl rfl rfl ?_ | refine gny_ld 5 rfl rfl rfl rfl ?_ | refine gny_ldH 5 rfl rfl rfl ‹HRow _ _ 0 _› rfl ?_ | refine gny_T 5 rfl rfl rfl ?_ | refine gny_F 5 rfl rfl rfl ?_ | refine gny_B 5 rfl rfl rfl ?_ | refine gny_skip 5 rfl rfl ?_ | refine gny_sp 5 rfl rfl rfl ?_ | refine gny_sB 5 rfl rfl rfl ?_ | refine gny_sld 5 rfl rfl rfl rfl ?_ | refine gny_sldH 5 rfl rfl rfl ‹HRow _ _ 0 _› rfl ?_ | refine gny_ldN 5 rfl rfl rfl rfl ?_ | refine gny_bld 5 rfl rfl rfl ?_); (first | refine gny_p 6 rfl rfl rfl ?_ | refine gny_ld 6 rfl rfl rfl rfl ?_ | refine gny_ldH 6 rfl rfl rfl ‹HRow _ _ 0 _› rfl ?_ | refine gny_T 6 rfl rfl rfl ?_ | refine gny_F 6 rfl rfl rfl ?_ | refine gny_B 6 rfl rfl rfl ?_ | refine gny_skip 6 rfl rfl ?_ | refine gny_sp 6 rfl rfl rfl ?_ | refine gny_sB 6 rfl rfl rfl ?_ | refine gny_sld 6 rfl rfl rfl rfl ?_ | refine gny_sldH 6 rfl rfl rfl ‹HRow _ _ 0 _› rfl ?_ | refine gny_ldN 6 rfl rfl rfl rfl ?_ | refine gny_bld 6 rfl rfl rfl ?_); (first | refine gny_p 7 rfl rfl rfl ?_ | refine gny_ld 7 rfl rfl rfl rfl ?_ | refine gny_ldH 7 rfl rfl rfl ‹HRow _ _ 0 _› rfl ?_ | refine gny_T 7 rfl rfl rfl ?_ | refine gny_F 7 rfl rfl rfl ?_ | refine gny_B 7 rfl rfl rfl ?_ | refine gny_skip 7 rfl rfl ?_ | refine gny_sp 7 rfl rfl rfl ?_ | refine gny_sB 7 rfl rfl rfl ?_ | refine gny_sld 7 rfl rfl rfl rfl ?_ | refine gny_sldH 7 rfl rfl rfl ‹HRow _ _ 0 _› rfl ?_ | refine gny_ldN 7 rfl rfl rfl rfl ?_ | refine gny_bld 7 rfl rfl rfl ?_); (first | refine gny_p 8 rfl rfl rfl ?_ | refine gny_ld 8 rfl rfl rfl rfl ?_ | refine gny_ldH 8 rfl rfl rfl ‹HRow _ _ 0 _› rfl ?_ | refine gny_T 8 rfl rfl rfl ?_ | refine gny_F 8 rfl rfl rfl ?_ | refine gny_B 8 rfl rfl rfl ?_ | refine gny_skip 8 rfl rfl ?_ | refine gny_sp 8 rfl rfl rfl ?_ | refine gny_sB 8 rfl rfl rfl ?_ | refine gny_sld 8 rfl rfl rfl rfl ?_ | refine gny_sldH 8 rfl rfl rfl ‹HRow _ _ 0 _› rfl ?_ | refine gny_ldN 8 rfl rfl rfl rfl ?_ | refine gny_bld 8 rfl rfl rfl ?_)
    refine gny_call (vs := [.agg [I (cutR x' a).Start, .slice d6 (cutR x' a).Cells.length e6].toArray, I (max a b)]) 4 rfl rfl rfl (cut_spec gc8 fm) fun r9 H9 B hl9 ⟨v9, er, eB⟩ => ?_
    subst er eB
    refine ⟨(by (repeat (first | exact Sub.refl _ | exact Sub.nil _ | (apply sub_pick; (repeat (first | exact Has.here | apply Has.there)); skip) | apply Sub.drop))), ?_⟩
    refine any_freeze v9 fun H10 hl10 hv9 => ?_
    refine gny_call (vs := [.agg [I x'.Start, .slice d2 x'.Cells.length e2].toArray, I (max a b)]) 9 rfl rfl rfl (cut_spec (rRoute_up gx8 (hl9.trans hl10)) fm) fun r11 H11 B hl11 ⟨v11, er, eB⟩ => ?_
    subst er eB
    refine ⟨(by (repeat (first | exact Sub.refl _ | exact Sub.nil _ | (apply sub_pick; (repeat (first | exact Has.here | apply Has.there)); skip) | apply Sub.drop))), ?_⟩
    refine any_freeze v11 fun H12 hl12 hv11 => ?_
    refine gny_pcall 10 rfl rfl rfl (sameRoute_spec (x := cutR (cutR x' a) (max a b)) (y := cutR x' (max a b)) ⟨_, rfl, cutR_fits, hv9.mono (hl11.trans hl12)⟩ ⟨_, rfl, cutR_fits, hv11⟩) ?_
    rw [decide_eq_true (p := _ = _) (cut_later hcx)]
    (first | refine gny_p 11 rfl rfl rfl ?_ | refine gny_ld 11 rfl rfl rfl rfl ?_ | refine gny_ldH 11 rfl rfl rfl ‹HRow _ _ 0 _› rfl ?_ | refine gny_T 11 rfl rfl rfl ?_ | refine gny_F 11 rfl rfl rfl ?_ | refine gny_B 11 rfl rfl rfl ?_ | refine gny_skip 11 rfl rfl ?_ | refine gny_sp 11 rfl rfl rfl ?_ | refine gny_sB 11 rfl rfl rfl ?_ | refine gny_sld 11 rfl rfl rfl rfl ?_ | refine gny_sldH 11 rfl rfl rfl ‹HRow _ _ 0 _› rfl ?_ | refine gny_ldN 11 rfl rfl rfl rfl ?_ | refine gny_bld 11 rfl rfl rfl ?_)
    refine any_rest rfl ?_
    refine walk ?_
    have hwl : IntKind.u64.wrap ((x'.Cells.length : Int) + 1) = x'.Cells.length + 1 := by simp [IntKind.wrap, IntKind.bits, IntKind.signed]; omega
    rw [hwl]
    obtain ⟨j, hj, hjl⟩ : ∃ j : Nat, (IntKind.u64.wrap a).tmod ((x'.Cells.length : Int) + 1) = j ∧ j ≤ x'.Cells.length := by
      have hw : 0 ≤ IntKind.u64.wrap a := by simp [IntKind.wrap, IntKind.bits, IntKind.signed]; omega
      refine ⟨((IntKind.u64.wrap a).tmod ((x'.Cells.length : Int) + 1)).toNat, ?_, ?_⟩ <;> rw [Int.tmod_eq_emod_of_nonneg hw]
      · have := Int.emod_nonneg (IntKind.u64.wrap a) (b := (x'.Cells.length : Int) + 1) (by omega); omega
      · have := Int.emod_lt_of_pos (IntKind.u64.wrap a) (b := (x'.Cells.length : Int) + 1) (by omega); omega
    have hfit : fits ((IntKind.u64.wrap a).tmod ((x'.Cells.length : Int) + 1)) := by rw [hj]; unfold fits; omega
    have hpos : (0 : Int) < (x'.Cells.length : Int) + 1 := by omega
    refine walk ?_
    rw [hj]
    refine walk ?_
    have gx12 := rRoute_up gx8 (hl9.trans (hl10.trans (hl11.trans hl12)))
    have kx : SlB rInt 1 8 H12 (.slice d2 x'.Cells.length e2) x'.Cells := by obtain ⟨s, e, _, h⟩ := gx12; cases e; exact h
    obtain ⟨_, _, ee, hce, hde⟩ := kx.1.shape
    cases ee
    have hsl := kx.1.slc (l := j) (h := x'.Cells.length) (by omega) (by omega)
    rw [show (x'.Cells.drop j).take (x'.Cells.length - j) = x'.Cells.drop j from List.take_of_length_le (by simp)] at hsl
    have hs3 : SlB rInt 1 8 H12 (slc d2 e2 (j : Int).toNat (x'.Cells.length : Int).toNat 1) (x'.Cells.drop j) := ⟨hsl, by have := kx.2; simp only [List.length_drop]; omega⟩
    have fs : fits x'.Start := rRoute.fits0 gx12
    have hsr : rRoute H12 [I x'.Start, .slice d2 j e2] ⟨x'.Start, x'.Cells.take j⟩ := ⟨_, rfl, fs, slr_take kx.1 hjl, by have := kx.2; simp only [List.length_take]; omega⟩
    have hjn := join_spec (W0 := W0) hsr hs3 (by simp only [List.length_take, List.length_drop, cap47]; omega)
    simp only [List.take_append_drop] at hjn
    refine ex_any 14 [row p4 26 [I x'.Start, .slice d2 x'.Cells.length e2]] ?_
    (first | refine gny_p 0 rfl rfl rfl ?_ | refine gny_ld 0 rfl rfl rfl rfl ?_ | refine gny_ldH 0 rfl rfl rfl ‹HRow _ _ 0 _› rfl ?_ | refine gny_T 0 rfl rfl rfl ?_ | refine gny_F 0 rfl rfl rfl ?_ | refine gny_B 0 rfl rfl rfl ?_ | refine gny_skip 0 rfl rfl ?_ | refine gny_sp 0 rfl rfl rfl ?_ | refine gny_sB 0 rfl rfl rfl ?_ | refine gny_sld 0 rfl rfl rfl rfl ?_ | refine gny_sldH 0 rfl rfl rfl ‹HRow _ _ 0 _› rfl ?_ | refine gny_ldN 0 rfl rfl rfl rfl ?_ | refine gny_bld 0 rfl rfl rfl ?_); (first | refine gny_p 1 rfl rfl rfl ?_ | refine gny_ld 1 rfl rfl rfl rfl ?_ | refine gny_ldH 1 rfl rfl rfl ‹HRow _ _ 0 _› rfl ?_ | refine gny_T 1 rfl rfl rfl ?_ | refine gny_F 1 rfl rfl rfl ?_ | refine gny_B 1 rfl rfl rfl ?_ | refine gny_skip 1 rfl rfl ?_ | refine gny_sp 1 rfl rfl rfl ?_ | refine gny_sB 1 rfl rfl rfl ?_ | refine gny_sld 1 rfl rfl rfl rfl ?_ | refine gny_sldH 1 rfl rfl rfl ‹HRow _ _ 0 _› rfl ?_ | refine gny_ldN 1 rfl rfl rfl rfl ?_ | refine gny_bld 1 rfl rfl rfl ?_); (first | refine gny_p 2 rfl rfl rfl ?_ | refine gny_ld 2 rfl rfl rfl rfl ?_ | refine gny_ldH 2 rfl rfl rfl ‹HRow _ _ 0 _› rfl ?_ | refine gny_T 2 rfl rfl rfl ?_ | refine gny_F 2 rfl rfl rfl ?_ | refine gny_B 2 rfl rfl rfl ?_ | refine gny_skip 2 rfl rfl ?_ | refine gny_sp 2 rfl rfl rfl ?_ | refine gny_sB 2 rfl rfl rfl ?_ | refine gny_sld 2 rfl rfl rfl rfl ?_ | refine gny_sldH 2 rfl rfl rfl ‹HRow _ _ 0 _› rfl ?_ | refine gny_ldN 2 rfl rfl rfl rfl ?_ | refine gny_bld 2 rfl rfl rfl ?_); (first | refine gny_p 3 rfl rfl rfl ?_ | refine gny_ld 3 rfl rfl rfl rfl ?_ | refine gny_ldH 3 rfl rfl rfl ‹HRow _ _ 0 _› rfl ?_ | refine gny_T 3 rfl rfl rfl ?_ | refine gny_F 3 rfl rfl rfl ?_ | refine gny_B 3 rfl rfl rfl ?_ | refine gny_skip 3 rfl rfl ?_ | refine gny_sp 3 rfl rfl rfl ?_ | refine gny_sB 3 rfl rfl rfl ?_ | refine gny_sld 3 rfl rfl rfl rfl ?_ | refine gny_sldH 3 rfl rfl rfl ‹HRow _ _ 0 _› rfl ?_ | refine gny_ldN 3 rfl rfl rfl rfl ?_ | refine gny_bld 3 rfl rfl rfl ?_); (first | refine gny_p 4 rfl rfl rfl ?_ | refine gny_ld 4 rfl rfl rfl rfl ?_ | refine gny_ldH 4 rfl rfl rfl ‹HRow _ _ 0 _› rfl ?_ | refine gny_T 4 rfl rfl rfl ?_ | refine gny_F 4 rfl rfl rfl ?_ | refine gny_B 4 rfl rfl rfl ?_ | refine gny_skip 4 rfl rfl ?_ | refine gny_sp 4 rfl rfl rfl ?_ | refine gny_sB 4 rfl rfl rfl ?_ | refine gny_sld 4 rfl rfl rfl rfl ?_ | refine gny_sldH 4 rfl rfl rfl ‹HRow _ _ 0 _› rfl ?_ | refine gny_ldN 4 rfl rfl rfl rfl ?_ | refine gny_bld 4 rfl rfl rfl ?_); (first | refine gny_p 5 rfl rfl rfl ?_ | refine gny_ld 5 rfl rfl rfl rfl ?_ | refine gny_ldH 5 rfl rfl rfl ‹HRow _ _ 0 _› rfl ?_ | refine gny_T 5 rfl rfl rfl ?_ | refine gny_F 5 rfl rfl rfl ?_ | refine gny_B 5 rfl rfl rfl ?_ | refine gny_skip 5 rfl rfl ?_ | refine gny_sp 5 rfl rfl rfl ?_ | refine gny_sB 5 rfl rfl rfl ?_ | refine gny_sld 5 rfl rfl rfl rfl ?_ | refine gny_sldH 5 rfl rfl rfl ‹HRow _ _ 0 _› rfl ?_ | refine gny_ldN 5 rfl rfl rfl rfl ?_ | refine gny_bld 5 rfl rfl rfl ?_); (first | refine gny_p 6 rfl rfl rfl ?_ | refine gny_ld 6 rfl rfl rfl rfl ?_ | refine gny_ldH 6 rfl rfl rfl ‹HRow _ _ 0 _› rfl ?_ | refine gny_T 6 rfl rfl rfl ?_ | refine gny_F 6 rfl rfl rfl ?_ | refine gny_B 6 rfl rfl rfl ?_ | refine gny_skip 6 rfl rfl ?_ | refine gny_sp 6 rfl rfl rfl ?_ | refine gny_sB 6 rfl rfl rfl ?_ | refine gny_sld 6 rfl rfl rfl rfl ?_ | refine gny_sldH 6 rfl rfl rfl ‹HRow _ _ 0 _› rfl ?_ | refine gny_ldN 6 rfl rfl rfl rfl ?_ | refine gny_bld 6 rfl rfl rfl ?_); (first | refine gny_p 7 rfl rfl rfl ?_ | refine gny_ld 7 rfl rfl rfl rfl ?_ | refine gny_ldH 7 rfl rfl rfl ‹HRow _ _ 0 _› rfl ?_ | refine gny_T 7 rfl rfl rfl ?_ | refine gny_F 7 rfl rfl rfl ?_ | refine gny_B 7 rfl rfl rfl ?_ | refine gny_skip 7 rfl rfl ?_ | refine gny_sp 7 rfl rfl rfl ?_ | refine gny_sB 7 rfl rfl rfl ?_ | refine gny_sld 7 rfl rfl rfl rfl ?_ | refine gny_sldH 7 rfl rfl rfl ‹HRow _ _ 0 _› rfl ?_ | refine gny_ldN 7 rfl rfl rfl rfl ?_ | refine gny_bld 7 rfl rfl rfl ?_); (first | refine gny_p 8 rfl rfl rfl ?_ | refine gny_ld 8 rfl rfl rfl rfl ?_ | refine gny_ldH 8 rfl rfl rfl ‹HRow _ _ 0 _› rfl ?_ | refine gny_T 8 rfl rfl rfl ?_ | refine gny_F 8 rfl rfl rfl ?_ | refine gny_B 8 rfl rfl rfl ?_ | refine gny_skip 8 rfl rfl ?_ | refine gny_sp 8 rfl rfl rfl ?_ | refine gny_sB 8 rfl rfl rfl ?_ | refine gny_sld 8 rfl rfl rfl rfl ?_ | refine gny_sldH 8 rfl rfl rfl ‹HRow _ _ 0 _› rfl ?_ | refine gny_ldN 8 rfl rfl rfl rfl ?_ | refine gny_bld 8 rfl rfl rfl ?_); (first | refine gny_p 9 rfl rfl rfl ?_ | refine gny_ld 9 rfl rfl rfl rfl ?_ | refine gny_ldH 9 rfl rfl rfl ‹HRow _ _ 0 _› rfl ?_ | refine gny_T 9 rfl rfl rfl ?_ | refine gny_F 9 rfl rfl rfl ?_ | refine gny_B 9 rfl rfl rfl ?_ | refine gny_skip 9 rfl rfl ?_ | refine gny_sp 9 rfl rfl rfl ?_ | refine gny_sB 9 rfl rfl rfl ?_ | refine gny_sld 9 rfl rfl rfl rfl ?_ | refine gny_sldH 9 rfl rfl rfl ‹HRow _ _ 0 _› rfl ?_ | refine gny_ldN 9 rfl rfl rfl rfl ?_ | refine gny_bld 9 rfl rfl rfl ?_)
    refine gny_pure 10 rfl rfl (op_slice (l := (j : Int)) (h := (x'.Cells.length : Int)) rfl rfl rfl (by omega) (by omega) (by omega)) ?_ (by decide +kernel) (fun _ _ _ h => h) (.refl _) (by (repeat (first | exact Sub.refl _ | exact Sub.nil _ | (apply sub_pick; (repeat (first | exact Has.here | apply Has.there)); skip) | apply Sub.drop))) rfl
    (first | refine gny_p 12 rfl rfl rfl ?_ | refine gny_ld 12 rfl rfl rfl rfl ?_ | refine gny_ldH 12 rfl rfl rfl ‹HRow _ _ 0 _› rfl ?_ | refine gny_T 12 rfl rfl rfl ?_ | refine gny_F 12 rfl rfl rfl ?_ | refine gny_B 12 rfl rfl rfl ?_ | refine gny_skip 12 rfl rfl ?_ | refine gny_sp 12 rfl rfl rfl ?_ | refine gny_sB 12 rfl rfl rfl ?_ | refine gny_sld 12 rfl rfl rfl rfl ?_ | refine gny_sldH 12 rfl rfl rfl ‹HRow _ _ 0 _› rfl ?_ | refine gny_ldN 12 rfl rfl rfl rfl ?_ | refine gny_bld 12 rfl rfl rfl ?_)
    refine gny_call (vs := [.agg [I x'.Start, .slice d2 j e2].toArray, slc d2 e2 (j : Int).toNat (x'.Cells.length : Int).toNat 1]) 11 rfl rfl rfl hjn fun r13 H13 B hl13 ⟨v13, er, eB⟩ => ?_
    subst er eB
    refine ⟨(by (repeat (first | exact Sub.refl _ | exact Sub.nil _ | (apply sub_pick; (repeat (first | exact Has.here | apply Has.there)); skip) | apply Sub.drop))), ?_⟩
    refine any_freeze v13 fun H14 hl14 hv13 => ?_
    refine gny_pcall 13 rfl rfl rfl (sameRoute_spec (x := x') (y := x') ⟨_, rfl, rRoute.fits0 gx12, hv13⟩ (rRoute_up gx12 (hl13.trans hl14))) ?_
    rw [decide_eq_true (p := _ = _) rfl]
    refine any_rest rfl ?_
    refine walk ?_
    refine fin0 ?_
    exact ⟨rfl, rfl⟩
end Go.Proofs.YtnfmjkjhiolfdaaDoor
