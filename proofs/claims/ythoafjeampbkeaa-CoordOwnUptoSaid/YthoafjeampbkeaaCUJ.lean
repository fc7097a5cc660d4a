/- The law's own: works with lists of their own, not too many and not too long. -/
import Derived.Test.YthoafjeampbkeaaCUI
import Derived.Test.YthoafjeampbkeaaCUB
set_option linter.unusedVariables false
set_option linter.unusedSimpArgs false
namespace Go.Proofs.Ythoafjeampbkeaa
open Go Go.Sx Go.Proofs
def clipC (w : Work) : Work := ⟨w.Robot, w.Take.take 30, w.Drop.take 30⟩
def ownC (l : List Work) : List Work := (l.take 8).map clipC
theorem ownC_len {l : List Work} : (ownC l).length ≤ 8 := by unfold ownC; simp; omega
theorem clip_snoc {l : List Work} {j : Nat} (hj : j < l.length) : (l.take (j + 1)).map clipC = (l.take j).map clipC ++ [clipC l[j]] := by
  rw [List.take_succ_eq_append_getElem hj, List.map_append]; rfl
set_option maxHeartbeats 8000000 in
set_option maxRecDepth 20000 in
theorem ownC_spec {W0 : World} {H : Heap} {v : Value} {l : List Work} (h0 : SlB rWork 3 56 H v l) :
    Ct Try.prog 10 #[v] W0 H [] (fun r H' B => B = [ownS rWork 3 56 41 H' r (ownC l)]) := by
  refine Ct.go (vs := [v]) fun R => ?_
  obtain ⟨b0, c0, rfl, hc0, hd0⟩ := h0.1.shape
  refine walk ?_
  refine ex_loop (σ := Nat × Option Addr × Nat × Heap) (fun u => u.1 ≤ l.length ∧ u.1 ≤ 8 ∧ H.le u.2.2.2) (fun u => [(0, .slice b0 l.length c0), (3, .slice u.2.1 ((l.take u.1).map clipC).length u.2.2.1), (4, I u.1)]) (fun u => u.2.2.2) (fun u => ownS rWork 3 56 41 u.2.2.2 (.slice u.2.1 ((l.take u.1).map clipC).length u.2.2.1) ((l.take u.1).map clipC) :: R) (fun u => l.length - u.1) (0, none, 0, H) ⟨Nat.zero_le _, Nat.zero_le _, .refl _⟩ (hs0 := ?_) fun ⟨j, dd, e, HK⟩ ⟨hj0, hj8, hlK⟩ K hL => ?_
  rotate_left
  · show Sub _ (ownS rWork 3 56 41 H (.slice none 0 0) [] :: _)
    refine Sub.trans ?_ ownS_nil
    (repeat (first | exact Sub.refl _ | exact Sub.nil _ | (apply sub_pick; (repeat (first | exact Has.here | apply Has.there)); skip) | apply Sub.drop))
  simp only at hj0 hj8 hlK
  dsimp only
  by_cases hk1 : j < l.length
  · by_cases hk8 : j < 8
    · have hk1' : (j : Int) < (l.length : Int) := by omega
      have hk8' : (j : Int) < 8 := by omega
      have hsn := clip_snoc hk1
      have hll : ((l.take j).map clipC).length = j := by simp; omega
      have hsl := (h0.mono hlK).1
      obtain ⟨w, hwj⟩ : ∃ w, l[j] = w := ⟨_, rfl⟩
      rw [hwj] at hsn
      obtain ⟨wr, wt, wd⟩ := w
      have hk3 : (min (wt.length : Int) 30).toNat = (wt.take 30).length := by rw [List.length_take]; omega
      have hk4 : (min (wd.length : Int) 30).toNat = (wd.take 30).length := by rw [List.length_take]; omega
      have hq1 : wt.take (wt.take 30).length = wt.take 30 := by rw [List.length_take, List.take_eq_take_min]; simp [Nat.min_assoc, Nat.min_comm]
      have hq2 : wd.take (wd.take 30).length = wd.take 30 := by rw [List.length_take, List.take_eq_take_min]; simp [Nat.min_assoc, Nat.min_comm]
      have hlt : (wt.take 30).length ≤ 30 := by rw [List.length_take]; omega
      have hld : (wd.take 30).length ≤ 30 := by rw [List.length_take]; omega
      refine walk ?_
      refine ex_any 39 [] ?_
      refine stepY 0 ?_; refine stepY 1 ?_; refine stepY 2 ?_
      refine gny_ixp 3 rfl rfl rfl hsl hk1 fun rab rao rac rahr rahc => ?_
      rw [hwj] at rahc
      obtain ⟨ra1, ra2, rfl, raf, rag1, rag2⟩ := rahc
      obtain ⟨rax1, ray1, rfl, raz1, _⟩ := rag1.1.shape
      obtain ⟨rax2, ray2, rfl, raz2, _⟩ := rag2.1.shape
      dsimp only at raz1 raz2 rag1 rag2 raf
      change HRow HK rab rao [I wr, .slice rax1 wt.length ray1, .slice rax2 wd.length ray2] at rahr
      refine stepY 4 ?_
      refine gny_ldHo 5 0 rfl rfl rahr rfl rfl ?_
      refine stepY 7 ?_; refine stepY 8 ?_
      refine gny_ixp 9 rfl rfl rfl hsl hk1 fun rbb rbo rbc rbhr rbhc => ?_
      rw [hwj] at rbhc
      obtain ⟨rb1, rb2, rfl, rbf, rbg1, rbg2⟩ := rbhc
      obtain ⟨rbx1, rby1, rfl, rbz1, _⟩ := rbg1.1.shape
      obtain ⟨rbx2, rby2, rfl, rbz2, _⟩ := rbg2.1.shape
      dsimp only at rbz1 rbz2 rbg1 rbg2 rbf
      change HRow HK rbb rbo [I wr, .slice rbx1 wt.length rby1, .slice rbx2 wd.length rby2] at rbhr
      refine stepY 10 ?_
      refine gny_ldHo 11 1 rfl rfl rbhr rfl rfl ?_
      refine stepY 12 ?_; refine stepY 13 ?_
      refine gny_ixp 14 rfl rfl rfl hsl hk1 fun rcb rco rcc rchr rchc => ?_
      rw [hwj] at rchc
      obtain ⟨rc1, rc2, rfl, rcf, rcg1, rcg2⟩ := rchc
      obtain ⟨rcx1, rcy1, rfl, rcz1, _⟩ := rcg1.1.shape
      obtain ⟨rcx2, rcy2, rfl, rcz2, _⟩ := rcg2.1.shape
      dsimp only at rcz1 rcz2 rcg1 rcg2 rcf
      change HRow HK rcb rco [I wr, .slice rcx1 wt.length rcy1, .slice rcx2 wd.length rcy2] at rchr
      refine stepY 15 ?_
      refine gny_ldHo 16 1 rfl rfl rchr rfl rfl ?_
      refine stepY 17 ?_; refine stepY 18 ?_; refine stepY 19 ?_
      refine stepY 22 ?_; refine stepY 23 ?_
      refine gny_ixp 24 rfl rfl rfl hsl hk1 fun rdb rdo rdc rdhr rdhc => ?_
      rw [hwj] at rdhc
      obtain ⟨rd1, rd2, rfl, rdf, rdg1, rdg2⟩ := rdhc
      obtain ⟨rdx1, rdy1, rfl, rdz1, _⟩ := rdg1.1.shape
      obtain ⟨rdx2, rdy2, rfl, rdz2, _⟩ := rdg2.1.shape
      dsimp only at rdz1 rdz2 rdg1 rdg2 rdf
      change HRow HK rdb rdo [I wr, .slice rdx1 wt.length rdy1, .slice rdx2 wd.length rdy2] at rdhr
      refine stepY 25 ?_
      refine gny_ldHo 26 2 rfl rfl rdhr rfl rfl ?_
      refine stepY 27 ?_; refine stepY 28 ?_
      refine gny_ixp 29 rfl rfl rfl hsl hk1 fun reb reo rec rehr rehc => ?_
      rw [hwj] at rehc
      obtain ⟨re1, re2, rfl, ref, reg1, reg2⟩ := rehc
      obtain ⟨rex1, rey1, rfl, rez1, _⟩ := reg1.1.shape
      obtain ⟨rex2, rey2, rfl, rez2, _⟩ := reg2.1.shape
      dsimp only at rez1 rez2 reg1 reg2 ref
      change HRow HK reb reo [I wr, .slice rex1 wt.length rey1, .slice rex2 wd.length rey2] at rehr
      refine stepY 30 ?_
      refine gny_ldHo 31 2 rfl rfl rehr rfl rfl ?_
      refine stepY 32 ?_; refine stepY 33 ?_; refine stepY 34 ?_
      rw [hk3, hk4]
      have ht1 := slr_takeC (k := (wt.take 30).length) rbg1.1 (by rw [List.length_take]; omega)
      have ht2 := slr_takeC (k := (wd.take 30).length) rdg2.1 (by rw [List.length_take]; omega)
      rw [hq1] at ht1
      have hcap1 : (([] : List ByteArray).length + (wt.take 30).length) * 16 ≤ cap47 := by simp only [cap47, List.length_nil]; omega
      have hcap2 : (([] : List ByteArray).length + (wd.take 30).length) * 16 ≤ cap47 := by simp only [cap47, List.length_nil]; omega
      rw [hq2] at ht2
      refine any_w2 6 21 rfl rfl (op_mk0S (wd := 16) rStr fun b6 => ⟨.refl _, (by (repeat (first | exact Sub.refl _ | exact Sub.nil _ | (apply sub_pick; (repeat (first | exact Has.here | apply Has.there)); skip) | apply Sub.drop))), ?_⟩) (op_mk0S (wd := 16) rStr fun b21 => ⟨.refl _, (by (repeat (first | exact Sub.refl _ | exact Sub.nil _ | (apply sub_pick; (repeat (first | exact Has.here | apply Has.there)); skip) | apply Sub.drop))), ?_⟩)
      · refine any_w2 20 21 rfl rfl (op_appSS rfl ht1 hcap1 fun d20 e20 => ⟨.refl _, (by (repeat (first | exact Sub.refl _ | exact Sub.nil _ | (apply sub_pick; (repeat (first | exact Has.here | apply Has.there)); skip) | apply Sub.drop))), ?_⟩) (op_mk0S (wd := 16) rStr fun b21 => ⟨.refl _, (by (repeat (first | exact Sub.refl _ | exact Sub.nil _ | (apply sub_pick; (repeat (first | exact Has.here | apply Has.there)); skip) | apply Sub.drop))), ?_⟩)
        · refine any_w 21 rfl (op_mk0S (wd := 16) rStr fun b21 => ⟨.refl _, (by (repeat (first | exact Sub.refl _ | exact Sub.nil _ | (apply sub_pick; (repeat (first | exact Has.here | apply Has.there)); skip) | apply Sub.drop))), ?_⟩)
          refine any_w 35 rfl (op_appSS rfl ht2 hcap2 fun d35 e35 => ⟨.refl _, (by (repeat (first | exact Sub.refl _ | exact Sub.nil _ | (apply sub_pick; (repeat (first | exact Has.here | apply Has.there)); skip) | apply Sub.drop))), ?_⟩)
          simp only [List.length_nil, Nat.zero_add, List.nil_append]
          refine any_freeze (.slice d20 (wt.take 30).length e20) fun H2 hl2 g1 => ?_
          refine any_freeze (.slice d35 (wd.take 30).length e35) fun H3 hl3 g2 => ?_
          refine gny_bld 36 rfl rfl rfl ?_
          refine any_app1 (y := clipC ⟨wr, wt, wd⟩) 37 38 rfl rfl rfl ⟨_, _, rfl, raf, g1.mono hl3, g2⟩ (by rw [hll]; simp only [cap47]; omega) fun d9 e9 => ⟨(by (repeat (first | exact Sub.refl _ | exact Sub.nil _ | (apply sub_pick; (repeat (first | exact Has.here | apply Has.there)); skip) | apply Sub.drop))), ?_⟩
          rw [← hsn, show ((l.take j).map clipC).length + 1 = ((l.take (j + 1)).map clipC).length by rw [hsn, List.length_append]; rfl]
          refine any_rest rfl ?_
          refine walk ?_
          refine out_next hL (j + 1, d9, e9, H3) ⟨by simp only; omega, by simp only; omega, hlK.trans (hl2.trans hl3)⟩ (hs := ?_)
          dsimp only
          (repeat (first | exact Sub.refl _ | exact Sub.nil _ | (apply sub_pick; (repeat (first | exact Has.here | apply Has.there)); skip) | apply Sub.drop))
        · refine any_w 20 rfl (op_appSS rfl ht1 hcap1 fun d20 e20 => ⟨.refl _, (by (repeat (first | exact Sub.refl _ | exact Sub.nil _ | (apply sub_pick; (repeat (first | exact Has.here | apply Has.there)); skip) | apply Sub.drop))), ?_⟩)
          refine any_w 35 rfl (op_appSS rfl ht2 hcap2 fun d35 e35 => ⟨.refl _, (by (repeat (first | exact Sub.refl _ | exact Sub.nil _ | (apply sub_pick; (repeat (first | exact Has.here | apply Has.there)); skip) | apply Sub.drop))), ?_⟩)
          simp only [List.length_nil, Nat.zero_add, List.nil_append]
          refine any_freeze (.slice d20 (wt.take 30).length e20) fun H2 hl2 g1 => ?_
          refine any_freeze (.slice d35 (wd.take 30).length e35) fun H3 hl3 g2 => ?_
          refine gny_bld 36 rfl rfl rfl ?_
          refine any_app1 (y := clipC ⟨wr, wt, wd⟩) 37 38 rfl rfl rfl ⟨_, _, rfl, raf, g1.mono hl3, g2⟩ (by rw [hll]; simp only [cap47]; omega) fun d9 e9 => ⟨(by (repeat (first | exact Sub.refl _ | exact Sub.nil _ | (apply sub_pick; (repeat (first | exact Has.here | apply Has.there)); skip) | apply Sub.drop))), ?_⟩
          rw [← hsn, show ((l.take j).map clipC).length + 1 = ((l.take (j + 1)).map clipC).length by rw [hsn, List.length_append]; rfl]
          refine any_rest rfl ?_
          refine walk ?_
          refine out_next hL (j + 1, d9, e9, H3) ⟨by simp only; omega, by simp only; omega, hlK.trans (hl2.trans hl3)⟩ (hs := ?_)
          dsimp only
          (repeat (first | exact Sub.refl _ | exact Sub.nil _ | (apply sub_pick; (repeat (first | exact Has.here | apply Has.there)); skip) | apply Sub.drop))
      · refine any_w 6 rfl (op_mk0S (wd := 16) rStr fun b6 => ⟨.refl _, (by (repeat (first | exact Sub.refl _ | exact Sub.nil _ | (apply sub_pick; (repeat (first | exact Has.here | apply Has.there)); skip) | apply Sub.drop))), ?_⟩)
        refine any_w 20 rfl (op_appSS rfl ht1 hcap1 fun d20 e20 => ⟨.refl _, (by (repeat (first | exact Sub.refl _ | exact Sub.nil _ | (apply sub_pick; (repeat (first | exact Has.here | apply Has.there)); skip) | apply Sub.drop))), ?_⟩)
        refine any_w 35 rfl (op_appSS rfl ht2 hcap2 fun d35 e35 => ⟨.refl _, (by (repeat (first | exact Sub.refl _ | exact Sub.nil _ | (apply sub_pick; (repeat (first | exact Has.here | apply Has.there)); skip) | apply Sub.drop))), ?_⟩)
        simp only [List.length_nil, Nat.zero_add, List.nil_append]
        refine any_freeze (.slice d20 (wt.take 30).length e20) fun H2 hl2 g1 => ?_
        refine any_freeze (.slice d35 (wd.take 30).length e35) fun H3 hl3 g2 => ?_
        refine gny_bld 36 rfl rfl rfl ?_
        refine any_app1 (y := clipC ⟨wr, wt, wd⟩) 37 38 rfl rfl rfl ⟨_, _, rfl, raf, g1.mono hl3, g2⟩ (by rw [hll]; simp only [cap47]; omega) fun d9 e9 => ⟨(by (repeat (first | exact Sub.refl _ | exact Sub.nil _ | (apply sub_pick; (repeat (first | exact Has.here | apply Has.there)); skip) | apply Sub.drop))), ?_⟩
        rw [← hsn, show ((l.take j).map clipC).length + 1 = ((l.take (j + 1)).map clipC).length by rw [hsn, List.length_append]; rfl]
        refine any_rest rfl ?_
        refine walk ?_
        refine out_next hL (j + 1, d9, e9, H3) ⟨by simp only; omega, by simp only; omega, hlK.trans (hl2.trans hl3)⟩ (hs := ?_)
        dsimp only
        (repeat (first | exact Sub.refl _ | exact Sub.nil _ | (apply sub_pick; (repeat (first | exact Has.here | apply Has.there)); skip) | apply Sub.drop))
    · obtain rfl : j = 8 := by omega
      have hk1' : (8 : Int) < (l.length : Int) := by omega
      clear hL
      refine walk ?_
      refine finB [ownS rWork 3 56 41 HK (.slice dd ((l.take (8)).map clipC).length e) ((l.take (8)).map clipC)] ?_
      unfold ownC
      first | rfl | rw [List.take_of_length_le (Nat.le_refl _), List.take_of_length_le hj8]
  · obtain rfl : j = l.length := by omega
    clear hL
    refine walk ?_
    refine finB [ownS rWork 3 56 41 HK (.slice dd ((l.take (l.length)).map clipC).length e) ((l.take (l.length)).map clipC)] ?_
    unfold ownC
    first | rfl | rw [List.take_of_length_le (Nat.le_refl _), List.take_of_length_le hj8]
end Go.Proofs.Ythoafjeampbkeaa
