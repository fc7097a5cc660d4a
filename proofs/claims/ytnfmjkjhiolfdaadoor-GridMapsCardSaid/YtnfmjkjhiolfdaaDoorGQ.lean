/- GridMaps, walked. -/
import Derived.Test.YtnfmjkjhiolfdaaDoorGO
import Derived.Test.YtnfmjkjhiolfdaaDoorGH
import Derived.Test.YtnfmjkjhiolfdaaDoorE27
set_option linter.unusedVariables false
set_option linter.unusedSimpArgs false
namespace Go.Proofs.YtnfmjkjhiolfdaaDoor
open Go Go.Sx Go.Proofs
instance : TAr Tryd.prog 41 2 3 := ⟨Tryd.underlying41⟩
theorem rArr2 {H : Heap} {cs : List Value} {xs : List Int} (h : rArrI 2 H cs xs) : ∃ a b, xs = [a, b] ∧ cs = [I a, I b] ∧ fits a ∧ fits b := by
  obtain ⟨rfl, hl, hf⟩ := h
  match xs, hl with
  | [a, b], _ => exact ⟨a, b, rfl, rfl, hf a (by simp), hf b (by simp)⟩
set_option maxRecDepth 100000 in
set_option maxHeartbeats 16000000 in
theorem mapsG_spec {W0 : World} {H : Heap} {c e : List Value} {m : Map} {ys : List Int} {n : Int} (hP : PkH H) (h0 : rMap H c m) (h2 : rArrI 2 H e ys) (fn : fits n) :
    Ct Tryd.prog 13 #[.agg c.toArray, .agg e.toArray, I n] W0 H [] (fun r H' B => r = .bool true ∧ B = []) := by
  refine Ct.go (vs := [.agg c.toArray, .agg e.toArray, I n]) fun R => ?_
  have g0 := h0
  obtain ⟨x, y, rfl, rfl, fx, fy⟩ := rArr2 h2
  obtain ⟨s0, rfl, f1, f2, f3, h0⟩ := h0
  refine walk ?_
  refine ops_box rfl rfl fun p3 _ => ?_
  refine ops_box rfl rfl fun p4 _ => ?_
  refine walk ?_
  refine ops_call (vs := []) rfl rfl (awake12_spec hP) fun r1 H1 B hl1 ⟨er, eB⟩ => ?_
  subst er eB
  refine walk ?_
  refine ops_call (vs := [.agg (m.cv s0).toArray]) rfl rfl (own12_spec (RdOk.mono (R := rMap) hl1 g0)) fun r2 H2 B hl2 ⟨v2, er, eB, eH⟩ => ?_
  subst er eB eH
  refine ops_shape v2 fun d2 e2 e _ _ _ => ?_
  subst e
  refine ops_freeze (.slice d2 (clipM m).Blocked.length e2) fun H3 hl3 hv2 => ?_
  refine walk ?_
  have gm : rMap H3 ((clipM m).cv (.slice d2 (clipM m).Blocked.length e2)) (clipM m) := ⟨_, rfl, f1, f2, f3, hv2⟩
  have cm : clipM (clipM m) = clipM m := clipM2
  have hle3 : H.le H3 := hl1.trans hl3
  clear hv2 hl2 hl1 hl3
  generalize clipM m = m' at *
  have ho := own12_spec (W0 := W0) gm
  rw [cm] at ho
  refine ops_call (vs := [.agg (m'.cv (.slice d2 m'.Blocked.length e2)).toArray]) rfl rfl ho fun r4 H4 B hl4 ⟨v4, er, eB, eH⟩ => ?_
  subst er eB eH
  refine ops_freeze v4 fun H5 hl5 hv4 => ?_
  have gm5 := RdOk.mono (R := rMap) hl5 gm
  have fm : (Sx.fits m'.W ∧ Sx.fits m'.H) ∧ Sx.fits m'.Shards := by obtain ⟨_, _, q1, q2, q3, _⟩ := gm; exact ⟨⟨q1, q2⟩, q3⟩
  have gv : rMap H5 (m'.cv v4) m' := ⟨_, rfl, fm.1.1, fm.1.2, fm.2, hv4⟩
  refine walk ?_
  refine ops_call (vs := [.agg (m'.cv v4).toArray]) rfl rfl (gNew_spec gv) fun r6 H6 B hl6 ⟨g, e, er, eB, h⟩ => ?_
  subst er eB
  have gm6 := RdOk.mono (R := rMap) hl6 gm5
  rcases h with ⟨hm, hG, rfl⟩ | ⟨hm, rfl, rfl⟩
  rotate_left
  · refine walk ?_
    refine ops_pcall rfl rfl (rGood_spec gm6) ?_
    rw [decide_eq_false hm]
    refine walk ?_
    refine fin0 ?_
    exact ⟨rfl, rfl⟩
  have hGp := hG
  obtain ⟨⟨bg, s', mb, mm, rfl, q1, q2, q3, q4⟩, hgd, hfs⟩ := hGp
  refine walk ?_
  refine ops_pcall rfl rfl (rGood_spec gm6) ?_
  rw [decide_eq_true hm]
  refine walk ?_
  refine ops_call (vs := [.pointer (some ⟨bg, 0, none⟩)]) rfl rfl (map_spec hG) fun r7 H7 B hl7 ⟨v7, er, eB, eH⟩ => ?_
  subst er eB eH
  refine ops_shape v7 fun d7 e7 e _ _ _ => ?_
  subst e
  refine walk ?_
  refine ops_alloc rfl fun p11 _ => ?_
  refine walk ?_
  refine ops_freeze (.slice d7 m'.Blocked.length e7) fun H8 hl8 hv7 => ?_
  have hG8 := hG.mono (hl7.trans hl8)
  have gm8 := RdOk.mono (R := rMap) (hl7.trans hl8) gm6
  have hw := hG.good.1.1
  have har := area hw
  have haf := area_fits hw
  have hW := hw
  simp only [sidesM] at hW
  refine ops_pcall rfl rfl (ints_spec hv7.1 (by obtain ⟨_, e, _, _, _, q⟩ := gm8; cases e; exact q.1)) ?_
  rw [decide_eq_true (p := m'.Blocked = m'.Blocked) rfl]
  refine walk ?_
  have ntt : ¬ ¬ true = true := fun h => h rfl
  have nff : ¬ ¬ false = false := fun h => h rfl
  have ntf : ¬ true = false := fun h => by cases h
  have nft : ¬ false = true := fun h => by cases h
  refine ops_cut3 (σ := Int) (fun _ => True) (fun cv => [(2, I n), (3, .pointer (some ⟨p3, 0, none⟩)), (9, .pointer (some ⟨bg, 0, none⟩)), (12, I cv)]) (fun _ => H8) (fun _ => row p3 24 (m'.cv (.slice d2 m'.Blocked.length e2)) :: R) (fun K hK => ?_) (fun cv _ => ?_)
  · by_cases hin : inC m' x y
    · refine ops_pcall rfl rfl (cell_yes hG8 hin) ?_
      have hin' := hin
      unfold inC at hin'
      have q1 : 0 ≤ y * m'.W := Int.mul_nonneg (by omega) (by omega)
      have q2 : y * m'.W ≤ 16 * 16 := Int.mul_le_mul (by omega) (by omega) (by omega) (by omega)
      have k1 : fits (y * m'.W) := by unfold fits; omega
      have k2 : fits (y * m'.W + x) := by unfold fits; omega
      refine walk ?_
      exact out_to hK (y * m'.W + x) trivial
    · refine ops_pcall rfl rfl (cell_no hG8 hin) ?_
      have hin' := hin
      unfold inC at hin'
      by_cases c1 : 0 ≤ x
      · by_cases c2 : x < m'.W
        · by_cases c3 : 0 ≤ y
          · refine walk ?_
            exact out_to hK 0 trivial
          · refine walk ?_
            exact out_to hK 0 trivial
        · refine walk ?_
          exact out_to hK 0 trivial
      · refine walk ?_
        exact out_to hK 0 trivial
  refine walk ?_
  refine ops_bsN rfl rfl fun pb _ => ?_
  refine walk ?_
  refine ex_frzR .here fun H9 hl9 hr9 => ?_
  obtain ⟨xs, hxs, hxl⟩ : ∃ xs : List Int, xs = [n, cv, -1, 0, m'.W * m'.H - 1, m'.W * m'.H] ∧ xs.length = 6 := ⟨_, rfl, rfl⟩
  have hG9 := hG8.mono hl9
  have gm9 := RdOk.mono (R := rMap) hl9 gm8
  refine ex_loop (σ := Nat) (fun k => k ≤ 6) (fun k => [(3, .pointer (some ⟨p3, 0, none⟩)), (9, .pointer (some ⟨bg, 0, none⟩)), (146, .slice (some ⟨pb, 0, none⟩) 6 6), (147, I ((6 : Nat) : Int)), (148, I k)]) (fun _ => H9) (fun _ => row p3 24 (m'.cv (.slice d2 m'.Blocked.length e2)) :: R) (fun k => 6 - k) 0 (Nat.zero_le _) fun k hk0 K hL => ?_
  refine walk ?_
  refine ex_if rfl (fun hk => ?_) (fun hk => ?_)
  · have hk1 : k < xs.length := by omega
    have hr9' : HRow H9 pb 0 (xs.map I) := by rw [hxs]; exact hr9
    refine walk ?_
    refine ops_ldHz rfl rfl hr9' (v := I xs[k]) (by simp [hk1]) ?_
    refine walk ?_
    generalize xs[k] = q at *
    have hfe : ¬ ¬ decide (freeC m' q) = decide (freeC m' q) := fun h => h rfl
    by_cases hq : isC m' q
    · refine ops_pcall rfl rfl (place_yes hG9 hq) ?_
      refine walk ?_
      refine ops_pcall rfl rfl (shard_yes hG9 hq) ?_
      refine walk ?_
      obtain ⟨⟨x1, x2⟩, x3, x4⟩ := cell_xy hw hq
      have xe := xy_eq hw hq
      have hq2 := hq
      simp only [isC] at hq2
      refine ex_any 7 [row p3 24 (m'.cv (.slice d2 m'.Blocked.length e2))] ?_
      (first | refine gny_p 0 rfl rfl rfl ?_ | refine gny_ld 0 rfl rfl rfl rfl ?_ | refine gny_ldH 0 rfl rfl rfl ‹HRow _ _ 0 _› rfl ?_ | refine gny_T 0 rfl rfl rfl ?_ | refine gny_F 0 rfl rfl rfl ?_ | refine gny_B 0 rfl rfl rfl ?_ | refine gny_skip 0 rfl rfl ?_ | refine gny_sp 0 rfl rfl rfl ?_ | refine gny_sB 0 rfl rfl rfl ?_ | refine gny_sld 0 rfl rfl rfl rfl ?_ | refine gny_sldH 0 rfl rfl rfl ‹HRow _ _ 0 _› rfl ?_ | refine gny_ldN 0 rfl rfl rfl rfl ?_ | refine gny_bld 0 rfl rfl rfl ?_); (first | refine gny_p 1 rfl rfl rfl ?_ | refine gny_ld 1 rfl rfl rfl rfl ?_ | refine gny_ldH 1 rfl rfl rfl ‹HRow _ _ 0 _› rfl ?_ | refine gny_T 1 rfl rfl rfl ?_ | refine gny_F 1 rfl rfl rfl ?_ | refine gny_B 1 rfl rfl rfl ?_ | refine gny_skip 1 rfl rfl ?_ | refine gny_sp 1 rfl rfl rfl ?_ | refine gny_sB 1 rfl rfl rfl ?_ | refine gny_sld 1 rfl rfl rfl rfl ?_ | refine gny_sldH 1 rfl rfl rfl ‹HRow _ _ 0 _› rfl ?_ | refine gny_ldN 1 rfl rfl rfl rfl ?_ | refine gny_bld 1 rfl rfl rfl ?_); (first | refine gny_p 3 rfl rfl rfl ?_ | refine gny_ld 3 rfl rfl rfl rfl ?_ | refine gny_ldH 3 rfl rfl rfl ‹HRow _ _ 0 _› rfl ?_ | refine gny_T 3 rfl rfl rfl ?_ | refine gny_F 3 rfl rfl rfl ?_ | refine gny_B 3 rfl rfl rfl ?_ | refine gny_skip 3 rfl rfl ?_ | refine gny_sp 3 rfl rfl rfl ?_ | refine gny_sB 3 rfl rfl rfl ?_ | refine gny_sld 3 rfl rfl rfl rfl ?_ | refine gny_sldH 3 rfl rfl rfl ‹HRow _ _ 0 _› rfl ?_ | refine gny_ldN 3 rfl rfl rfl rfl ?_ | refine gny_bld 3 rfl rfl rfl ?_); (first | refine gny_p 4 rfl rfl rfl ?_ | refine gny_ld 4 rfl rfl rfl rfl ?_ | refine gny_ldH 4 rfl rfl rfl ‹HRow _ _ 0 _› rfl ?_ | refine gny_T 4 rfl rfl rfl ?_ | refine gny_F 4 rfl rfl rfl ?_ | refine gny_B 4 rfl rfl rfl ?_ | refine gny_skip 4 rfl rfl ?_ | refine gny_sp 4 rfl rfl rfl ?_ | refine gny_sB 4 rfl rfl rfl ?_ | refine gny_sld 4 rfl rfl rfl rfl ?_ | refine gny_sldH 4 rfl rfl rfl ‹HRow _ _ 0 _› rfl ?_ | refine gny_ldN 4 rfl rfl rfl rfl ?_ | refine gny_bld 4 rfl rfl rfl ?_)
      refine gny_pcall 2 rfl rfl rfl (gFree_spec hG9) ?_
      refine gny_pcall 5 rfl rfl rfl (rFree_spec gm9 haf) ?_
      (first | refine gny_p 6 rfl rfl rfl ?_ | refine gny_ld 6 rfl rfl rfl rfl ?_ | refine gny_ldH 6 rfl rfl rfl ‹HRow _ _ 0 _› rfl ?_ | refine gny_T 6 rfl rfl rfl ?_ | refine gny_F 6 rfl rfl rfl ?_ | refine gny_B 6 rfl rfl rfl ?_ | refine gny_skip 6 rfl rfl ?_ | refine gny_sp 6 rfl rfl rfl ?_ | refine gny_sB 6 rfl rfl rfl ?_ | refine gny_sld 6 rfl rfl rfl rfl ?_ | refine gny_sldH 6 rfl rfl rfl ‹HRow _ _ 0 _› rfl ?_ | refine gny_ldN 6 rfl rfl rfl rfl ?_ | refine gny_bld 6 rfl rfl rfl ?_)
      refine any_rest rfl ?_
      refine walk ?_
      refine ops_pcall rfl rfl (rIs_spec gm9 haf) ?_
      rw [decide_eq_true hq]
      have w1 : fits (q.tdiv m'.W * m'.W) := by unfold fits; omega
      have w2 : fits (q.tdiv m'.W * m'.W + q.tmod m'.W) := by unfold fits; omega
      have w3 : q.tdiv m'.W * m'.W + q.tmod m'.W = q := xe.symm
      refine walk ?_
      refine ops_pcall rfl rfl (rShard_spec gm9 hG.good.1 hq) ?_
      refine walk ?_
      refine out_next hL (k + 1) (by omega)
    · refine ops_pcall rfl rfl (place_no hG9 hq) ?_
      refine walk ?_
      refine ops_pcall rfl rfl (shard_no hG9 hq) ?_
      refine walk ?_
      refine ex_any 7 [row p3 24 (m'.cv (.slice d2 m'.Blocked.length e2))] ?_
      (first | refine gny_p 0 rfl rfl rfl ?_ | refine gny_ld 0 rfl rfl rfl rfl ?_ | refine gny_ldH 0 rfl rfl rfl ‹HRow _ _ 0 _› rfl ?_ | refine gny_T 0 rfl rfl rfl ?_ | refine gny_F 0 rfl rfl rfl ?_ | refine gny_B 0 rfl rfl rfl ?_ | refine gny_skip 0 rfl rfl ?_ | refine gny_sp 0 rfl rfl rfl ?_ | refine gny_sB 0 rfl rfl rfl ?_ | refine gny_sld 0 rfl rfl rfl rfl ?_ | refine gny_sldH 0 rfl rfl rfl ‹HRow _ _ 0 _› rfl ?_ | refine gny_ldN 0 rfl rfl rfl rfl ?_ | refine gny_bld 0 rfl rfl rfl ?_); (first | refine gny_p 1 rfl rfl rfl ?_ | refine gny_ld 1 rfl rfl rfl rfl ?_ | refine gny_ldH 1 rfl rfl rfl ‹HRow _ _ 0 _› rfl ?_ | refine gny_T 1 rfl rfl rfl ?_ | refine gny_F 1 rfl rfl rfl ?_ | refine gny_B 1 rfl rfl rfl ?_ | refine gny_skip 1 rfl rfl ?_ | refine gny_sp 1 rfl rfl rfl ?_ | refine gny_sB 1 rfl rfl rfl ?_ | refine gny_sld 1 rfl rfl rfl rfl ?_ | refine gny_sldH 1 rfl rfl rfl ‹HRow _ _ 0 _› rfl ?_ | refine gny_ldN 1 rfl rfl rfl rfl ?_ | refine gny_bld 1 rfl rfl rfl ?_); (first | refine gny_p 3 rfl rfl rfl ?_ | refine gny_ld 3 rfl rfl rfl rfl ?_ | refine gny_ldH 3 rfl rfl rfl ‹HRow _ _ 0 _› rfl ?_ | refine gny_T 3 rfl rfl rfl ?_ | refine gny_F 3 rfl rfl rfl ?_ | refine gny_B 3 rfl rfl rfl ?_ | refine gny_skip 3 rfl rfl ?_ | refine gny_sp 3 rfl rfl rfl ?_ | refine gny_sB 3 rfl rfl rfl ?_ | refine gny_sld 3 rfl rfl rfl rfl ?_ | refine gny_sldH 3 rfl rfl rfl ‹HRow _ _ 0 _› rfl ?_ | refine gny_ldN 3 rfl rfl rfl rfl ?_ | refine gny_bld 3 rfl rfl rfl ?_); (first | refine gny_p 4 rfl rfl rfl ?_ | refine gny_ld 4 rfl rfl rfl rfl ?_ | refine gny_ldH 4 rfl rfl rfl ‹HRow _ _ 0 _› rfl ?_ | refine gny_T 4 rfl rfl rfl ?_ | refine gny_F 4 rfl rfl rfl ?_ | refine gny_B 4 rfl rfl rfl ?_ | refine gny_skip 4 rfl rfl ?_ | refine gny_sp 4 rfl rfl rfl ?_ | refine gny_sB 4 rfl rfl rfl ?_ | refine gny_sld 4 rfl rfl rfl rfl ?_ | refine gny_sldH 4 rfl rfl rfl ‹HRow _ _ 0 _› rfl ?_ | refine gny_ldN 4 rfl rfl rfl rfl ?_ | refine gny_bld 4 rfl rfl rfl ?_)
      refine gny_pcall 2 rfl rfl rfl (gFree_spec hG9) ?_
      refine gny_pcall 5 rfl rfl rfl (rFree_spec gm9 haf) ?_
      (first | refine gny_p 6 rfl rfl rfl ?_ | refine gny_ld 6 rfl rfl rfl rfl ?_ | refine gny_ldH 6 rfl rfl rfl ‹HRow _ _ 0 _› rfl ?_ | refine gny_T 6 rfl rfl rfl ?_ | refine gny_F 6 rfl rfl rfl ?_ | refine gny_B 6 rfl rfl rfl ?_ | refine gny_skip 6 rfl rfl ?_ | refine gny_sp 6 rfl rfl rfl ?_ | refine gny_sB 6 rfl rfl rfl ?_ | refine gny_sld 6 rfl rfl rfl rfl ?_ | refine gny_sldH 6 rfl rfl rfl ‹HRow _ _ 0 _› rfl ?_ | refine gny_ldN 6 rfl rfl rfl rfl ?_ | refine gny_bld 6 rfl rfl rfl ?_)
      refine any_rest rfl ?_
      refine walk ?_
      refine ops_pcall rfl rfl (rIs_spec gm9 haf) ?_
      rw [decide_eq_false hq]
      refine walk ?_
      refine out_next hL (k + 1) (by omega)
  · clear hL
    refine walk ?_
    refine fin0 ?_
    exact ⟨rfl, rfl⟩
end Go.Proofs.YtnfmjkjhiolfdaaDoor
