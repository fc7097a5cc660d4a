/- RouteMeets, walked. -/
import Derived.Test.YtnfmjkjhiolfdaaDoorRB
import Derived.Test.YtnfmjkjhiolfdaaDoorBC
import Derived.Test.YtnfmjkjhiolfdaaDoorRH
import Derived.Test.YtnfmjkjhiolfdaaDoorKC
set_option linter.unusedVariables false
set_option linter.unusedSimpArgs false
namespace Go.Proofs.YtnfmjkjhiolfdaaDoor
open Go Go.Sx Go.Proofs
theorem clip2 {x : Route} : clipR (clipR x) = clipR x := by simp [clipR, List.take_take]
theorem rRoute.fits0 {H : Heap} {c : List Value} {x : Route} (h : rRoute H c x) : fits x.Start := by obtain ⟨_, _, f, _⟩ := h; exact f
theorem own40_spec {W0 : World} {H : Heap} {c : List Value} {x : Route} (hc : clipR x = x) (h0 : rRoute H c x) :
    Ct Tryd.prog 17 #[.agg c.toArray] W0 H [] (fun r H' B => ∃ s, r = .agg [I x.Start, s].toArray ∧ B = [ownS rInt 1 8 3 H s x.Cells] ∧ H' = H) := by
  have h := own13_spec (W0 := W0) h0
  rw [hc] at h; exact h
set_option maxHeartbeats 8000000 in
theorem meets_spec {W0 : World} {H : Heap} {c d e : List Value} {m : Map} {x y : Route} (hT : TabH Tryd.prog H) (h0 : rMap H c m) (h1 : rRoute H d x) (h2 : rRoute H e y) :
    Ct Tryd.prog 4 #[.agg c.toArray, .agg d.toArray, .agg e.toArray] W0 H [] (fun r H' B => r = .bool true ∧ B = []) := by
  refine Ct.go (vs := [.agg c.toArray, .agg d.toArray, .agg e.toArray]) fun R => ?_
  have g0 := h0
  have g1 := h1
  have g2 := h2
  obtain ⟨s0, rfl, f1, f2, f3, h0⟩ := h0
  obtain ⟨s1, rfl, f4, h1⟩ := h1
  obtain ⟨s2, rfl, f5, h2⟩ := h2
  refine walk ?_
  refine ops_box rfl rfl fun p3 _ => ?_
  refine ops_box rfl rfl fun p4 _ => ?_
  refine ops_box rfl rfl fun p5 _ => ?_
  refine walk ?_
  refine ops_call (vs := []) rfl rfl (awake13_spec hT) fun r1 H1 B hl1 ⟨er, eB⟩ => ?_
  subst er eB
  refine walk ?_
  refine ex_any 4 [row p3 24 (m.cv s0), row p4 26 (x.cv s1), row p5 26 (y.cv s2)] ?_
  (first | refine gny_p 0 rfl rfl rfl ?_ | refine gny_ld 0 rfl rfl rfl rfl ?_ | refine gny_ldH 0 rfl rfl rfl ‹HRow _ _ 0 _› rfl ?_ | refine gny_T 0 rfl rfl rfl ?_ | refine gny_F 0 rfl rfl rfl ?_ | refine gny_B 0 rfl rfl rfl ?_ | refine gny_skip 0 rfl rfl ?_ | refine gny_sp 0 rfl rfl rfl ?_ | refine gny_sB 0 rfl rfl rfl ?_ | refine gny_sld 0 rfl rfl rfl rfl ?_ | refine gny_sldH 0 rfl rfl rfl ‹HRow _ _ 0 _› rfl ?_ | refine gny_ldN 0 rfl rfl rfl rfl ?_ | refine gny_bld 0 rfl rfl rfl ?_); (first | refine gny_p 2 rfl rfl rfl ?_ | refine gny_ld 2 rfl rfl rfl rfl ?_ | refine gny_ldH 2 rfl rfl rfl ‹HRow _ _ 0 _› rfl ?_ | refine gny_T 2 rfl rfl rfl ?_ | refine gny_F 2 rfl rfl rfl ?_ | refine gny_B 2 rfl rfl rfl ?_ | refine gny_skip 2 rfl rfl ?_ | refine gny_sp 2 rfl rfl rfl ?_ | refine gny_sB 2 rfl rfl rfl ?_ | refine gny_sld 2 rfl rfl rfl rfl ?_ | refine gny_sldH 2 rfl rfl rfl ‹HRow _ _ 0 _› rfl ?_ | refine gny_ldN 2 rfl rfl rfl rfl ?_ | refine gny_bld 2 rfl rfl rfl ?_)
  refine gny_call (vs := [.agg (x.cv s1).toArray]) 1 rfl rfl rfl (own13_spec (rRoute_up g1 hl1)) fun r2 H2 B hl2 ⟨v2, er, eB, eH⟩ => ?_
  subst er eB eH
  refine ⟨(by (repeat (first | exact Sub.refl _ | exact Sub.nil _ | (apply sub_pick; (repeat (first | exact Has.here | apply Has.there)); skip) | apply Sub.drop))), ?_⟩
  refine any_shape v2 fun d2 e2 e _ _ _ => ?_
  subst e
  refine any_freeze (.slice d2 (clipR x).Cells.length e2) fun H3 hl3 hv2 => ?_
  refine gny_call (vs := [.agg (y.cv s2).toArray]) 3 rfl rfl rfl (own13_spec (rRoute_up g2 (hl1.trans hl3))) fun r4 H4 B hl4 ⟨v4, er, eB, eH⟩ => ?_
  subst er eB eH
  refine ⟨(by (repeat (first | exact Sub.refl _ | exact Sub.nil _ | (apply sub_pick; (repeat (first | exact Has.here | apply Has.there)); skip) | apply Sub.drop))), ?_⟩
  refine any_shape v4 fun d4 e4 e _ _ _ => ?_
  subst e
  refine any_freeze (.slice d4 (clipR y).Cells.length e4) fun H5 hl5 hv4 => ?_
  refine any_rest rfl ?_
  refine walk ?_
  have gx : rRoute H5 [I x.Start, .slice d2 (clipR x).Cells.length e2] (clipR x) := ⟨_, rfl, f4, hv2.mono hl5⟩
  have gy : rRoute H5 [I y.Start, .slice d4 (clipR y).Cells.length e4] (clipR y) := ⟨_, rfl, f5, hv4⟩
  clear hv2 hv4
  have cx : clipR (clipR x) = clipR x := clip2
  have cy : clipR (clipR y) = clipR y := clip2
  rw [show x.Start = (clipR x).Start from rfl] at gx ⊢
  rw [show y.Start = (clipR y).Start from rfl] at gy ⊢
  generalize clipR x = x' at *
  generalize clipR y = y' at *
  refine ex_any 5 [row p4 26 [I x'.Start, .slice d2 x'.Cells.length e2], row p5 26 [I y'.Start, .slice d4 y'.Cells.length e4]] ?_
  (first | refine gny_p 0 rfl rfl rfl ?_ | refine gny_ld 0 rfl rfl rfl rfl ?_ | refine gny_ldH 0 rfl rfl rfl ‹HRow _ _ 0 _› rfl ?_ | refine gny_T 0 rfl rfl rfl ?_ | refine gny_F 0 rfl rfl rfl ?_ | refine gny_B 0 rfl rfl rfl ?_ | refine gny_skip 0 rfl rfl ?_ | refine gny_sp 0 rfl rfl rfl ?_ | refine gny_sB 0 rfl rfl rfl ?_ | refine gny_sld 0 rfl rfl rfl rfl ?_ | refine gny_sldH 0 rfl rfl rfl ‹HRow _ _ 0 _› rfl ?_ | refine gny_ldN 0 rfl rfl rfl rfl ?_ | refine gny_bld 0 rfl rfl rfl ?_); (first | refine gny_p 2 rfl rfl rfl ?_ | refine gny_ld 2 rfl rfl rfl rfl ?_ | refine gny_ldH 2 rfl rfl rfl ‹HRow _ _ 0 _› rfl ?_ | refine gny_T 2 rfl rfl rfl ?_ | refine gny_F 2 rfl rfl rfl ?_ | refine gny_B 2 rfl rfl rfl ?_ | refine gny_skip 2 rfl rfl ?_ | refine gny_sp 2 rfl rfl rfl ?_ | refine gny_sB 2 rfl rfl rfl ?_ | refine gny_sld 2 rfl rfl rfl rfl ?_ | refine gny_sldH 2 rfl rfl rfl ‹HRow _ _ 0 _› rfl ?_ | refine gny_ldN 2 rfl rfl rfl rfl ?_ | refine gny_bld 2 rfl rfl rfl ?_)
  refine gny_call (vs := [.agg [I x'.Start, .slice d2 x'.Cells.length e2].toArray]) 1 rfl rfl rfl (own40_spec cx gx) fun r6 H6 B hl6 ⟨v6, er, eB, eH⟩ => ?_
  subst er eB eH
  refine ⟨(by (repeat (first | exact Sub.refl _ | exact Sub.nil _ | (apply sub_pick; (repeat (first | exact Has.here | apply Has.there)); skip) | apply Sub.drop))), ?_⟩
  refine any_freeze v6 fun H7 hl7 hv6 => ?_
  refine gny_call (vs := [.agg [I y'.Start, .slice d4 y'.Cells.length e4].toArray]) 3 rfl rfl rfl (own40_spec cy (rRoute_up gy hl7)) fun r8 H8 B hl8 ⟨v8, er, eB, eH⟩ => ?_
  subst er eB eH
  refine ⟨(by (repeat (first | exact Sub.refl _ | exact Sub.nil _ | (apply sub_pick; (repeat (first | exact Has.here | apply Has.there)); skip) | apply Sub.drop))), ?_⟩
  refine any_freeze v8 fun H9 hl9 hv8 => ?_
  refine gny_pcall 4 rfl rfl rfl (meet_spec (x := x') (y := y') ⟨_, rfl, (rRoute.fits0 gx), hv6.mono hl9⟩ ⟨_, rfl, (rRoute.fits0 gy), hv8⟩) ?_
  refine any_rest rfl ?_
  refine walk ?_
  have gx9 := rRoute_up gx (hl7.trans hl9)
  have gy9 := rRoute_up gy (hl7.trans hl9)
  refine ex_any 14 [row p4 26 [I x'.Start, .slice d2 x'.Cells.length e2], row p5 26 [I y'.Start, .slice d4 y'.Cells.length e4]] ?_
  (first | refine gny_p 0 rfl rfl rfl ?_ | refine gny_ld 0 rfl rfl rfl rfl ?_ | refine gny_ldH 0 rfl rfl rfl ‹HRow _ _ 0 _› rfl ?_ | refine gny_T 0 rfl rfl rfl ?_ | refine gny_F 0 rfl rfl rfl ?_ | refine gny_B 0 rfl rfl rfl ?_ | refine gny_skip 0 rfl rfl ?_ | refine gny_sp 0 rfl rfl rfl ?_ | refine gny_sB 0 rfl rfl rfl ?_ | refine gny_sld 0 rfl rfl rfl rfl ?_ | refine gny_sldH 0 rfl rfl rfl ‹HRow _ _ 0 _› rfl ?_ | refine gny_ldN 0 rfl rfl rfl rfl ?_ | refine gny_bld 0 rfl rfl rfl ?_); (first | refine gny_p 1 rfl rfl rfl ?_ | refine gny_ld 1 rfl rfl rfl rfl ?_ | refine gny_ldH 1 rfl rfl rfl ‹HRow _ _ 0 _› rfl ?_ | refine gny_T 1 rfl rfl rfl ?_ | refine gny_F 1 rfl rfl rfl ?_ | refine gny_B 1 rfl rfl rfl ?_ | refine gny_skip 1 rfl rfl ?_ | refine gny_sp 1 rfl rfl rfl ?_ | refine gny_sB 1 rfl rfl rfl ?_ | refine gny_sld 1 rfl rfl rfl rfl ?_ | refine gny_sldH 1 rfl rfl rfl ‹HRow _ _ 0 _› rfl ?_ | refine gny_ldN 1 rfl rfl rfl rfl ?_ | refine gny_bld 1 rfl rfl rfl ?_); (first | refine gny_p 2 rfl rfl rfl ?_ | refine gny_ld 2 rfl rfl rfl rfl ?_ | refine gny_ldH 2 rfl rfl rfl ‹HRow _ _ 0 _› rfl ?_ | refine gny_T 2 rfl rfl rfl ?_ | refine gny_F 2 rfl rfl rfl ?_ | refine gny_B 2 rfl rfl rfl ?_ | refine gny_skip 2 rfl rfl ?_ | refine gny_sp 2 rfl rfl rfl ?_ | refine gny_sB 2 rfl rfl rfl ?_ | refine gny_sld 2 rfl rfl rfl rfl ?_ | refine gny_sldH 2 rfl rfl rfl ‹HRow _ _ 0 _› rfl ?_ | refine gny_ldN 2 rfl rfl rfl rfl ?_ | refine gny_bld 2 rfl rfl rfl ?_)
  refine gny_pcall 3 rfl rfl rfl (rMeet_spec gx9 gy9) ?_
  (first | refine gny_p 4 rfl rfl rfl ?_ | refine gny_ld 4 rfl rfl rfl rfl ?_ | refine gny_ldH 4 rfl rfl rfl ‹HRow _ _ 0 _› rfl ?_ | refine gny_T 4 rfl rfl rfl ?_ | refine gny_F 4 rfl rfl rfl ?_ | refine gny_B 4 rfl rfl rfl ?_ | refine gny_skip 4 rfl rfl ?_ | refine gny_sp 4 rfl rfl rfl ?_ | refine gny_sB 4 rfl rfl rfl ?_ | refine gny_sld 4 rfl rfl rfl rfl ?_ | refine gny_sldH 4 rfl rfl rfl ‹HRow _ _ 0 _› rfl ?_ | refine gny_ldN 4 rfl rfl rfl rfl ?_ | refine gny_bld 4 rfl rfl rfl ?_)
  rw [decide_eq_false (p := ¬ _ = _) (fun h => h rfl)]
  (first | refine gny_p 5 rfl rfl rfl ?_ | refine gny_ld 5 rfl rfl rfl rfl ?_ | refine gny_ldH 5 rfl rfl rfl ‹HRow _ _ 0 _› rfl ?_ | refine gny_T 5 rfl rfl rfl ?_ | refine gny_F 5 rfl rfl rfl ?_ | refine gny_B 5 rfl rfl rfl ?_ | refine gny_skip 5 rfl rfl ?_ | refine gny_sp 5 rfl rfl rfl ?_ | refine gny_sB 5 rfl rfl rfl ?_ | refine gny_sld 5 rfl rfl rfl rfl ?_ | refine gny_sldH 5 rfl rfl rfl ‹HRow _ _ 0 _› rfl ?_ | refine gny_ldN 5 rfl rfl rfl rfl ?_ | refine gny_bld 5 rfl rfl rfl ?_); (first | refine gny_p 6 rfl rfl rfl ?_ | refine gny_ld 6 rfl rfl rfl rfl ?_ | refine gny_ldH 6 rfl rfl rfl ‹HRow _ _ 0 _› rfl ?_ | refine gny_T 6 rfl rfl rfl ?_ | refine gny_F 6 rfl rfl rfl ?_ | refine gny_B 6 rfl rfl rfl ?_ | refine gny_skip 6 rfl rfl ?_ | refine gny_sp 6 rfl rfl rfl ?_ | refine gny_sB 6 rfl rfl rfl ?_ | refine gny_sld 6 rfl rfl rfl rfl ?_ | refine gny_sldH 6 rfl rfl rfl ‹HRow _ _ 0 _› rfl ?_ | refine gny_ldN 6 rfl rfl rfl rfl ?_ | refine gny_bld 6 rfl rfl rfl ?_); (first | refine gny_p 7 rfl rfl rfl ?_ | refine gny_ld 7 rfl rfl rfl rfl ?_ | refine gny_ldH 7 rfl rfl rfl ‹HRow _ _ 0 _› rfl ?_ | refine gny_T 7 rfl rfl rfl ?_ | refine gny_F 7 rfl rfl rfl ?_ | refine gny_B 7 rfl rfl rfl ?_ | refine gny_skip 7 rfl rfl ?_ | refine gny_sp 7 rfl rfl rfl ?_ | refine gny_sB 7 rfl rfl rfl ?_ | refine gny_sld 7 rfl rfl rfl rfl ?_ | refine gny_sldH 7 rfl rfl rfl ‹HRow _ _ 0 _› rfl ?_ | refine gny_ldN 7 rfl rfl rfl rfl ?_ | refine gny_bld 7 rfl rfl rfl ?_); (first | refine gny_p 9 rfl rfl rfl ?_ | refine gny_ld 9 rfl rfl rfl rfl ?_ | refine gny_ldH 9 rfl rfl rfl ‹HRow _ _ 0 _› rfl ?_ | refine gny_T 9 rfl rfl rfl ?_ | refine gny_F 9 rfl rfl rfl ?_ | refine gny_B 9 rfl rfl rfl ?_ | refine gny_skip 9 rfl rfl ?_ | refine gny_sp 9 rfl rfl rfl ?_ | refine gny_sB 9 rfl rfl rfl ?_ | refine gny_sld 9 rfl rfl rfl rfl ?_ | refine gny_sldH 9 rfl rfl rfl ‹HRow _ _ 0 _› rfl ?_ | refine gny_ldN 9 rfl rfl rfl rfl ?_ | refine gny_bld 9 rfl rfl rfl ?_)
  refine gny_call (vs := [.agg [I y'.Start, .slice d4 y'.Cells.length e4].toArray]) 8 rfl rfl rfl (own40_spec cy gy9) fun r10 H10 B hl10 ⟨v10, er, eB, eH⟩ => ?_
  subst er eB eH
  refine ⟨(by (repeat (first | exact Sub.refl _ | exact Sub.nil _ | (apply sub_pick; (repeat (first | exact Has.here | apply Has.there)); skip) | apply Sub.drop))), ?_⟩
  refine any_freeze v10 fun H11 hl11 hv10 => ?_
  refine gny_call (vs := [.agg [I x'.Start, .slice d2 x'.Cells.length e2].toArray]) 10 rfl rfl rfl (own40_spec cx (rRoute_up gx9 hl11)) fun r12 H12 B hl12 ⟨v12, er, eB, eH⟩ => ?_
  subst er eB eH
  refine ⟨(by (repeat (first | exact Sub.refl _ | exact Sub.nil _ | (apply sub_pick; (repeat (first | exact Has.here | apply Has.there)); skip) | apply Sub.drop))), ?_⟩
  refine any_freeze v12 fun H13 hl13 hv12 => ?_
  refine gny_pcall 11 rfl rfl rfl (meet_spec (x := y') (y := x') ⟨_, rfl, (rRoute.fits0 gy), hv10.mono hl13⟩ ⟨_, rfl, (rRoute.fits0 gx), hv12⟩) ?_
  rw [meetB_comm (x := y')]
  (first | refine gny_p 12 rfl rfl rfl ?_ | refine gny_ld 12 rfl rfl rfl rfl ?_ | refine gny_ldH 12 rfl rfl rfl ‹HRow _ _ 0 _› rfl ?_ | refine gny_T 12 rfl rfl rfl ?_ | refine gny_F 12 rfl rfl rfl ?_ | refine gny_B 12 rfl rfl rfl ?_ | refine gny_skip 12 rfl rfl ?_ | refine gny_sp 12 rfl rfl rfl ?_ | refine gny_sB 12 rfl rfl rfl ?_ | refine gny_sld 12 rfl rfl rfl rfl ?_ | refine gny_sldH 12 rfl rfl rfl ‹HRow _ _ 0 _› rfl ?_ | refine gny_ldN 12 rfl rfl rfl rfl ?_ | refine gny_bld 12 rfl rfl rfl ?_)
  rw [decide_eq_false (p := ¬ _ = _) (fun h => h rfl)]
  (first | refine gny_p 13 rfl rfl rfl ?_ | refine gny_ld 13 rfl rfl rfl rfl ?_ | refine gny_ldH 13 rfl rfl rfl ‹HRow _ _ 0 _› rfl ?_ | refine gny_T 13 rfl rfl rfl ?_ | refine gny_F 13 rfl rfl rfl ?_ | refine gny_B 13 rfl rfl rfl ?_ | refine gny_skip 13 rfl rfl ?_ | refine gny_sp 13 rfl rfl rfl ?_ | refine gny_sB 13 rfl rfl rfl ?_ | refine gny_sld 13 rfl rfl rfl rfl ?_ | refine gny_sldH 13 rfl rfl rfl ‹HRow _ _ 0 _› rfl ?_ | refine gny_ldN 13 rfl rfl rfl rfl ?_ | refine gny_bld 13 rfl rfl rfl ?_)
  refine any_rest rfl ?_
  refine walk ?_
  have hlm := hl1.trans (hl3.trans (hl5.trans (hl7.trans (hl9.trans (hl11.trans hl13)))))
  have g13 := RdOk.mono (R := rMap) hlm g0
  have gx13 := rRoute_up gx9 (hl11.trans hl13)
  have gy13 := rRoute_up gy9 (hl11.trans hl13)
  refine ops_pcall rfl rfl (rGood_spec g13) ?_
  refine walkG ?_
  refine ops_gcall rfl rfl (fun hg => rCheck_spec (m := m) g13 gx13 (Classical.not_not.1 hg).1.1) ?_
  refine walkG ?_
  refine ops_gcall rfl rfl (fun hg => rCheck_spec (m := m) g13 gy13 (by exact (Classical.not_not.1 fun e => hg (.inl e)).1.1)) ?_
  refine walkG ?_
  refine ex_if rfl (fun hq => ?_) (fun hq => ?_)
  · refine walk ?_
    refine fin0 ?_
    exact ⟨rfl, rfl⟩
  have hcx : checkR m x' = 0 := Classical.not_not.1 fun e => hq (.inl (.inr e))
  have hcy : checkR m y' = 0 := Classical.not_not.1 fun e => hq (.inr e)
  have hkm := keys_meet (okR.nonneg (m := m) (.inr (checkR_ok.1 hcx))) (okR.nonneg (m := m) (.inr (checkR_ok.1 hcy)))
  rw [← common_iff] at hkm
  refine walk ?_
  refine ops_call (vs := [.agg [I x'.Start, .slice d2 x'.Cells.length e2].toArray]) rfl rfl (pKeys_spec (hT.mono hlm) gx13) fun r14 H14 B hl14 ⟨hks, eB⟩ => ?_
  subst eB
  obtain ⟨bk, ck, rfl, hck, hdk⟩ := hks.1.shape
  generalize (keysL x').map sb = l at *
  refine walk ?_
  refine ex_loop (σ := Nat × Bool × Heap) (fun s => s.1 ≤ l.length ∧ H14.le s.2.2 ∧ (s.2.1 = true ↔ ∃ q ∈ l.take s.1, q ∈ (keysL y').map sb)) (fun s => [(5, .pointer (some ⟨p5, 0, none⟩)), (7, .bool (meetB x' y')), (8, .bool (decide (s.2.1 = true))), (54, .slice bk l.length ck), (55, I l.length), (56, I s.1)]) (fun s => s.2.2) (fun _ => row p5 26 [I y'.Start, .slice d4 y'.Cells.length e4] :: R) (fun s => l.length - s.1) (0, false, H14) ⟨Nat.zero_le _, .refl _, by simp⟩ fun ⟨k, b, H15⟩ ⟨hk0, hl15, hb⟩ K hL => ?_
  simp only at hk0 hl15 hb
  dsimp only
  refine walk ?_
  refine ex_if rfl (fun hk => ?_) (fun hk => ?_)
  · have hk1 : k < l.length := by omega
    have hks15 := (hks.mono hl15).1
    refine walk ?_
    refine ops_call (vs := [.agg [I y'.Start, .slice d4 y'.Cells.length e4].toArray]) rfl rfl (pKeys_spec (hT.mono (hlm.trans (hl14.trans hl15))) (rRoute_up gy13 (hl14.trans hl15))) fun r16 H16 B hl16 ⟨hms, eB⟩ => ?_
    subst eB
    obtain ⟨bm, cm, rfl, hcm, hdm⟩ := hms.1.shape
    have hms0 := hms.1
    generalize (keysL y').map sb = mm at *
    refine walk ?_
    refine ex_loop (σ := Nat × Bool) (fun s => s.1 ≤ mm.length ∧ (s.2 = true ↔ (∃ q ∈ l.take k, q ∈ mm) ∨ l[k] ∈ mm.take s.1)) (fun s => [(5, .pointer (some ⟨p5, 0, none⟩)), (7, .bool (meetB x' y')), (8, .bool (decide (s.2 = true))), (10, .string l[k]), (54, .slice bk l.length ck), (55, I l.length), (56, I k), (61, .slice bm mm.length cm), (62, I mm.length), (63, I s.1)]) (fun _ => H16) (fun _ => row p5 26 [I y'.Start, .slice d4 y'.Cells.length e4] :: R) (fun s => mm.length - s.1) (0, b) ⟨Nat.zero_le _, by simp [hb]⟩ fun ⟨j, b'⟩ ⟨hj0, hb'⟩ K2 hL2 => ?_
    simp only at hj0 hb'
    dsimp only
    refine walk ?_
    refine ex_if rfl (fun hj => ?_) (fun hj => ?_)
    · have hj1 : j < mm.length := by omega
      refine walkG ?_
      have hbn : decide (b' = true ∨ l[k] = mm[j]) = decide ((decide (b' = true ∨ l[k] = mm[j])) = true) := by simp
      rw [hbn]
      refine out_next hL2 (j + 1, decide (b' = true ∨ l[k] = mm[j])) ⟨by simp only; omega, ?_⟩
      simp only [decide_eq_true_eq, hb', List.take_succ_eq_append_getElem hj1, List.mem_append, List.mem_singleton]
      exact ⟨fun h => by rcases h with (h | h) | h; exact .inl h; exact .inr (.inl h); exact .inr (.inr h), fun h => by rcases h with h | h | h; exact .inl (.inl h); exact .inl (.inr h); exact .inr h⟩
    · clear hL2
      obtain rfl : j = mm.length := by omega
      rw [List.take_length] at hb'
      refine walk ?_
      refine out_next hL (k + 1, b', H16) ⟨by simp only; omega, hl15.trans hl16, ?_⟩
      simp only [hb', List.take_succ_eq_append_getElem hk1, List.mem_append, List.mem_singleton]
      exact ⟨fun h => by rcases h with ⟨q, h1, h2⟩ | h; exact ⟨q, .inl h1, h2⟩; exact ⟨_, .inr rfl, h⟩, fun ⟨q, h1, h2⟩ => by rcases h1 with h1 | h1; exact .inl ⟨q, h1, h2⟩; exact .inr (h1 ▸ h2)⟩
  · clear hL
    obtain rfl : k = l.length := by omega
    rw [List.take_length, hkm] at hb
    have hbm : b = meetB x' y' := by
      by_cases h : meetR x' y'
      · rw [meetB_true h]; exact hb.2 h
      · rw [meetB_false h]; cases b with | false => rfl | true => exact absurd (hb.1 rfl) h
    subst hbm
    refine walk ?_
    refine fin0 ?_
    exact ⟨by simp, rfl⟩
end Go.Proofs.YtnfmjkjhiolfdaaDoor
