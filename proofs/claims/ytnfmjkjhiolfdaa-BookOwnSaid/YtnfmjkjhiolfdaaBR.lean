/- BookSafe: the walk. -/
import Derived.Test.YtnfmjkjhiolfdaaBP
import Derived.Test.YtnfmjkjhiolfdaaBQ
set_option linter.unusedVariables false
set_option linter.unusedSimpArgs false
namespace Go.Proofs.Ytnfmjkjhiolfdaa
open Go Go.Sx Go.Proofs
theorem routeOf_nat {rs : List Route} {a : Nat} (h : a < 16) : routeOf rs (a : Int) = rs.getD a zRoute := by unfold routeOf; rw [if_pos (by simp only [robI]; omega)]; rfl
theorem epochOf_nat {es : List Int} {a : Nat} (h : a < 16) : epochOf es (a : Int) = es.getD a 0 := by unfold epochOf; rw [if_pos (by simp only [robI]; omega)]; rfl
theorem routeOf_fits {rs : List Route} {r : Int} {H : Heap} {g : Value} {cs : List Value} {m : Map} {es : List Int} (h : BkOk H g cs m es rs) : fits (routeOf rs r).Start := by
  unfold routeOf
  split
  · next hr =>
    have hj : r.toNat < rs.length := by rw [h.rl]; simp only [robI] at hr; omega
    rw [show rs.getD r.toNat zRoute = rs[r.toNat] by simp [List.getD, hj]]
    obtain ⟨c, _, _, s, _, hf, _⟩ := h.rr.get hj
    exact hf
  · exact fits0
theorem bookO_fits {H : Heap} {p : Value} {m : Map} {es : List Int} {rs : List Route} {r : Int} {h : Heap} (ho : bookO H p m es rs h) : fits (routeOf rs r).Start := by
  obtain ⟨x, ⟨e, a⟩, b⟩ := ho; exact routeOf_fits a
set_option maxHeartbeats 16000000 in
theorem safe_spec {W0 : World} {H : Heap} {c : List Value} {l : Value} {m : Map} {ss : List Said} (h0 : rMap H c m) (h1 : SlB rSaid 6 64 H l ss) :
    Ct Try.prog 5 #[.agg c.toArray, l] W0 H [] (fun r H' B => r = .bool true ∧ B = []) := by
  refine Ct.go (vs := [.agg c.toArray, l]) fun R => ?_
  obtain ⟨b1, c1, rfl, hc1, hd1⟩ := h1.1.shape
  have g0 := h0
  obtain ⟨s0, rfl, f1, f2, f3, h0⟩ := h0
  refine walk ?_
  refine ops_box rfl rfl fun p2 _ => ?_
  refine walk ?_
  refine ops_call (vs := []) rfl rfl awake_spec fun r1 H1 B hl1 ⟨er, eB⟩ => ?_
  subst er eB
  refine walk ?_
  refine ops_call (vs := [.agg (m.cv s0).toArray]) rfl rfl (gNew_spec (RdOk.mono (R := rMap) hl1 g0)) fun r2 H2 B hl2 ⟨g, e, er, eB, h⟩ => ?_
  subst er eB
  rcases h with ⟨hm, hG, rfl⟩ | ⟨hm, rfl, rfl⟩
  rotate_left
  · refine walk ?_
    refine ops_pcall rfl rfl (rGood_spec (RdOk.mono (R := rMap) (hl1.trans hl2) g0)) ?_
    refine walk ?_
    refine fin0 ?_
    exact ⟨by simp [hm], rfl⟩
  have hGp := hG
  obtain ⟨⟨bg, s, mb, mm, rfl, q1, q2, q3, q4⟩, hgd, hfs⟩ := hGp
  refine walk ?_
  refine ops_call rfl rfl (bNew_spec hG) fun r3 H3 B hl3 ⟨eB, eH⟩ => ?_
  subst eB eH
  refine ops_know .here (fun h hh => bookO_ptr hh) fun ⟨bb, eb⟩ => ?_
  subst eb
  refine walk ?_
  refine ex_loop (σ := Nat × Int × List Int × List Route × Heap) (fun s => (s.1 ≤ ss.length ∧ s.1 ≤ 80) ∧ H3.le s.2.2.2.2 ∧ (0 ≤ s.2.1 ∧ fits s.2.1) ∧ Inv m s.2.2.1 s.2.2.2.1 s.1 ∧ Apart s.2.2.2.1 s.2.1)
    (fun s => [(1, .slice b1 ss.length c1), (5, .pointer (some ⟨bg, 0, none⟩)), (7, .pointer (some ⟨bb, 0, none⟩)), (8, I s.2.1), (9, I s.1)]) (fun s => s.2.2.2.2)
    (fun s => bookO s.2.2.2.2 (.pointer (some ⟨bb, 0, none⟩)) m s.2.2.1 s.2.2.2.1 :: R) (fun s => ss.length - s.1) (0, 0, zEpochs, zRoutes, H3) ⟨by simp, .refl _, ⟨by simp, fits0⟩, inv0, apart0⟩ fun ⟨k, now, es, rs, H4⟩ ⟨⟨hk0, hk80⟩, hl4, ⟨hn0, hnf⟩, hI, hA⟩ K hL => ?_
  simp only at hk0 hk80 hl4 hn0 hnf hI hA
  dsimp only
  refine walkG ?_
  refine ex_if rfl (fun hk => ?_) (fun hk => ?_)
  · obtain ⟨hk1, hk2⟩ : k < ss.length ∧ k < 80 := by omega
    refine walk ?_
    refine ops_ixp rfl rfl ((h1.mono (hl1.trans (hl2.trans hl4))).1) hk1 fun q o c hr hc => ?_
    refine ops_ldNH rfl rfl hr (RdOk.len hc) ?_
    generalize ss[k] = sd at *
    obtain ⟨sv, rfl, t1, t2, t3, t4, t5, t6⟩ := hc
    obtain ⟨bv, cv, rfl, hcv, hdv⟩ := t6.1.shape
    refine ops_alloc rfl fun p10 _ => ?_
    refine walk ?_
    have hn2 : 0 ≤ max now sd.Tick ∧ now ≤ max now sd.Tick ∧ fits (max now sd.Tick) := by unfold fits at *; omega
    generalize max now sd.Tick = n2 at *
    refine ex_any 8 [row p10 32 (sd.cv (.slice bv sd.Call.Route.Cells.length cv))] ?_
    (first | refine gny_p 0 rfl rfl rfl ?_ | refine gny_ld 0 rfl rfl rfl rfl ?_ | refine gny_ldH 0 rfl rfl rfl ‹HRow _ _ 0 _› rfl ?_ | refine gny_T 0 rfl rfl rfl ?_ | refine gny_F 0 rfl rfl rfl ?_ | refine gny_B 0 rfl rfl rfl ?_ | refine gny_skip 0 rfl rfl ?_ | refine gny_sp 0 rfl rfl rfl ?_ | refine gny_sB 0 rfl rfl rfl ?_ | refine gny_sld 0 rfl rfl rfl rfl ?_ | refine gny_sldH 0 rfl rfl rfl ‹HRow _ _ 0 _› rfl ?_ | refine gny_ldN 0 rfl rfl rfl rfl ?_ | refine gny_bld 0 rfl rfl rfl ?_); (first | refine gny_p 1 rfl rfl rfl ?_ | refine gny_ld 1 rfl rfl rfl rfl ?_ | refine gny_ldH 1 rfl rfl rfl ‹HRow _ _ 0 _› rfl ?_ | refine gny_T 1 rfl rfl rfl ?_ | refine gny_F 1 rfl rfl rfl ?_ | refine gny_B 1 rfl rfl rfl ?_ | refine gny_skip 1 rfl rfl ?_ | refine gny_sp 1 rfl rfl rfl ?_ | refine gny_sB 1 rfl rfl rfl ?_ | refine gny_sld 1 rfl rfl rfl rfl ?_ | refine gny_sldH 1 rfl rfl rfl ‹HRow _ _ 0 _› rfl ?_ | refine gny_ldN 1 rfl rfl rfl rfl ?_ | refine gny_bld 1 rfl rfl rfl ?_); (first | refine gny_p 2 rfl rfl rfl ?_ | refine gny_ld 2 rfl rfl rfl rfl ?_ | refine gny_ldH 2 rfl rfl rfl ‹HRow _ _ 0 _› rfl ?_ | refine gny_T 2 rfl rfl rfl ?_ | refine gny_F 2 rfl rfl rfl ?_ | refine gny_B 2 rfl rfl rfl ?_ | refine gny_skip 2 rfl rfl ?_ | refine gny_sp 2 rfl rfl rfl ?_ | refine gny_sB 2 rfl rfl rfl ?_ | refine gny_sld 2 rfl rfl rfl rfl ?_ | refine gny_sldH 2 rfl rfl rfl ‹HRow _ _ 0 _› rfl ?_ | refine gny_ldN 2 rfl rfl rfl rfl ?_ | refine gny_bld 2 rfl rfl rfl ?_); (first | refine gny_p 3 rfl rfl rfl ?_ | refine gny_ld 3 rfl rfl rfl rfl ?_ | refine gny_ldH 3 rfl rfl rfl ‹HRow _ _ 0 _› rfl ?_ | refine gny_T 3 rfl rfl rfl ?_ | refine gny_F 3 rfl rfl rfl ?_ | refine gny_B 3 rfl rfl rfl ?_ | refine gny_skip 3 rfl rfl ?_ | refine gny_sp 3 rfl rfl rfl ?_ | refine gny_sB 3 rfl rfl rfl ?_ | refine gny_sld 3 rfl rfl rfl rfl ?_ | refine gny_sldH 3 rfl rfl rfl ‹HRow _ _ 0 _› rfl ?_ | refine gny_ldN 3 rfl rfl rfl rfl ?_ | refine gny_bld 3 rfl rfl rfl ?_); (first | refine gny_p 4 rfl rfl rfl ?_ | refine gny_ld 4 rfl rfl rfl rfl ?_ | refine gny_ldH 4 rfl rfl rfl ‹HRow _ _ 0 _› rfl ?_ | refine gny_T 4 rfl rfl rfl ?_ | refine gny_F 4 rfl rfl rfl ?_ | refine gny_B 4 rfl rfl rfl ?_ | refine gny_skip 4 rfl rfl ?_ | refine gny_sp 4 rfl rfl rfl ?_ | refine gny_sB 4 rfl rfl rfl ?_ | refine gny_sld 4 rfl rfl rfl rfl ?_ | refine gny_sldH 4 rfl rfl rfl ‹HRow _ _ 0 _› rfl ?_ | refine gny_ldN 4 rfl rfl rfl rfl ?_ | refine gny_bld 4 rfl rfl rfl ?_); (first | refine gny_p 6 rfl rfl rfl ?_ | refine gny_ld 6 rfl rfl rfl rfl ?_ | refine gny_ldH 6 rfl rfl rfl ‹HRow _ _ 0 _› rfl ?_ | refine gny_T 6 rfl rfl rfl ?_ | refine gny_F 6 rfl rfl rfl ?_ | refine gny_B 6 rfl rfl rfl ?_ | refine gny_skip 6 rfl rfl ?_ | refine gny_sp 6 rfl rfl rfl ?_ | refine gny_sB 6 rfl rfl rfl ?_ | refine gny_sld 6 rfl rfl rfl rfl ?_ | refine gny_sldH 6 rfl rfl rfl ‹HRow _ _ 0 _› rfl ?_ | refine gny_ldN 6 rfl rfl rfl rfl ?_ | refine gny_bld 6 rfl rfl rfl ?_)
    refine gny_call (vs := [.agg (sd.Call.cv (.slice bv sd.Call.Route.Cells.length cv)).toArray]) 5 rfl rfl rfl (own_spec (c := sd.Call) ⟨_, rfl, t3, t4, t5, t6⟩) fun r5 H5 B hl5 ⟨v5, er, eB, eH⟩ => ?_
    subst er eB eH
    refine ⟨(by (repeat (first | exact Sub.refl _ | exact Sub.nil _ | (apply sub_pick; (repeat (first | exact Has.here | apply Has.there)); skip) | apply Sub.drop))), ?_⟩
    refine any_freeze v5 fun H6 hl6 hz6 => ?_
    refine gny_call 7 rfl rfl rfl (apply_spec (H0 := H5) (m := m) (es := es) (rs := rs) (c := ownC sd.Call) (t := n2) hl6 ⟨v5, rfl, t3, t4, t5, hz6⟩ hn2.2.2 (fun e he => by have := hI.e e he; omega) hI.len ownC_len) fun r7 H7 B hl7 ⟨v7, er, eB⟩ => ?_
    subst er eB
    refine ⟨(by (repeat (first | exact Sub.refl _ | exact Sub.nil _ | (apply sub_pick; (repeat (first | exact Has.here | apply Has.there)); skip) | apply Sub.drop))), ?_⟩
    refine any_rest rfl ?_
    obtain ⟨hst, hrep⟩ := apply_step (conf := confM) (m := m) (es := es) (rs := rs) (r := sd.Robot) (c := ownC sd.Call) (t := n2)
    have hA' := hA.step hI hn2.2.1 hst
    have hI' := hI.step hst (by omega)
    generalize applyC confM m es rs sd.Robot (ownC sd.Call) n2 = res at *
    obtain ⟨es', rs', y⟩ := res
    simp only at hst hrep hA' hI'
    dsimp only
    have hl47 : H5.le H7 := hl6.trans hl7
    refine ops_L (L' := bookO H7 (.pointer (some ⟨bb, 0, none⟩)) m es' rs' :: R) (by (repeat (first | exact Sub.refl _ | exact Sub.nil _ | (apply sub_pick; (repeat (first | exact Has.here | apply Has.there)); skip) | apply Sub.drop))) ?_
    refine walk ?_
    refine ex_loop (σ := Nat × Heap) (fun s => s.1 ≤ 16 ∧ H7.le s.2) (fun s => [(1, .slice b1 ss.length c1), (5, .pointer (some ⟨bg, 0, none⟩)), (7, .pointer (some ⟨bb, 0, none⟩)), (8, I n2), (9, I k), (11, I s.1)]) (fun s => s.2)
      (fun s => bookO s.2 (.pointer (some ⟨bb, 0, none⟩)) m es' rs' :: R) (fun s => 16 - s.1) (0, H7) ⟨by simp, .refl _⟩ fun ⟨a, H8⟩ ⟨ha0, hl8⟩ K2 hL2 => ?_
    simp only at ha0 hl8
    dsimp only
    refine walk ?_
    refine ex_if rfl (fun ha => ?_) (fun ha => ?_)
    · have ha1 : a < 16 := by omega
      refine walk ?_
      refine ops_know .here (fun h hh => bookO_fits (r := a) hh) fun hrf => ?_
      refine ops_call rfl rfl (routeB_spec (H0 := H8) (m := m) (es := es') (rs := rs') (r := a) (.refl _)) fun r9 H9 B hl9 ⟨v9, er, eB, eH⟩ => ?_
      subst er eB eH
      rw [routeOf_nat ha1] at hrf ⊢
      have hok := hI'.okR ha1
      refine ops_freeze v9 fun H10 hl10 hz10 => ?_
      refine walk ?_
      refine ops_call (vs := [.agg #[I (rs'.getD a zRoute).Start, v9], I n2]) rfl rfl (cut_spec (x := rs'.getD a zRoute) ⟨v9, rfl, hrf, hz10⟩ hn2.2.2) fun r11 H11 B hl11 ⟨v11, er, eB⟩ => ?_
      subst er eB
      refine ops_shape v11 fun d1 e1 e _ _ _ => ?_
      subst e
      refine ops_alloc rfl fun p12 _ => ?_
      refine ops_freeze (.slice d1 (cutR (rs'.getD a zRoute) n2).Cells.length e1) fun H12 hl12 hz12 => ?_
      have hxf : fits (cutR (rs'.getD a zRoute) n2).Start := cutR_fits
      have hgo : (cutR (rs'.getD a zRoute) n2).Cells ≠ [] → checkR m (cutR (rs'.getD a zRoute) n2) = 0 ∧ es'.getD a 0 ≠ 0 := fun hne => by
        rcases hI'.ok a ha1 with e | ⟨e1, e2⟩
        · rw [e, cutR_z] at hne; exact absurd rfl hne
        · refine ⟨checkR_ok.2 ?_, e2⟩
          rcases hok.cut (t := n2) with e | e
          · rw [e] at hne; exact absurd rfl hne
          · exact e
      have hmt : ∀ c, c < a → ¬ meetR (cutR (rs'.getD a zRoute) n2) (cutR (rs'.getD c zRoute) n2) := fun c hc => hA'.meet hI' ha1 (by omega) (by omega)
      generalize cutR (rs'.getD a zRoute) n2 = x at *
      have hl912 : H9.le H12 := hl10.trans (hl11.trans hl12)
      refine walk ?_
      by_cases hxn : x.Cells = []
      · rw [decide_eq_false (p := (0 : Int) < (x.Cells.length : Int)) (by rw [hxn]; simp)]
        refine walk ?_
        refine ex_L (L' := bookO H12 (.pointer (some ⟨bb, 0, none⟩)) m es' rs' :: row p12 28 [I x.Start, .slice d1 x.Cells.length e1] :: R) (Sub.trans (by (repeat (first | exact Sub.refl _ | exact Sub.nil _ | (apply sub_pick; (repeat (first | exact Has.here | apply Has.there)); skip) | apply Sub.drop))) (bookO_up hl912)) ?_
        refine ex_loop (σ := Nat × Heap) (fun s => s.1 ≤ a ∧ Heap.le H12 s.2) (fun s => [(1, .slice b1 ss.length c1), (5, .pointer (some ⟨bg, 0, none⟩)), (7, .pointer (some ⟨bb, 0, none⟩)), (8, I n2), (9, I k), (11, I a), (12, .pointer (some ⟨p12, 0, none⟩)), (13, I s.1)]) (fun s => s.2)
          (fun s => bookO s.2 (.pointer (some ⟨bb, 0, none⟩)) m es' rs' :: row p12 28 [I x.Start, .slice d1 x.Cells.length e1] :: R) (fun s => a - s.1) (0, H12) ⟨by simp, .refl _⟩ fun ⟨c, H15⟩ ⟨hc0, hl15⟩ K3 hL3 => ?_
        simp only at hc0 hl15
        dsimp only
        refine walk ?_
        refine ex_if rfl (fun hc => ?_) (fun hc => ?_)
        · have hc1 : c < a := by omega
          refine walk ?_
          refine ex_know (A := bookO H15 (.pointer (some ⟨bb, 0, none⟩)) m es' rs') (by repeat (first | exact Has.here | apply Has.there)) (fun h hh => bookO_fits (r := c) hh) fun hrf2 => ?_
          refine ex_any 7 [row p12 28 [I x.Start, .slice d1 x.Cells.length e1]] ?_
          (first | refine gny_p 0 rfl rfl rfl ?_ | refine gny_ld 0 rfl rfl rfl rfl ?_ | refine gny_ldH 0 rfl rfl rfl ‹HRow _ _ 0 _› rfl ?_ | refine gny_T 0 rfl rfl rfl ?_ | refine gny_F 0 rfl rfl rfl ?_ | refine gny_B 0 rfl rfl rfl ?_ | refine gny_skip 0 rfl rfl ?_ | refine gny_sp 0 rfl rfl rfl ?_ | refine gny_sB 0 rfl rfl rfl ?_ | refine gny_sld 0 rfl rfl rfl rfl ?_ | refine gny_sldH 0 rfl rfl rfl ‹HRow _ _ 0 _› rfl ?_ | refine gny_ldN 0 rfl rfl rfl rfl ?_ | refine gny_bld 0 rfl rfl rfl ?_); (first | refine gny_p 1 rfl rfl rfl ?_ | refine gny_ld 1 rfl rfl rfl rfl ?_ | refine gny_ldH 1 rfl rfl rfl ‹HRow _ _ 0 _› rfl ?_ | refine gny_T 1 rfl rfl rfl ?_ | refine gny_F 1 rfl rfl rfl ?_ | refine gny_B 1 rfl rfl rfl ?_ | refine gny_skip 1 rfl rfl ?_ | refine gny_sp 1 rfl rfl rfl ?_ | refine gny_sB 1 rfl rfl rfl ?_ | refine gny_sld 1 rfl rfl rfl rfl ?_ | refine gny_sldH 1 rfl rfl rfl ‹HRow _ _ 0 _› rfl ?_ | refine gny_ldN 1 rfl rfl rfl rfl ?_ | refine gny_bld 1 rfl rfl rfl ?_); (first | refine gny_p 2 rfl rfl rfl ?_ | refine gny_ld 2 rfl rfl rfl rfl ?_ | refine gny_ldH 2 rfl rfl rfl ‹HRow _ _ 0 _› rfl ?_ | refine gny_T 2 rfl rfl rfl ?_ | refine gny_F 2 rfl rfl rfl ?_ | refine gny_B 2 rfl rfl rfl ?_ | refine gny_skip 2 rfl rfl ?_ | refine gny_sp 2 rfl rfl rfl ?_ | refine gny_sB 2 rfl rfl rfl ?_ | refine gny_sld 2 rfl rfl rfl rfl ?_ | refine gny_sldH 2 rfl rfl rfl ‹HRow _ _ 0 _› rfl ?_ | refine gny_ldN 2 rfl rfl rfl rfl ?_ | refine gny_bld 2 rfl rfl rfl ?_); (first | refine gny_p 4 rfl rfl rfl ?_ | refine gny_ld 4 rfl rfl rfl rfl ?_ | refine gny_ldH 4 rfl rfl rfl ‹HRow _ _ 0 _› rfl ?_ | refine gny_T 4 rfl rfl rfl ?_ | refine gny_F 4 rfl rfl rfl ?_ | refine gny_B 4 rfl rfl rfl ?_ | refine gny_skip 4 rfl rfl ?_ | refine gny_sp 4 rfl rfl rfl ?_ | refine gny_sB 4 rfl rfl rfl ?_ | refine gny_sld 4 rfl rfl rfl rfl ?_ | refine gny_sldH 4 rfl rfl rfl ‹HRow _ _ 0 _› rfl ?_ | refine gny_ldN 4 rfl rfl rfl rfl ?_ | refine gny_bld 4 rfl rfl rfl ?_)
          refine gny_call 3 rfl rfl rfl (routeB_spec (H0 := H15) (m := m) (es := es') (rs := rs') (r := c) (.refl _)) fun r16 H16 B hl16 ⟨v16, er, eB, eH⟩ => ?_
          subst er eB eH
          refine ⟨(by (repeat (first | exact Sub.refl _ | exact Sub.nil _ | (apply sub_pick; (repeat (first | exact Has.here | apply Has.there)); skip) | apply Sub.drop))), ?_⟩
          rw [routeOf_nat (show c < 16 by omega)] at hrf2 ⊢
          refine any_freeze v16 fun H17 hl17 hz17 => ?_
          refine gny_call (vs := [.agg #[I (rs'.getD c zRoute).Start, v16], I n2]) 5 rfl rfl rfl (cut_spec (x := rs'.getD c zRoute) ⟨v16, rfl, hrf2, hz17⟩ hn2.2.2) fun r18 H18 B hl18 ⟨v18, er, eB⟩ => ?_
          subst er eB
          refine ⟨(by (repeat (first | exact Sub.refl _ | exact Sub.nil _ | (apply sub_pick; (repeat (first | exact Has.here | apply Has.there)); skip) | apply Sub.drop))), ?_⟩
          refine any_freeze v18 fun H19 hl19 hz19 => ?_
          have hle19 : H16.le H19 := hl17.trans (hl18.trans hl19)
          refine gny_pcall 6 rfl rfl rfl (meet_spec (x := x) (y := cutR (rs'.getD c zRoute) n2) ⟨_, rfl, hxf, hz12.mono (Heap.le.trans (Heap.le.refl H12) (hl15.trans hle19))⟩ ⟨_, rfl, cutR_fits, hz19⟩) ?_
          rw [meetB_false (hmt c hc1)]
          refine any_rest rfl ?_
          refine walk ?_
          exact out_next hL3 (c + 1, H19) ⟨by simp only; omega, hl15.trans hle19⟩ (hs := Sub.trans (B := bookO H16 (.pointer (some ⟨bb, 0, none⟩)) m es' rs' :: row p12 28 [I x.Start, .slice d1 x.Cells.length e1] :: R) (by (repeat (first | exact Sub.refl _ | exact Sub.nil _ | (apply sub_pick; (repeat (first | exact Has.here | apply Has.there)); skip) | apply Sub.drop))) (bookO_up hle19))
        · clear hL3
          refine walk ?_
          exact out_next hL2 (a + 1, H15) ⟨by simp only; omega, hl8.trans (hl912.trans (Heap.le.trans (Heap.le.refl H12) hl15))⟩
      · have hpos : 0 < x.Cells.length := by cases h : x.Cells with | nil => exact absurd h hxn | cons => simp
        rw [decide_eq_true (p := (0 : Int) < (x.Cells.length : Int)) (by omega)]
        refine walk ?_
        refine ops_call (vs := [.pointer (some ⟨bg, 0, none⟩), .agg #[I x.Start, .slice d1 x.Cells.length e1]]) rfl rfl (check_spec (hG.mono (hl4.trans (hl47.trans (hl8.trans hl912)))) (x := x) ⟨_, rfl, hxf, hz12⟩) fun r13 H13 B hl13 ⟨er, eB⟩ => ?_
        subst er eB
        rw [(hgo hxn).1]
        refine walk ?_
        refine ops_call rfl rfl (epoch_spec (H0 := H9) (m := m) (es := es') (rs := rs') (r := a) (hl912.trans hl13)) fun r14 H14 B hl14 ⟨er, eB, eH⟩ => ?_
        subst er eB eH
        rw [epochOf_nat ha1]
        refine walk ?_
        rw [decide_eq_false (p := es'.getD a 0 = 0) (hgo hxn).2]
        refine walk ?_
        refine ex_L (L' := bookO H14 (.pointer (some ⟨bb, 0, none⟩)) m es' rs' :: row p12 28 [I x.Start, .slice d1 x.Cells.length e1] :: R) (Sub.trans (by (repeat (first | exact Sub.refl _ | exact Sub.nil _ | (apply sub_pick; (repeat (first | exact Has.here | apply Has.there)); skip) | apply Sub.drop))) (bookO_up (Heap.le.refl H14))) ?_
        refine ex_loop (σ := Nat × Heap) (fun s => s.1 ≤ a ∧ Heap.le H14 s.2) (fun s => [(1, .slice b1 ss.length c1), (5, .pointer (some ⟨bg, 0, none⟩)), (7, .pointer (some ⟨bb, 0, none⟩)), (8, I n2), (9, I k), (11, I a), (12, .pointer (some ⟨p12, 0, none⟩)), (13, I s.1)]) (fun s => s.2)
          (fun s => bookO s.2 (.pointer (some ⟨bb, 0, none⟩)) m es' rs' :: row p12 28 [I x.Start, .slice d1 x.Cells.length e1] :: R) (fun s => a - s.1) (0, H14) ⟨by simp, .refl _⟩ fun ⟨c, H15⟩ ⟨hc0, hl15⟩ K3 hL3 => ?_
        simp only at hc0 hl15
        dsimp only
        refine walk ?_
        refine ex_if rfl (fun hc => ?_) (fun hc => ?_)
        · have hc1 : c < a := by omega
          refine walk ?_
          refine ex_know (A := bookO H15 (.pointer (some ⟨bb, 0, none⟩)) m es' rs') (by repeat (first | exact Has.here | apply Has.there)) (fun h hh => bookO_fits (r := c) hh) fun hrf2 => ?_
          refine ex_any 7 [row p12 28 [I x.Start, .slice d1 x.Cells.length e1]] ?_
          (first | refine gny_p 0 rfl rfl rfl ?_ | refine gny_ld 0 rfl rfl rfl rfl ?_ | refine gny_ldH 0 rfl rfl rfl ‹HRow _ _ 0 _› rfl ?_ | refine gny_T 0 rfl rfl rfl ?_ | refine gny_F 0 rfl rfl rfl ?_ | refine gny_B 0 rfl rfl rfl ?_ | refine gny_skip 0 rfl rfl ?_ | refine gny_sp 0 rfl rfl rfl ?_ | refine gny_sB 0 rfl rfl rfl ?_ | refine gny_sld 0 rfl rfl rfl rfl ?_ | refine gny_sldH 0 rfl rfl rfl ‹HRow _ _ 0 _› rfl ?_ | refine gny_ldN 0 rfl rfl rfl rfl ?_ | refine gny_bld 0 rfl rfl rfl ?_); (first | refine gny_p 1 rfl rfl rfl ?_ | refine gny_ld 1 rfl rfl rfl rfl ?_ | refine gny_ldH 1 rfl rfl rfl ‹HRow _ _ 0 _› rfl ?_ | refine gny_T 1 rfl rfl rfl ?_ | refine gny_F 1 rfl rfl rfl ?_ | refine gny_B 1 rfl rfl rfl ?_ | refine gny_skip 1 rfl rfl ?_ | refine gny_sp 1 rfl rfl rfl ?_ | refine gny_sB 1 rfl rfl rfl ?_ | refine gny_sld 1 rfl rfl rfl rfl ?_ | refine gny_sldH 1 rfl rfl rfl ‹HRow _ _ 0 _› rfl ?_ | refine gny_ldN 1 rfl rfl rfl rfl ?_ | refine gny_bld 1 rfl rfl rfl ?_); (first | refine gny_p 2 rfl rfl rfl ?_ | refine gny_ld 2 rfl rfl rfl rfl ?_ | refine gny_ldH 2 rfl rfl rfl ‹HRow _ _ 0 _› rfl ?_ | refine gny_T 2 rfl rfl rfl ?_ | refine gny_F 2 rfl rfl rfl ?_ | refine gny_B 2 rfl rfl rfl ?_ | refine gny_skip 2 rfl rfl ?_ | refine gny_sp 2 rfl rfl rfl ?_ | refine gny_sB 2 rfl rfl rfl ?_ | refine gny_sld 2 rfl rfl rfl rfl ?_ | refine gny_sldH 2 rfl rfl rfl ‹HRow _ _ 0 _› rfl ?_ | refine gny_ldN 2 rfl rfl rfl rfl ?_ | refine gny_bld 2 rfl rfl rfl ?_); (first | refine gny_p 4 rfl rfl rfl ?_ | refine gny_ld 4 rfl rfl rfl rfl ?_ | refine gny_ldH 4 rfl rfl rfl ‹HRow _ _ 0 _› rfl ?_ | refine gny_T 4 rfl rfl rfl ?_ | refine gny_F 4 rfl rfl rfl ?_ | refine gny_B 4 rfl rfl rfl ?_ | refine gny_skip 4 rfl rfl ?_ | refine gny_sp 4 rfl rfl rfl ?_ | refine gny_sB 4 rfl rfl rfl ?_ | refine gny_sld 4 rfl rfl rfl rfl ?_ | refine gny_sldH 4 rfl rfl rfl ‹HRow _ _ 0 _› rfl ?_ | refine gny_ldN 4 rfl rfl rfl rfl ?_ | refine gny_bld 4 rfl rfl rfl ?_)
          refine gny_call 3 rfl rfl rfl (routeB_spec (H0 := H15) (m := m) (es := es') (rs := rs') (r := c) (.refl _)) fun r16 H16 B hl16 ⟨v16, er, eB, eH⟩ => ?_
          subst er eB eH
          refine ⟨(by (repeat (first | exact Sub.refl _ | exact Sub.nil _ | (apply sub_pick; (repeat (first | exact Has.here | apply Has.there)); skip) | apply Sub.drop))), ?_⟩
          rw [routeOf_nat (show c < 16 by omega)] at hrf2 ⊢
          refine any_freeze v16 fun H17 hl17 hz17 => ?_
          refine gny_call (vs := [.agg #[I (rs'.getD c zRoute).Start, v16], I n2]) 5 rfl rfl rfl (cut_spec (x := rs'.getD c zRoute) ⟨v16, rfl, hrf2, hz17⟩ hn2.2.2) fun r18 H18 B hl18 ⟨v18, er, eB⟩ => ?_
          subst er eB
          refine ⟨(by (repeat (first | exact Sub.refl _ | exact Sub.nil _ | (apply sub_pick; (repeat (first | exact Has.here | apply Has.there)); skip) | apply Sub.drop))), ?_⟩
          refine any_freeze v18 fun H19 hl19 hz19 => ?_
          have hle19 : H16.le H19 := hl17.trans (hl18.trans hl19)
          refine gny_pcall 6 rfl rfl rfl (meet_spec (x := x) (y := cutR (rs'.getD c zRoute) n2) ⟨_, rfl, hxf, hz12.mono (Heap.le.trans hl13 (hl15.trans hle19))⟩ ⟨_, rfl, cutR_fits, hz19⟩) ?_
          rw [meetB_false (hmt c hc1)]
          refine any_rest rfl ?_
          refine walk ?_
          exact out_next hL3 (c + 1, H19) ⟨by simp only; omega, hl15.trans hle19⟩ (hs := Sub.trans (B := bookO H16 (.pointer (some ⟨bb, 0, none⟩)) m es' rs' :: row p12 28 [I x.Start, .slice d1 x.Cells.length e1] :: R) (by (repeat (first | exact Sub.refl _ | exact Sub.nil _ | (apply sub_pick; (repeat (first | exact Has.here | apply Has.there)); skip) | apply Sub.drop))) (bookO_up hle19))
        · clear hL3
          refine walk ?_
          exact out_next hL2 (a + 1, H15) ⟨by simp only; omega, hl8.trans (hl912.trans (Heap.le.trans hl13 hl15))⟩
    · clear hL2
      refine walk ?_
      exact out_next hL (k + 1, n2, es', rs', H8) ⟨⟨by simp only; omega, by simp only; omega⟩, hl4.trans (hl47.trans hl8), ⟨hn2.1, hn2.2.2⟩, hI', hA'⟩
  · clear hL
    refine walk ?_
    refine fin0 ?_
    exact ⟨rfl, rfl⟩
end Go.Proofs.Ytnfmjkjhiolfdaa
