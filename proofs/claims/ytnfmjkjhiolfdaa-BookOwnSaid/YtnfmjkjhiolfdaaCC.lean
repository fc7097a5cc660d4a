/- BookOwn, walked. -/
import Derived.Test.YtnfmjkjhiolfdaaCB
import Derived.Test.YtnfmjkjhiolfdaaBT
import Derived.Test.YtnfmjkjhiolfdaaBW
import Derived.Test.YtnfmjkjhiolfdaaBX
import Derived.Test.YtnfmjkjhiolfdaaE28
set_option linter.unusedVariables false
set_option linter.unusedSimpArgs false
namespace Go.Proofs.Ytnfmjkjhiolfdaa
open Go Go.Sx Go.Proofs
abbrev SlO := Option Addr × Nat
/-- the arguments are given back, what is kept stays -/
theorem back_two {H D N H' : Heap} (h1 : Disj H D) (h2 : Disj (union H D) N) (h3 : (union (union H D) N).le H') : Disj (union H N) D ∧ (union (union H N) D).le H' := by
  have hDN : Disj D N := h2.mono (le_union_right h1)
  have hHN : Disj H N := h2.mono (le_union_left _ _)
  refine ⟨disj_union h1 hDN.symm, union_le (union_le ?_ ?_) ?_⟩
  · exact ((le_union_left H D).trans (le_union_left _ _)).trans h3
  · exact (le_union_right h2).trans h3
  · exact ((le_union_right h1).trans (le_union_left _ _)).trans h3
set_option maxRecDepth 100000 in
set_option maxHeartbeats 32000000 in
theorem ownB_spec {W0 : World} {H : Heap} {c d : List Value} {l : Value} {m : Map} {ss : List Said} {sd0 : Said} (h0 : rMap H c m) (h1 : SlB rSaid 6 64 H l ss) (h2 : rSaid H d sd0) :
    Ct Try.prog 3 #[.agg c.toArray, l, .agg d.toArray] W0 H [] (fun r H' B => r = .bool true ∧ B = []) := by
  refine Ct.go (vs := [.agg c.toArray, l, .agg d.toArray]) fun R => ?_
  obtain ⟨b1, c1, rfl, hc1, hd1⟩ := h1.1.shape
  have g0 := h0
  have g2 := h2
  obtain ⟨s0, rfl, f1, f2, f3, h0⟩ := h0
  obtain ⟨sv0, rfl, k1, k2, k3, k4, k5, k6⟩ := h2
  obtain ⟨bw, cw, rfl, _, _⟩ := k6.1.shape
  obtain ⟨bm, cm, rfl, hcm, hdm⟩ := h0.1.shape
  generalize hs0 : (Value.slice bm m.Blocked.length cm) = s0 at *
  refine walk ?_
  refine ops_box rfl rfl fun p3 _ => ?_
  refine ops_box rfl rfl fun p5 _ => ?_
  refine walk ?_
  refine ops_call (vs := []) rfl rfl awake_spec fun r1 H1 B hl1 ⟨er, eB⟩ => ?_
  subst er eB
  refine walk ?_
  refine ops_call (vs := [.agg (m.cv s0).toArray]) rfl rfl (gNew_spec (RdOk.mono (R := rMap) hl1 g0)) fun r2 H2 B hl2 ⟨g, e, er, eB, h⟩ => ?_
  subst er eB
  rcases h with ⟨hm, hG, rfl⟩ | ⟨hm, rfl, rfl⟩
  rotate_left
  · refine walk ?_
    refine ops_pcall rfl rfl (rGood_spec (RdOk.mono (R := rMap) (hl1.trans hl2) g0)) ?_
    refine walk ?_
    refine fin0 ?_
    exact ⟨by simp [hm], rfl⟩
  have hsd := hm.1.1
  have hGp := hG
  obtain ⟨⟨bg, s, mb, mm, rfl, q1, q2, q3, q4⟩, hgd, hfs⟩ := hGp
  refine walk ?_
  refine ops_call rfl rfl (bNew_spec hG) fun r3 H3 B hl3 ⟨eB, eH⟩ => ?_
  subst eB eH
  refine ops_know .here (fun h hh => bookO_ptr hh) fun ⟨bb, eb⟩ => ?_
  subst eb
  refine walk ?_
  refine ops_call (vs := []) rfl rfl refNew_spec fun r4 H4 B hl4 ⟨u1, u2, er, hR0, eB⟩ => ?_
  subst er eB
  obtain ⟨d01, e01, hu1, _, _⟩ := hR0.1.1.shape
  obtain ⟨d02, e02, hu2, _, _⟩ := hR0.2.1.shape
  subst hu1 hu2
  refine ops_alloc rfl fun p10 _ => ?_
  refine walk ?_
  refine ex_L (L' := bookO H4 (.pointer (some ⟨bb, 0, none⟩)) m zEpochs zRoutes :: row p3 24 (m.cv s0) :: row p10 43 [.slice d01 zEpochs.length e01, .slice d02 zRoutes.length e02] :: row p5 32 (sd0.cv (.slice bw sd0.Call.Route.Cells.length cw)) :: R) (Sub.trans (B := bookO H3 (.pointer (some ⟨bb, 0, none⟩)) m zEpochs zRoutes :: row p3 24 (m.cv s0) :: row p10 43 [.slice d01 zEpochs.length e01, .slice d02 zRoutes.length e02] :: row p5 32 (sd0.cv (.slice bw sd0.Call.Route.Cells.length cw)) :: R) (by (repeat (first | exact Sub.refl _ | exact Sub.nil _ | (apply sub_pick; (repeat (first | exact Has.here | apply Has.there)); skip) | apply Sub.drop))) (bookO_up hl4)) ?_
  refine ex_loop (σ := Nat × List Int × List Route × Heap × SlO × SlO) (fun s => (s.1 ≤ ss.length + 1 ∧ s.1 ≤ 80) ∧ H4.le s.2.2.2.1 ∧ Inv m s.2.1 s.2.2.1 s.1 ∧ RBk s.2.2.2.1 (.slice s.2.2.2.2.1.1 s.2.1.length s.2.2.2.2.1.2) (.slice s.2.2.2.2.2.1 s.2.2.1.length s.2.2.2.2.2.2) s.2.1 s.2.2.1)
    (fun s => [(1, .slice b1 ss.length c1), (3, .pointer (some ⟨p3, 0, none⟩)), (5, .pointer (some ⟨p5, 0, none⟩)), (9, .pointer (some ⟨bb, 0, none⟩)), (10, .pointer (some ⟨p10, 0, none⟩)), (11, I s.1)]) (fun s => s.2.2.2.1)
    (fun s => bookO s.2.2.2.1 (.pointer (some ⟨bb, 0, none⟩)) m s.2.1 s.2.2.1 :: row p3 24 (m.cv s0) :: row p10 43 [.slice s.2.2.2.2.1.1 s.2.1.length s.2.2.2.2.1.2, .slice s.2.2.2.2.2.1 s.2.2.1.length s.2.2.2.2.2.2] :: row p5 32 (sd0.cv (.slice bw sd0.Call.Route.Cells.length cw)) :: R) (fun s => ss.length + 1 - s.1) (0, zEpochs, zRoutes, H4, (d01, e01), (d02, e02)) ⟨by simp, .refl _, inv0, hR0⟩ fun ⟨k, es, rs, Hk, ⟨d1, e1⟩, ⟨d2, e2⟩⟩ ⟨⟨hk0, hk80⟩, hl4a, hI, hRB⟩ K hL => ?_
  simp only at hk0 hk80 hl4a hI hRB
  dsimp only
  refine walkG ?_
  refine ex_if rfl (fun hk => ?_) (fun hk => ?_)
  · have hk1 : k ≤ ss.length ∧ k < 80 := by omega
    have hl04 : H.le Hk := hl1.trans (hl2.trans (hl4.trans hl4a))
    have gss := (h1.mono hl04).1
    refine walk ?_
    refine ops_alloc rfl fun p12 _ => ?_
    refine ops_cut2 (σ := Said × Option Addr × Nat) (fun s => ((fits s.1.Robot ∧ fits s.1.Tick) ∧ (fits s.1.Call.Verb ∧ fits s.1.Call.Epoch) ∧ fits s.1.Call.Route.Start) ∧ SlB rInt 1 8 Hk (.slice s.2.1 s.1.Call.Route.Cells.length s.2.2) s.1.Call.Route.Cells)
      (fun s => [(1, .slice b1 ss.length c1), (3, .pointer (some ⟨p3, 0, none⟩)), (5, .pointer (some ⟨p5, 0, none⟩)), (9, .pointer (some ⟨bb, 0, none⟩)), (10, .pointer (some ⟨p10, 0, none⟩)), (11, I k), (12, .pointer (some ⟨p12, 0, none⟩))]) (fun _ => Hk)
      (fun s => row p12 32 (s.1.cv (.slice s.2.1 s.1.Call.Route.Cells.length s.2.2)) :: bookO Hk (.pointer (some ⟨bb, 0, none⟩)) m es rs :: row p3 24 (m.cv s0) :: row p10 43 [.slice d1 es.length e1, .slice d2 rs.length e2] :: row p5 32 (sd0.cv (.slice bw sd0.Call.Route.Cells.length cw)) :: R) (fun K3 hK3 => ?_) fun ⟨sd, bv, cv⟩ ⟨⟨⟨t1, t2⟩, ⟨t3, t4⟩, t5⟩, t6⟩ => ?_
    · by_cases hks : k < ss.length
      · refine walk ?_
        refine ops_ixp rfl rfl gss hks fun q o c hr hc => ?_
        refine ops_ldNH rfl rfl hr (RdOk.len hc) ?_
        generalize ss[k] = sd at *
        obtain ⟨sv, rfl, t1, t2, t3, t4, t5, t6⟩ := hc
        obtain ⟨bv, cv, rfl, hcv, hdv⟩ := t6.1.shape
        refine walk ?_
        exact out_to hK3 (sd, bv, cv) ⟨⟨⟨t1, t2⟩, ⟨t3, t4⟩, t5⟩, t6⟩
      · refine walk ?_
        exact out_to hK3 (sd0, bw, cw) ⟨⟨⟨k1, k2⟩, ⟨k3, k4⟩, k5⟩, k6.mono hl04⟩
    simp only at t1 t2 t3 t4 t5 t6
    dsimp only
    refine walk ?_
    have hown := own_spec (W0 := W0) (H := Hk) (cc := sd.Call.cv (.slice bv sd.Call.Route.Cells.length cv)) (c := sd.Call) ⟨_, rfl, t3, t4, t5, t6⟩
    refine ops_call (vs := [.agg (sd.Call.cv (.slice bv sd.Call.Route.Cells.length cv)).toArray]) rfl rfl hown fun r5 H5 B hl5 ⟨v5, er, eB, eH⟩ => ?_
    subst er eB eH
    refine ops_shape v5 fun d5 e5 e _ _ _ => ?_
    subst e
    refine ops_alloc rfl fun p13 _ => ?_
    refine walk ?_
    have hEs : ∀ e ∈ es, 0 ≤ e ∧ e ≤ 1000000 := fun e he => by have := hI.e e he; omega
    obtain ⟨hst, hrep⟩ := apply_step (conf := confM) (m := m) (es := es) (rs := rs) (r := sd.Robot) (c := ownC sd.Call) (t := sd.Tick)
    have hI' := hI.step hst (by omega)
    have hS := fun (HA HB : Heap) (cc : List Value) (ha : HB.le HA) (hb : rCall HA cc (ownC sd.Call)) => applyO_spec (W0 := W0) (H := HA) (H0 := HB) (cc := cc) (p := .pointer (some ⟨bb, 0, none⟩)) (m := m) (es := es) (rs := rs) (r := sd.Robot) (c := ownC sd.Call) (t := sd.Tick) ha hb t2 hEs hI.len ownC_len
    have hT := fun (HA : Heap) (cc : List Value) (u1 u2 : Value) (hu : RBk HA u1 u2 es rs) (hmm : rMap HA (m.cv s0) m) (hb : rCall HA cc (ownC sd.Call)) => rApply_spec (W0 := W0) (H := HA) (r := sd.Robot) (t := sd.Tick) hmm hsd hu hb t2 hI.el hI.rl hEs hI.len ownC_len
    rw [apply_eq hI] at hT
    generalize applyC confM m es rs sd.Robot (ownC sd.Call) sd.Tick = res at *
    obtain ⟨es', rs', y⟩ := res
    simp only at hst hrep hS hI' hT
    refine ops_lendS (.slice d5 (ownC sd.Call).Route.Cells.length e5) fun D hD hdj hleD hzD => ?_
    refine ops_call rfl rfl (hS (union H5 D) H5 ((ownC sd.Call).cv (.slice d5 (ownC sd.Call).Route.Cells.length e5)) hleD ⟨_, rfl, t3, t4, t5, hzD⟩) fun r8 H8 B hl8 ⟨v8, N, er, eB, hN, hNl⟩ => ?_
    subst er eB
    obtain ⟨hb1, hb2⟩ := back_two hdj hN hNl
    refine ops_back hD hb1 hb2 ?_
    have hle9 : H5.le (union H5 N) := le_union_left _ _
    refine ops_shape v8 fun d8 e8 e _ _ _ => ?_
    subst e
    refine ops_L (Sub.cons (sub_flat H8 (union H5 N))) ?_
    clear hb1 hb2 hN hNl hdj hleD hzD hD hl8
    generalize union H5 N = H9 at *
    refine ops_alloc rfl fun p14 _ => ?_
    refine walk ?_
    refine ex_any 9 [row p3 24 (m.cv s0), row p10 43 [.slice d1 es.length e1, .slice d2 rs.length e2], row p12 32 (sd.cv (.slice bv sd.Call.Route.Cells.length cv))] ?_
    (first | refine gny_p 0 rfl rfl rfl ?_ | refine gny_ld 0 rfl rfl rfl rfl ?_ | refine gny_ldH 0 rfl rfl rfl ‹HRow _ _ 0 _› rfl ?_ | refine gny_T 0 rfl rfl rfl ?_ | refine gny_F 0 rfl rfl rfl ?_ | refine gny_B 0 rfl rfl rfl ?_ | refine gny_skip 0 rfl rfl ?_ | refine gny_sp 0 rfl rfl rfl ?_ | refine gny_sB 0 rfl rfl rfl ?_ | refine gny_sld 0 rfl rfl rfl rfl ?_ | refine gny_sldH 0 rfl rfl rfl ‹HRow _ _ 0 _› rfl ?_ | refine gny_ldN 0 rfl rfl rfl rfl ?_ | refine gny_bld 0 rfl rfl rfl ?_); (first | refine gny_p 1 rfl rfl rfl ?_ | refine gny_ld 1 rfl rfl rfl rfl ?_ | refine gny_ldH 1 rfl rfl rfl ‹HRow _ _ 0 _› rfl ?_ | refine gny_T 1 rfl rfl rfl ?_ | refine gny_F 1 rfl rfl rfl ?_ | refine gny_B 1 rfl rfl rfl ?_ | refine gny_skip 1 rfl rfl ?_ | refine gny_sp 1 rfl rfl rfl ?_ | refine gny_sB 1 rfl rfl rfl ?_ | refine gny_sld 1 rfl rfl rfl rfl ?_ | refine gny_sldH 1 rfl rfl rfl ‹HRow _ _ 0 _› rfl ?_ | refine gny_ldN 1 rfl rfl rfl rfl ?_ | refine gny_bld 1 rfl rfl rfl ?_); (first | refine gny_p 2 rfl rfl rfl ?_ | refine gny_ld 2 rfl rfl rfl rfl ?_ | refine gny_ldH 2 rfl rfl rfl ‹HRow _ _ 0 _› rfl ?_ | refine gny_T 2 rfl rfl rfl ?_ | refine gny_F 2 rfl rfl rfl ?_ | refine gny_B 2 rfl rfl rfl ?_ | refine gny_skip 2 rfl rfl ?_ | refine gny_sp 2 rfl rfl rfl ?_ | refine gny_sB 2 rfl rfl rfl ?_ | refine gny_sld 2 rfl rfl rfl rfl ?_ | refine gny_sldH 2 rfl rfl rfl ‹HRow _ _ 0 _› rfl ?_ | refine gny_ldN 2 rfl rfl rfl rfl ?_ | refine gny_bld 2 rfl rfl rfl ?_); (first | refine gny_p 3 rfl rfl rfl ?_ | refine gny_ld 3 rfl rfl rfl rfl ?_ | refine gny_ldH 3 rfl rfl rfl ‹HRow _ _ 0 _› rfl ?_ | refine gny_T 3 rfl rfl rfl ?_ | refine gny_F 3 rfl rfl rfl ?_ | refine gny_B 3 rfl rfl rfl ?_ | refine gny_skip 3 rfl rfl ?_ | refine gny_sp 3 rfl rfl rfl ?_ | refine gny_sB 3 rfl rfl rfl ?_ | refine gny_sld 3 rfl rfl rfl rfl ?_ | refine gny_sldH 3 rfl rfl rfl ‹HRow _ _ 0 _› rfl ?_ | refine gny_ldN 3 rfl rfl rfl rfl ?_ | refine gny_bld 3 rfl rfl rfl ?_); (first | refine gny_p 4 rfl rfl rfl ?_ | refine gny_ld 4 rfl rfl rfl rfl ?_ | refine gny_ldH 4 rfl rfl rfl ‹HRow _ _ 0 _› rfl ?_ | refine gny_T 4 rfl rfl rfl ?_ | refine gny_F 4 rfl rfl rfl ?_ | refine gny_B 4 rfl rfl rfl ?_ | refine gny_skip 4 rfl rfl ?_ | refine gny_sp 4 rfl rfl rfl ?_ | refine gny_sB 4 rfl rfl rfl ?_ | refine gny_sld 4 rfl rfl rfl rfl ?_ | refine gny_sldH 4 rfl rfl rfl ‹HRow _ _ 0 _› rfl ?_ | refine gny_ldN 4 rfl rfl rfl rfl ?_ | refine gny_bld 4 rfl rfl rfl ?_); (first | refine gny_p 5 rfl rfl rfl ?_ | refine gny_ld 5 rfl rfl rfl rfl ?_ | refine gny_ldH 5 rfl rfl rfl ‹HRow _ _ 0 _› rfl ?_ | refine gny_T 5 rfl rfl rfl ?_ | refine gny_F 5 rfl rfl rfl ?_ | refine gny_B 5 rfl rfl rfl ?_ | refine gny_skip 5 rfl rfl ?_ | refine gny_sp 5 rfl rfl rfl ?_ | refine gny_sB 5 rfl rfl rfl ?_ | refine gny_sld 5 rfl rfl rfl rfl ?_ | refine gny_sldH 5 rfl rfl rfl ‹HRow _ _ 0 _› rfl ?_ | refine gny_ldN 5 rfl rfl rfl rfl ?_ | refine gny_bld 5 rfl rfl rfl ?_); (first | refine gny_p 7 rfl rfl rfl ?_ | refine gny_ld 7 rfl rfl rfl rfl ?_ | refine gny_ldH 7 rfl rfl rfl ‹HRow _ _ 0 _› rfl ?_ | refine gny_T 7 rfl rfl rfl ?_ | refine gny_F 7 rfl rfl rfl ?_ | refine gny_B 7 rfl rfl rfl ?_ | refine gny_skip 7 rfl rfl ?_ | refine gny_sp 7 rfl rfl rfl ?_ | refine gny_sB 7 rfl rfl rfl ?_ | refine gny_sld 7 rfl rfl rfl rfl ?_ | refine gny_sldH 7 rfl rfl rfl ‹HRow _ _ 0 _› rfl ?_ | refine gny_ldN 7 rfl rfl rfl rfl ?_ | refine gny_bld 7 rfl rfl rfl ?_); (first | refine gny_p 8 rfl rfl rfl ?_ | refine gny_ld 8 rfl rfl rfl rfl ?_ | refine gny_ldH 8 rfl rfl rfl ‹HRow _ _ 0 _› rfl ?_ | refine gny_T 8 rfl rfl rfl ?_ | refine gny_F 8 rfl rfl rfl ?_ | refine gny_B 8 rfl rfl rfl ?_ | refine gny_skip 8 rfl rfl ?_ | refine gny_sp 8 rfl rfl rfl ?_ | refine gny_sB 8 rfl rfl rfl ?_ | refine gny_sld 8 rfl rfl rfl rfl ?_ | refine gny_sldH 8 rfl rfl rfl ‹HRow _ _ 0 _› rfl ?_ | refine gny_ldN 8 rfl rfl rfl rfl ?_ | refine gny_bld 8 rfl rfl rfl ?_)
    have hown2 := own_spec (W0 := W0) (H := H9) (cc := sd.Call.cv (.slice bv sd.Call.Route.Cells.length cv)) (c := sd.Call) ⟨_, rfl, t3, t4, t5, t6.mono hle9⟩
    refine gny_call (vs := [.agg (sd.Call.cv (.slice bv sd.Call.Route.Cells.length cv)).toArray]) 6 rfl rfl rfl hown2 fun r6 H6 B hl6 ⟨v6, er, eB, eH⟩ => ?_
    subst er eB eH
    refine ⟨(by (repeat (first | exact Sub.refl _ | exact Sub.nil _ | (apply sub_pick; (repeat (first | exact Has.here | apply Has.there)); skip) | apply Sub.drop))), ?_⟩
    refine any_freeze v6 fun H7 hl7 hz7 => ?_
    refine any_stage 14 [] ?_
    have hs9 := hT H7 ((ownC sd.Call).cv v6) _ _ (hRB.mono (hle9.trans hl7)) (RdOk.mono (R := rMap) (hl04.trans (hle9.trans hl7)) g0) ⟨v6, rfl, t3, t4, t5, hz7⟩
    refine gny_call 9 rfl rfl rfl hs9 fun r9 H10 B hl10 ⟨u1, u2, cr, er, hR, hY, eB⟩ => ?_
    subst er eB
    refine ⟨(by (repeat (first | exact Sub.refl _ | exact Sub.nil _ | (apply sub_pick; (repeat (first | exact Has.here | apply Has.there)); skip) | apply Sub.drop))), ?_⟩
    obtain ⟨d21, e21, hu1, _, _⟩ := hR.1.1.shape
    obtain ⟨d22, e22, hu2, _, _⟩ := hR.2.1.shape
    subst hu1 hu2
    simp only at hR hY ⊢
    (first | refine gny_p 10 rfl rfl rfl ?_ | refine gny_ld 10 rfl rfl rfl rfl ?_ | refine gny_ldH 10 rfl rfl rfl ‹HRow _ _ 0 _› rfl ?_ | refine gny_T 10 rfl rfl rfl ?_ | refine gny_F 10 rfl rfl rfl ?_ | refine gny_B 10 rfl rfl rfl ?_ | refine gny_skip 10 rfl rfl ?_ | refine gny_sp 10 rfl rfl rfl ?_ | refine gny_sB 10 rfl rfl rfl ?_ | refine gny_sld 10 rfl rfl rfl rfl ?_ | refine gny_sldH 10 rfl rfl rfl ‹HRow _ _ 0 _› rfl ?_ | refine gny_ldN 10 rfl rfl rfl rfl ?_ | refine gny_bld 10 rfl rfl rfl ?_)
    refine gny_ext 11 rfl rfl rfl rfl ?_
    refine gny_ext 12 rfl rfl rfl rfl ?_
    refine any_sta 13 rfl rfl rfl rfl (by simp) rfl ⟨(by (repeat (first | exact Sub.refl _ | exact Sub.nil _ | (apply sub_pick; (repeat (first | exact Has.here | apply Has.there)); skip) | apply Sub.drop))), ?_⟩
    refine any_rest rfl ?_
    refine walk ?_
    have f1 : Sx.fits (-1) := by unfold Sx.fits; omega
    have f2 : Sx.fits (-2) := by unfold Sx.fits; omega
    have f3 : Sx.fits (-3) := by unfold Sx.fits; omega
    refine ex_loop (σ := Nat × List Int) (fun s => s.1 ≤ (ownC sd.Call).Route.Cells.length ∧ s.2.length = (ownC sd.Call).Route.Cells.length) (fun s => [(1, .slice b1 ss.length c1), (3, .pointer (some ⟨p3, 0, none⟩)), (5, .pointer (some ⟨p5, 0, none⟩)), (9, .pointer (some ⟨bb, 0, none⟩)), (10, .pointer (some ⟨p10, 0, none⟩)), (11, I k), (12, .pointer (some ⟨p12, 0, none⟩)), (13, .pointer (some ⟨p13, 0, none⟩)), (14, .pointer (some ⟨p14, 0, none⟩)), (86, I (ownC sd.Call).Route.Cells.length), (87, I s.1)]) (fun _ => H10)
      (fun s => ownS rInt 1 8 3 H5 (.slice d5 (ownC sd.Call).Route.Cells.length e5) s.2 :: ownS rInt 1 8 3 H6 (.slice d8 y.Route.Cells.length e8) y.Route.Cells :: bookO H6 (.pointer (some ⟨bb, 0, none⟩)) m es' rs' :: row p13 30 ((ownC sd.Call).cv (.slice d5 (ownC sd.Call).Route.Cells.length e5)) :: row p14 47 [I y.Code, I y.Epoch, I y.Route.Start, .slice d8 y.Route.Cells.length e8] :: row p3 24 (m.cv s0) :: row p10 43 [.slice d21 es'.length e21, .slice d22 rs'.length e22] :: row p5 32 (sd0.cv (.slice bw sd0.Call.Route.Cells.length cw)) :: row p12 32 (sd.cv (.slice bv sd.Call.Route.Cells.length cv)) :: R) (fun s => (ownC sd.Call).Route.Cells.length - s.1) (0, (ownC sd.Call).Route.Cells) ⟨Nat.zero_le _, rfl⟩ fun ⟨i1, ys1⟩ ⟨hi1, hy1⟩ K1 hL1 => ?_
    simp only at hi1 hy1
    dsimp only
    refine walk ?_
    refine ex_if rfl (fun hc => ?_) (fun hc => ?_)
    · refine walk ?_
      refine ops_stS (y' := (-1 : Int)) rfl rfl rfl ⟨rfl, f1⟩ (by omega) ?_
      refine walk ?_
      refine out_next hL1 (i1 + 1, ys1.set i1 (-1)) ⟨by simp only; omega, by simpa using hy1⟩
    clear hL1
    refine walk ?_
    refine ex_loop (σ := Nat × List Int) (fun s => s.1 ≤ y.Route.Cells.length ∧ s.2.length = y.Route.Cells.length) (fun s => [(1, .slice b1 ss.length c1), (3, .pointer (some ⟨p3, 0, none⟩)), (5, .pointer (some ⟨p5, 0, none⟩)), (9, .pointer (some ⟨bb, 0, none⟩)), (10, .pointer (some ⟨p10, 0, none⟩)), (11, I k), (12, .pointer (some ⟨p12, 0, none⟩)), (14, .pointer (some ⟨p14, 0, none⟩)), (99, I y.Route.Cells.length), (100, I s.1)]) (fun _ => H10)
      (fun s => ownS rInt 1 8 3 H6 (.slice d8 y.Route.Cells.length e8) s.2 :: bookO H6 (.pointer (some ⟨bb, 0, none⟩)) m es' rs' :: row p14 47 [I y.Code, I y.Epoch, I y.Route.Start, .slice d8 y.Route.Cells.length e8] :: row p3 24 (m.cv s0) :: row p10 43 [.slice d21 es'.length e21, .slice d22 rs'.length e22] :: row p5 32 (sd0.cv (.slice bw sd0.Call.Route.Cells.length cw)) :: row p12 32 (sd.cv (.slice bv sd.Call.Route.Cells.length cv)) :: R) (fun s => y.Route.Cells.length - s.1) (0, y.Route.Cells) ⟨Nat.zero_le _, rfl⟩ fun ⟨i2, ys2⟩ ⟨hi2, hy2⟩ K2 hL2 => ?_
    simp only at hi2 hy2
    dsimp only
    refine walk ?_
    refine ex_if rfl (fun hc => ?_) (fun hc => ?_)
    · refine walk ?_
      refine ops_stS (y' := (-2 : Int)) rfl rfl rfl ⟨rfl, f2⟩ (by omega) ?_
      refine walk ?_
      refine out_next hL2 (i2 + 1, ys2.set i2 (-2)) ⟨by simp only; omega, by simpa using hy2⟩
    clear hL2
    refine walk ?_
    have hle10 : H6.le H10 := hl7.trans hl10
    refine ops_call rfl rfl (routeB_spec (H0 := H6) (m := m) (es := es') (rs := rs') (r := sd.Robot) hle10) fun r11 H11 B hl11 ⟨v11, er, eB, eH⟩ => ?_
    subst er eB eH
    refine ops_shape v11 fun d11 e11 e _ _ _ => ?_
    subst e
    refine ops_alloc rfl fun p17 _ => ?_
    refine walk ?_
    refine ex_loop (σ := Nat × List Int) (fun s => s.1 ≤ (routeOf rs' sd.Robot).Cells.length ∧ s.2.length = (routeOf rs' sd.Robot).Cells.length) (fun s => [(1, .slice b1 ss.length c1), (3, .pointer (some ⟨p3, 0, none⟩)), (5, .pointer (some ⟨p5, 0, none⟩)), (9, .pointer (some ⟨bb, 0, none⟩)), (10, .pointer (some ⟨p10, 0, none⟩)), (11, I k), (12, .pointer (some ⟨p12, 0, none⟩)), (17, .pointer (some ⟨p17, 0, none⟩)), (115, I (routeOf rs' sd.Robot).Cells.length), (116, I s.1)]) (fun _ => H11)
      (fun s => ownS rInt 1 8 3 H11 (.slice d11 (routeOf rs' sd.Robot).Cells.length e11) s.2 :: bookO H11 (.pointer (some ⟨bb, 0, none⟩)) m es' rs' :: row p17 28 [I (routeOf rs' sd.Robot).Start, .slice d11 (routeOf rs' sd.Robot).Cells.length e11] :: row p3 24 (m.cv s0) :: row p10 43 [.slice d21 es'.length e21, .slice d22 rs'.length e22] :: row p5 32 (sd0.cv (.slice bw sd0.Call.Route.Cells.length cw)) :: row p12 32 (sd.cv (.slice bv sd.Call.Route.Cells.length cv)) :: R) (fun s => (routeOf rs' sd.Robot).Cells.length - s.1) (0, (routeOf rs' sd.Robot).Cells) ⟨Nat.zero_le _, rfl⟩ fun ⟨i3, ys3⟩ ⟨hi3, hy3⟩ K3 hL3 => ?_
    simp only at hi3 hy3
    dsimp only
    refine walk ?_
    refine ex_if rfl (fun hc => ?_) (fun hc => ?_)
    · refine walk ?_
      refine ops_stS (y' := (-3 : Int)) rfl rfl rfl ⟨rfl, f3⟩ (by omega) ?_
      refine walk ?_
      refine out_next hL3 (i3 + 1, ys3.set i3 (-3)) ⟨by simp only; omega, by simpa using hy3⟩
    clear hL3
    refine walk ?_
    refine out_next hL (k + 1, es', rs', H11, (d21, e21), (d22, e22)) ⟨⟨by simp only; omega, by simp only; omega⟩, hl4a.trans (hle9.trans hle10), by simpa using hI', hR⟩
  · clear hL
    have hrl := hI.rl
    have hl04 : H.le Hk := hl1.trans (hl2.trans (hl4.trans hl4a))
    refine walk ?_
    refine ex_loop (σ := Nat × Heap) (fun s => s.1 ≤ rs.length ∧ Hk.le s.2) (fun s => [(9, .pointer (some ⟨bb, 0, none⟩)), (10, .pointer (some ⟨p10, 0, none⟩)), (126, I rs.length), (127, I s.1)]) (fun s => s.2)
      (fun s => bookO s.2 (.pointer (some ⟨bb, 0, none⟩)) m es rs :: row p10 43 [.slice d1 es.length e1, .slice d2 rs.length e2] :: R) (fun s => rs.length - s.1) (0, Hk) ⟨Nat.zero_le _, .refl _⟩ fun ⟨i, Hi⟩ ⟨hi, hli⟩ K1 hL1 => ?_
    simp only at hi hli
    dsimp only
    refine walk ?_
    refine ex_if rfl (fun hc => ?_) (fun hc => ?_)
    · have hi1 : i < rs.length := by omega
      refine walk ?_
      refine ex_any 10 [row p10 43 [.slice d1 es.length e1, .slice d2 rs.length e2]] ?_
      (first | refine gny_p 0 rfl rfl rfl ?_ | refine gny_ld 0 rfl rfl rfl rfl ?_ | refine gny_ldH 0 rfl rfl rfl ‹HRow _ _ 0 _› rfl ?_ | refine gny_T 0 rfl rfl rfl ?_ | refine gny_F 0 rfl rfl rfl ?_ | refine gny_B 0 rfl rfl rfl ?_ | refine gny_skip 0 rfl rfl ?_ | refine gny_sp 0 rfl rfl rfl ?_ | refine gny_sB 0 rfl rfl rfl ?_ | refine gny_sld 0 rfl rfl rfl rfl ?_ | refine gny_sldH 0 rfl rfl rfl ‹HRow _ _ 0 _› rfl ?_ | refine gny_ldN 0 rfl rfl rfl rfl ?_ | refine gny_bld 0 rfl rfl rfl ?_); (first | refine gny_p 1 rfl rfl rfl ?_ | refine gny_ld 1 rfl rfl rfl rfl ?_ | refine gny_ldH 1 rfl rfl rfl ‹HRow _ _ 0 _› rfl ?_ | refine gny_T 1 rfl rfl rfl ?_ | refine gny_F 1 rfl rfl rfl ?_ | refine gny_B 1 rfl rfl rfl ?_ | refine gny_skip 1 rfl rfl ?_ | refine gny_sp 1 rfl rfl rfl ?_ | refine gny_sB 1 rfl rfl rfl ?_ | refine gny_sld 1 rfl rfl rfl rfl ?_ | refine gny_sldH 1 rfl rfl rfl ‹HRow _ _ 0 _› rfl ?_ | refine gny_ldN 1 rfl rfl rfl rfl ?_ | refine gny_bld 1 rfl rfl rfl ?_); (first | refine gny_p 3 rfl rfl rfl ?_ | refine gny_ld 3 rfl rfl rfl rfl ?_ | refine gny_ldH 3 rfl rfl rfl ‹HRow _ _ 0 _› rfl ?_ | refine gny_T 3 rfl rfl rfl ?_ | refine gny_F 3 rfl rfl rfl ?_ | refine gny_B 3 rfl rfl rfl ?_ | refine gny_skip 3 rfl rfl ?_ | refine gny_sp 3 rfl rfl rfl ?_ | refine gny_sB 3 rfl rfl rfl ?_ | refine gny_sld 3 rfl rfl rfl rfl ?_ | refine gny_sldH 3 rfl rfl rfl ‹HRow _ _ 0 _› rfl ?_ | refine gny_ldN 3 rfl rfl rfl rfl ?_ | refine gny_bld 3 rfl rfl rfl ?_); (first | refine gny_p 4 rfl rfl rfl ?_ | refine gny_ld 4 rfl rfl rfl rfl ?_ | refine gny_ldH 4 rfl rfl rfl ‹HRow _ _ 0 _› rfl ?_ | refine gny_T 4 rfl rfl rfl ?_ | refine gny_F 4 rfl rfl rfl ?_ | refine gny_B 4 rfl rfl rfl ?_ | refine gny_skip 4 rfl rfl ?_ | refine gny_sp 4 rfl rfl rfl ?_ | refine gny_sB 4 rfl rfl rfl ?_ | refine gny_sld 4 rfl rfl rfl rfl ?_ | refine gny_sldH 4 rfl rfl rfl ‹HRow _ _ 0 _› rfl ?_ | refine gny_ldN 4 rfl rfl rfl rfl ?_ | refine gny_bld 4 rfl rfl rfl ?_); (first | refine gny_p 5 rfl rfl rfl ?_ | refine gny_ld 5 rfl rfl rfl rfl ?_ | refine gny_ldH 5 rfl rfl rfl ‹HRow _ _ 0 _› rfl ?_ | refine gny_T 5 rfl rfl rfl ?_ | refine gny_F 5 rfl rfl rfl ?_ | refine gny_B 5 rfl rfl rfl ?_ | refine gny_skip 5 rfl rfl ?_ | refine gny_sp 5 rfl rfl rfl ?_ | refine gny_sB 5 rfl rfl rfl ?_ | refine gny_sld 5 rfl rfl rfl rfl ?_ | refine gny_sldH 5 rfl rfl rfl ‹HRow _ _ 0 _› rfl ?_ | refine gny_ldN 5 rfl rfl rfl rfl ?_ | refine gny_bld 5 rfl rfl rfl ?_)
      refine gny_ixp 6 rfl rfl rfl (hRB.2.mono hli).1 hi1 fun q o c hr hc => ?_
      refine gny_ldNH 7 rfl rfl rfl hr (RdOk.len (R := rRoute) hc) ?_
      refine gny_call (vs := [.pointer (some ⟨bb, 0, none⟩), I i]) 2 rfl rfl rfl (routeB_spec (H0 := Hi) (H := Hi) (m := m) (es := es) (rs := rs) (r := i) (.refl _)) fun r12 H12 B hl12 ⟨v12, er, eB, eH⟩ => ?_
      subst er eB eH
      refine ⟨(by (repeat (first | exact Sub.refl _ | exact Sub.nil _ | (apply sub_pick; (repeat (first | exact Has.here | apply Has.there)); skip) | apply Sub.drop))), ?_⟩
      refine any_freeze v12 fun H13 hl13 hz13 => ?_
      have hrt : routeOf rs (i : Int) = rs[i] := by
        unfold routeOf; rw [if_pos (by simp only [robI]; omega)]; simp [List.getD, hi1]
      rw [hrt] at hz13 ⊢
      have hfs1 : Sx.fits (rs[i]).Start := by obtain ⟨_, _, q, _⟩ := hc; exact q
      refine gny_pcall 8 rfl rfl rfl (sameRoute_spec (x := rs[i]) (y := rs[i]) ⟨v12, rfl, hfs1, hz13⟩ (rRoute_up hc hl13)) ?_
      rw [decide_eq_true (p := rs[i] = rs[i]) rfl]
      (first | refine gny_p 9 rfl rfl rfl ?_ | refine gny_ld 9 rfl rfl rfl rfl ?_ | refine gny_ldH 9 rfl rfl rfl ‹HRow _ _ 0 _› rfl ?_ | refine gny_T 9 rfl rfl rfl ?_ | refine gny_F 9 rfl rfl rfl ?_ | refine gny_B 9 rfl rfl rfl ?_ | refine gny_skip 9 rfl rfl ?_ | refine gny_sp 9 rfl rfl rfl ?_ | refine gny_sB 9 rfl rfl rfl ?_ | refine gny_sld 9 rfl rfl rfl rfl ?_ | refine gny_sldH 9 rfl rfl rfl ‹HRow _ _ 0 _› rfl ?_ | refine gny_ldN 9 rfl rfl rfl rfl ?_ | refine gny_bld 9 rfl rfl rfl ?_)
      refine any_rest rfl ?_
      refine walk ?_
      refine out_next hL1 (i + 1, H13) ⟨by simp only; omega, hli.trans hl13⟩ (hs := Sub.trans (B := bookO H12 (.pointer (some ⟨bb, 0, none⟩)) m es rs :: row p10 43 [.slice d1 es.length e1, .slice d2 rs.length e2] :: R) (by (repeat (first | exact Sub.refl _ | exact Sub.nil _ | (apply sub_pick; (repeat (first | exact Has.here | apply Has.there)); skip) | apply Sub.drop))) (bookO_up hl13))
    · clear hL1
      refine walk ?_
      refine fin0 ?_
      exact ⟨rfl, rfl⟩
end Go.Proofs.Ytnfmjkjhiolfdaa
