/- BookApplies: the walk. Printed by gen_by.py. -/
import Derived.Test.YtnfmjkjhiolfdaaBT
import Derived.Test.YtnfmjkjhiolfdaaBW
import Derived.Test.YtnfmjkjhiolfdaaBX
import Derived.Test.YtnfmjkjhiolfdaaE19
set_option linter.unusedVariables false
set_option linter.unusedSimpArgs false
namespace Go.Proofs.Ytnfmjkjhiolfdaa
open Go Go.Sx Go.Proofs
abbrev Sl := Option Addr × Nat
set_option maxRecDepth 100000 in
set_option maxHeartbeats 32000000 in
theorem applies_spec {W0 : World} {H : Heap} {c : List Value} {l : Value} {m : Map} {ss : List Said} (h0 : rMap H c m) (h1 : SlB rSaid 6 64 H l ss) :
    Ct Try.prog 4 #[.agg c.toArray, l] W0 H [] (fun r H' B => r = .bool true ∧ B = []) := by
  refine Ct.go (vs := [.agg c.toArray, l]) fun R => ?_
  obtain ⟨b1, c1, rfl, hc1, hd1⟩ := h1.1.shape
  have g0 := h0
  obtain ⟨s0, rfl, f1, f2, f3, h0⟩ := h0
  obtain ⟨bm, cm, rfl, hcm, hdm⟩ := h0.1.shape
  generalize hs0 : (Value.slice bm m.Blocked.length cm) = s0 at *
  refine walk ?_
  refine ops_box rfl rfl fun p2 _ => ?_
  refine walk ?_
  refine ops_call (vs := []) rfl rfl awake_spec fun r1 H1 B hl1 ⟨er, eB⟩ => ?_
  subst er eB
  refine walk ?_
  refine ops_call (vs := [.agg (m.cv s0).toArray]) rfl rfl (gNew_spec (RdOk.mono (R := rMap) hl1 g0)) fun r2 H2 B hl2 ⟨g, e, er, eB, h⟩ => ?_
  subst er eB
  rcases h with ⟨hm, hG, rfl⟩ | ⟨hm, rfl, rfl⟩
  rotate_left
  · refine walk ?_
    refine ops_pcall rfl rfl (rGood_spec (RdOk.mono (R := rMap) (hl1.trans hl2) g0)) ?_
    refine walk ?_
    refine fin0 ?_
    exact ⟨by simp [hm], rfl⟩
  have hsd := hm.1.1
  have hGp := hG
  obtain ⟨⟨bg, s, mb, mm, rfl, q1, q2, q3, q4⟩, hgd, hfs⟩ := hGp
  refine walk ?_
  refine ops_call rfl rfl (bNew_spec hG) fun r3 H3 B hl3 ⟨eB, eH⟩ => ?_
  subst eB eH
  refine ops_know .here (fun h hh => bookO_ptr hh) fun ⟨bb, eb⟩ => ?_
  subst eb
  refine walk ?_
  refine ops_call (vs := []) rfl rfl refNew_spec fun r4 H4 B hl4 ⟨u1, u2, er, hR0, eB⟩ => ?_
  subst er eB
  obtain ⟨d01, e01, hu1, _, _⟩ := hR0.1.1.shape
  obtain ⟨d02, e02, hu2, _, _⟩ := hR0.2.1.shape
  subst hu1 hu2
  refine ops_alloc rfl fun p8 _ => ?_
  refine walk ?_
  refine ex_L (L' := bookO H4 (.pointer (some ⟨bb, 0, none⟩)) m zEpochs zRoutes :: row p2 24 (m.cv s0) :: row p8 43 [.slice d01 zEpochs.length e01, .slice d02 zRoutes.length e02] :: R) (Sub.trans (B := bookO H3 (.pointer (some ⟨bb, 0, none⟩)) m zEpochs zRoutes :: row p2 24 (m.cv s0) :: row p8 43 [.slice d01 zEpochs.length e01, .slice d02 zRoutes.length e02] :: R) (by (repeat (first | exact Sub.refl _ | exact Sub.nil _ | (apply sub_pick; (repeat (first | exact Has.here | apply Has.there)); skip) | apply Sub.drop))) (bookO_up hl4)) ?_
  refine ex_loop (σ := Nat × List Int × List Route × Heap × Sl × Sl) (fun s => (s.1 ≤ ss.length ∧ s.1 ≤ 80) ∧ H4.le s.2.2.2.1 ∧ Inv m s.2.1 s.2.2.1 s.1 ∧ RBk s.2.2.2.1 (.slice s.2.2.2.2.1.1 s.2.1.length s.2.2.2.2.1.2) (.slice s.2.2.2.2.2.1 s.2.2.1.length s.2.2.2.2.2.2) s.2.1 s.2.2.1)
    (fun s => [(1, .slice b1 ss.length c1), (2, .pointer (some ⟨p2, 0, none⟩)), (7, .pointer (some ⟨bb, 0, none⟩)), (8, .pointer (some ⟨p8, 0, none⟩)), (9, I s.1)]) (fun s => s.2.2.2.1)
    (fun s => bookO s.2.2.2.1 (.pointer (some ⟨bb, 0, none⟩)) m s.2.1 s.2.2.1 :: row p2 24 (m.cv s0) :: row p8 43 [.slice s.2.2.2.2.1.1 s.2.1.length s.2.2.2.2.1.2, .slice s.2.2.2.2.2.1 s.2.2.1.length s.2.2.2.2.2.2] :: R) (fun s => ss.length - s.1) (0, zEpochs, zRoutes, H4, (d01, e01), (d02, e02)) ⟨by simp, .refl _, inv0, hR0⟩ fun ⟨k, es, rs, H4a, ⟨d1, e1⟩, ⟨d2, e2⟩⟩ ⟨⟨hk0, hk80⟩, hl4a, hI, hRB⟩ K hL => ?_
  simp only at hk0 hk80 hl4a hI hRB
  dsimp only
  refine walkG ?_
  refine ex_if rfl (fun hk => ?_) (fun hk => ?_)
  · obtain ⟨hk1, hk2⟩ : k < ss.length ∧ k < 80 := by omega
    have hl04 : H.le H4a := hl1.trans (hl2.trans (hl4.trans hl4a))
    refine walk ?_
    refine ops_ixp rfl rfl ((h1.mono hl04).1) hk1 fun q o c hr hc => ?_
    refine ops_ldNH rfl rfl hr (RdOk.len hc) ?_
    generalize ss[k] = sd at *
    obtain ⟨sv, rfl, t1, t2, t3, t4, t5, t6⟩ := hc
    obtain ⟨bv, cv, rfl, hcv, hdv⟩ := t6.1.shape
    refine ops_alloc rfl fun p10 _ => ?_
    refine walk ?_
    have hEs : ∀ e ∈ es, 0 ≤ e ∧ e ≤ 1000000 := fun e he => by have := hI.e e he; omega
    obtain ⟨hst, hrep⟩ := apply_step (conf := confM) (m := m) (es := es) (rs := rs) (r := sd.Robot) (c := ownC sd.Call) (t := sd.Tick)
    have hI' := hI.step hst (by omega)
    have hS := fun (HA HB : Heap) (cc : List Value) (ha : HB.le HA) (hb : rCall HA cc (ownC sd.Call)) => apply_spec (W0 := W0) (H := HA) (H0 := HB) (cc := cc) (p := .pointer (some ⟨bb, 0, none⟩)) (m := m) (es := es) (rs := rs) (r := sd.Robot) (c := ownC sd.Call) (t := sd.Tick) ha hb t2 hEs hI.len ownC_len
    have hT := fun (HA : Heap) (cc : List Value) (u1 u2 : Value) (hu : RBk HA u1 u2 es rs) (hmm : rMap HA (m.cv s0) m) (hb : rCall HA cc (ownC sd.Call)) => rApply_spec (W0 := W0) (H := HA) (r := sd.Robot) (t := sd.Tick) hmm hsd hu hb t2 hI.el hI.rl hEs hI.len ownC_len
    rw [apply_eq hI] at hT
    generalize applyC confM m es rs sd.Robot (ownC sd.Call) sd.Tick = res at *
    obtain ⟨es', rs', y⟩ := res
    simp only at hst hrep hS hI' hT
    have hown := own_spec (W0 := W0) (H := H4a) (cc := sd.Call.cv (.slice bv sd.Call.Route.Cells.length cv)) (c := sd.Call) ⟨_, rfl, t3, t4, t5, t6⟩
    refine ex_cutk (σ := Heap × Option Addr × Nat × Nat) (fun s => H4a.le s.1) (fun s => [(1, .slice b1 ss.length c1), (2, .pointer (some ⟨p2, 0, none⟩)), (7, .pointer (some ⟨bb, 0, none⟩)), (8, .pointer (some ⟨p8, 0, none⟩)), (9, I k), (10, .pointer (some ⟨p10, 0, none⟩)), (11, .pointer (some ⟨s.2.2.2, 0, none⟩))]) (fun s => s.1)
      (fun s => row s.2.2.2 47 [I y.Code, I y.Epoch, I y.Route.Start, .slice s.2.1 y.Route.Cells.length s.2.2.1] :: ownS rInt 1 8 3 s.1 (.slice s.2.1 y.Route.Cells.length s.2.2.1) y.Route.Cells :: bookO s.1 (.pointer (some ⟨bb, 0, none⟩)) m es' rs' :: row p2 24 (m.cv s0) :: row p8 43 [.slice d1 es.length e1, .slice d2 rs.length e2] :: row p10 32 (sd.cv (.slice bv sd.Call.Route.Cells.length cv)) :: R) (fun K3 hK3 => ?_) fun ⟨H9, d9, e9, p11⟩ hl9 => ?_
    · refine ex_any 10 [row p10 32 (sd.cv (.slice bv sd.Call.Route.Cells.length cv))] ?_
      (first | refine gny_p 0 rfl rfl rfl ?_ | refine gny_ld 0 rfl rfl rfl rfl ?_ | refine gny_ldH 0 rfl rfl rfl ‹HRow _ _ 0 _› rfl ?_ | refine gny_T 0 rfl rfl rfl ?_ | refine gny_F 0 rfl rfl rfl ?_ | refine gny_B 0 rfl rfl rfl ?_ | refine gny_skip 0 rfl rfl ?_ | refine gny_sp 0 rfl rfl rfl ?_ | refine gny_sB 0 rfl rfl rfl ?_ | refine gny_sld 0 rfl rfl rfl rfl ?_ | refine gny_sldH 0 rfl rfl rfl ‹HRow _ _ 0 _› rfl ?_ | refine gny_ldN 0 rfl rfl rfl rfl ?_ | refine gny_bld 0 rfl rfl rfl ?_); (first | refine gny_p 1 rfl rfl rfl ?_ | refine gny_ld 1 rfl rfl rfl rfl ?_ | refine gny_ldH 1 rfl rfl rfl ‹HRow _ _ 0 _› rfl ?_ | refine gny_T 1 rfl rfl rfl ?_ | refine gny_F 1 rfl rfl rfl ?_ | refine gny_B 1 rfl rfl rfl ?_ | refine gny_skip 1 rfl rfl ?_ | refine gny_sp 1 rfl rfl rfl ?_ | refine gny_sB 1 rfl rfl rfl ?_ | refine gny_sld 1 rfl rfl rfl rfl ?_ | refine gny_sldH 1 rfl rfl rfl ‹HRow _ _ 0 _› rfl ?_ | refine gny_ldN 1 rfl rfl rfl rfl ?_ | refine gny_bld 1 rfl rfl rfl ?_); (first | refine gny_p 2 rfl rfl rfl ?_ | refine gny_ld 2 rfl rfl rfl rfl ?_ | refine gny_ldH 2 rfl rfl rfl ‹HRow _ _ 0 _› rfl ?_ | refine gny_T 2 rfl rfl rfl ?_ | refine gny_F 2 rfl rfl rfl ?_ | refine gny_B 2 rfl rfl rfl ?_ | refine gny_skip 2 rfl rfl ?_ | refine gny_sp 2 rfl rfl rfl ?_ | refine gny_sB 2 rfl rfl rfl ?_ | refine gny_sld 2 rfl rfl rfl rfl ?_ | refine gny_sldH 2 rfl rfl rfl ‹HRow _ _ 0 _› rfl ?_ | refine gny_ldN 2 rfl rfl rfl rfl ?_ | refine gny_bld 2 rfl rfl rfl ?_); (first | refine gny_p 3 rfl rfl rfl ?_ | refine gny_ld 3 rfl rfl rfl rfl ?_ | refine gny_ldH 3 rfl rfl rfl ‹HRow _ _ 0 _› rfl ?_ | refine gny_T 3 rfl rfl rfl ?_ | refine gny_F 3 rfl rfl rfl ?_ | refine gny_B 3 rfl rfl rfl ?_ | refine gny_skip 3 rfl rfl ?_ | refine gny_sp 3 rfl rfl rfl ?_ | refine gny_sB 3 rfl rfl rfl ?_ | refine gny_sld 3 rfl rfl rfl rfl ?_ | refine gny_sldH 3 rfl rfl rfl ‹HRow _ _ 0 _› rfl ?_ | refine gny_ldN 3 rfl rfl rfl rfl ?_ | refine gny_bld 3 rfl rfl rfl ?_); (first | refine gny_p 4 rfl rfl rfl ?_ | refine gny_ld 4 rfl rfl rfl rfl ?_ | refine gny_ldH 4 rfl rfl rfl ‹HRow _ _ 0 _› rfl ?_ | refine gny_T 4 rfl rfl rfl ?_ | refine gny_F 4 rfl rfl rfl ?_ | refine gny_B 4 rfl rfl rfl ?_ | refine gny_skip 4 rfl rfl ?_ | refine gny_sp 4 rfl rfl rfl ?_ | refine gny_sB 4 rfl rfl rfl ?_ | refine gny_sld 4 rfl rfl rfl rfl ?_ | refine gny_sldH 4 rfl rfl rfl ‹HRow _ _ 0 _› rfl ?_ | refine gny_ldN 4 rfl rfl rfl rfl ?_ | refine gny_bld 4 rfl rfl rfl ?_); (first | refine gny_p 6 rfl rfl rfl ?_ | refine gny_ld 6 rfl rfl rfl rfl ?_ | refine gny_ldH 6 rfl rfl rfl ‹HRow _ _ 0 _› rfl ?_ | refine gny_T 6 rfl rfl rfl ?_ | refine gny_F 6 rfl rfl rfl ?_ | refine gny_B 6 rfl rfl rfl ?_ | refine gny_skip 6 rfl rfl ?_ | refine gny_sp 6 rfl rfl rfl ?_ | refine gny_sB 6 rfl rfl rfl ?_ | refine gny_sld 6 rfl rfl rfl rfl ?_ | refine gny_sldH 6 rfl rfl rfl ‹HRow _ _ 0 _› rfl ?_ | refine gny_ldN 6 rfl rfl rfl rfl ?_ | refine gny_bld 6 rfl rfl rfl ?_); (first | refine gny_p 7 rfl rfl rfl ?_ | refine gny_ld 7 rfl rfl rfl rfl ?_ | refine gny_ldH 7 rfl rfl rfl ‹HRow _ _ 0 _› rfl ?_ | refine gny_T 7 rfl rfl rfl ?_ | refine gny_F 7 rfl rfl rfl ?_ | refine gny_B 7 rfl rfl rfl ?_ | refine gny_skip 7 rfl rfl ?_ | refine gny_sp 7 rfl rfl rfl ?_ | refine gny_sB 7 rfl rfl rfl ?_ | refine gny_sld 7 rfl rfl rfl rfl ?_ | refine gny_sldH 7 rfl rfl rfl ‹HRow _ _ 0 _› rfl ?_ | refine gny_ldN 7 rfl rfl rfl rfl ?_ | refine gny_bld 7 rfl rfl rfl ?_)
      refine any_ca (vs := [.agg (sd.Call.cv (.slice bv sd.Call.Route.Cells.length cv)).toArray]) 5 9 rfl rfl rfl hown (fun r5 H6 B hl6 ⟨v5, er, eB, eH⟩ => ?_) (fun p11 _ => ?_)
      · subst er eB eH
        refine ⟨(by (repeat (first | exact Sub.refl _ | exact Sub.nil _ | (apply sub_pick; (repeat (first | exact Has.here | apply Has.there)); skip) | apply Sub.drop))), ?_⟩
        refine any_freeze v5 fun H7 hl7 hz7 => ?_
        refine any_ca 8 9 rfl rfl rfl (hS H7 H6 ((ownC sd.Call).cv v5) hl7 ⟨v5, rfl, t3, t4, t5, hz7⟩) (fun r8 H8 B hl8 ⟨v8, er, eB⟩ => ?_) (fun p11 _ => ?_)
        · subst er eB
          refine ⟨(by (repeat (first | exact Sub.refl _ | exact Sub.nil _ | (apply sub_pick; (repeat (first | exact Has.here | apply Has.there)); skip) | apply Sub.drop))), ?_⟩
          refine gny_alloc 9 rfl rfl fun p11 _ => ?_
          refine any_rest rfl ?_
          refine ops_shape v8 fun d9 e9 e _ _ _ => ?_
          subst e
          refine walk ?_
          exact out_to hK3 (H8, d9, e9, p11) (hl7.trans hl8)
        · refine gny_call 8 rfl rfl rfl (hS H7 H6 ((ownC sd.Call).cv v5) hl7 ⟨v5, rfl, t3, t4, t5, hz7⟩) fun r8 H8 B hl8 ⟨v8, er, eB⟩ => ?_
          subst er eB
          refine ⟨(by (repeat (first | exact Sub.refl _ | exact Sub.nil _ | (apply sub_pick; (repeat (first | exact Has.here | apply Has.there)); skip) | apply Sub.drop))), ?_⟩
          refine any_rest rfl ?_
          refine ops_shape v8 fun d9 e9 e _ _ _ => ?_
          subst e
          refine walk ?_
          exact out_to hK3 (H8, d9, e9, p11) (hl7.trans hl8)
      · refine gny_call (vs := [.agg (sd.Call.cv (.slice bv sd.Call.Route.Cells.length cv)).toArray]) 5 rfl rfl rfl hown fun r5 H6 B hl6 ⟨v5, er, eB, eH⟩ => ?_
        subst er eB eH
        refine ⟨(by (repeat (first | exact Sub.refl _ | exact Sub.nil _ | (apply sub_pick; (repeat (first | exact Has.here | apply Has.there)); skip) | apply Sub.drop))), ?_⟩
        refine any_freeze v5 fun H7 hl7 hz7 => ?_
        refine gny_call 8 rfl rfl rfl (hS H7 H6 ((ownC sd.Call).cv v5) hl7 ⟨v5, rfl, t3, t4, t5, hz7⟩) fun r8 H8 B hl8 ⟨v8, er, eB⟩ => ?_
        subst er eB
        refine ⟨(by (repeat (first | exact Sub.refl _ | exact Sub.nil _ | (apply sub_pick; (repeat (first | exact Has.here | apply Has.there)); skip) | apply Sub.drop))), ?_⟩
        refine any_rest rfl ?_
        refine ops_shape v8 fun d9 e9 e _ _ _ => ?_
        subst e
        refine walk ?_
        exact out_to hK3 (H8, d9, e9, p11) (hl7.trans hl8)
    · simp only at hl9
      dsimp only
      have hown2 := own_spec (W0 := W0) (H := H9) (cc := sd.Call.cv (.slice bv sd.Call.Route.Cells.length cv)) (c := sd.Call) ⟨_, rfl, t3, t4, t5, t6.mono hl9⟩
      have href := fun (HA : Heap) (v5 : Value) (ha : H9.le HA) (hz : SlB rInt 1 8 HA v5 (ownC sd.Call).Route.Cells) => hT HA ((ownC sd.Call).cv v5) _ _ (hRB.mono (hl9.trans ha)) (RdOk.mono (R := rMap) (hl04.trans (hl9.trans ha)) g0) ⟨v5, rfl, t3, t4, t5, hz⟩
      refine walk ?_
      refine ex_cutk (σ := Heap × Sl × Sl × Sl × Nat × Nat) (fun s => H9.le s.1 ∧ RBk s.1 (.slice s.2.1.1 es'.length s.2.1.2) (.slice s.2.2.1.1 rs'.length s.2.2.1.2) es' rs' ∧ SlB rInt 1 8 s.1 (.slice s.2.2.2.1.1 y.Route.Cells.length s.2.2.2.1.2) y.Route.Cells ∧ fits y.Code ∧ fits y.Epoch ∧ fits y.Route.Start) (fun s => [(1, .slice b1 ss.length c1), (2, .pointer (some ⟨p2, 0, none⟩)), (7, .pointer (some ⟨bb, 0, none⟩)), (8, .pointer (some ⟨p8, 0, none⟩)), (9, I k), (11, .pointer (some ⟨p11, 0, none⟩)), (12, .pointer (some ⟨s.2.2.2.2.1, 0, none⟩)), (13, .pointer (some ⟨s.2.2.2.2.2, 0, none⟩))]) (fun s => s.1)
        (fun s => row s.2.2.2.2.1 43 [.slice s.2.1.1 es'.length s.2.1.2, .slice s.2.2.1.1 rs'.length s.2.2.1.2] :: row s.2.2.2.2.2 47 [I y.Code, I y.Epoch, I y.Route.Start, .slice s.2.2.2.1.1 y.Route.Cells.length s.2.2.2.1.2] :: row p11 47 [I y.Code, I y.Epoch, I y.Route.Start, .slice d9 y.Route.Cells.length e9] :: ownS rInt 1 8 3 H9 (.slice d9 y.Route.Cells.length e9) y.Route.Cells :: bookO H9 (.pointer (some ⟨bb, 0, none⟩)) m es' rs' :: row p2 24 (m.cv s0) :: row p8 43 [.slice d1 es.length e1, .slice d2 rs.length e2] :: R) (fun K4 hK4 => ?_) fun ⟨H10, ⟨d21, e21⟩, ⟨d22, e22⟩, ⟨d23, e23⟩, p12, p13⟩ ⟨hl10, hR, y4, y1, y2, y3⟩ => ?_
      · refine ex_any 16 [row p2 24 (m.cv s0), row p8 43 [.slice d1 es.length e1, .slice d2 rs.length e2], row p10 32 (sd.cv (.slice bv sd.Call.Route.Cells.length cv))] ?_
        (first | refine gny_p 0 rfl rfl rfl ?_ | refine gny_ld 0 rfl rfl rfl rfl ?_ | refine gny_ldH 0 rfl rfl rfl ‹HRow _ _ 0 _› rfl ?_ | refine gny_T 0 rfl rfl rfl ?_ | refine gny_F 0 rfl rfl rfl ?_ | refine gny_B 0 rfl rfl rfl ?_ | refine gny_skip 0 rfl rfl ?_ | refine gny_sp 0 rfl rfl rfl ?_ | refine gny_sB 0 rfl rfl rfl ?_ | refine gny_sld 0 rfl rfl rfl rfl ?_ | refine gny_sldH 0 rfl rfl rfl ‹HRow _ _ 0 _› rfl ?_ | refine gny_ldN 0 rfl rfl rfl rfl ?_ | refine gny_bld 0 rfl rfl rfl ?_); (first | refine gny_p 1 rfl rfl rfl ?_ | refine gny_ld 1 rfl rfl rfl rfl ?_ | refine gny_ldH 1 rfl rfl rfl ‹HRow _ _ 0 _› rfl ?_ | refine gny_T 1 rfl rfl rfl ?_ | refine gny_F 1 rfl rfl rfl ?_ | refine gny_B 1 rfl rfl rfl ?_ | refine gny_skip 1 rfl rfl ?_ | refine gny_sp 1 rfl rfl rfl ?_ | refine gny_sB 1 rfl rfl rfl ?_ | refine gny_sld 1 rfl rfl rfl rfl ?_ | refine gny_sldH 1 rfl rfl rfl ‹HRow _ _ 0 _› rfl ?_ | refine gny_ldN 1 rfl rfl rfl rfl ?_ | refine gny_bld 1 rfl rfl rfl ?_); (first | refine gny_p 2 rfl rfl rfl ?_ | refine gny_ld 2 rfl rfl rfl rfl ?_ | refine gny_ldH 2 rfl rfl rfl ‹HRow _ _ 0 _› rfl ?_ | refine gny_T 2 rfl rfl rfl ?_ | refine gny_F 2 rfl rfl rfl ?_ | refine gny_B 2 rfl rfl rfl ?_ | refine gny_skip 2 rfl rfl ?_ | refine gny_sp 2 rfl rfl rfl ?_ | refine gny_sB 2 rfl rfl rfl ?_ | refine gny_sld 2 rfl rfl rfl rfl ?_ | refine gny_sldH 2 rfl rfl rfl ‹HRow _ _ 0 _› rfl ?_ | refine gny_ldN 2 rfl rfl rfl rfl ?_ | refine gny_bld 2 rfl rfl rfl ?_); (first | refine gny_p 3 rfl rfl rfl ?_ | refine gny_ld 3 rfl rfl rfl rfl ?_ | refine gny_ldH 3 rfl rfl rfl ‹HRow _ _ 0 _› rfl ?_ | refine gny_T 3 rfl rfl rfl ?_ | refine gny_F 3 rfl rfl rfl ?_ | refine gny_B 3 rfl rfl rfl ?_ | refine gny_skip 3 rfl rfl ?_ | refine gny_sp 3 rfl rfl rfl ?_ | refine gny_sB 3 rfl rfl rfl ?_ | refine gny_sld 3 rfl rfl rfl rfl ?_ | refine gny_sldH 3 rfl rfl rfl ‹HRow _ _ 0 _› rfl ?_ | refine gny_ldN 3 rfl rfl rfl rfl ?_ | refine gny_bld 3 rfl rfl rfl ?_); (first | refine gny_p 4 rfl rfl rfl ?_ | refine gny_ld 4 rfl rfl rfl rfl ?_ | refine gny_ldH 4 rfl rfl rfl ‹HRow _ _ 0 _› rfl ?_ | refine gny_T 4 rfl rfl rfl ?_ | refine gny_F 4 rfl rfl rfl ?_ | refine gny_B 4 rfl rfl rfl ?_ | refine gny_skip 4 rfl rfl ?_ | refine gny_sp 4 rfl rfl rfl ?_ | refine gny_sB 4 rfl rfl rfl ?_ | refine gny_sld 4 rfl rfl rfl rfl ?_ | refine gny_sldH 4 rfl rfl rfl ‹HRow _ _ 0 _› rfl ?_ | refine gny_ldN 4 rfl rfl rfl rfl ?_ | refine gny_bld 4 rfl rfl rfl ?_); (first | refine gny_p 5 rfl rfl rfl ?_ | refine gny_ld 5 rfl rfl rfl rfl ?_ | refine gny_ldH 5 rfl rfl rfl ‹HRow _ _ 0 _› rfl ?_ | refine gny_T 5 rfl rfl rfl ?_ | refine gny_F 5 rfl rfl rfl ?_ | refine gny_B 5 rfl rfl rfl ?_ | refine gny_skip 5 rfl rfl ?_ | refine gny_sp 5 rfl rfl rfl ?_ | refine gny_sB 5 rfl rfl rfl ?_ | refine gny_sld 5 rfl rfl rfl rfl ?_ | refine gny_sldH 5 rfl rfl rfl ‹HRow _ _ 0 _› rfl ?_ | refine gny_ldN 5 rfl rfl rfl rfl ?_ | refine gny_bld 5 rfl rfl rfl ?_); (first | refine gny_p 7 rfl rfl rfl ?_ | refine gny_ld 7 rfl rfl rfl rfl ?_ | refine gny_ldH 7 rfl rfl rfl ‹HRow _ _ 0 _› rfl ?_ | refine gny_T 7 rfl rfl rfl ?_ | refine gny_F 7 rfl rfl rfl ?_ | refine gny_B 7 rfl rfl rfl ?_ | refine gny_skip 7 rfl rfl ?_ | refine gny_sp 7 rfl rfl rfl ?_ | refine gny_sB 7 rfl rfl rfl ?_ | refine gny_sld 7 rfl rfl rfl rfl ?_ | refine gny_sldH 7 rfl rfl rfl ‹HRow _ _ 0 _› rfl ?_ | refine gny_ldN 7 rfl rfl rfl rfl ?_ | refine gny_bld 7 rfl rfl rfl ?_); (first | refine gny_p 8 rfl rfl rfl ?_ | refine gny_ld 8 rfl rfl rfl rfl ?_ | refine gny_ldH 8 rfl rfl rfl ‹HRow _ _ 0 _› rfl ?_ | refine gny_T 8 rfl rfl rfl ?_ | refine gny_F 8 rfl rfl rfl ?_ | refine gny_B 8 rfl rfl rfl ?_ | refine gny_skip 8 rfl rfl ?_ | refine gny_sp 8 rfl rfl rfl ?_ | refine gny_sB 8 rfl rfl rfl ?_ | refine gny_sld 8 rfl rfl rfl rfl ?_ | refine gny_sldH 8 rfl rfl rfl ‹HRow _ _ 0 _› rfl ?_ | refine gny_ldN 8 rfl rfl rfl rfl ?_ | refine gny_bld 8 rfl rfl rfl ?_)
        refine any_caa (vs := [.agg (sd.Call.cv (.slice bv sd.Call.Route.Cells.length cv)).toArray]) 6 13 14 rfl rfl rfl rfl hown2 (fun r5 H5 B hl5 ⟨v5, er, eB, eH⟩ => ?_) (fun p12 _ => ?_) (fun p13 _ => ?_)
        · skip
          subst er eB eH
          refine ⟨(by (repeat (first | exact Sub.refl _ | exact Sub.nil _ | (apply sub_pick; (repeat (first | exact Has.here | apply Has.there)); skip) | apply Sub.drop))), ?_⟩
          refine any_freeze v5 fun H6 hl6 hz6 => ?_
          have hs9 := href H6 v5 hl6 hz6
          refine any_caa 9 13 14 rfl rfl rfl rfl hs9 (fun r8 H8 B hl8 ⟨u1, u2, cr, er, hR, hY, eB⟩ => ?_) (fun p12 _ => ?_) (fun p13 _ => ?_)
          · skip
            subst er eB
            refine ⟨(by (repeat (first | exact Sub.refl _ | exact Sub.nil _ | (apply sub_pick; (repeat (first | exact Has.here | apply Has.there)); skip) | apply Sub.drop))), ?_⟩
            obtain ⟨d21, e21, hu1, _, _⟩ := hR.1.1.shape
            obtain ⟨d22, e22, hu2, _, _⟩ := hR.2.1.shape
            obtain ⟨sv, rfl, y1, y2, y3, y4⟩ := hY
            obtain ⟨d23, e23, hu3, _, _⟩ := y4.1.shape
            subst hu1 hu2 hu3
            (first | refine gny_p 10 rfl rfl rfl ?_ | refine gny_ld 10 rfl rfl rfl rfl ?_ | refine gny_ldH 10 rfl rfl rfl ‹HRow _ _ 0 _› rfl ?_ | refine gny_T 10 rfl rfl rfl ?_ | refine gny_F 10 rfl rfl rfl ?_ | refine gny_B 10 rfl rfl rfl ?_ | refine gny_skip 10 rfl rfl ?_ | refine gny_sp 10 rfl rfl rfl ?_ | refine gny_sB 10 rfl rfl rfl ?_ | refine gny_sld 10 rfl rfl rfl rfl ?_ | refine gny_sldH 10 rfl rfl rfl ‹HRow _ _ 0 _› rfl ?_ | refine gny_ldN 10 rfl rfl rfl rfl ?_ | refine gny_bld 10 rfl rfl rfl ?_)
            refine gny_ext 11 rfl rfl rfl rfl ?_
            refine gny_ext 12 rfl rfl rfl rfl ?_
            refine any_aa 13 14 rfl rfl (fun p12 _ => ?_) (fun p13 _ => ?_)
            · skip
              refine gny_alloc 14 rfl rfl fun p13 _ => ?_
              refine any_sta 15 rfl rfl rfl rfl (by simp) rfl ⟨(by (repeat (first | exact Sub.refl _ | exact Sub.nil _ | (apply sub_pick; (repeat (first | exact Has.here | apply Has.there)); skip) | apply Sub.drop))), ?_⟩
              refine any_rest rfl ?_
              refine walk ?_
              exact out_to hK4 (H8, (d21, e21), (d22, e22), (d23, e23), p12, p13) ⟨hl6.trans hl8, hR, y4, y1, y2, y3⟩
            · skip
              refine gny_alloc 13 rfl rfl fun p12 _ => ?_
              refine any_sta 15 rfl rfl rfl rfl (by simp) rfl ⟨(by (repeat (first | exact Sub.refl _ | exact Sub.nil _ | (apply sub_pick; (repeat (first | exact Has.here | apply Has.there)); skip) | apply Sub.drop))), ?_⟩
              refine any_rest rfl ?_
              refine walk ?_
              exact out_to hK4 (H8, (d21, e21), (d22, e22), (d23, e23), p12, p13) ⟨hl6.trans hl8, hR, y4, y1, y2, y3⟩
          · skip
            refine any_ca 9 14 rfl rfl rfl hs9 (fun r8 H8 B hl8 ⟨u1, u2, cr, er, hR, hY, eB⟩ => ?_) (fun p13 _ => ?_)
            · skip
              subst er eB
              refine ⟨(by (repeat (first | exact Sub.refl _ | exact Sub.nil _ | (apply sub_pick; (repeat (first | exact Has.here | apply Has.there)); skip) | apply Sub.drop))), ?_⟩
              obtain ⟨d21, e21, hu1, _, _⟩ := hR.1.1.shape
              obtain ⟨d22, e22, hu2, _, _⟩ := hR.2.1.shape
              obtain ⟨sv, rfl, y1, y2, y3, y4⟩ := hY
              obtain ⟨d23, e23, hu3, _, _⟩ := y4.1.shape
              subst hu1 hu2 hu3
              (first | refine gny_p 10 rfl rfl rfl ?_ | refine gny_ld 10 rfl rfl rfl rfl ?_ | refine gny_ldH 10 rfl rfl rfl ‹HRow _ _ 0 _› rfl ?_ | refine gny_T 10 rfl rfl rfl ?_ | refine gny_F 10 rfl rfl rfl ?_ | refine gny_B 10 rfl rfl rfl ?_ | refine gny_skip 10 rfl rfl ?_ | refine gny_sp 10 rfl rfl rfl ?_ | refine gny_sB 10 rfl rfl rfl ?_ | refine gny_sld 10 rfl rfl rfl rfl ?_ | refine gny_sldH 10 rfl rfl rfl ‹HRow _ _ 0 _› rfl ?_ | refine gny_ldN 10 rfl rfl rfl rfl ?_ | refine gny_bld 10 rfl rfl rfl ?_)
              refine gny_ext 11 rfl rfl rfl rfl ?_
              refine gny_ext 12 rfl rfl rfl rfl ?_
              refine gny_alloc 14 rfl rfl fun p13 _ => ?_
              refine any_sta 15 rfl rfl rfl rfl (by simp) rfl ⟨(by (repeat (first | exact Sub.refl _ | exact Sub.nil _ | (apply sub_pick; (repeat (first | exact Has.here | apply Has.there)); skip) | apply Sub.drop))), ?_⟩
              refine any_rest rfl ?_
              refine walk ?_
              exact out_to hK4 (H8, (d21, e21), (d22, e22), (d23, e23), p12, p13) ⟨hl6.trans hl8, hR, y4, y1, y2, y3⟩
            · skip
              refine gny_call 9 rfl rfl rfl hs9 fun r8 H8 B hl8 ⟨u1, u2, cr, er, hR, hY, eB⟩ => ?_
              subst er eB
              refine ⟨(by (repeat (first | exact Sub.refl _ | exact Sub.nil _ | (apply sub_pick; (repeat (first | exact Has.here | apply Has.there)); skip) | apply Sub.drop))), ?_⟩
              obtain ⟨d21, e21, hu1, _, _⟩ := hR.1.1.shape
              obtain ⟨d22, e22, hu2, _, _⟩ := hR.2.1.shape
              obtain ⟨sv, rfl, y1, y2, y3, y4⟩ := hY
              obtain ⟨d23, e23, hu3, _, _⟩ := y4.1.shape
              subst hu1 hu2 hu3
              (first | refine gny_p 10 rfl rfl rfl ?_ | refine gny_ld 10 rfl rfl rfl rfl ?_ | refine gny_ldH 10 rfl rfl rfl ‹HRow _ _ 0 _› rfl ?_ | refine gny_T 10 rfl rfl rfl ?_ | refine gny_F 10 rfl rfl rfl ?_ | refine gny_B 10 rfl rfl rfl ?_ | refine gny_skip 10 rfl rfl ?_ | refine gny_sp 10 rfl rfl rfl ?_ | refine gny_sB 10 rfl rfl rfl ?_ | refine gny_sld 10 rfl rfl rfl rfl ?_ | refine gny_sldH 10 rfl rfl rfl ‹HRow _ _ 0 _› rfl ?_ | refine gny_ldN 10 rfl rfl rfl rfl ?_ | refine gny_bld 10 rfl rfl rfl ?_)
              refine gny_ext 11 rfl rfl rfl rfl ?_
              refine gny_ext 12 rfl rfl rfl rfl ?_
              refine any_sta 15 rfl rfl rfl rfl (by simp) rfl ⟨(by (repeat (first | exact Sub.refl _ | exact Sub.nil _ | (apply sub_pick; (repeat (first | exact Has.here | apply Has.there)); skip) | apply Sub.drop))), ?_⟩
              refine any_rest rfl ?_
              refine walk ?_
              exact out_to hK4 (H8, (d21, e21), (d22, e22), (d23, e23), p12, p13) ⟨hl6.trans hl8, hR, y4, y1, y2, y3⟩
          · skip
            refine any_ca 9 13 rfl rfl rfl hs9 (fun r8 H8 B hl8 ⟨u1, u2, cr, er, hR, hY, eB⟩ => ?_) (fun p12 _ => ?_)
            · skip
              subst er eB
              refine ⟨(by (repeat (first | exact Sub.refl _ | exact Sub.nil _ | (apply sub_pick; (repeat (first | exact Has.here | apply Has.there)); skip) | apply Sub.drop))), ?_⟩
              obtain ⟨d21, e21, hu1, _, _⟩ := hR.1.1.shape
              obtain ⟨d22, e22, hu2, _, _⟩ := hR.2.1.shape
              obtain ⟨sv, rfl, y1, y2, y3, y4⟩ := hY
              obtain ⟨d23, e23, hu3, _, _⟩ := y4.1.shape
              subst hu1 hu2 hu3
              (first | refine gny_p 10 rfl rfl rfl ?_ | refine gny_ld 10 rfl rfl rfl rfl ?_ | refine gny_ldH 10 rfl rfl rfl ‹HRow _ _ 0 _› rfl ?_ | refine gny_T 10 rfl rfl rfl ?_ | refine gny_F 10 rfl rfl rfl ?_ | refine gny_B 10 rfl rfl rfl ?_ | refine gny_skip 10 rfl rfl ?_ | refine gny_sp 10 rfl rfl rfl ?_ | refine gny_sB 10 rfl rfl rfl ?_ | refine gny_sld 10 rfl rfl rfl rfl ?_ | refine gny_sldH 10 rfl rfl rfl ‹HRow _ _ 0 _› rfl ?_ | refine gny_ldN 10 rfl rfl rfl rfl ?_ | refine gny_bld 10 rfl rfl rfl ?_)
              refine gny_ext 11 rfl rfl rfl rfl ?_
              refine gny_ext 12 rfl rfl rfl rfl ?_
              refine gny_alloc 13 rfl rfl fun p12 _ => ?_
              refine any_sta 15 rfl rfl rfl rfl (by simp) rfl ⟨(by (repeat (first | exact Sub.refl _ | exact Sub.nil _ | (apply sub_pick; (repeat (first | exact Has.here | apply Has.there)); skip) | apply Sub.drop))), ?_⟩
              refine any_rest rfl ?_
              refine walk ?_
              exact out_to hK4 (H8, (d21, e21), (d22, e22), (d23, e23), p12, p13) ⟨hl6.trans hl8, hR, y4, y1, y2, y3⟩
            · skip
              refine gny_call 9 rfl rfl rfl hs9 fun r8 H8 B hl8 ⟨u1, u2, cr, er, hR, hY, eB⟩ => ?_
              subst er eB
              refine ⟨(by (repeat (first | exact Sub.refl _ | exact Sub.nil _ | (apply sub_pick; (repeat (first | exact Has.here | apply Has.there)); skip) | apply Sub.drop))), ?_⟩
              obtain ⟨d21, e21, hu1, _, _⟩ := hR.1.1.shape
              obtain ⟨d22, e22, hu2, _, _⟩ := hR.2.1.shape
              obtain ⟨sv, rfl, y1, y2, y3, y4⟩ := hY
              obtain ⟨d23, e23, hu3, _, _⟩ := y4.1.shape
              subst hu1 hu2 hu3
              (first | refine gny_p 10 rfl rfl rfl ?_ | refine gny_ld 10 rfl rfl rfl rfl ?_ | refine gny_ldH 10 rfl rfl rfl ‹HRow _ _ 0 _› rfl ?_ | refine gny_T 10 rfl rfl rfl ?_ | refine gny_F 10 rfl rfl rfl ?_ | refine gny_B 10 rfl rfl rfl ?_ | refine gny_skip 10 rfl rfl ?_ | refine gny_sp 10 rfl rfl rfl ?_ | refine gny_sB 10 rfl rfl rfl ?_ | refine gny_sld 10 rfl rfl rfl rfl ?_ | refine gny_sldH 10 rfl rfl rfl ‹HRow _ _ 0 _› rfl ?_ | refine gny_ldN 10 rfl rfl rfl rfl ?_ | refine gny_bld 10 rfl rfl rfl ?_)
              refine gny_ext 11 rfl rfl rfl rfl ?_
              refine gny_ext 12 rfl rfl rfl rfl ?_
              refine any_sta 15 rfl rfl rfl rfl (by simp) rfl ⟨(by (repeat (first | exact Sub.refl _ | exact Sub.nil _ | (apply sub_pick; (repeat (first | exact Has.here | apply Has.there)); skip) | apply Sub.drop))), ?_⟩
              refine any_rest rfl ?_
              refine walk ?_
              exact out_to hK4 (H8, (d21, e21), (d22, e22), (d23, e23), p12, p13) ⟨hl6.trans hl8, hR, y4, y1, y2, y3⟩
        · skip
          refine any_ca (vs := [.agg (sd.Call.cv (.slice bv sd.Call.Route.Cells.length cv)).toArray]) 6 14 rfl rfl rfl hown2 (fun r5 H5 B hl5 ⟨v5, er, eB, eH⟩ => ?_) (fun p13 _ => ?_)
          · skip
            subst er eB eH
            refine ⟨(by (repeat (first | exact Sub.refl _ | exact Sub.nil _ | (apply sub_pick; (repeat (first | exact Has.here | apply Has.there)); skip) | apply Sub.drop))), ?_⟩
            refine any_freeze v5 fun H6 hl6 hz6 => ?_
            have hs9 := href H6 v5 hl6 hz6
            refine any_ca 9 14 rfl rfl rfl hs9 (fun r8 H8 B hl8 ⟨u1, u2, cr, er, hR, hY, eB⟩ => ?_) (fun p13 _ => ?_)
            · skip
              subst er eB
              refine ⟨(by (repeat (first | exact Sub.refl _ | exact Sub.nil _ | (apply sub_pick; (repeat (first | exact Has.here | apply Has.there)); skip) | apply Sub.drop))), ?_⟩
              obtain ⟨d21, e21, hu1, _, _⟩ := hR.1.1.shape
              obtain ⟨d22, e22, hu2, _, _⟩ := hR.2.1.shape
              obtain ⟨sv, rfl, y1, y2, y3, y4⟩ := hY
              obtain ⟨d23, e23, hu3, _, _⟩ := y4.1.shape
              subst hu1 hu2 hu3
              (first | refine gny_p 10 rfl rfl rfl ?_ | refine gny_ld 10 rfl rfl rfl rfl ?_ | refine gny_ldH 10 rfl rfl rfl ‹HRow _ _ 0 _› rfl ?_ | refine gny_T 10 rfl rfl rfl ?_ | refine gny_F 10 rfl rfl rfl ?_ | refine gny_B 10 rfl rfl rfl ?_ | refine gny_skip 10 rfl rfl ?_ | refine gny_sp 10 rfl rfl rfl ?_ | refine gny_sB 10 rfl rfl rfl ?_ | refine gny_sld 10 rfl rfl rfl rfl ?_ | refine gny_sldH 10 rfl rfl rfl ‹HRow _ _ 0 _› rfl ?_ | refine gny_ldN 10 rfl rfl rfl rfl ?_ | refine gny_bld 10 rfl rfl rfl ?_)
              refine gny_ext 11 rfl rfl rfl rfl ?_
              refine gny_ext 12 rfl rfl rfl rfl ?_
              refine gny_alloc 14 rfl rfl fun p13 _ => ?_
              refine any_sta 15 rfl rfl rfl rfl (by simp) rfl ⟨(by (repeat (first | exact Sub.refl _ | exact Sub.nil _ | (apply sub_pick; (repeat (first | exact Has.here | apply Has.there)); skip) | apply Sub.drop))), ?_⟩
              refine any_rest rfl ?_
              refine walk ?_
              exact out_to hK4 (H8, (d21, e21), (d22, e22), (d23, e23), p12, p13) ⟨hl6.trans hl8, hR, y4, y1, y2, y3⟩
            · skip
              refine gny_call 9 rfl rfl rfl hs9 fun r8 H8 B hl8 ⟨u1, u2, cr, er, hR, hY, eB⟩ => ?_
              subst er eB
              refine ⟨(by (repeat (first | exact Sub.refl _ | exact Sub.nil _ | (apply sub_pick; (repeat (first | exact Has.here | apply Has.there)); skip) | apply Sub.drop))), ?_⟩
              obtain ⟨d21, e21, hu1, _, _⟩ := hR.1.1.shape
              obtain ⟨d22, e22, hu2, _, _⟩ := hR.2.1.shape
              obtain ⟨sv, rfl, y1, y2, y3, y4⟩ := hY
              obtain ⟨d23, e23, hu3, _, _⟩ := y4.1.shape
              subst hu1 hu2 hu3
              (first | refine gny_p 10 rfl rfl rfl ?_ | refine gny_ld 10 rfl rfl rfl rfl ?_ | refine gny_ldH 10 rfl rfl rfl ‹HRow _ _ 0 _› rfl ?_ | refine gny_T 10 rfl rfl rfl ?_ | refine gny_F 10 rfl rfl rfl ?_ | refine gny_B 10 rfl rfl rfl ?_ | refine gny_skip 10 rfl rfl ?_ | refine gny_sp 10 rfl rfl rfl ?_ | refine gny_sB 10 rfl rfl rfl ?_ | refine gny_sld 10 rfl rfl rfl rfl ?_ | refine gny_sldH 10 rfl rfl rfl ‹HRow _ _ 0 _› rfl ?_ | refine gny_ldN 10 rfl rfl rfl rfl ?_ | refine gny_bld 10 rfl rfl rfl ?_)
              refine gny_ext 11 rfl rfl rfl rfl ?_
              refine gny_ext 12 rfl rfl rfl rfl ?_
              refine any_sta 15 rfl rfl rfl rfl (by simp) rfl ⟨(by (repeat (first | exact Sub.refl _ | exact Sub.nil _ | (apply sub_pick; (repeat (first | exact Has.here | apply Has.there)); skip) | apply Sub.drop))), ?_⟩
              refine any_rest rfl ?_
              refine walk ?_
              exact out_to hK4 (H8, (d21, e21), (d22, e22), (d23, e23), p12, p13) ⟨hl6.trans hl8, hR, y4, y1, y2, y3⟩
          · skip
            refine gny_call (vs := [.agg (sd.Call.cv (.slice bv sd.Call.Route.Cells.length cv)).toArray]) 6 rfl rfl rfl hown2 fun r5 H5 B hl5 ⟨v5, er, eB, eH⟩ => ?_
            subst er eB eH
            refine ⟨(by (repeat (first | exact Sub.refl _ | exact Sub.nil _ | (apply sub_pick; (repeat (first | exact Has.here | apply Has.there)); skip) | apply Sub.drop))), ?_⟩
            refine any_freeze v5 fun H6 hl6 hz6 => ?_
            have hs9 := href H6 v5 hl6 hz6
            refine gny_call 9 rfl rfl rfl hs9 fun r8 H8 B hl8 ⟨u1, u2, cr, er, hR, hY, eB⟩ => ?_
            subst er eB
            refine ⟨(by (repeat (first | exact Sub.refl _ | exact Sub.nil _ | (apply sub_pick; (repeat (first | exact Has.here | apply Has.there)); skip) | apply Sub.drop))), ?_⟩
            obtain ⟨d21, e21, hu1, _, _⟩ := hR.1.1.shape
            obtain ⟨d22, e22, hu2, _, _⟩ := hR.2.1.shape
            obtain ⟨sv, rfl, y1, y2, y3, y4⟩ := hY
            obtain ⟨d23, e23, hu3, _, _⟩ := y4.1.shape
            subst hu1 hu2 hu3
            (first | refine gny_p 10 rfl rfl rfl ?_ | refine gny_ld 10 rfl rfl rfl rfl ?_ | refine gny_ldH 10 rfl rfl rfl ‹HRow _ _ 0 _› rfl ?_ | refine gny_T 10 rfl rfl rfl ?_ | refine gny_F 10 rfl rfl rfl ?_ | refine gny_B 10 rfl rfl rfl ?_ | refine gny_skip 10 rfl rfl ?_ | refine gny_sp 10 rfl rfl rfl ?_ | refine gny_sB 10 rfl rfl rfl ?_ | refine gny_sld 10 rfl rfl rfl rfl ?_ | refine gny_sldH 10 rfl rfl rfl ‹HRow _ _ 0 _› rfl ?_ | refine gny_ldN 10 rfl rfl rfl rfl ?_ | refine gny_bld 10 rfl rfl rfl ?_)
            refine gny_ext 11 rfl rfl rfl rfl ?_
            refine gny_ext 12 rfl rfl rfl rfl ?_
            refine any_sta 15 rfl rfl rfl rfl (by simp) rfl ⟨(by (repeat (first | exact Sub.refl _ | exact Sub.nil _ | (apply sub_pick; (repeat (first | exact Has.here | apply Has.there)); skip) | apply Sub.drop))), ?_⟩
            refine any_rest rfl ?_
            refine walk ?_
            exact out_to hK4 (H8, (d21, e21), (d22, e22), (d23, e23), p12, p13) ⟨hl6.trans hl8, hR, y4, y1, y2, y3⟩
        · skip
          refine any_ca (vs := [.agg (sd.Call.cv (.slice bv sd.Call.Route.Cells.length cv)).toArray]) 6 13 rfl rfl rfl hown2 (fun r5 H5 B hl5 ⟨v5, er, eB, eH⟩ => ?_) (fun p12 _ => ?_)
          · skip
            subst er eB eH
            refine ⟨(by (repeat (first | exact Sub.refl _ | exact Sub.nil _ | (apply sub_pick; (repeat (first | exact Has.here | apply Has.there)); skip) | apply Sub.drop))), ?_⟩
            refine any_freeze v5 fun H6 hl6 hz6 => ?_
            have hs9 := href H6 v5 hl6 hz6
            refine any_ca 9 13 rfl rfl rfl hs9 (fun r8 H8 B hl8 ⟨u1, u2, cr, er, hR, hY, eB⟩ => ?_) (fun p12 _ => ?_)
            · skip
              subst er eB
              refine ⟨(by (repeat (first | exact Sub.refl _ | exact Sub.nil _ | (apply sub_pick; (repeat (first | exact Has.here | apply Has.there)); skip) | apply Sub.drop))), ?_⟩
              obtain ⟨d21, e21, hu1, _, _⟩ := hR.1.1.shape
              obtain ⟨d22, e22, hu2, _, _⟩ := hR.2.1.shape
              obtain ⟨sv, rfl, y1, y2, y3, y4⟩ := hY
              obtain ⟨d23, e23, hu3, _, _⟩ := y4.1.shape
              subst hu1 hu2 hu3
              (first | refine gny_p 10 rfl rfl rfl ?_ | refine gny_ld 10 rfl rfl rfl rfl ?_ | refine gny_ldH 10 rfl rfl rfl ‹HRow _ _ 0 _› rfl ?_ | refine gny_T 10 rfl rfl rfl ?_ | refine gny_F 10 rfl rfl rfl ?_ | refine gny_B 10 rfl rfl rfl ?_ | refine gny_skip 10 rfl rfl ?_ | refine gny_sp 10 rfl rfl rfl ?_ | refine gny_sB 10 rfl rfl rfl ?_ | refine gny_sld 10 rfl rfl rfl rfl ?_ | refine gny_sldH 10 rfl rfl rfl ‹HRow _ _ 0 _› rfl ?_ | refine gny_ldN 10 rfl rfl rfl rfl ?_ | refine gny_bld 10 rfl rfl rfl ?_)
              refine gny_ext 11 rfl rfl rfl rfl ?_
              refine gny_ext 12 rfl rfl rfl rfl ?_
              refine gny_alloc 13 rfl rfl fun p12 _ => ?_
              refine any_sta 15 rfl rfl rfl rfl (by simp) rfl ⟨(by (repeat (first | exact Sub.refl _ | exact Sub.nil _ | (apply sub_pick; (repeat (first | exact Has.here | apply Has.there)); skip) | apply Sub.drop))), ?_⟩
              refine any_rest rfl ?_
              refine walk ?_
              exact out_to hK4 (H8, (d21, e21), (d22, e22), (d23, e23), p12, p13) ⟨hl6.trans hl8, hR, y4, y1, y2, y3⟩
            · skip
              refine gny_call 9 rfl rfl rfl hs9 fun r8 H8 B hl8 ⟨u1, u2, cr, er, hR, hY, eB⟩ => ?_
              subst er eB
              refine ⟨(by (repeat (first | exact Sub.refl _ | exact Sub.nil _ | (apply sub_pick; (repeat (first | exact Has.here | apply Has.there)); skip) | apply Sub.drop))), ?_⟩
              obtain ⟨d21, e21, hu1, _, _⟩ := hR.1.1.shape
              obtain ⟨d22, e22, hu2, _, _⟩ := hR.2.1.shape
              obtain ⟨sv, rfl, y1, y2, y3, y4⟩ := hY
              obtain ⟨d23, e23, hu3, _, _⟩ := y4.1.shape
              subst hu1 hu2 hu3
              (first | refine gny_p 10 rfl rfl rfl ?_ | refine gny_ld 10 rfl rfl rfl rfl ?_ | refine gny_ldH 10 rfl rfl rfl ‹HRow _ _ 0 _› rfl ?_ | refine gny_T 10 rfl rfl rfl ?_ | refine gny_F 10 rfl rfl rfl ?_ | refine gny_B 10 rfl rfl rfl ?_ | refine gny_skip 10 rfl rfl ?_ | refine gny_sp 10 rfl rfl rfl ?_ | refine gny_sB 10 rfl rfl rfl ?_ | refine gny_sld 10 rfl rfl rfl rfl ?_ | refine gny_sldH 10 rfl rfl rfl ‹HRow _ _ 0 _› rfl ?_ | refine gny_ldN 10 rfl rfl rfl rfl ?_ | refine gny_bld 10 rfl rfl rfl ?_)
              refine gny_ext 11 rfl rfl rfl rfl ?_
              refine gny_ext 12 rfl rfl rfl rfl ?_
              refine any_sta 15 rfl rfl rfl rfl (by simp) rfl ⟨(by (repeat (first | exact Sub.refl _ | exact Sub.nil _ | (apply sub_pick; (repeat (first | exact Has.here | apply Has.there)); skip) | apply Sub.drop))), ?_⟩
              refine any_rest rfl ?_
              refine walk ?_
              exact out_to hK4 (H8, (d21, e21), (d22, e22), (d23, e23), p12, p13) ⟨hl6.trans hl8, hR, y4, y1, y2, y3⟩
          · skip
            refine gny_call (vs := [.agg (sd.Call.cv (.slice bv sd.Call.Route.Cells.length cv)).toArray]) 6 rfl rfl rfl hown2 fun r5 H5 B hl5 ⟨v5, er, eB, eH⟩ => ?_
            subst er eB eH
            refine ⟨(by (repeat (first | exact Sub.refl _ | exact Sub.nil _ | (apply sub_pick; (repeat (first | exact Has.here | apply Has.there)); skip) | apply Sub.drop))), ?_⟩
            refine any_freeze v5 fun H6 hl6 hz6 => ?_
            have hs9 := href H6 v5 hl6 hz6
            refine gny_call 9 rfl rfl rfl hs9 fun r8 H8 B hl8 ⟨u1, u2, cr, er, hR, hY, eB⟩ => ?_
            subst er eB
            refine ⟨(by (repeat (first | exact Sub.refl _ | exact Sub.nil _ | (apply sub_pick; (repeat (first | exact Has.here | apply Has.there)); skip) | apply Sub.drop))), ?_⟩
            obtain ⟨d21, e21, hu1, _, _⟩ := hR.1.1.shape
            obtain ⟨d22, e22, hu2, _, _⟩ := hR.2.1.shape
            obtain ⟨sv, rfl, y1, y2, y3, y4⟩ := hY
            obtain ⟨d23, e23, hu3, _, _⟩ := y4.1.shape
            subst hu1 hu2 hu3
            (first | refine gny_p 10 rfl rfl rfl ?_ | refine gny_ld 10 rfl rfl rfl rfl ?_ | refine gny_ldH 10 rfl rfl rfl ‹HRow _ _ 0 _› rfl ?_ | refine gny_T 10 rfl rfl rfl ?_ | refine gny_F 10 rfl rfl rfl ?_ | refine gny_B 10 rfl rfl rfl ?_ | refine gny_skip 10 rfl rfl ?_ | refine gny_sp 10 rfl rfl rfl ?_ | refine gny_sB 10 rfl rfl rfl ?_ | refine gny_sld 10 rfl rfl rfl rfl ?_ | refine gny_sldH 10 rfl rfl rfl ‹HRow _ _ 0 _› rfl ?_ | refine gny_ldN 10 rfl rfl rfl rfl ?_ | refine gny_bld 10 rfl rfl rfl ?_)
            refine gny_ext 11 rfl rfl rfl rfl ?_
            refine gny_ext 12 rfl rfl rfl rfl ?_
            refine any_sta 15 rfl rfl rfl rfl (by simp) rfl ⟨(by (repeat (first | exact Sub.refl _ | exact Sub.nil _ | (apply sub_pick; (repeat (first | exact Has.here | apply Has.there)); skip) | apply Sub.drop))), ?_⟩
            refine any_rest rfl ?_
            refine walk ?_
            exact out_to hK4 (H8, (d21, e21), (d22, e22), (d23, e23), p12, p13) ⟨hl6.trans hl8, hR, y4, y1, y2, y3⟩
      · simp only at hl10 hR y4
        dsimp only
        refine walk ?_
        refine ops_freeze (.slice d9 y.Route.Cells.length e9) fun H11 hl11 hz11 => ?_
        refine ops_pcall rfl rfl (sameReply_spec (x := y) (y := y) ⟨_, rfl, y1, y2, y3, hz11⟩ ⟨_, rfl, y1, y2, y3, y4.mono hl11⟩) ?_
        rw [decide_eq_true (p := y = y) rfl]
        refine walk ?_
        exact out_next hL (k + 1, es', rs', H11, (d21, e21), (d22, e22)) ⟨⟨by simp only; omega, by simp only; omega⟩, hl4a.trans (hl9.trans (hl10.trans hl11)), hI', hR.mono hl11⟩ (hs := Sub.trans (B := bookO H9 (.pointer (some ⟨bb, 0, none⟩)) m es' rs' :: row p2 24 (m.cv s0) :: row p8 43 [.slice d21 es'.length e21, .slice d22 rs'.length e22] :: R) (by (repeat (first | exact Sub.refl _ | exact Sub.nil _ | (apply sub_pick; (repeat (first | exact Has.here | apply Has.there)); skip) | apply Sub.drop))) (bookO_up (hl10.trans hl11)))
  · clear hL
    refine walk ?_
    have hel := hI.el
    have hrl := hI.rl
    refine ex_loop (σ := Nat × Heap) (fun s => s.1 ≤ 16 ∧ H4a.le s.2) (fun s => [(7, .pointer (some ⟨bb, 0, none⟩)), (8, .pointer (some ⟨p8, 0, none⟩)), (79, I es.length), (80, I s.1)]) (fun s => s.2)
      (fun s => bookO s.2 (.pointer (some ⟨bb, 0, none⟩)) m es rs :: row p8 43 [.slice d1 es.length e1, .slice d2 rs.length e2] :: R) (fun s => 16 - s.1) (0, H4a) ⟨by simp, .refl _⟩ fun ⟨i, H10⟩ ⟨hi0, hl10⟩ K4 hL4 => ?_
    simp only at hi0 hl10
    dsimp only
    refine walk ?_
    refine ex_if rfl (fun hi => ?_) (fun hi => ?_)
    · have hi1 : i < 16 := by omega
      have hi2 : i < es.length := by omega
      have hi3 : i < rs.length := by omega
      have hge : es.getD i 0 = es[i] := by simp [List.getD, hi2]
      have hgr : rs.getD i zRoute = rs[i] := by simp [List.getD, hi3]
      have hR10 := hRB.mono hl10
      refine walk ?_
      refine ex_know (A := bookO H10 (.pointer (some ⟨bb, 0, none⟩)) m es rs) (by repeat (first | exact Has.here | apply Has.there)) (fun h hh => bookO_fits (r := i) hh) fun hrf => ?_
      refine ex_any 21 [row p8 43 [.slice d1 es.length e1, .slice d2 rs.length e2]] ?_
      (first | refine gny_p 0 rfl rfl rfl ?_ | refine gny_ld 0 rfl rfl rfl rfl ?_ | refine gny_ldH 0 rfl rfl rfl ‹HRow _ _ 0 _› rfl ?_ | refine gny_T 0 rfl rfl rfl ?_ | refine gny_F 0 rfl rfl rfl ?_ | refine gny_B 0 rfl rfl rfl ?_ | refine gny_skip 0 rfl rfl ?_ | refine gny_sp 0 rfl rfl rfl ?_ | refine gny_sB 0 rfl rfl rfl ?_ | refine gny_sld 0 rfl rfl rfl rfl ?_ | refine gny_sldH 0 rfl rfl rfl ‹HRow _ _ 0 _› rfl ?_ | refine gny_ldN 0 rfl rfl rfl rfl ?_ | refine gny_bld 0 rfl rfl rfl ?_); (first | refine gny_p 1 rfl rfl rfl ?_ | refine gny_ld 1 rfl rfl rfl rfl ?_ | refine gny_ldH 1 rfl rfl rfl ‹HRow _ _ 0 _› rfl ?_ | refine gny_T 1 rfl rfl rfl ?_ | refine gny_F 1 rfl rfl rfl ?_ | refine gny_B 1 rfl rfl rfl ?_ | refine gny_skip 1 rfl rfl ?_ | refine gny_sp 1 rfl rfl rfl ?_ | refine gny_sB 1 rfl rfl rfl ?_ | refine gny_sld 1 rfl rfl rfl rfl ?_ | refine gny_sldH 1 rfl rfl rfl ‹HRow _ _ 0 _› rfl ?_ | refine gny_ldN 1 rfl rfl rfl rfl ?_ | refine gny_bld 1 rfl rfl rfl ?_); (first | refine gny_p 3 rfl rfl rfl ?_ | refine gny_ld 3 rfl rfl rfl rfl ?_ | refine gny_ldH 3 rfl rfl rfl ‹HRow _ _ 0 _› rfl ?_ | refine gny_T 3 rfl rfl rfl ?_ | refine gny_F 3 rfl rfl rfl ?_ | refine gny_B 3 rfl rfl rfl ?_ | refine gny_skip 3 rfl rfl ?_ | refine gny_sp 3 rfl rfl rfl ?_ | refine gny_sB 3 rfl rfl rfl ?_ | refine gny_sld 3 rfl rfl rfl rfl ?_ | refine gny_sldH 3 rfl rfl rfl ‹HRow _ _ 0 _› rfl ?_ | refine gny_ldN 3 rfl rfl rfl rfl ?_ | refine gny_bld 3 rfl rfl rfl ?_); (first | refine gny_p 4 rfl rfl rfl ?_ | refine gny_ld 4 rfl rfl rfl rfl ?_ | refine gny_ldH 4 rfl rfl rfl ‹HRow _ _ 0 _› rfl ?_ | refine gny_T 4 rfl rfl rfl ?_ | refine gny_F 4 rfl rfl rfl ?_ | refine gny_B 4 rfl rfl rfl ?_ | refine gny_skip 4 rfl rfl ?_ | refine gny_sp 4 rfl rfl rfl ?_ | refine gny_sB 4 rfl rfl rfl ?_ | refine gny_sld 4 rfl rfl rfl rfl ?_ | refine gny_sldH 4 rfl rfl rfl ‹HRow _ _ 0 _› rfl ?_ | refine gny_ldN 4 rfl rfl rfl rfl ?_ | refine gny_bld 4 rfl rfl rfl ?_); (first | refine gny_p 5 rfl rfl rfl ?_ | refine gny_ld 5 rfl rfl rfl rfl ?_ | refine gny_ldH 5 rfl rfl rfl ‹HRow _ _ 0 _› rfl ?_ | refine gny_T 5 rfl rfl rfl ?_ | refine gny_F 5 rfl rfl rfl ?_ | refine gny_B 5 rfl rfl rfl ?_ | refine gny_skip 5 rfl rfl ?_ | refine gny_sp 5 rfl rfl rfl ?_ | refine gny_sB 5 rfl rfl rfl ?_ | refine gny_sld 5 rfl rfl rfl rfl ?_ | refine gny_sldH 5 rfl rfl rfl ‹HRow _ _ 0 _› rfl ?_ | refine gny_ldN 5 rfl rfl rfl rfl ?_ | refine gny_bld 5 rfl rfl rfl ?_)
      refine gny_el 6 7 rfl rfl rfl rfl rfl hR10.1.1 hi2 ?_
      refine gny_call 2 rfl rfl rfl (epoch_spec (H0 := H10) (m := m) (es := es) (rs := rs) (r := i) (.refl _)) fun r6 H11 B hl11 ⟨er, eB, eH⟩ => ?_
      subst er eB eH
      rw [epochOf_nat hi1, hge]
      refine ⟨(by (repeat (first | exact Sub.refl _ | exact Sub.nil _ | (apply sub_pick; (repeat (first | exact Has.here | apply Has.there)); skip) | apply Sub.drop))), ?_⟩
      (first | refine gny_p 8 rfl rfl rfl ?_ | refine gny_ld 8 rfl rfl rfl rfl ?_ | refine gny_ldH 8 rfl rfl rfl ‹HRow _ _ 0 _› rfl ?_ | refine gny_T 8 rfl rfl rfl ?_ | refine gny_F 8 rfl rfl rfl ?_ | refine gny_B 8 rfl rfl rfl ?_ | refine gny_skip 8 rfl rfl ?_ | refine gny_sp 8 rfl rfl rfl ?_ | refine gny_sB 8 rfl rfl rfl ?_ | refine gny_sld 8 rfl rfl rfl rfl ?_ | refine gny_sldH 8 rfl rfl rfl ‹HRow _ _ 0 _› rfl ?_ | refine gny_ldN 8 rfl rfl rfl rfl ?_ | refine gny_bld 8 rfl rfl rfl ?_); (first | refine gny_p 9 rfl rfl rfl ?_ | refine gny_ld 9 rfl rfl rfl rfl ?_ | refine gny_ldH 9 rfl rfl rfl ‹HRow _ _ 0 _› rfl ?_ | refine gny_T 9 rfl rfl rfl ?_ | refine gny_F 9 rfl rfl rfl ?_ | refine gny_B 9 rfl rfl rfl ?_ | refine gny_skip 9 rfl rfl ?_ | refine gny_sp 9 rfl rfl rfl ?_ | refine gny_sB 9 rfl rfl rfl ?_ | refine gny_sld 9 rfl rfl rfl rfl ?_ | refine gny_sldH 9 rfl rfl rfl ‹HRow _ _ 0 _› rfl ?_ | refine gny_ldN 9 rfl rfl rfl rfl ?_ | refine gny_bld 9 rfl rfl rfl ?_); (first | refine gny_p 10 rfl rfl rfl ?_ | refine gny_ld 10 rfl rfl rfl rfl ?_ | refine gny_ldH 10 rfl rfl rfl ‹HRow _ _ 0 _› rfl ?_ | refine gny_T 10 rfl rfl rfl ?_ | refine gny_F 10 rfl rfl rfl ?_ | refine gny_B 10 rfl rfl rfl ?_ | refine gny_skip 10 rfl rfl ?_ | refine gny_sp 10 rfl rfl rfl ?_ | refine gny_sB 10 rfl rfl rfl ?_ | refine gny_sld 10 rfl rfl rfl rfl ?_ | refine gny_sldH 10 rfl rfl rfl ‹HRow _ _ 0 _› rfl ?_ | refine gny_ldN 10 rfl rfl rfl rfl ?_ | refine gny_bld 10 rfl rfl rfl ?_); (first | refine gny_p 11 rfl rfl rfl ?_ | refine gny_ld 11 rfl rfl rfl rfl ?_ | refine gny_ldH 11 rfl rfl rfl ‹HRow _ _ 0 _› rfl ?_ | refine gny_T 11 rfl rfl rfl ?_ | refine gny_F 11 rfl rfl rfl ?_ | refine gny_B 11 rfl rfl rfl ?_ | refine gny_skip 11 rfl rfl ?_ | refine gny_sp 11 rfl rfl rfl ?_ | refine gny_sB 11 rfl rfl rfl ?_ | refine gny_sld 11 rfl rfl rfl rfl ?_ | refine gny_sldH 11 rfl rfl rfl ‹HRow _ _ 0 _› rfl ?_ | refine gny_ldN 11 rfl rfl rfl rfl ?_ | refine gny_bld 11 rfl rfl rfl ?_); (first | refine gny_p 13 rfl rfl rfl ?_ | refine gny_ld 13 rfl rfl rfl rfl ?_ | refine gny_ldH 13 rfl rfl rfl ‹HRow _ _ 0 _› rfl ?_ | refine gny_T 13 rfl rfl rfl ?_ | refine gny_F 13 rfl rfl rfl ?_ | refine gny_B 13 rfl rfl rfl ?_ | refine gny_skip 13 rfl rfl ?_ | refine gny_sp 13 rfl rfl rfl ?_ | refine gny_sB 13 rfl rfl rfl ?_ | refine gny_sld 13 rfl rfl rfl rfl ?_ | refine gny_sldH 13 rfl rfl rfl ‹HRow _ _ 0 _› rfl ?_ | refine gny_ldN 13 rfl rfl rfl rfl ?_ | refine gny_bld 13 rfl rfl rfl ?_); (first | refine gny_p 14 rfl rfl rfl ?_ | refine gny_ld 14 rfl rfl rfl rfl ?_ | refine gny_ldH 14 rfl rfl rfl ‹HRow _ _ 0 _› rfl ?_ | refine gny_T 14 rfl rfl rfl ?_ | refine gny_F 14 rfl rfl rfl ?_ | refine gny_B 14 rfl rfl rfl ?_ | refine gny_skip 14 rfl rfl ?_ | refine gny_sp 14 rfl rfl rfl ?_ | refine gny_sB 14 rfl rfl rfl ?_ | refine gny_sld 14 rfl rfl rfl rfl ?_ | refine gny_sldH 14 rfl rfl rfl ‹HRow _ _ 0 _› rfl ?_ | refine gny_ldN 14 rfl rfl rfl rfl ?_ | refine gny_bld 14 rfl rfl rfl ?_); (first | refine gny_p 15 rfl rfl rfl ?_ | refine gny_ld 15 rfl rfl rfl rfl ?_ | refine gny_ldH 15 rfl rfl rfl ‹HRow _ _ 0 _› rfl ?_ | refine gny_T 15 rfl rfl rfl ?_ | refine gny_F 15 rfl rfl rfl ?_ | refine gny_B 15 rfl rfl rfl ?_ | refine gny_skip 15 rfl rfl ?_ | refine gny_sp 15 rfl rfl rfl ?_ | refine gny_sB 15 rfl rfl rfl ?_ | refine gny_sld 15 rfl rfl rfl rfl ?_ | refine gny_sldH 15 rfl rfl rfl ‹HRow _ _ 0 _› rfl ?_ | refine gny_ldN 15 rfl rfl rfl rfl ?_ | refine gny_bld 15 rfl rfl rfl ?_)
      refine gny_ixp 16 rfl rfl rfl hR10.2.1 hi3 fun q o ck hr hck => ?_
      refine gny_ldNH 17 rfl rfl rfl hr (RdOk.len (R := rRoute) hck) ?_
      refine gny_call 12 rfl rfl rfl (routeB_spec (H0 := H11) (m := m) (es := es) (rs := rs) (r := i) (.refl _)) fun r7 H12 B hl12 ⟨v7, er, eB, eH⟩ => ?_
      subst er eB eH
      rw [routeOf_nat hi1, hgr] at hrf ⊢
      refine ⟨(by (repeat (first | exact Sub.refl _ | exact Sub.nil _ | (apply sub_pick; (repeat (first | exact Has.here | apply Has.there)); skip) | apply Sub.drop))), ?_⟩
      refine any_freeze v7 fun H13 hl13 hz13 => ?_
      refine gny_pcall (vs := [.agg #[I rs[i].Start, v7], .agg ck.toArray]) 18 rfl rfl rfl (sameRoute_spec (x := rs[i]) (y := rs[i]) ⟨v7, rfl, hrf, hz13⟩ (RdOk.mono (R := rRoute) hl13 hck)) ?_
      rw [decide_eq_true (p := rs[i] = rs[i]) rfl]
      (first | refine gny_p 19 rfl rfl rfl ?_ | refine gny_ld 19 rfl rfl rfl rfl ?_ | refine gny_ldH 19 rfl rfl rfl ‹HRow _ _ 0 _› rfl ?_ | refine gny_T 19 rfl rfl rfl ?_ | refine gny_F 19 rfl rfl rfl ?_ | refine gny_B 19 rfl rfl rfl ?_ | refine gny_skip 19 rfl rfl ?_ | refine gny_sp 19 rfl rfl rfl ?_ | refine gny_sB 19 rfl rfl rfl ?_ | refine gny_sld 19 rfl rfl rfl rfl ?_ | refine gny_sldH 19 rfl rfl rfl ‹HRow _ _ 0 _› rfl ?_ | refine gny_ldN 19 rfl rfl rfl rfl ?_ | refine gny_bld 19 rfl rfl rfl ?_); (first | refine gny_p 20 rfl rfl rfl ?_ | refine gny_ld 20 rfl rfl rfl rfl ?_ | refine gny_ldH 20 rfl rfl rfl ‹HRow _ _ 0 _› rfl ?_ | refine gny_T 20 rfl rfl rfl ?_ | refine gny_F 20 rfl rfl rfl ?_ | refine gny_B 20 rfl rfl rfl ?_ | refine gny_skip 20 rfl rfl ?_ | refine gny_sp 20 rfl rfl rfl ?_ | refine gny_sB 20 rfl rfl rfl ?_ | refine gny_sld 20 rfl rfl rfl rfl ?_ | refine gny_sldH 20 rfl rfl rfl ‹HRow _ _ 0 _› rfl ?_ | refine gny_ldN 20 rfl rfl rfl rfl ?_ | refine gny_bld 20 rfl rfl rfl ?_)
      refine any_rest rfl ?_
      refine walk ?_
      exact out_next hL4 (i + 1, H13) ⟨by simp only; omega, hl10.trans hl13⟩ (hs := Sub.trans (B := bookO H12 (.pointer (some ⟨bb, 0, none⟩)) m es rs :: row p8 43 [.slice d1 es.length e1, .slice d2 rs.length e2] :: R) (by (repeat (first | exact Sub.refl _ | exact Sub.nil _ | (apply sub_pick; (repeat (first | exact Has.here | apply Has.there)); skip) | apply Sub.drop))) (bookO_up hl13))
    · clear hL4
      refine walk ?_
      refine ops_call (vs := [.pointer (some ⟨bb, 0, none⟩), I (-1)]) rfl rfl (epoch_spec (H0 := H10) (m := m) (es := es) (rs := rs) (r := -1) (.refl _)) fun r6 H11 B hl11 ⟨er, eB, eH⟩ => ?_
      subst er eB eH
      rw [show epochOf es (-1) = 0 by unfold epochOf; rw [if_neg (by simp [robI])]]
      refine walk ?_
      refine ops_call (vs := [.pointer (some ⟨bb, 0, none⟩), I 16]) rfl rfl (epoch_spec (H0 := H11) (m := m) (es := es) (rs := rs) (r := 16) (.refl _)) fun r7 H12 B hl12 ⟨er, eB, eH⟩ => ?_
      subst er eB eH
      rw [show epochOf es 16 = 0 by unfold epochOf; rw [if_neg (by simp [robI])]]
      refine walk ?_
      refine ops_call (vs := [.pointer (some ⟨bb, 0, none⟩), I 16]) rfl rfl (routeB_spec (H0 := H12) (m := m) (es := es) (rs := rs) (r := 16) (.refl _)) fun r8 H13 B hl13 ⟨v8, er, eB, eH⟩ => ?_
      subst er eB eH
      rw [show routeOf rs 16 = zRoute by unfold routeOf; rw [if_neg (by simp [robI])]]
      refine ops_shape v8 fun d8 e8 e _ _ _ => ?_
      replace e : v8 = .slice d8 0 e8 := e
      subst e
      refine walk ?_
      refine fin0 ?_
      exact ⟨rfl, rfl⟩
end Go.Proofs.Ytnfmjkjhiolfdaa
