/- BookRefuses: the walk. -/
import Derived.Test.YtnfmjkjhiolfdaaBR
import Derived.Test.YtnfmjkjhiolfdaaKC
set_option linter.unusedVariables false
set_option linter.unusedSimpArgs false
namespace Go.Proofs.Ytnfmjkjhiolfdaa
open Go Go.Sx Go.Proofs
theorem zrs {H : Heap} : ∀ n : Nat, RL rRoute H (List.replicate n [I 0, nilS]).flatten (List.replicate n zRoute)
  | 0 => rfl
  | n + 1 => ⟨[I 0, nilS], _, rfl, zRoute_reads, zrs n⟩
theorem set_row1 {es : List Int} {j : Nat} {e : Int} (h : j < es.length) : (es.map I).take (0 + j * 1) ++ [I e] ++ (es.map I).drop (0 + j * 1 + [I e].length) = (es.set j e).map I := by
  rw [Nat.zero_add, Nat.mul_one, List.map_set, List.set_eq_take_append_cons_drop]
  simp [h]
theorem set_row2 {H : Heap} {cs c : List Value} {rs : List Route} {j : Nat} {x : Route} (h : RL rRoute H cs rs) (hc : rRoute H c x) (hj : j < rs.length) :
    RL rRoute H (cs.take (0 + j * 2) ++ c ++ cs.drop (0 + j * 2 + c.length)) (rs.set j x) ∧ 0 + j * 2 + c.length ≤ cs.length := by
  have hlc := RdOk.len (R := rRoute) hc
  have hcl := h.len
  refine ⟨?_, by rw [hcl, hlc]; omega⟩
  have h1 := h.take (k := j) (by omega)
  have h2 := h.drop (k := j + 1) (by omega)
  rw [show rs.set j x = rs.take j ++ [x] ++ rs.drop (j + 1) by rw [List.set_eq_take_append_cons_drop]; simp [hj], Nat.zero_add, hlc, show j * 2 + 2 = (j + 1) * 2 by omega]
  exact (h1.snoc hc).app h2
theorem get_row2 {H : Heap} {cs : List Value} {rs : List Route} {j : Nat} (h : RL rRoute H cs rs) (hj : j < rs.length) : ∃ c, At cs (0 + j * 2) c ∧ rRoute H c rs[j] := by
  obtain ⟨c, r, e, hc⟩ := h.get hj
  refine ⟨c, fun i v hi => ?_, hc⟩
  rw [Nat.zero_add, ← List.getElem?_drop, e, List.getElem?_append_left (List.getElem?_eq_some_iff.1 hi).1]
  exact hi
theorem same16 {α : Type} {d : α} {l l' : List α} (h : l.length = 16) (h' : l'.length = 16) (he : ∀ j, j < 16 → l.getD j d = l'.getD j d) : l = l' := by
  refine List.ext_getElem (by omega) fun j h1 h2 => ?_
  have := he j (by omega)
  simpa [List.getD, h1, h2] using this
set_option maxHeartbeats 16000000 in
theorem refuses_spec {W0 : World} {H : Heap} {c d : List Value} {l : Value} {m : Map} {ss : List Said} {sd : Said} (h0 : rMap H c m) (h1 : SlB rSaid 6 64 H l ss) (h2 : rSaid H d sd) :
    Ct Try.prog 6 #[.agg c.toArray, l, .agg d.toArray] W0 H [] (fun r H' B => r = .bool true ∧ B = []) := by
  refine Ct.go (vs := [.agg c.toArray, l, .agg d.toArray]) fun R => ?_
  obtain ⟨b1, c1, rfl, hc1, hd1⟩ := h1.1.shape
  have g0 := h0
  obtain ⟨s0, rfl, f1, f2, f3, h0⟩ := h0
  obtain ⟨sv0, rfl, e1, e2, e3, e4, e5, e6⟩ := h2
  obtain ⟨bs0, cs0, rfl, hcs0, hds0⟩ := e6.1.shape
  refine walk ?_
  refine ops_box rfl rfl fun p3 _ => ?_
  refine ops_box rfl rfl fun p5 _ => ?_
  refine walk ?_
  refine ops_call (vs := []) rfl rfl awake_spec fun r1 H1 B hl1 ⟨er, eB⟩ => ?_
  subst er eB
  refine walk ?_
  refine ops_call (vs := [.agg (m.cv s0).toArray]) rfl rfl (gNew_spec (RdOk.mono (R := rMap) hl1 g0)) fun r2 H2 B hl2 ⟨g, e, er, eB, h⟩ => ?_
  subst er eB
  rcases h with ⟨hm, hG, rfl⟩ | ⟨hm, rfl, rfl⟩
  rotate_left
  · refine walk ?_
    refine ops_pcall rfl rfl (rGood_spec (RdOk.mono (R := rMap) (hl1.trans hl2) g0)) ?_
    refine walk ?_
    refine fin0 ?_
    exact ⟨by simp [hm], rfl⟩
  have hGp := hG
  obtain ⟨⟨bg, s, mb, mm, rfl, q1, q2, q3, q4⟩, hgd, hfs⟩ := hGp
  refine walk ?_
  refine ops_call rfl rfl (bNew_spec hG) fun r3 H3 B hl3 ⟨eB, eH⟩ => ?_
  subst eB eH
  refine ops_know .here (fun h hh => bookO_ptr hh) fun ⟨bb, eb⟩ => ?_
  subst eb
  refine walk ?_
  refine ex_loop (σ := Nat × List Int × List Route × Heap) (fun s => (s.1 ≤ ss.length ∧ s.1 ≤ 80) ∧ H3.le s.2.2.2 ∧ Inv m s.2.1 s.2.2.1 s.1)
    (fun s => [(1, .slice b1 ss.length c1), (5, .pointer (some ⟨p5, 0, none⟩)), (9, .pointer (some ⟨bb, 0, none⟩)), (10, I s.1)]) (fun s => s.2.2.2)
    (fun s => bookO s.2.2.2 (.pointer (some ⟨bb, 0, none⟩)) m s.2.1 s.2.2.1 :: row p5 32 (sd.cv (.slice bs0 sd.Call.Route.Cells.length cs0)) :: R) (fun s => ss.length - s.1) (0, zEpochs, zRoutes, H3) ⟨by simp, .refl _, inv0⟩ fun ⟨k, es, rs, H4⟩ ⟨⟨hk0, hk80⟩, hl4, hI⟩ K hL => ?_
  simp only at hk0 hk80 hl4 hI
  dsimp only
  refine walkG ?_
  refine ex_if rfl (fun hk => ?_) (fun hk => ?_)
  · obtain ⟨hk1, hk2⟩ : k < ss.length ∧ k < 80 := by omega
    refine walk ?_
    have hss := (h1.mono (hl1.trans (hl2.trans hl4))).1
    refine ex_any 18 [] ?_
    (first | refine gny_p 0 rfl rfl rfl ?_ | refine gny_ld 0 rfl rfl rfl rfl ?_ | refine gny_ldH 0 rfl rfl rfl ‹HRow _ _ 0 _› rfl ?_ | refine gny_T 0 rfl rfl rfl ?_ | refine gny_F 0 rfl rfl rfl ?_ | refine gny_B 0 rfl rfl rfl ?_ | refine gny_skip 0 rfl rfl ?_ | refine gny_sp 0 rfl rfl rfl ?_ | refine gny_sB 0 rfl rfl rfl ?_ | refine gny_sld 0 rfl rfl rfl rfl ?_ | refine gny_sldH 0 rfl rfl rfl ‹HRow _ _ 0 _› rfl ?_ | refine gny_ldN 0 rfl rfl rfl rfl ?_ | refine gny_bld 0 rfl rfl rfl ?_); (first | refine gny_p 1 rfl rfl rfl ?_ | refine gny_ld 1 rfl rfl rfl rfl ?_ | refine gny_ldH 1 rfl rfl rfl ‹HRow _ _ 0 _› rfl ?_ | refine gny_T 1 rfl rfl rfl ?_ | refine gny_F 1 rfl rfl rfl ?_ | refine gny_B 1 rfl rfl rfl ?_ | refine gny_skip 1 rfl rfl ?_ | refine gny_sp 1 rfl rfl rfl ?_ | refine gny_sB 1 rfl rfl rfl ?_ | refine gny_sld 1 rfl rfl rfl rfl ?_ | refine gny_sldH 1 rfl rfl rfl ‹HRow _ _ 0 _› rfl ?_ | refine gny_ldN 1 rfl rfl rfl rfl ?_ | refine gny_bld 1 rfl rfl rfl ?_); (first | refine gny_p 2 rfl rfl rfl ?_ | refine gny_ld 2 rfl rfl rfl rfl ?_ | refine gny_ldH 2 rfl rfl rfl ‹HRow _ _ 0 _› rfl ?_ | refine gny_T 2 rfl rfl rfl ?_ | refine gny_F 2 rfl rfl rfl ?_ | refine gny_B 2 rfl rfl rfl ?_ | refine gny_skip 2 rfl rfl ?_ | refine gny_sp 2 rfl rfl rfl ?_ | refine gny_sB 2 rfl rfl rfl ?_ | refine gny_sld 2 rfl rfl rfl rfl ?_ | refine gny_sldH 2 rfl rfl rfl ‹HRow _ _ 0 _› rfl ?_ | refine gny_ldN 2 rfl rfl rfl rfl ?_ | refine gny_bld 2 rfl rfl rfl ?_)
    refine gny_ixp 3 rfl rfl rfl (hss) hk1 fun q o c hr hc => ?_
    obtain ⟨sv, rfl, _, _, _, _, _, t6⟩ := hc
    obtain ⟨bv, cv, rfl, hcv, hdv⟩ := t6.1.shape
    (first | refine gny_p 4 rfl rfl rfl ?_ | refine gny_ld 4 rfl rfl rfl rfl ?_ | refine gny_ldH 4 rfl rfl rfl ‹HRow _ _ 0 _› rfl ?_ | refine gny_T 4 rfl rfl rfl ?_ | refine gny_F 4 rfl rfl rfl ?_ | refine gny_B 4 rfl rfl rfl ?_ | refine gny_skip 4 rfl rfl ?_ | refine gny_sp 4 rfl rfl rfl ?_ | refine gny_sB 4 rfl rfl rfl ?_ | refine gny_sld 4 rfl rfl rfl rfl ?_ | refine gny_sldH 4 rfl rfl rfl ‹HRow _ _ 0 _› rfl ?_ | refine gny_ldN 4 rfl rfl rfl rfl ?_ | refine gny_bld 4 rfl rfl rfl ?_)
    refine gny_ldHo 5 0 rfl rfl hr rfl rfl ?_
    (first | refine gny_p 6 rfl rfl rfl ?_ | refine gny_ld 6 rfl rfl rfl rfl ?_ | refine gny_ldH 6 rfl rfl rfl ‹HRow _ _ 0 _› rfl ?_ | refine gny_T 6 rfl rfl rfl ?_ | refine gny_F 6 rfl rfl rfl ?_ | refine gny_B 6 rfl rfl rfl ?_ | refine gny_skip 6 rfl rfl ?_ | refine gny_sp 6 rfl rfl rfl ?_ | refine gny_sB 6 rfl rfl rfl ?_ | refine gny_sld 6 rfl rfl rfl rfl ?_ | refine gny_sldH 6 rfl rfl rfl ‹HRow _ _ 0 _› rfl ?_ | refine gny_ldN 6 rfl rfl rfl rfl ?_ | refine gny_bld 6 rfl rfl rfl ?_); (first | refine gny_p 7 rfl rfl rfl ?_ | refine gny_ld 7 rfl rfl rfl rfl ?_ | refine gny_ldH 7 rfl rfl rfl ‹HRow _ _ 0 _› rfl ?_ | refine gny_T 7 rfl rfl rfl ?_ | refine gny_F 7 rfl rfl rfl ?_ | refine gny_B 7 rfl rfl rfl ?_ | refine gny_skip 7 rfl rfl ?_ | refine gny_sp 7 rfl rfl rfl ?_ | refine gny_sB 7 rfl rfl rfl ?_ | refine gny_sld 7 rfl rfl rfl rfl ?_ | refine gny_sldH 7 rfl rfl rfl ‹HRow _ _ 0 _› rfl ?_ | refine gny_ldN 7 rfl rfl rfl rfl ?_ | refine gny_bld 7 rfl rfl rfl ?_)
    refine gny_ixp 8 rfl rfl rfl (hss) hk1 fun q2 o2 c2 hr2 hc2 => ?_
    obtain ⟨sv2, rfl, _, t2, t3, t4, t5, t62⟩ := hc2
    obtain ⟨bv2, cv2, rfl, hcv2, hdv2⟩ := t62.1.shape
    (first | refine gny_p 9 rfl rfl rfl ?_ | refine gny_ld 9 rfl rfl rfl rfl ?_ | refine gny_ldH 9 rfl rfl rfl ‹HRow _ _ 0 _› rfl ?_ | refine gny_T 9 rfl rfl rfl ?_ | refine gny_F 9 rfl rfl rfl ?_ | refine gny_B 9 rfl rfl rfl ?_ | refine gny_skip 9 rfl rfl ?_ | refine gny_sp 9 rfl rfl rfl ?_ | refine gny_sB 9 rfl rfl rfl ?_ | refine gny_sld 9 rfl rfl rfl rfl ?_ | refine gny_sldH 9 rfl rfl rfl ‹HRow _ _ 0 _› rfl ?_ | refine gny_ldN 9 rfl rfl rfl rfl ?_ | refine gny_bld 9 rfl rfl rfl ?_)
    refine gny_ldNH (cs := ss[k].Call.cv (.slice bv2 ss[k].Call.Route.Cells.length cv2)) 10 rfl rfl rfl (hr2.drop (k := 2)) rfl ?_
    (first | refine gny_p 12 rfl rfl rfl ?_ | refine gny_ld 12 rfl rfl rfl rfl ?_ | refine gny_ldH 12 rfl rfl rfl ‹HRow _ _ 0 _› rfl ?_ | refine gny_T 12 rfl rfl rfl ?_ | refine gny_F 12 rfl rfl rfl ?_ | refine gny_B 12 rfl rfl rfl ?_ | refine gny_skip 12 rfl rfl ?_ | refine gny_sp 12 rfl rfl rfl ?_ | refine gny_sB 12 rfl rfl rfl ?_ | refine gny_sld 12 rfl rfl rfl rfl ?_ | refine gny_sldH 12 rfl rfl rfl ‹HRow _ _ 0 _› rfl ?_ | refine gny_ldN 12 rfl rfl rfl rfl ?_ | refine gny_bld 12 rfl rfl rfl ?_); (first | refine gny_p 13 rfl rfl rfl ?_ | refine gny_ld 13 rfl rfl rfl rfl ?_ | refine gny_ldH 13 rfl rfl rfl ‹HRow _ _ 0 _› rfl ?_ | refine gny_T 13 rfl rfl rfl ?_ | refine gny_F 13 rfl rfl rfl ?_ | refine gny_B 13 rfl rfl rfl ?_ | refine gny_skip 13 rfl rfl ?_ | refine gny_sp 13 rfl rfl rfl ?_ | refine gny_sB 13 rfl rfl rfl ?_ | refine gny_sld 13 rfl rfl rfl rfl ?_ | refine gny_sldH 13 rfl rfl rfl ‹HRow _ _ 0 _› rfl ?_ | refine gny_ldN 13 rfl rfl rfl rfl ?_ | refine gny_bld 13 rfl rfl rfl ?_)
    refine gny_ixp 14 rfl rfl rfl (hss) hk1 fun q3 o3 c3 hr3 hc3 => ?_
    obtain ⟨sv3, rfl, _, u2, _, _, _, t63⟩ := hc3
    obtain ⟨bv3, cv3, rfl, hcv3, hdv3⟩ := t63.1.shape
    (first | refine gny_p 15 rfl rfl rfl ?_ | refine gny_ld 15 rfl rfl rfl rfl ?_ | refine gny_ldH 15 rfl rfl rfl ‹HRow _ _ 0 _› rfl ?_ | refine gny_T 15 rfl rfl rfl ?_ | refine gny_F 15 rfl rfl rfl ?_ | refine gny_B 15 rfl rfl rfl ?_ | refine gny_skip 15 rfl rfl ?_ | refine gny_sp 15 rfl rfl rfl ?_ | refine gny_sB 15 rfl rfl rfl ?_ | refine gny_sld 15 rfl rfl rfl rfl ?_ | refine gny_sldH 15 rfl rfl rfl ‹HRow _ _ 0 _› rfl ?_ | refine gny_ldN 15 rfl rfl rfl rfl ?_ | refine gny_bld 15 rfl rfl rfl ?_)
    refine gny_ldHo 16 1 rfl rfl hr3 rfl rfl ?_
    refine gny_call (vs := [.agg (ss[k].Call.cv (.slice bv2 ss[k].Call.Route.Cells.length cv2)).toArray]) 11 rfl rfl rfl (own_spec (c := ss[k].Call) ⟨_, rfl, t3, t4, t5, t62⟩) fun r5 H5 B hl5 ⟨v5, er, eB, eH⟩ => ?_
    subst er eB eH
    refine ⟨(by (repeat (first | exact Sub.refl _ | exact Sub.nil _ | (apply sub_pick; (repeat (first | exact Has.here | apply Has.there)); skip) | apply Sub.drop))), ?_⟩
    refine any_freeze v5 fun H6 hl6 hz6 => ?_
    refine gny_call 17 rfl rfl rfl (apply_spec (H0 := H5) (m := m) (es := es) (rs := rs) (c := ownC ss[k].Call) (t := ss[k].Tick) hl6 ⟨v5, rfl, t3, t4, t5, hz6⟩ u2 (fun e he => by have := hI.e e he; omega) hI.len ownC_len) fun r7 H7 B hl7 ⟨v7, er, eB⟩ => ?_
    subst er eB
    refine ⟨(by (repeat (first | exact Sub.refl _ | exact Sub.nil _ | (apply sub_pick; (repeat (first | exact Has.here | apply Has.there)); skip) | apply Sub.drop))), ?_⟩
    refine any_rest rfl ?_
    obtain ⟨hst, hrep⟩ := apply_step (conf := confM) (m := m) (es := es) (rs := rs) (r := ss[k].Robot) (c := ownC ss[k].Call) (t := ss[k].Tick)
    have hI' := hI.step hst (by omega)
    generalize applyC confM m es rs ss[k].Robot (ownC ss[k].Call) ss[k].Tick = res at *
    obtain ⟨es', rs', y⟩ := res
    simp only at hI'
    dsimp only
    have hl57 : H5.le H7 := hl6.trans hl7
    refine walk ?_
    exact out_next hL (k + 1, es', rs', H7) ⟨⟨by simp only; omega, by simp only; omega⟩, hl4.trans hl57, hI'⟩
  · clear hL
    refine walk ?_
    refine ops_alloc rfl fun p11 _ => ?_
    refine walk ?_
    refine ops_alloc rfl fun p12 _ => ?_
    refine walk ?_
    refine ex_loop (σ := Nat × List Int × List Route × List Value × Heap) (fun s => s.1 ≤ 16 ∧ H4.le s.2.2.2.2 ∧ s.2.1.length = 16 ∧ (s.2.2.1.length = 16 ∧ RL rRoute s.2.2.2.2 s.2.2.2.1 s.2.2.1) ∧ ∀ j, j < s.1 → s.2.1.getD j 0 = es.getD j 0 ∧ s.2.2.1.getD j zRoute = rs.getD j zRoute)
      (fun s => [(5, .pointer (some ⟨p5, 0, none⟩)), (9, .pointer (some ⟨bb, 0, none⟩)), (11, .pointer (some ⟨p11, 0, none⟩)), (12, .pointer (some ⟨p12, 0, none⟩)), (64, I s.1)]) (fun s => s.2.2.2.2)
      (fun s => row p11 59 (s.2.1.map I) :: row p12 60 s.2.2.2.1 :: bookO s.2.2.2.2 (.pointer (some ⟨bb, 0, none⟩)) m es rs :: row p5 32 (sd.cv (.slice bs0 sd.Call.Route.Cells.length cs0)) :: R) (fun s => 16 - s.1)
      (0, zEpochs, zRoutes, (List.replicate 16 [I 0, nilS]).flatten, H4) ⟨by simp, .refl _, rfl, ⟨rfl, zrs 16⟩, fun j hj => by simp only at hj; omega⟩ fun ⟨i, es2, rs2, cs2, H5⟩ ⟨hi0, hl5, hel, ⟨hrl, hrr⟩, heq⟩ K2 hL2 => ?_
    simp only at hi0 hl5 hel hrl hrr heq
    dsimp only
    refine walk ?_
    refine ex_if rfl (fun hi => ?_) (fun hi => ?_)
    · have hi1 : i < 16 := by omega
      have hi2 : i < es2.length := by omega
      have hi3 : i < rs2.length := by omega
      refine walk ?_
      refine ex_know (A := bookO H5 (.pointer (some ⟨bb, 0, none⟩)) m es rs) (by repeat (first | exact Has.here | apply Has.there)) (fun h hh => bookO_fits (r := i) hh) fun hrf => ?_
      refine ex_any 10 [] ?_
      (first | refine gny_p 0 rfl rfl rfl ?_ | refine gny_ld 0 rfl rfl rfl rfl ?_ | refine gny_ldH 0 rfl rfl rfl ‹HRow _ _ 0 _› rfl ?_ | refine gny_T 0 rfl rfl rfl ?_ | refine gny_F 0 rfl rfl rfl ?_ | refine gny_B 0 rfl rfl rfl ?_ | refine gny_skip 0 rfl rfl ?_ | refine gny_sp 0 rfl rfl rfl ?_ | refine gny_sB 0 rfl rfl rfl ?_ | refine gny_sld 0 rfl rfl rfl rfl ?_ | refine gny_sldH 0 rfl rfl rfl ‹HRow _ _ 0 _› rfl ?_ | refine gny_ldN 0 rfl rfl rfl rfl ?_ | refine gny_bld 0 rfl rfl rfl ?_); (first | refine gny_p 1 rfl rfl rfl ?_ | refine gny_ld 1 rfl rfl rfl rfl ?_ | refine gny_ldH 1 rfl rfl rfl ‹HRow _ _ 0 _› rfl ?_ | refine gny_T 1 rfl rfl rfl ?_ | refine gny_F 1 rfl rfl rfl ?_ | refine gny_B 1 rfl rfl rfl ?_ | refine gny_skip 1 rfl rfl ?_ | refine gny_sp 1 rfl rfl rfl ?_ | refine gny_sB 1 rfl rfl rfl ?_ | refine gny_sld 1 rfl rfl rfl rfl ?_ | refine gny_sldH 1 rfl rfl rfl ‹HRow _ _ 0 _› rfl ?_ | refine gny_ldN 1 rfl rfl rfl rfl ?_ | refine gny_bld 1 rfl rfl rfl ?_); (first | refine gny_p 2 rfl rfl rfl ?_ | refine gny_ld 2 rfl rfl rfl rfl ?_ | refine gny_ldH 2 rfl rfl rfl ‹HRow _ _ 0 _› rfl ?_ | refine gny_T 2 rfl rfl rfl ?_ | refine gny_F 2 rfl rfl rfl ?_ | refine gny_B 2 rfl rfl rfl ?_ | refine gny_skip 2 rfl rfl ?_ | refine gny_sp 2 rfl rfl rfl ?_ | refine gny_sB 2 rfl rfl rfl ?_ | refine gny_sld 2 rfl rfl rfl rfl ?_ | refine gny_sldH 2 rfl rfl rfl ‹HRow _ _ 0 _› rfl ?_ | refine gny_ldN 2 rfl rfl rfl rfl ?_ | refine gny_bld 2 rfl rfl rfl ?_); (first | refine gny_p 3 rfl rfl rfl ?_ | refine gny_ld 3 rfl rfl rfl rfl ?_ | refine gny_ldH 3 rfl rfl rfl ‹HRow _ _ 0 _› rfl ?_ | refine gny_T 3 rfl rfl rfl ?_ | refine gny_F 3 rfl rfl rfl ?_ | refine gny_B 3 rfl rfl rfl ?_ | refine gny_skip 3 rfl rfl ?_ | refine gny_sp 3 rfl rfl rfl ?_ | refine gny_sB 3 rfl rfl rfl ?_ | refine gny_sld 3 rfl rfl rfl rfl ?_ | refine gny_sldH 3 rfl rfl rfl ‹HRow _ _ 0 _› rfl ?_ | refine gny_ldN 3 rfl rfl rfl rfl ?_ | refine gny_bld 3 rfl rfl rfl ?_); (first | refine gny_p 5 rfl rfl rfl ?_ | refine gny_ld 5 rfl rfl rfl rfl ?_ | refine gny_ldH 5 rfl rfl rfl ‹HRow _ _ 0 _› rfl ?_ | refine gny_T 5 rfl rfl rfl ?_ | refine gny_F 5 rfl rfl rfl ?_ | refine gny_B 5 rfl rfl rfl ?_ | refine gny_skip 5 rfl rfl ?_ | refine gny_sp 5 rfl rfl rfl ?_ | refine gny_sB 5 rfl rfl rfl ?_ | refine gny_sld 5 rfl rfl rfl rfl ?_ | refine gny_sldH 5 rfl rfl rfl ‹HRow _ _ 0 _› rfl ?_ | refine gny_ldN 5 rfl rfl rfl rfl ?_ | refine gny_bld 5 rfl rfl rfl ?_); (first | refine gny_p 6 rfl rfl rfl ?_ | refine gny_ld 6 rfl rfl rfl rfl ?_ | refine gny_ldH 6 rfl rfl rfl ‹HRow _ _ 0 _› rfl ?_ | refine gny_T 6 rfl rfl rfl ?_ | refine gny_F 6 rfl rfl rfl ?_ | refine gny_B 6 rfl rfl rfl ?_ | refine gny_skip 6 rfl rfl ?_ | refine gny_sp 6 rfl rfl rfl ?_ | refine gny_sB 6 rfl rfl rfl ?_ | refine gny_sld 6 rfl rfl rfl rfl ?_ | refine gny_sldH 6 rfl rfl rfl ‹HRow _ _ 0 _› rfl ?_ | refine gny_ldN 6 rfl rfl rfl rfl ?_ | refine gny_bld 6 rfl rfl rfl ?_)
      refine gny_call 4 rfl rfl rfl (epoch_spec (H0 := H5) (m := m) (es := es) (rs := rs) (r := i) (.refl _)) fun r6 H6 B hl6 ⟨er, eB, eH⟩ => ?_
      subst er eB eH
      rw [epochOf_nat hi1]
      refine ⟨(by (repeat (first | exact Sub.refl _ | exact Sub.nil _ | (apply sub_pick; (repeat (first | exact Has.here | apply Has.there)); skip) | apply Sub.drop))), ?_⟩
      (first | refine gny_p 8 rfl rfl rfl ?_ | refine gny_ld 8 rfl rfl rfl rfl ?_ | refine gny_ldH 8 rfl rfl rfl ‹HRow _ _ 0 _› rfl ?_ | refine gny_T 8 rfl rfl rfl ?_ | refine gny_F 8 rfl rfl rfl ?_ | refine gny_B 8 rfl rfl rfl ?_ | refine gny_skip 8 rfl rfl ?_ | refine gny_sp 8 rfl rfl rfl ?_ | refine gny_sB 8 rfl rfl rfl ?_ | refine gny_sld 8 rfl rfl rfl rfl ?_ | refine gny_sldH 8 rfl rfl rfl ‹HRow _ _ 0 _› rfl ?_ | refine gny_ldN 8 rfl rfl rfl rfl ?_ | refine gny_bld 8 rfl rfl rfl ?_)
      refine gny_call 7 rfl rfl rfl (routeB_spec (H0 := H6) (m := m) (es := es) (rs := rs) (r := i) (.refl _)) fun r7 H7 B hl7 ⟨v7, er, eB, eH⟩ => ?_
      subst er eB eH
      rw [routeOf_nat hi1] at hrf ⊢
      refine ⟨(by (repeat (first | exact Sub.refl _ | exact Sub.nil _ | (apply sub_pick; (repeat (first | exact Has.here | apply Has.there)); skip) | apply Sub.drop))), ?_⟩
      refine any_shape v7 fun d7 e7 e _ _ _ => ?_
      subst e
      refine any_freeze (.slice d7 (rs.getD i zRoute).Cells.length e7) fun H8 hl8 hz8 => ?_
      refine any_sta 9 rfl rfl rfl rfl (by simp; omega) (set_row1 hi2) ⟨(by (repeat (first | exact Sub.refl _ | exact Sub.nil _ | (apply sub_pick; (repeat (first | exact Has.here | apply Has.there)); skip) | apply Sub.drop))), ?_⟩
      refine any_rest rfl ?_
      have hcr : rRoute H8 [I (rs.getD i zRoute).Start, .slice d7 (rs.getD i zRoute).Cells.length e7] (rs.getD i zRoute) := ⟨_, rfl, hrf, hz8⟩
      obtain ⟨hrr8, hle8⟩ := set_row2 (hrr.mono hl8) hcr hi3
      refine walk ?_
      refine ops_sta rfl rfl rfl hle8 rfl ?_
      refine walk ?_
      exact out_next hL2 (i + 1, es2.set i (es.getD i 0), rs2.set i (rs.getD i zRoute), _, H8) ⟨by simp only; omega, hl5.trans hl8, by simp [hel], ⟨by simp [hrl], hrr8⟩, fun j hj => by
        simp only at hj
        simp only
        rw [getD_set hi2, getD_set hi3]
        by_cases e : j = i
        · rw [if_pos e, if_pos e, e]; exact ⟨rfl, rfl⟩
        · rw [if_neg e, if_neg e]; exact heq j (by omega)⟩ (hs := Sub.trans (B := bookO H7 (.pointer (some ⟨bb, 0, none⟩)) m es rs :: row p11 59 ((es2.set i (es.getD i 0)).map I) :: row p12 60 _ :: row p5 32 (sd.cv (.slice bs0 sd.Call.Route.Cells.length cs0)) :: R) (by (repeat (first | exact Sub.refl _ | exact Sub.nil _ | (apply sub_pick; (repeat (first | exact Has.here | apply Has.there)); skip) | apply Sub.drop))) ((bookO_up hl8).trans (by (repeat (first | exact Sub.refl _ | exact Sub.nil _ | (apply sub_pick; (repeat (first | exact Has.here | apply Has.there)); skip) | apply Sub.drop)))))
    · clear hL2
      obtain rfl : i = 16 := by omega
      obtain rfl : es2 = es := same16 hel hI.el fun j hj => (heq j hj).1
      obtain rfl : rs2 = rs := same16 hrl hI.rl fun j hj => (heq j hj).2
      obtain ⟨hst, hrep⟩ := apply_step (conf := confM) (m := m) (es := es2) (rs := rs2) (r := sd.Robot) (c := ownC sd.Call) (t := sd.Tick)
      have hS := fun (HA HB : Heap) (cc : List Value) (ha : HB.le HA) (hb : rCall HA cc (ownC sd.Call)) => apply_spec (W0 := W0) (H := HA) (H0 := HB) (cc := cc) (p := .pointer (some ⟨bb, 0, none⟩)) (m := m) (es := es2) (rs := rs2) (r := sd.Robot) (c := ownC sd.Call) (t := sd.Tick) ha hb e2 (fun e he => by have := hI.e e he; omega) hI.len ownC_len
      generalize applyC confM m es2 rs2 sd.Robot (ownC sd.Call) sd.Tick = res at *
      obtain ⟨es', rs', y⟩ := res
      simp only at hst hrep hS
      refine walk ?_
      refine ex_cutk (σ := Heap × Option Addr × Nat × Nat) (fun s => H5.le s.1) (fun s => [(5, .pointer (some ⟨p5, 0, none⟩)), (9, .pointer (some ⟨bb, 0, none⟩)), (11, .pointer (some ⟨p11, 0, none⟩)), (12, .pointer (some ⟨p12, 0, none⟩)), (14, .pointer (some ⟨s.2.2.2, 0, none⟩))]) (fun s => s.1)
        (fun s => row s.2.2.2 47 [I y.Code, I y.Epoch, I y.Route.Start, .slice s.2.1 y.Route.Cells.length s.2.2.1] :: bookO s.1 (.pointer (some ⟨bb, 0, none⟩)) m es' rs' :: row p11 59 (es2.map I) :: row p12 60 cs2 :: row p5 32 (sd.cv (.slice bs0 sd.Call.Route.Cells.length cs0)) :: R) (fun K3 hK3 => ?_) fun ⟨H9, d9, e9, p14⟩ hl9 => ?_
      · refine ex_any 10 [row p5 32 (sd.cv (.slice bs0 sd.Call.Route.Cells.length cs0))] ?_
        (first | refine gny_p 0 rfl rfl rfl ?_ | refine gny_ld 0 rfl rfl rfl rfl ?_ | refine gny_ldH 0 rfl rfl rfl ‹HRow _ _ 0 _› rfl ?_ | refine gny_T 0 rfl rfl rfl ?_ | refine gny_F 0 rfl rfl rfl ?_ | refine gny_B 0 rfl rfl rfl ?_ | refine gny_skip 0 rfl rfl ?_ | refine gny_sp 0 rfl rfl rfl ?_ | refine gny_sB 0 rfl rfl rfl ?_ | refine gny_sld 0 rfl rfl rfl rfl ?_ | refine gny_sldH 0 rfl rfl rfl ‹HRow _ _ 0 _› rfl ?_ | refine gny_ldN 0 rfl rfl rfl rfl ?_ | refine gny_bld 0 rfl rfl rfl ?_); (first | refine gny_p 1 rfl rfl rfl ?_ | refine gny_ld 1 rfl rfl rfl rfl ?_ | refine gny_ldH 1 rfl rfl rfl ‹HRow _ _ 0 _› rfl ?_ | refine gny_T 1 rfl rfl rfl ?_ | refine gny_F 1 rfl rfl rfl ?_ | refine gny_B 1 rfl rfl rfl ?_ | refine gny_skip 1 rfl rfl ?_ | refine gny_sp 1 rfl rfl rfl ?_ | refine gny_sB 1 rfl rfl rfl ?_ | refine gny_sld 1 rfl rfl rfl rfl ?_ | refine gny_sldH 1 rfl rfl rfl ‹HRow _ _ 0 _› rfl ?_ | refine gny_ldN 1 rfl rfl rfl rfl ?_ | refine gny_bld 1 rfl rfl rfl ?_); (first | refine gny_p 2 rfl rfl rfl ?_ | refine gny_ld 2 rfl rfl rfl rfl ?_ | refine gny_ldH 2 rfl rfl rfl ‹HRow _ _ 0 _› rfl ?_ | refine gny_T 2 rfl rfl rfl ?_ | refine gny_F 2 rfl rfl rfl ?_ | refine gny_B 2 rfl rfl rfl ?_ | refine gny_skip 2 rfl rfl ?_ | refine gny_sp 2 rfl rfl rfl ?_ | refine gny_sB 2 rfl rfl rfl ?_ | refine gny_sld 2 rfl rfl rfl rfl ?_ | refine gny_sldH 2 rfl rfl rfl ‹HRow _ _ 0 _› rfl ?_ | refine gny_ldN 2 rfl rfl rfl rfl ?_ | refine gny_bld 2 rfl rfl rfl ?_); (first | refine gny_p 3 rfl rfl rfl ?_ | refine gny_ld 3 rfl rfl rfl rfl ?_ | refine gny_ldH 3 rfl rfl rfl ‹HRow _ _ 0 _› rfl ?_ | refine gny_T 3 rfl rfl rfl ?_ | refine gny_F 3 rfl rfl rfl ?_ | refine gny_B 3 rfl rfl rfl ?_ | refine gny_skip 3 rfl rfl ?_ | refine gny_sp 3 rfl rfl rfl ?_ | refine gny_sB 3 rfl rfl rfl ?_ | refine gny_sld 3 rfl rfl rfl rfl ?_ | refine gny_sldH 3 rfl rfl rfl ‹HRow _ _ 0 _› rfl ?_ | refine gny_ldN 3 rfl rfl rfl rfl ?_ | refine gny_bld 3 rfl rfl rfl ?_); (first | refine gny_p 4 rfl rfl rfl ?_ | refine gny_ld 4 rfl rfl rfl rfl ?_ | refine gny_ldH 4 rfl rfl rfl ‹HRow _ _ 0 _› rfl ?_ | refine gny_T 4 rfl rfl rfl ?_ | refine gny_F 4 rfl rfl rfl ?_ | refine gny_B 4 rfl rfl rfl ?_ | refine gny_skip 4 rfl rfl ?_ | refine gny_sp 4 rfl rfl rfl ?_ | refine gny_sB 4 rfl rfl rfl ?_ | refine gny_sld 4 rfl rfl rfl rfl ?_ | refine gny_sldH 4 rfl rfl rfl ‹HRow _ _ 0 _› rfl ?_ | refine gny_ldN 4 rfl rfl rfl rfl ?_ | refine gny_bld 4 rfl rfl rfl ?_); (first | refine gny_p 6 rfl rfl rfl ?_ | refine gny_ld 6 rfl rfl rfl rfl ?_ | refine gny_ldH 6 rfl rfl rfl ‹HRow _ _ 0 _› rfl ?_ | refine gny_T 6 rfl rfl rfl ?_ | refine gny_F 6 rfl rfl rfl ?_ | refine gny_B 6 rfl rfl rfl ?_ | refine gny_skip 6 rfl rfl ?_ | refine gny_sp 6 rfl rfl rfl ?_ | refine gny_sB 6 rfl rfl rfl ?_ | refine gny_sld 6 rfl rfl rfl rfl ?_ | refine gny_sldH 6 rfl rfl rfl ‹HRow _ _ 0 _› rfl ?_ | refine gny_ldN 6 rfl rfl rfl rfl ?_ | refine gny_bld 6 rfl rfl rfl ?_); (first | refine gny_p 7 rfl rfl rfl ?_ | refine gny_ld 7 rfl rfl rfl rfl ?_ | refine gny_ldH 7 rfl rfl rfl ‹HRow _ _ 0 _› rfl ?_ | refine gny_T 7 rfl rfl rfl ?_ | refine gny_F 7 rfl rfl rfl ?_ | refine gny_B 7 rfl rfl rfl ?_ | refine gny_skip 7 rfl rfl ?_ | refine gny_sp 7 rfl rfl rfl ?_ | refine gny_sB 7 rfl rfl rfl ?_ | refine gny_sld 7 rfl rfl rfl rfl ?_ | refine gny_sldH 7 rfl rfl rfl ‹HRow _ _ 0 _› rfl ?_ | refine gny_ldN 7 rfl rfl rfl rfl ?_ | refine gny_bld 7 rfl rfl rfl ?_)
        have hown := own_spec (W0 := W0) (H := H5) (cc := sd.Call.cv (.slice bs0 sd.Call.Route.Cells.length cs0)) (c := sd.Call) ⟨_, rfl, e3, e4, e5, e6.mono (hl1.trans (hl2.trans (hl4.trans hl5)))⟩
        refine any_ca (vs := [.agg (sd.Call.cv (.slice bs0 sd.Call.Route.Cells.length cs0)).toArray]) 5 9 rfl rfl rfl hown (fun r5 H6 B hl6 ⟨v5, er, eB, eH⟩ => ?_) (fun p14 _ => ?_)
        · subst er eB eH
          refine ⟨(by (repeat (first | exact Sub.refl _ | exact Sub.nil _ | (apply sub_pick; (repeat (first | exact Has.here | apply Has.there)); skip) | apply Sub.drop))), ?_⟩
          refine any_freeze v5 fun H7 hl7 hz7 => ?_
          refine any_ca 8 9 rfl rfl rfl (hS H7 H6 ((ownC sd.Call).cv v5) hl7 ⟨v5, rfl, e3, e4, e5, hz7⟩) (fun r8 H8 B hl8 ⟨v8, er, eB⟩ => ?_) (fun p14 _ => ?_)
          · subst er eB
            refine ⟨(by (repeat (first | exact Sub.refl _ | exact Sub.nil _ | (apply sub_pick; (repeat (first | exact Has.here | apply Has.there)); skip) | apply Sub.drop))), ?_⟩
            refine gny_alloc 9 rfl rfl fun p14 _ => ?_
            refine any_rest rfl ?_
            refine ops_shape v8 fun d9 e9 e _ _ _ => ?_
            subst e
            refine walk ?_
            exact out_to hK3 (H8, d9, e9, p14) (hl7.trans hl8)
          · refine gny_call 8 rfl rfl rfl (hS H7 H6 ((ownC sd.Call).cv v5) hl7 ⟨v5, rfl, e3, e4, e5, hz7⟩) fun r8 H8 B hl8 ⟨v8, er, eB⟩ => ?_
            subst er eB
            refine ⟨(by (repeat (first | exact Sub.refl _ | exact Sub.nil _ | (apply sub_pick; (repeat (first | exact Has.here | apply Has.there)); skip) | apply Sub.drop))), ?_⟩
            refine any_rest rfl ?_
            refine ops_shape v8 fun d9 e9 e _ _ _ => ?_
            subst e
            refine walk ?_
            exact out_to hK3 (H8, d9, e9, p14) (hl7.trans hl8)
        · refine gny_call (vs := [.agg (sd.Call.cv (.slice bs0 sd.Call.Route.Cells.length cs0)).toArray]) 5 rfl rfl rfl hown fun r5 H6 B hl6 ⟨v5, er, eB, eH⟩ => ?_
          subst er eB eH
          refine ⟨(by (repeat (first | exact Sub.refl _ | exact Sub.nil _ | (apply sub_pick; (repeat (first | exact Has.here | apply Has.there)); skip) | apply Sub.drop))), ?_⟩
          refine any_freeze v5 fun H7 hl7 hz7 => ?_
          refine gny_call 8 rfl rfl rfl (hS H7 H6 ((ownC sd.Call).cv v5) hl7 ⟨v5, rfl, e3, e4, e5, hz7⟩) fun r8 H8 B hl8 ⟨v8, er, eB⟩ => ?_
          subst er eB
          refine ⟨(by (repeat (first | exact Sub.refl _ | exact Sub.nil _ | (apply sub_pick; (repeat (first | exact Has.here | apply Has.there)); skip) | apply Sub.drop))), ?_⟩
          refine any_rest rfl ?_
          refine ops_shape v8 fun d9 e9 e _ _ _ => ?_
          subst e
          refine walk ?_
          exact out_to hK3 (H8, d9, e9, p14) (hl7.trans hl8)
      · simp only at hl9
        dsimp only
        refine walkG ?_
        refine ex_if rfl (fun hA => ?_) (fun hA => ?_)
        · obtain ⟨hrob, hpos, hep⟩ := hrep.ok hA.1.1
          have hpos := hpos (hI.ge (j := sd.Robot.toNat)).1
          have hep := hep (by rw [hI.el]; simp only [robI] at hrob; omega)
          refine walk ?_
          refine ex_any 12 [row p14 47 [I y.Code, I y.Epoch, I y.Route.Start, .slice d9 y.Route.Cells.length e9], row p5 32 (sd.cv (.slice bs0 sd.Call.Route.Cells.length cs0))] ?_
          (first | refine gny_p 0 rfl rfl rfl ?_ | refine gny_ld 0 rfl rfl rfl rfl ?_ | refine gny_ldH 0 rfl rfl rfl ‹HRow _ _ 0 _› rfl ?_ | refine gny_T 0 rfl rfl rfl ?_ | refine gny_F 0 rfl rfl rfl ?_ | refine gny_B 0 rfl rfl rfl ?_ | refine gny_skip 0 rfl rfl ?_ | refine gny_sp 0 rfl rfl rfl ?_ | refine gny_sB 0 rfl rfl rfl ?_ | refine gny_sld 0 rfl rfl rfl rfl ?_ | refine gny_sldH 0 rfl rfl rfl ‹HRow _ _ 0 _› rfl ?_ | refine gny_ldN 0 rfl rfl rfl rfl ?_ | refine gny_bld 0 rfl rfl rfl ?_); (first | refine gny_p 1 rfl rfl rfl ?_ | refine gny_ld 1 rfl rfl rfl rfl ?_ | refine gny_ldH 1 rfl rfl rfl ‹HRow _ _ 0 _› rfl ?_ | refine gny_T 1 rfl rfl rfl ?_ | refine gny_F 1 rfl rfl rfl ?_ | refine gny_B 1 rfl rfl rfl ?_ | refine gny_skip 1 rfl rfl ?_ | refine gny_sp 1 rfl rfl rfl ?_ | refine gny_sB 1 rfl rfl rfl ?_ | refine gny_sld 1 rfl rfl rfl rfl ?_ | refine gny_sldH 1 rfl rfl rfl ‹HRow _ _ 0 _› rfl ?_ | refine gny_ldN 1 rfl rfl rfl rfl ?_ | refine gny_bld 1 rfl rfl rfl ?_); (first | refine gny_p 2 rfl rfl rfl ?_ | refine gny_ld 2 rfl rfl rfl rfl ?_ | refine gny_ldH 2 rfl rfl rfl ‹HRow _ _ 0 _› rfl ?_ | refine gny_T 2 rfl rfl rfl ?_ | refine gny_F 2 rfl rfl rfl ?_ | refine gny_B 2 rfl rfl rfl ?_ | refine gny_skip 2 rfl rfl ?_ | refine gny_sp 2 rfl rfl rfl ?_ | refine gny_sB 2 rfl rfl rfl ?_ | refine gny_sld 2 rfl rfl rfl rfl ?_ | refine gny_sldH 2 rfl rfl rfl ‹HRow _ _ 0 _› rfl ?_ | refine gny_ldN 2 rfl rfl rfl rfl ?_ | refine gny_bld 2 rfl rfl rfl ?_)
          (first | refine gny_p 3 rfl rfl rfl ?_ | refine gny_ld 3 rfl rfl rfl rfl ?_ | refine gny_ldH 3 rfl rfl rfl ‹HRow _ _ 0 _› rfl ?_ | refine gny_T 3 rfl rfl rfl ?_ | refine gny_F 3 rfl rfl rfl ?_ | refine gny_B 3 rfl rfl rfl ?_ | refine gny_skip 3 rfl rfl ?_ | refine gny_sp 3 rfl rfl rfl ?_ | refine gny_sB 3 rfl rfl rfl ?_ | refine gny_sld 3 rfl rfl rfl rfl ?_ | refine gny_sldH 3 rfl rfl rfl ‹HRow _ _ 0 _› rfl ?_ | refine gny_ldN 3 rfl rfl rfl rfl ?_ | refine gny_bld 3 rfl rfl rfl ?_); (first | refine gny_p 4 rfl rfl rfl ?_ | refine gny_ld 4 rfl rfl rfl rfl ?_ | refine gny_ldH 4 rfl rfl rfl ‹HRow _ _ 0 _› rfl ?_ | refine gny_T 4 rfl rfl rfl ?_ | refine gny_F 4 rfl rfl rfl ?_ | refine gny_B 4 rfl rfl rfl ?_ | refine gny_skip 4 rfl rfl ?_ | refine gny_sp 4 rfl rfl rfl ?_ | refine gny_sB 4 rfl rfl rfl ?_ | refine gny_sld 4 rfl rfl rfl rfl ?_ | refine gny_sldH 4 rfl rfl rfl ‹HRow _ _ 0 _› rfl ?_ | refine gny_ldN 4 rfl rfl rfl rfl ?_ | refine gny_bld 4 rfl rfl rfl ?_); (first | refine gny_p 5 rfl rfl rfl ?_ | refine gny_ld 5 rfl rfl rfl rfl ?_ | refine gny_ldH 5 rfl rfl rfl ‹HRow _ _ 0 _› rfl ?_ | refine gny_T 5 rfl rfl rfl ?_ | refine gny_F 5 rfl rfl rfl ?_ | refine gny_B 5 rfl rfl rfl ?_ | refine gny_skip 5 rfl rfl ?_ | refine gny_sp 5 rfl rfl rfl ?_ | refine gny_sB 5 rfl rfl rfl ?_ | refine gny_sld 5 rfl rfl rfl rfl ?_ | refine gny_sldH 5 rfl rfl rfl ‹HRow _ _ 0 _› rfl ?_ | refine gny_ldN 5 rfl rfl rfl rfl ?_ | refine gny_bld 5 rfl rfl rfl ?_); (first | refine gny_p 6 rfl rfl rfl ?_ | refine gny_ld 6 rfl rfl rfl rfl ?_ | refine gny_ldH 6 rfl rfl rfl ‹HRow _ _ 0 _› rfl ?_ | refine gny_T 6 rfl rfl rfl ?_ | refine gny_F 6 rfl rfl rfl ?_ | refine gny_B 6 rfl rfl rfl ?_ | refine gny_skip 6 rfl rfl ?_ | refine gny_sp 6 rfl rfl rfl ?_ | refine gny_sB 6 rfl rfl rfl ?_ | refine gny_sld 6 rfl rfl rfl rfl ?_ | refine gny_sldH 6 rfl rfl rfl ‹HRow _ _ 0 _› rfl ?_ | refine gny_ldN 6 rfl rfl rfl rfl ?_ | refine gny_bld 6 rfl rfl rfl ?_); (first | refine gny_p 8 rfl rfl rfl ?_ | refine gny_ld 8 rfl rfl rfl rfl ?_ | refine gny_ldH 8 rfl rfl rfl ‹HRow _ _ 0 _› rfl ?_ | refine gny_T 8 rfl rfl rfl ?_ | refine gny_F 8 rfl rfl rfl ?_ | refine gny_B 8 rfl rfl rfl ?_ | refine gny_skip 8 rfl rfl ?_ | refine gny_sp 8 rfl rfl rfl ?_ | refine gny_sB 8 rfl rfl rfl ?_ | refine gny_sld 8 rfl rfl rfl rfl ?_ | refine gny_sldH 8 rfl rfl rfl ‹HRow _ _ 0 _› rfl ?_ | refine gny_ldN 8 rfl rfl rfl rfl ?_ | refine gny_bld 8 rfl rfl rfl ?_); (first | refine gny_p 9 rfl rfl rfl ?_ | refine gny_ld 9 rfl rfl rfl rfl ?_ | refine gny_ldH 9 rfl rfl rfl ‹HRow _ _ 0 _› rfl ?_ | refine gny_T 9 rfl rfl rfl ?_ | refine gny_F 9 rfl rfl rfl ?_ | refine gny_B 9 rfl rfl rfl ?_ | refine gny_skip 9 rfl rfl ?_ | refine gny_sp 9 rfl rfl rfl ?_ | refine gny_sB 9 rfl rfl rfl ?_ | refine gny_sld 9 rfl rfl rfl rfl ?_ | refine gny_sldH 9 rfl rfl rfl ‹HRow _ _ 0 _› rfl ?_ | refine gny_ldN 9 rfl rfl rfl rfl ?_ | refine gny_bld 9 rfl rfl rfl ?_)
          refine gny_call 7 rfl rfl rfl (epoch_spec (H0 := H9) (m := m) (es := es') (rs := rs') (r := sd.Robot) (.refl _)) fun r6 H6 B hl6 ⟨er, eB, eH⟩ => ?_
          subst er eB eH
          refine ⟨(by (repeat (first | exact Sub.refl _ | exact Sub.nil _ | (apply sub_pick; (repeat (first | exact Has.here | apply Has.there)); skip) | apply Sub.drop))), ?_⟩
          (first | refine gny_p 10 rfl rfl rfl ?_ | refine gny_ld 10 rfl rfl rfl rfl ?_ | refine gny_ldH 10 rfl rfl rfl ‹HRow _ _ 0 _› rfl ?_ | refine gny_T 10 rfl rfl rfl ?_ | refine gny_F 10 rfl rfl rfl ?_ | refine gny_B 10 rfl rfl rfl ?_ | refine gny_skip 10 rfl rfl ?_ | refine gny_sp 10 rfl rfl rfl ?_ | refine gny_sB 10 rfl rfl rfl ?_ | refine gny_sld 10 rfl rfl rfl rfl ?_ | refine gny_sldH 10 rfl rfl rfl ‹HRow _ _ 0 _› rfl ?_ | refine gny_ldN 10 rfl rfl rfl rfl ?_ | refine gny_bld 10 rfl rfl rfl ?_); (first | refine gny_p 11 rfl rfl rfl ?_ | refine gny_ld 11 rfl rfl rfl rfl ?_ | refine gny_ldH 11 rfl rfl rfl ‹HRow _ _ 0 _› rfl ?_ | refine gny_T 11 rfl rfl rfl ?_ | refine gny_F 11 rfl rfl rfl ?_ | refine gny_B 11 rfl rfl rfl ?_ | refine gny_skip 11 rfl rfl ?_ | refine gny_sp 11 rfl rfl rfl ?_ | refine gny_sB 11 rfl rfl rfl ?_ | refine gny_sld 11 rfl rfl rfl rfl ?_ | refine gny_sldH 11 rfl rfl rfl ‹HRow _ _ 0 _› rfl ?_ | refine gny_ldN 11 rfl rfl rfl rfl ?_ | refine gny_bld 11 rfl rfl rfl ?_)
          refine any_rest rfl ?_
          refine walk ?_
          refine fin0 ?_
          have : epochOf es' sd.Robot = y.Epoch := by unfold epochOf; rw [if_pos hrob]; exact hep
          exact ⟨by rw [decide_eq_true this], rfl⟩
        · refine walkG ?_
          refine ex_if rfl (fun hB => ?_) (fun hB => ?_)
          · exfalso
            obtain ⟨n1, n2⟩ := hrep.no hB.1
            rw [n1, n2] at hB
            simp [zRoute] at hB
          have hsame : es' = es2 ∧ rs' = rs2 := hrep.same (by
            by_cases h1 : y.Code = 0
            · by_cases h2 : sd.Call.Verb = 6
              · exact .inr (.inl h2)
              · by_cases h3 : sd.Call.Verb = 2
                · exact .inr (.inr h3)
                · exact absurd ⟨⟨h1, h2⟩, h3⟩ hA
            · exact .inl h1)
          obtain ⟨rfl, rfl⟩ := hsame
          refine walk ?_
          refine ex_loop (σ := Nat × Heap) (fun s => s.1 ≤ 16 ∧ H9.le s.2) (fun s => [(9, .pointer (some ⟨bb, 0, none⟩)), (11, .pointer (some ⟨p11, 0, none⟩)), (12, .pointer (some ⟨p12, 0, none⟩)), (135, I s.1)]) (fun s => s.2)
            (fun s => bookO s.2 (.pointer (some ⟨bb, 0, none⟩)) m es' rs' :: row p11 59 (es'.map I) :: row p12 60 cs2 :: R) (fun s => 16 - s.1) (0, H9) ⟨by simp, .refl _⟩ fun ⟨i, H10⟩ ⟨hi0, hl10⟩ K4 hL4 => ?_
          simp only at hi0 hl10
          dsimp only
          refine walk ?_
          refine ex_if rfl (fun hi => ?_) (fun hi => ?_)
          · have hi1 : i < 16 := by omega
            have hi2 : i < es'.length := by rw [hel]; exact hi1
            have hi3 : i < rs'.length := by rw [hrl]; exact hi1
            have hge : es'.getD i 0 = es'[i] := by simp [List.getD, hi2]
            have hgr : rs'.getD i zRoute = rs'[i] := by simp [List.getD, hi3]
            obtain ⟨ck, hat, hck⟩ := get_row2 (hrr.mono (hl9.trans hl10)) hi3
            have hlc := RdOk.len (R := rRoute) hck
            have hce : (es'.map I)[0 + i * 1]? = some (I es'[i]) := by simp [hi2]
            refine walk ?_
            refine ex_know (A := bookO H10 (.pointer (some ⟨bb, 0, none⟩)) m es' rs') (by repeat (first | exact Has.here | apply Has.there)) (fun h hh => bookO_fits (r := i) hh) fun hrf => ?_
            refine ex_any 17 [row p11 59 (es'.map I), row p12 60 cs2] ?_
            (first | refine gny_p 0 rfl rfl rfl ?_ | refine gny_ld 0 rfl rfl rfl rfl ?_ | refine gny_ldH 0 rfl rfl rfl ‹HRow _ _ 0 _› rfl ?_ | refine gny_T 0 rfl rfl rfl ?_ | refine gny_F 0 rfl rfl rfl ?_ | refine gny_B 0 rfl rfl rfl ?_ | refine gny_skip 0 rfl rfl ?_ | refine gny_sp 0 rfl rfl rfl ?_ | refine gny_sB 0 rfl rfl rfl ?_ | refine gny_sld 0 rfl rfl rfl rfl ?_ | refine gny_sldH 0 rfl rfl rfl ‹HRow _ _ 0 _› rfl ?_ | refine gny_ldN 0 rfl rfl rfl rfl ?_ | refine gny_bld 0 rfl rfl rfl ?_); (first | refine gny_p 1 rfl rfl rfl ?_ | refine gny_ld 1 rfl rfl rfl rfl ?_ | refine gny_ldH 1 rfl rfl rfl ‹HRow _ _ 0 _› rfl ?_ | refine gny_T 1 rfl rfl rfl ?_ | refine gny_F 1 rfl rfl rfl ?_ | refine gny_B 1 rfl rfl rfl ?_ | refine gny_skip 1 rfl rfl ?_ | refine gny_sp 1 rfl rfl rfl ?_ | refine gny_sB 1 rfl rfl rfl ?_ | refine gny_sld 1 rfl rfl rfl rfl ?_ | refine gny_sldH 1 rfl rfl rfl ‹HRow _ _ 0 _› rfl ?_ | refine gny_ldN 1 rfl rfl rfl rfl ?_ | refine gny_bld 1 rfl rfl rfl ?_); (first | refine gny_p 3 rfl rfl rfl ?_ | refine gny_ld 3 rfl rfl rfl rfl ?_ | refine gny_ldH 3 rfl rfl rfl ‹HRow _ _ 0 _› rfl ?_ | refine gny_T 3 rfl rfl rfl ?_ | refine gny_F 3 rfl rfl rfl ?_ | refine gny_B 3 rfl rfl rfl ?_ | refine gny_skip 3 rfl rfl ?_ | refine gny_sp 3 rfl rfl rfl ?_ | refine gny_sB 3 rfl rfl rfl ?_ | refine gny_sld 3 rfl rfl rfl rfl ?_ | refine gny_sldH 3 rfl rfl rfl ‹HRow _ _ 0 _› rfl ?_ | refine gny_ldN 3 rfl rfl rfl rfl ?_ | refine gny_bld 3 rfl rfl rfl ?_); (first | refine gny_p 4 rfl rfl rfl ?_ | refine gny_ld 4 rfl rfl rfl rfl ?_ | refine gny_ldH 4 rfl rfl rfl ‹HRow _ _ 0 _› rfl ?_ | refine gny_T 4 rfl rfl rfl ?_ | refine gny_F 4 rfl rfl rfl ?_ | refine gny_B 4 rfl rfl rfl ?_ | refine gny_skip 4 rfl rfl ?_ | refine gny_sp 4 rfl rfl rfl ?_ | refine gny_sB 4 rfl rfl rfl ?_ | refine gny_sld 4 rfl rfl rfl rfl ?_ | refine gny_sldH 4 rfl rfl rfl ‹HRow _ _ 0 _› rfl ?_ | refine gny_ldN 4 rfl rfl rfl rfl ?_ | refine gny_bld 4 rfl rfl rfl ?_)
            refine gny_ld 5 rfl rfl rfl hce ?_
            refine gny_call 2 rfl rfl rfl (epoch_spec (H0 := H10) (m := m) (es := es') (rs := rs') (r := i) (.refl _)) fun r6 H11 B hl11 ⟨er, eB, eH⟩ => ?_
            subst er eB eH
            rw [epochOf_nat hi1, hge]
            refine ⟨(by (repeat (first | exact Sub.refl _ | exact Sub.nil _ | (apply sub_pick; (repeat (first | exact Has.here | apply Has.there)); skip) | apply Sub.drop))), ?_⟩
            (first | refine gny_p 6 rfl rfl rfl ?_ | refine gny_ld 6 rfl rfl rfl rfl ?_ | refine gny_ldH 6 rfl rfl rfl ‹HRow _ _ 0 _› rfl ?_ | refine gny_T 6 rfl rfl rfl ?_ | refine gny_F 6 rfl rfl rfl ?_ | refine gny_B 6 rfl rfl rfl ?_ | refine gny_skip 6 rfl rfl ?_ | refine gny_sp 6 rfl rfl rfl ?_ | refine gny_sB 6 rfl rfl rfl ?_ | refine gny_sld 6 rfl rfl rfl rfl ?_ | refine gny_sldH 6 rfl rfl rfl ‹HRow _ _ 0 _› rfl ?_ | refine gny_ldN 6 rfl rfl rfl rfl ?_ | refine gny_bld 6 rfl rfl rfl ?_)
            (first | refine gny_p 7 rfl rfl rfl ?_ | refine gny_ld 7 rfl rfl rfl rfl ?_ | refine gny_ldH 7 rfl rfl rfl ‹HRow _ _ 0 _› rfl ?_ | refine gny_T 7 rfl rfl rfl ?_ | refine gny_F 7 rfl rfl rfl ?_ | refine gny_B 7 rfl rfl rfl ?_ | refine gny_skip 7 rfl rfl ?_ | refine gny_sp 7 rfl rfl rfl ?_ | refine gny_sB 7 rfl rfl rfl ?_ | refine gny_sld 7 rfl rfl rfl rfl ?_ | refine gny_sldH 7 rfl rfl rfl ‹HRow _ _ 0 _› rfl ?_ | refine gny_ldN 7 rfl rfl rfl rfl ?_ | refine gny_bld 7 rfl rfl rfl ?_); (first | refine gny_p 8 rfl rfl rfl ?_ | refine gny_ld 8 rfl rfl rfl rfl ?_ | refine gny_ldH 8 rfl rfl rfl ‹HRow _ _ 0 _› rfl ?_ | refine gny_T 8 rfl rfl rfl ?_ | refine gny_F 8 rfl rfl rfl ?_ | refine gny_B 8 rfl rfl rfl ?_ | refine gny_skip 8 rfl rfl ?_ | refine gny_sp 8 rfl rfl rfl ?_ | refine gny_sB 8 rfl rfl rfl ?_ | refine gny_sld 8 rfl rfl rfl rfl ?_ | refine gny_sldH 8 rfl rfl rfl ‹HRow _ _ 0 _› rfl ?_ | refine gny_ldN 8 rfl rfl rfl rfl ?_ | refine gny_bld 8 rfl rfl rfl ?_); (first | refine gny_p 9 rfl rfl rfl ?_ | refine gny_ld 9 rfl rfl rfl rfl ?_ | refine gny_ldH 9 rfl rfl rfl ‹HRow _ _ 0 _› rfl ?_ | refine gny_T 9 rfl rfl rfl ?_ | refine gny_F 9 rfl rfl rfl ?_ | refine gny_B 9 rfl rfl rfl ?_ | refine gny_skip 9 rfl rfl ?_ | refine gny_sp 9 rfl rfl rfl ?_ | refine gny_sB 9 rfl rfl rfl ?_ | refine gny_sld 9 rfl rfl rfl rfl ?_ | refine gny_sldH 9 rfl rfl rfl ‹HRow _ _ 0 _› rfl ?_ | refine gny_ldN 9 rfl rfl rfl rfl ?_ | refine gny_bld 9 rfl rfl rfl ?_); (first | refine gny_p 11 rfl rfl rfl ?_ | refine gny_ld 11 rfl rfl rfl rfl ?_ | refine gny_ldH 11 rfl rfl rfl ‹HRow _ _ 0 _› rfl ?_ | refine gny_T 11 rfl rfl rfl ?_ | refine gny_F 11 rfl rfl rfl ?_ | refine gny_B 11 rfl rfl rfl ?_ | refine gny_skip 11 rfl rfl ?_ | refine gny_sp 11 rfl rfl rfl ?_ | refine gny_sB 11 rfl rfl rfl ?_ | refine gny_sld 11 rfl rfl rfl rfl ?_ | refine gny_sldH 11 rfl rfl rfl ‹HRow _ _ 0 _› rfl ?_ | refine gny_ldN 11 rfl rfl rfl rfl ?_ | refine gny_bld 11 rfl rfl rfl ?_); (first | refine gny_p 12 rfl rfl rfl ?_ | refine gny_ld 12 rfl rfl rfl rfl ?_ | refine gny_ldH 12 rfl rfl rfl ‹HRow _ _ 0 _› rfl ?_ | refine gny_T 12 rfl rfl rfl ?_ | refine gny_F 12 rfl rfl rfl ?_ | refine gny_B 12 rfl rfl rfl ?_ | refine gny_skip 12 rfl rfl ?_ | refine gny_sp 12 rfl rfl rfl ?_ | refine gny_sB 12 rfl rfl rfl ?_ | refine gny_sld 12 rfl rfl rfl rfl ?_ | refine gny_sldH 12 rfl rfl rfl ‹HRow _ _ 0 _› rfl ?_ | refine gny_ldN 12 rfl rfl rfl rfl ?_ | refine gny_bld 12 rfl rfl rfl ?_)
            refine gny_pure 13 rfl rfl (op_loadAt rfl (by repeat (first | exact Has.here | apply Has.there)) hat hlc) ?_ (by decide +kernel) (fun _ _ _ h => h) (.refl _) (by (repeat (first | exact Sub.refl _ | exact Sub.nil _ | (apply sub_pick; (repeat (first | exact Has.here | apply Has.there)); skip) | apply Sub.drop))) rfl
            refine gny_call 10 rfl rfl rfl (routeB_spec (H0 := H11) (m := m) (es := es') (rs := rs') (r := i) (.refl _)) fun r7 H12 B hl12 ⟨v7, er, eB, eH⟩ => ?_
            subst er eB eH
            rw [routeOf_nat hi1, hgr] at hrf ⊢
            refine ⟨(by (repeat (first | exact Sub.refl _ | exact Sub.nil _ | (apply sub_pick; (repeat (first | exact Has.here | apply Has.there)); skip) | apply Sub.drop))), ?_⟩
            refine any_freeze v7 fun H13 hl13 hz13 => ?_
            refine gny_pcall (vs := [.agg #[I rs'[i].Start, v7], .agg ck.toArray]) 14 rfl rfl rfl (sameRoute_spec (x := rs'[i]) (y := rs'[i]) ⟨v7, rfl, hrf, hz13⟩ (RdOk.mono (R := rRoute) hl13 hck)) ?_
            rw [decide_eq_true (p := rs'[i] = rs'[i]) rfl]
            (first | refine gny_p 15 rfl rfl rfl ?_ | refine gny_ld 15 rfl rfl rfl rfl ?_ | refine gny_ldH 15 rfl rfl rfl ‹HRow _ _ 0 _› rfl ?_ | refine gny_T 15 rfl rfl rfl ?_ | refine gny_F 15 rfl rfl rfl ?_ | refine gny_B 15 rfl rfl rfl ?_ | refine gny_skip 15 rfl rfl ?_ | refine gny_sp 15 rfl rfl rfl ?_ | refine gny_sB 15 rfl rfl rfl ?_ | refine gny_sld 15 rfl rfl rfl rfl ?_ | refine gny_sldH 15 rfl rfl rfl ‹HRow _ _ 0 _› rfl ?_ | refine gny_ldN 15 rfl rfl rfl rfl ?_ | refine gny_bld 15 rfl rfl rfl ?_); (first | refine gny_p 16 rfl rfl rfl ?_ | refine gny_ld 16 rfl rfl rfl rfl ?_ | refine gny_ldH 16 rfl rfl rfl ‹HRow _ _ 0 _› rfl ?_ | refine gny_T 16 rfl rfl rfl ?_ | refine gny_F 16 rfl rfl rfl ?_ | refine gny_B 16 rfl rfl rfl ?_ | refine gny_skip 16 rfl rfl ?_ | refine gny_sp 16 rfl rfl rfl ?_ | refine gny_sB 16 rfl rfl rfl ?_ | refine gny_sld 16 rfl rfl rfl rfl ?_ | refine gny_sldH 16 rfl rfl rfl ‹HRow _ _ 0 _› rfl ?_ | refine gny_ldN 16 rfl rfl rfl rfl ?_ | refine gny_bld 16 rfl rfl rfl ?_)
            refine any_rest rfl ?_
            refine walk ?_
            exact out_next hL4 (i + 1, H13) ⟨by simp only; omega, hl10.trans hl13⟩ (hs := Sub.trans (B := bookO H12 (.pointer (some ⟨bb, 0, none⟩)) m es' rs' :: row p11 59 (es'.map I) :: row p12 60 cs2 :: R) (by (repeat (first | exact Sub.refl _ | exact Sub.nil _ | (apply sub_pick; (repeat (first | exact Has.here | apply Has.there)); skip) | apply Sub.drop))) (bookO_up hl13))
          · clear hL4
            refine walk ?_
            refine fin0 ?_
            exact ⟨rfl, rfl⟩
end Go.Proofs.Ytnfmjkjhiolfdaa
