/- PlanEvery, walked. -/
import Derived.Test.YtadahmihkbpglaaDoorPP
import Derived.Test.YtadahmihkbpglaaDoorPQ
set_option linter.unusedVariables false
set_option linter.unusedSimpArgs false
namespace Go.Proofs.YtadahmihkbpglaaDoor
open Go Go.Sx Go.Proofs
/-- what is found by going through all plans, beside the plan -/
theorem every_none {m : Map} {j : Job} {l : List Int} (h0 : lookV m j = 0) (hn : ¬ hasP m j) (hE : EveryP m j.Taken j.Tick j.N.toNat [j.Cell] l) : l = [] := by
  obtain ⟨_, hN, hT⟩ := look_ok h0
  have hnone : planT m j.Taken j.Goal (j.N - 1).toNat j.Tick j.Cell = none := by
    cases hp : planT m j.Taken j.Goal (j.N - 1).toNat j.Tick j.Cell with
    | none => rfl
    | some x => exact absurd ⟨h0, by rw [hp]; rfl⟩ hn
  rcases hE with ⟨h, _⟩ | ⟨h1, h2, l', rfl⟩
  · exact h
  · exact absurd h1 (plan_none (by have : bigT = 9223372036854775807 := rfl; omega) hnone l' (by simp at h2; omega))
theorem every_some {m : Map} {j : Job} {l : List Int} (h : hasP m j) (hE : EveryP m j.Taken j.Tick j.N.toNat [j.Cell] l) : l ≠ [] ∧ okM m j.Taken j.Tick l ∧ l.length = j.N.toNat ∧ ¬ betN j.Goal (distM m j.Goal) l (planRt m j).Cells := by
  obtain ⟨⟨hf, hN, hT⟩, hc, hr⟩ := hasP_ok h
  have hb : j.Tick + ((j.N - 1).toNat : Int) + 1 ≤ bigT := by have : bigT = 9223372036854775807 := rfl; omega
  obtain ⟨hok, hbest⟩ := plan_good (m := m) (tk := j.Taken) (goal := j.Goal) (k := (j.N - 1).toNat) (t := j.Tick) (c := j.Cell) hb h.2
  obtain ⟨l0, e, hl0⟩ := planP_head (m := m) (tk := j.Taken) (goal := j.Goal) (k := (j.N - 1).toNat) (t := j.Tick) (c := j.Cell)
  rcases hE with ⟨h1, h2⟩ | ⟨h1, h2, l', rfl⟩
  · rw [e] at hok
    exact absurd hok (h2 l0 (by simp; omega))
  · have hll : l'.length = (j.N - 1).toNat := by simp at h2; omega
    refine ⟨by simp, h1, h2, ?_⟩
    rw [hr]
    simp only
    rw [bet_iff (t := j.Tick) j.Goal (distM m j.Goal) (by simp) (by rw [e]; simp only [List.length_append, List.length_cons, List.length_nil, hl0, hll]; omega) (by have : bigT = 9223372036854775807 := rfl; simp only [List.length_append, List.length_cons, List.length_nil, hll]; omega)]
    intro hlt
    rcases hbest l' hll h1 with h3 | h3
    · rw [← h3] at hlt; exact blt_self _ _ hlt
    · exact blt_irr _ _ h3 hlt
theorem planRt_check {m : Map} {j : Job} (h : hasP m j) : checkR m (planRt m j) = 0 ∧ (planRt m j).Cells[0]? = some j.Cell ∧ ∀ q ∈ keysL (planRt m j), sb q ∉ j.Taken := by
  obtain ⟨⟨hf, hN, hT⟩, hc, hr⟩ := hasP_ok h
  obtain ⟨hst, hne, hlen, hok, hcs⟩ := planRt_ok h
  obtain ⟨l0, e, hl0⟩ := planP_head (m := m) (tk := j.Taken) (goal := j.Goal) (k := (j.N - 1).toNat) (t := j.Tick) (c := j.Cell)
  refine ⟨?_, by rw [hr, e]; rfl, ?_⟩
  · have := ok_check hok (by omega) (by unfold tickI; omega) (by rw [hlen]; unfold tickI; omega)
    rw [← hst] at this
    exact this
  · intro q hq
    unfold keysL at hq
    split at hq
    · rw [hst] at hq
      exact (ok_keys.1 hok).2 q hq
    · cases hq
set_option maxRecDepth 100000 in
set_option maxHeartbeats 32000000 in
theorem planEvery_spec {W0 : World} {H : Heap} {c d : List Value} {m : Map} {j : Job} (hT : TabH Tryd.prog H) (h0 : rMap H c m) (h1 : rJob H d j) :
    Ct Tryd.prog 6 #[.agg c.toArray, .agg d.toArray] W0 H [] (fun r H' B => r = .bool true ∧ B = []) := by
  refine Ct.go (vs := [.agg c.toArray, .agg d.toArray]) fun R => ?_
  have g0 := h0
  have k0 := h1
  obtain ⟨s0, rfl, f1, f2, f3, h0⟩ := h0
  obtain ⟨s1, rfl, q1, q2, q3, q4, h1⟩ := h1
  refine walk ?_
  refine ops_box rfl rfl fun p2 _ => ?_
  refine ops_box rfl rfl fun p3 _ => ?_
  refine walk ?_
  refine ops_call (vs := []) rfl rfl (awake18_spec hT) fun r1 H1 B hl1 ⟨er, eB⟩ => ?_
  subst er eB
  refine walk ?_
  refine ops_call (vs := [.agg (m.cv s0).toArray]) rfl rfl (gNew_spec (RdOk.mono (R := rMap) hl1 g0)) fun r2 H2 B hl2 ⟨g, e, er, eB, h⟩ => ?_
  subst er eB
  have gm := RdOk.mono (R := rMap) (hl1.trans hl2) g0
  rcases h with ⟨hm, hG, rfl⟩ | ⟨hm, rfl, rfl⟩
  rotate_left
  · refine walkG ?_
    refine ops_pcall rfl rfl (rGood_spec gm) ?_
    rw [decide_eq_false hm]
    refine walkG ?_
    refine fin0 ?_
    exact ⟨rfl, rfl⟩
  have hGp := hG
  obtain ⟨⟨bg, s', mb, mm, rfl, _, _, _, _⟩, hgd, hfs⟩ := hGp
  refine walkG ?_
  have ho := own18_spec (W0 := W0) (RdOk.mono (R := rJob) (hl1.trans hl2) k0)
  refine ops_call rfl rfl ho fun r3 H3 B hl3 ⟨v3, er, eB, eH⟩ => ?_
  subst er eB eH
  refine ops_freeze v3 fun H4 hl4 hv3 => ?_
  have hjl := clip_len (j := j)
  have hj2 := clipJ2 (j := j)
  have hle : H.le H4 := hl1.trans (hl2.trans hl4)
  replace hG := hG.mono hl4
  replace gm := RdOk.mono (R := rMap) hl4 gm
  have gj : rJob H4 ((clipJ j).cv v3) (clipJ j) := ⟨_, rfl, q1, q2, q3, q4, hv3⟩
  have hT4 := hT.mono hle
  obtain ⟨b3, c3, rfl, _, _⟩ := hv3.1.shape
  clear hl4 hl3 hl2 hl1 h0 h1 k0 g0 ho
  generalize clipJ j = j' at *
  refine walk ?_
  obtain ⟨q, hq, hq6⟩ : ∃ q : Nat, (IntKind.u64.wrap j'.N).tmod 6 = q ∧ q < 6 := by
    have hw : 0 ≤ IntKind.u64.wrap j'.N := by simp [IntKind.wrap, IntKind.bits, IntKind.signed]; omega
    refine ⟨((IntKind.u64.wrap j'.N).tmod 6).toNat, ?_, ?_⟩ <;> rw [Int.tmod_eq_emod_of_nonneg hw] <;> omega
  rw [hq]
  refine walk ?_
  obtain ⟨je, hje⟩ : ∃ je : Job, je = ⟨j'.Cell, j'.Tick, j'.Goal, (q : Int) + 1, j'.Taken⟩ := ⟨_, rfl⟩
  have hjc : clipJ je = je := by
    have e := congrArg Job.Taken hj2
    rw [hje]
    simp only [clipJ] at e ⊢
    rw [e]
  have hjT : je.Taken = j'.Taken := by rw [hje]
  have ge : rJob H4 (je.cv (.slice b3 je.Taken.length c3)) je := by
    obtain ⟨_, _, a1, a2, a3, a4, _⟩ := gj
    rw [hje]
    exact ⟨_, rfl, a1, a2, a3, (show fits ((q : Int) + 1) by unfold fits; omega), hv3⟩
  have heN : je.N = ((q + 1 : Nat) : Int) := by rw [hje]; simp
  have hel : je.Taken.length ≤ 60 := by rw [hjT]; exact hjl
  rw [show (q : Int) + 1 = je.N by rw [hje], show j'.Cell = je.Cell by rw [hje], show j'.Tick = je.Tick by rw [hje], show j'.Goal = je.Goal by rw [hje], ← hjT]
  clear hje gj hj2 hjl hv3
  have ho := own18_spec (W0 := W0) ge
  rw [hjc] at ho
  refine ops_call rfl rfl ho fun r5 H5 B hl5 ⟨v5, er, eB, eH⟩ => ?_
  subst er eB eH
  refine ops_freeze v5 fun H6 hl6 hv5 => ?_
  obtain ⟨b5, c5, rfl, _, _⟩ := hv5.1.shape
  have ge5 : rJob H6 (je.cv (.slice b5 je.Taken.length c5)) je := by obtain ⟨_, _, a1, a2, a3, a4, _⟩ := ge; exact ⟨_, rfl, a1, a2, a3, a4, hv5⟩
  have hp := plan_any (W0 := W0) (hT4.mono hl6) (hG.mono hl6) ge5 (by omega)
  refine ops_call rfl rfl hp fun r7 H7 B hl7 ⟨v7, er, eB⟩ => ?_
  subst er eB
  refine ops_freeze v7 fun H8 hl8 hv7 => ?_
  obtain ⟨b7, c7, rfl, _, _⟩ := hv7.1.shape
  have hl48 := hl6.trans (hl7.trans hl8)
  have hT8 := hT4.mono hl48
  have hG8 := hG.mono hl48
  have gm8 := RdOk.mono (R := rMap) hl48 gm
  have ge8 := RdOk.mono (R := rJob) hl48 ge
  have hw := hG.good.1.1
  obtain ⟨_, xe, fa1, fa2, fa3, fa4, htk⟩ := ge8
  simp only [Job.cv, List.cons.injEq, true_and, and_true] at xe
  subst xe
  refine walk ?_
  refine ops_alloc rfl fun p7 _ => ?_
  refine walkG ?_
  refine ex_if rfl (fun hc => ?_) (fun hc => ?_)
  · have hlk : lookV m je = planC m je := by
      rcases planC_cases (m := m) (j := je) with ⟨_, b, _⟩ | ⟨_, b, _⟩ | h
      · exact b.symm
      · exact absurd b hc.2
      · exact absurd (hasP_ok h).2.1 hc.1
    refine walk ?_
    refine ops_pcall rfl rfl (error18_spec gm8 hw fa2 fa4) ?_
    rw [hlk]
    refine walk ?_
    try rw [decide_eq_true (p := planC m je = planC m je) rfl]
    refine fin0 ?_
    exact ⟨by simp, rfl⟩
  have h00 : lookV m je = 0 := by
    rcases planC_cases (m := m) (j := je) with ⟨a, b, _⟩ | ⟨a, _, _⟩ | h
    · exact absurd ⟨by rw [b]; exact a, fun e => a (planC_180 e).1⟩ hc
    · exact a
    · exact h.1
  obtain ⟨⟨hfc, hfg⟩, hN1, hT1⟩ := look_ok h00
  refine walk ?_
  refine ops_bsN rfl rfl fun pb _ => ?_
  refine ops_frzR .here fun H9 hl9 hr9 => ?_
  have heNn : je.N.toNat = q + 1 := by omega
  have hs1 : SlB rInt 1 8 H9 (.slice (some ⟨pb, 0, none⟩) 1 1) ([] ++ [je.Cell]) := ints_lit (xs := [je.Cell]) hr9 (by intro x hx; rw [List.mem_singleton.1 hx]; exact fa1) (by simp)
  have hev := every_spec (W0 := W0) (m := m) (goal := je.Goal) (t := je.Tick) (n := q + 1) hG.good hfg.2 ⟨by omega, by omega⟩ ⟨by omega, by omega⟩ q (RdOk.mono (R := rMap) hl9 gm8) (htk.mono hl9) hs1 (by simp; omega) hfc (fun e => absurd rfl e)
  rw [← heN, ← heNn] at hev
  refine ops_call rfl rfl hev fun r10 H10 B hl10 ⟨⟨l, hl, hE⟩, eB⟩ => ?_
  subst eB
  obtain ⟨bl, cl, rfl, _, _⟩ := hl.1.shape
  have hl810 := hl9.trans hl10
  by_cases hP : hasP m je
  rotate_left
  · have hc180 : planC m je = 180 := by
      rcases planC_cases (m := m) (j := je) with ⟨a, _, _⟩ | ⟨_, b, _⟩ | h
      · exact absurd h00 a
      · exact b
      · exact absurd h hP
    have hl0 : l = [] := every_none h00 hP hE
    rw [hc180, hl0]
    refine walk ?_
    refine fin0 ?_
    exact ⟨by simp, rfl⟩
  obtain ⟨hne, hok, hlen, hbet⟩ := every_some hP hE
  obtain ⟨hck, hc0, hkeys⟩ := planRt_check hP
  obtain ⟨hst, hrne, hrlen, hrok, hrcs⟩ := planRt_ok hP
  have hr8 : rRoute H8 ((planRt m je).cv (.slice b7 (planRt m je).Cells.length c7)) (planRt m je) := ⟨_, rfl, by rw [hst]; exact fa2, hv7⟩
  have hr10 := RdOk.mono (R := rRoute) hl810 hr8
  have hcp := check_spec (W0 := W0) (hG8.mono hl810) hr10
  rw [hck] at hcp
  have hlp : 0 < l.length := List.length_pos_iff.2 hne
  have hrp : 0 < (planRt m je).Cells.length := List.length_pos_iff.2 hrne
  have hc1 : (planRt m je).Cells[0] = je.Cell := by rw [List.getElem?_eq_getElem hrp] at hc0; exact Option.some.inj hc0
  rw [(hasP_ok hP).2.1]
  refine walk ?_
  have hlN : ((planRt m je).Cells.length : Int) = je.N := by omega
  refine ex_any 3 [row p7 36 ((planRt m je).cv (.slice b7 (planRt m je).Cells.length c7))] ?_
  (first | refine gny_p 0 rfl rfl rfl ?_ | refine gny_ld 0 rfl rfl rfl rfl ?_ | refine gny_ldH 0 rfl rfl rfl ‹HRow _ _ 0 _› rfl ?_ | refine gny_T 0 rfl rfl rfl ?_ | refine gny_F 0 rfl rfl rfl ?_ | refine gny_B 0 rfl rfl rfl ?_ | refine gny_skip 0 rfl rfl ?_ | refine gny_sp 0 rfl rfl rfl ?_ | refine gny_sB 0 rfl rfl rfl ?_ | refine gny_sld 0 rfl rfl rfl rfl ?_ | refine gny_sldH 0 rfl rfl rfl ‹HRow _ _ 0 _› rfl ?_ | refine gny_ldN 0 rfl rfl rfl rfl ?_ | refine gny_bld 0 rfl rfl rfl ?_); (first | refine gny_p 1 rfl rfl rfl ?_ | refine gny_ld 1 rfl rfl rfl rfl ?_ | refine gny_ldH 1 rfl rfl rfl ‹HRow _ _ 0 _› rfl ?_ | refine gny_T 1 rfl rfl rfl ?_ | refine gny_F 1 rfl rfl rfl ?_ | refine gny_B 1 rfl rfl rfl ?_ | refine gny_skip 1 rfl rfl ?_ | refine gny_sp 1 rfl rfl rfl ?_ | refine gny_sB 1 rfl rfl rfl ?_ | refine gny_sld 1 rfl rfl rfl rfl ?_ | refine gny_sldH 1 rfl rfl rfl ‹HRow _ _ 0 _› rfl ?_ | refine gny_ldN 1 rfl rfl rfl rfl ?_ | refine gny_bld 1 rfl rfl rfl ?_)
  refine gny_call 2 rfl rfl rfl hcp fun r11 H11 B hl11 ⟨er, eB⟩ => ?_
  subst er eB
  refine ⟨(by (repeat (first | exact Sub.refl _ | exact Sub.nil _ | (apply sub_pick; (repeat (first | exact Has.here | apply Has.there)); skip) | apply Sub.drop))), ?_⟩
  have hl811 := hl810.trans hl11
  have hv11 := (hv7.mono hl811).1
  refine any_stage 33 [row p7 36 ((planRt m je).cv (.slice b7 (planRt m je).Cells.length c7)), row p3 27 (je.cv (.slice b3 je.Taken.length c3))] ?_
  (first | refine gny_p 3 rfl rfl rfl ?_ | refine gny_ld 3 rfl rfl rfl rfl ?_ | refine gny_ldH 3 rfl rfl rfl ‹HRow _ _ 0 _› rfl ?_ | refine gny_T 3 rfl rfl rfl ?_ | refine gny_F 3 rfl rfl rfl ?_ | refine gny_B 3 rfl rfl rfl ?_ | refine gny_skip 3 rfl rfl ?_ | refine gny_sp 3 rfl rfl rfl ?_ | refine gny_sB 3 rfl rfl rfl ?_ | refine gny_sld 3 rfl rfl rfl rfl ?_ | refine gny_sldH 3 rfl rfl rfl ‹HRow _ _ 0 _› rfl ?_ | refine gny_ldN 3 rfl rfl rfl rfl ?_ | refine gny_bld 3 rfl rfl rfl ?_); (first | refine gny_p 4 rfl rfl rfl ?_ | refine gny_ld 4 rfl rfl rfl rfl ?_ | refine gny_ldH 4 rfl rfl rfl ‹HRow _ _ 0 _› rfl ?_ | refine gny_T 4 rfl rfl rfl ?_ | refine gny_F 4 rfl rfl rfl ?_ | refine gny_B 4 rfl rfl rfl ?_ | refine gny_skip 4 rfl rfl ?_ | refine gny_sp 4 rfl rfl rfl ?_ | refine gny_sB 4 rfl rfl rfl ?_ | refine gny_sld 4 rfl rfl rfl rfl ?_ | refine gny_sldH 4 rfl rfl rfl ‹HRow _ _ 0 _› rfl ?_ | refine gny_ldN 4 rfl rfl rfl rfl ?_ | refine gny_bld 4 rfl rfl rfl ?_); (first | refine gny_p 5 rfl rfl rfl ?_ | refine gny_ld 5 rfl rfl rfl rfl ?_ | refine gny_ldH 5 rfl rfl rfl ‹HRow _ _ 0 _› rfl ?_ | refine gny_T 5 rfl rfl rfl ?_ | refine gny_F 5 rfl rfl rfl ?_ | refine gny_B 5 rfl rfl rfl ?_ | refine gny_skip 5 rfl rfl ?_ | refine gny_sp 5 rfl rfl rfl ?_ | refine gny_sB 5 rfl rfl rfl ?_ | refine gny_sld 5 rfl rfl rfl rfl ?_ | refine gny_sldH 5 rfl rfl rfl ‹HRow _ _ 0 _› rfl ?_ | refine gny_ldN 5 rfl rfl rfl rfl ?_ | refine gny_bld 5 rfl rfl rfl ?_); (first | refine gny_p 6 rfl rfl rfl ?_ | refine gny_ld 6 rfl rfl rfl rfl ?_ | refine gny_ldH 6 rfl rfl rfl ‹HRow _ _ 0 _› rfl ?_ | refine gny_T 6 rfl rfl rfl ?_ | refine gny_F 6 rfl rfl rfl ?_ | refine gny_B 6 rfl rfl rfl ?_ | refine gny_skip 6 rfl rfl ?_ | refine gny_sp 6 rfl rfl rfl ?_ | refine gny_sB 6 rfl rfl rfl ?_ | refine gny_sld 6 rfl rfl rfl rfl ?_ | refine gny_sldH 6 rfl rfl rfl ‹HRow _ _ 0 _› rfl ?_ | refine gny_ldN 6 rfl rfl rfl rfl ?_ | refine gny_bld 6 rfl rfl rfl ?_)
  refine gny_el 7 8 (jj := 0) rfl rfl rfl rfl rfl hv11 hrp ?_
  rw [hc1]
  (first | refine gny_p 9 rfl rfl rfl ?_ | refine gny_ld 9 rfl rfl rfl rfl ?_ | refine gny_ldH 9 rfl rfl rfl ‹HRow _ _ 0 _› rfl ?_ | refine gny_T 9 rfl rfl rfl ?_ | refine gny_F 9 rfl rfl rfl ?_ | refine gny_B 9 rfl rfl rfl ?_ | refine gny_skip 9 rfl rfl ?_ | refine gny_sp 9 rfl rfl rfl ?_ | refine gny_sB 9 rfl rfl rfl ?_ | refine gny_sld 9 rfl rfl rfl rfl ?_ | refine gny_sldH 9 rfl rfl rfl ‹HRow _ _ 0 _› rfl ?_ | refine gny_ldN 9 rfl rfl rfl rfl ?_ | refine gny_bld 9 rfl rfl rfl ?_); (first | refine gny_p 10 rfl rfl rfl ?_ | refine gny_ld 10 rfl rfl rfl rfl ?_ | refine gny_ldH 10 rfl rfl rfl ‹HRow _ _ 0 _› rfl ?_ | refine gny_T 10 rfl rfl rfl ?_ | refine gny_F 10 rfl rfl rfl ?_ | refine gny_B 10 rfl rfl rfl ?_ | refine gny_skip 10 rfl rfl ?_ | refine gny_sp 10 rfl rfl rfl ?_ | refine gny_sB 10 rfl rfl rfl ?_ | refine gny_sld 10 rfl rfl rfl rfl ?_ | refine gny_sldH 10 rfl rfl rfl ‹HRow _ _ 0 _› rfl ?_ | refine gny_ldN 10 rfl rfl rfl rfl ?_ | refine gny_bld 10 rfl rfl rfl ?_); (first | refine gny_p 11 rfl rfl rfl ?_ | refine gny_ld 11 rfl rfl rfl rfl ?_ | refine gny_ldH 11 rfl rfl rfl ‹HRow _ _ 0 _› rfl ?_ | refine gny_T 11 rfl rfl rfl ?_ | refine gny_F 11 rfl rfl rfl ?_ | refine gny_B 11 rfl rfl rfl ?_ | refine gny_skip 11 rfl rfl ?_ | refine gny_sp 11 rfl rfl rfl ?_ | refine gny_sB 11 rfl rfl rfl ?_ | refine gny_sld 11 rfl rfl rfl rfl ?_ | refine gny_sldH 11 rfl rfl rfl ‹HRow _ _ 0 _› rfl ?_ | refine gny_ldN 11 rfl rfl rfl rfl ?_ | refine gny_bld 11 rfl rfl rfl ?_); (first | refine gny_p 12 rfl rfl rfl ?_ | refine gny_ld 12 rfl rfl rfl rfl ?_ | refine gny_ldH 12 rfl rfl rfl ‹HRow _ _ 0 _› rfl ?_ | refine gny_T 12 rfl rfl rfl ?_ | refine gny_F 12 rfl rfl rfl ?_ | refine gny_B 12 rfl rfl rfl ?_ | refine gny_skip 12 rfl rfl ?_ | refine gny_sp 12 rfl rfl rfl ?_ | refine gny_sB 12 rfl rfl rfl ?_ | refine gny_sld 12 rfl rfl rfl rfl ?_ | refine gny_sldH 12 rfl rfl rfl ‹HRow _ _ 0 _› rfl ?_ | refine gny_ldN 12 rfl rfl rfl rfl ?_ | refine gny_bld 12 rfl rfl rfl ?_); (first | refine gny_p 13 rfl rfl rfl ?_ | refine gny_ld 13 rfl rfl rfl rfl ?_ | refine gny_ldH 13 rfl rfl rfl ‹HRow _ _ 0 _› rfl ?_ | refine gny_T 13 rfl rfl rfl ?_ | refine gny_F 13 rfl rfl rfl ?_ | refine gny_B 13 rfl rfl rfl ?_ | refine gny_skip 13 rfl rfl ?_ | refine gny_sp 13 rfl rfl rfl ?_ | refine gny_sB 13 rfl rfl rfl ?_ | refine gny_sld 13 rfl rfl rfl rfl ?_ | refine gny_sldH 13 rfl rfl rfl ‹HRow _ _ 0 _› rfl ?_ | refine gny_ldN 13 rfl rfl rfl rfl ?_ | refine gny_bld 13 rfl rfl rfl ?_); (first | refine gny_p 14 rfl rfl rfl ?_ | refine gny_ld 14 rfl rfl rfl rfl ?_ | refine gny_ldH 14 rfl rfl rfl ‹HRow _ _ 0 _› rfl ?_ | refine gny_T 14 rfl rfl rfl ?_ | refine gny_F 14 rfl rfl rfl ?_ | refine gny_B 14 rfl rfl rfl ?_ | refine gny_skip 14 rfl rfl ?_ | refine gny_sp 14 rfl rfl rfl ?_ | refine gny_sB 14 rfl rfl rfl ?_ | refine gny_sld 14 rfl rfl rfl rfl ?_ | refine gny_sldH 14 rfl rfl rfl ‹HRow _ _ 0 _› rfl ?_ | refine gny_ldN 14 rfl rfl rfl rfl ?_ | refine gny_bld 14 rfl rfl rfl ?_); (first | refine gny_p 15 rfl rfl rfl ?_ | refine gny_ld 15 rfl rfl rfl rfl ?_ | refine gny_ldH 15 rfl rfl rfl ‹HRow _ _ 0 _› rfl ?_ | refine gny_T 15 rfl rfl rfl ?_ | refine gny_F 15 rfl rfl rfl ?_ | refine gny_B 15 rfl rfl rfl ?_ | refine gny_skip 15 rfl rfl ?_ | refine gny_sp 15 rfl rfl rfl ?_ | refine gny_sB 15 rfl rfl rfl ?_ | refine gny_sld 15 rfl rfl rfl rfl ?_ | refine gny_sldH 15 rfl rfl rfl ‹HRow _ _ 0 _› rfl ?_ | refine gny_ldN 15 rfl rfl rfl rfl ?_ | refine gny_bld 15 rfl rfl rfl ?_); (first | refine gny_p 16 rfl rfl rfl ?_ | refine gny_ld 16 rfl rfl rfl rfl ?_ | refine gny_ldH 16 rfl rfl rfl ‹HRow _ _ 0 _› rfl ?_ | refine gny_T 16 rfl rfl rfl ?_ | refine gny_F 16 rfl rfl rfl ?_ | refine gny_B 16 rfl rfl rfl ?_ | refine gny_skip 16 rfl rfl ?_ | refine gny_sp 16 rfl rfl rfl ?_ | refine gny_sB 16 rfl rfl rfl ?_ | refine gny_sld 16 rfl rfl rfl rfl ?_ | refine gny_sldH 16 rfl rfl rfl ‹HRow _ _ 0 _› rfl ?_ | refine gny_ldN 16 rfl rfl rfl rfl ?_ | refine gny_bld 16 rfl rfl rfl ?_); (first | refine gny_p 17 rfl rfl rfl ?_ | refine gny_ld 17 rfl rfl rfl rfl ?_ | refine gny_ldH 17 rfl rfl rfl ‹HRow _ _ 0 _› rfl ?_ | refine gny_T 17 rfl rfl rfl ?_ | refine gny_F 17 rfl rfl rfl ?_ | refine gny_B 17 rfl rfl rfl ?_ | refine gny_skip 17 rfl rfl ?_ | refine gny_sp 17 rfl rfl rfl ?_ | refine gny_sB 17 rfl rfl rfl ?_ | refine gny_sld 17 rfl rfl rfl rfl ?_ | refine gny_sldH 17 rfl rfl rfl ‹HRow _ _ 0 _› rfl ?_ | refine gny_ldN 17 rfl rfl rfl rfl ?_ | refine gny_bld 17 rfl rfl rfl ?_); (first | refine gny_p 18 rfl rfl rfl ?_ | refine gny_ld 18 rfl rfl rfl rfl ?_ | refine gny_ldH 18 rfl rfl rfl ‹HRow _ _ 0 _› rfl ?_ | refine gny_T 18 rfl rfl rfl ?_ | refine gny_F 18 rfl rfl rfl ?_ | refine gny_B 18 rfl rfl rfl ?_ | refine gny_skip 18 rfl rfl ?_ | refine gny_sp 18 rfl rfl rfl ?_ | refine gny_sB 18 rfl rfl rfl ?_ | refine gny_sld 18 rfl rfl rfl rfl ?_ | refine gny_sldH 18 rfl rfl rfl ‹HRow _ _ 0 _› rfl ?_ | refine gny_ldN 18 rfl rfl rfl rfl ?_ | refine gny_bld 18 rfl rfl rfl ?_); (first | refine gny_p 19 rfl rfl rfl ?_ | refine gny_ld 19 rfl rfl rfl rfl ?_ | refine gny_ldH 19 rfl rfl rfl ‹HRow _ _ 0 _› rfl ?_ | refine gny_T 19 rfl rfl rfl ?_ | refine gny_F 19 rfl rfl rfl ?_ | refine gny_B 19 rfl rfl rfl ?_ | refine gny_skip 19 rfl rfl ?_ | refine gny_sp 19 rfl rfl rfl ?_ | refine gny_sB 19 rfl rfl rfl ?_ | refine gny_sld 19 rfl rfl rfl rfl ?_ | refine gny_sldH 19 rfl rfl rfl ‹HRow _ _ 0 _› rfl ?_ | refine gny_ldN 19 rfl rfl rfl rfl ?_ | refine gny_bld 19 rfl rfl rfl ?_); (first | refine gny_p 20 rfl rfl rfl ?_ | refine gny_ld 20 rfl rfl rfl rfl ?_ | refine gny_ldH 20 rfl rfl rfl ‹HRow _ _ 0 _› rfl ?_ | refine gny_T 20 rfl rfl rfl ?_ | refine gny_F 20 rfl rfl rfl ?_ | refine gny_B 20 rfl rfl rfl ?_ | refine gny_skip 20 rfl rfl ?_ | refine gny_sp 20 rfl rfl rfl ?_ | refine gny_sB 20 rfl rfl rfl ?_ | refine gny_sld 20 rfl rfl rfl rfl ?_ | refine gny_sldH 20 rfl rfl rfl ‹HRow _ _ 0 _› rfl ?_ | refine gny_ldN 20 rfl rfl rfl rfl ?_ | refine gny_bld 20 rfl rfl rfl ?_); (first | refine gny_p 21 rfl rfl rfl ?_ | refine gny_ld 21 rfl rfl rfl rfl ?_ | refine gny_ldH 21 rfl rfl rfl ‹HRow _ _ 0 _› rfl ?_ | refine gny_T 21 rfl rfl rfl ?_ | refine gny_F 21 rfl rfl rfl ?_ | refine gny_B 21 rfl rfl rfl ?_ | refine gny_skip 21 rfl rfl ?_ | refine gny_sp 21 rfl rfl rfl ?_ | refine gny_sB 21 rfl rfl rfl ?_ | refine gny_sld 21 rfl rfl rfl rfl ?_ | refine gny_sldH 21 rfl rfl rfl ‹HRow _ _ 0 _› rfl ?_ | refine gny_ldN 21 rfl rfl rfl rfl ?_ | refine gny_bld 21 rfl rfl rfl ?_); (first | refine gny_p 22 rfl rfl rfl ?_ | refine gny_ld 22 rfl rfl rfl rfl ?_ | refine gny_ldH 22 rfl rfl rfl ‹HRow _ _ 0 _› rfl ?_ | refine gny_T 22 rfl rfl rfl ?_ | refine gny_F 22 rfl rfl rfl ?_ | refine gny_B 22 rfl rfl rfl ?_ | refine gny_skip 22 rfl rfl ?_ | refine gny_sp 22 rfl rfl rfl ?_ | refine gny_sB 22 rfl rfl rfl ?_ | refine gny_sld 22 rfl rfl rfl rfl ?_ | refine gny_sldH 22 rfl rfl rfl ‹HRow _ _ 0 _› rfl ?_ | refine gny_ldN 22 rfl rfl rfl rfl ?_ | refine gny_bld 22 rfl rfl rfl ?_); (first | refine gny_p 23 rfl rfl rfl ?_ | refine gny_ld 23 rfl rfl rfl rfl ?_ | refine gny_ldH 23 rfl rfl rfl ‹HRow _ _ 0 _› rfl ?_ | refine gny_T 23 rfl rfl rfl ?_ | refine gny_F 23 rfl rfl rfl ?_ | refine gny_B 23 rfl rfl rfl ?_ | refine gny_skip 23 rfl rfl ?_ | refine gny_sp 23 rfl rfl rfl ?_ | refine gny_sB 23 rfl rfl rfl ?_ | refine gny_sld 23 rfl rfl rfl rfl ?_ | refine gny_sldH 23 rfl rfl rfl ‹HRow _ _ 0 _› rfl ?_ | refine gny_ldN 23 rfl rfl rfl rfl ?_ | refine gny_bld 23 rfl rfl rfl ?_); (first | refine gny_p 24 rfl rfl rfl ?_ | refine gny_ld 24 rfl rfl rfl rfl ?_ | refine gny_ldH 24 rfl rfl rfl ‹HRow _ _ 0 _› rfl ?_ | refine gny_T 24 rfl rfl rfl ?_ | refine gny_F 24 rfl rfl rfl ?_ | refine gny_B 24 rfl rfl rfl ?_ | refine gny_skip 24 rfl rfl ?_ | refine gny_sp 24 rfl rfl rfl ?_ | refine gny_sB 24 rfl rfl rfl ?_ | refine gny_sld 24 rfl rfl rfl rfl ?_ | refine gny_sldH 24 rfl rfl rfl ‹HRow _ _ 0 _› rfl ?_ | refine gny_ldN 24 rfl rfl rfl rfl ?_ | refine gny_bld 24 rfl rfl rfl ?_); (first | refine gny_p 25 rfl rfl rfl ?_ | refine gny_ld 25 rfl rfl rfl rfl ?_ | refine gny_ldH 25 rfl rfl rfl ‹HRow _ _ 0 _› rfl ?_ | refine gny_T 25 rfl rfl rfl ?_ | refine gny_F 25 rfl rfl rfl ?_ | refine gny_B 25 rfl rfl rfl ?_ | refine gny_skip 25 rfl rfl ?_ | refine gny_sp 25 rfl rfl rfl ?_ | refine gny_sB 25 rfl rfl rfl ?_ | refine gny_sld 25 rfl rfl rfl rfl ?_ | refine gny_sldH 25 rfl rfl rfl ‹HRow _ _ 0 _› rfl ?_ | refine gny_ldN 25 rfl rfl rfl rfl ?_ | refine gny_bld 25 rfl rfl rfl ?_); (first | refine gny_p 26 rfl rfl rfl ?_ | refine gny_ld 26 rfl rfl rfl rfl ?_ | refine gny_ldH 26 rfl rfl rfl ‹HRow _ _ 0 _› rfl ?_ | refine gny_T 26 rfl rfl rfl ?_ | refine gny_F 26 rfl rfl rfl ?_ | refine gny_B 26 rfl rfl rfl ?_ | refine gny_skip 26 rfl rfl ?_ | refine gny_sp 26 rfl rfl rfl ?_ | refine gny_sB 26 rfl rfl rfl ?_ | refine gny_sld 26 rfl rfl rfl rfl ?_ | refine gny_sldH 26 rfl rfl rfl ‹HRow _ _ 0 _› rfl ?_ | refine gny_ldN 26 rfl rfl rfl rfl ?_ | refine gny_bld 26 rfl rfl rfl ?_); (first | refine gny_p 27 rfl rfl rfl ?_ | refine gny_ld 27 rfl rfl rfl rfl ?_ | refine gny_ldH 27 rfl rfl rfl ‹HRow _ _ 0 _› rfl ?_ | refine gny_T 27 rfl rfl rfl ?_ | refine gny_F 27 rfl rfl rfl ?_ | refine gny_B 27 rfl rfl rfl ?_ | refine gny_skip 27 rfl rfl ?_ | refine gny_sp 27 rfl rfl rfl ?_ | refine gny_sB 27 rfl rfl rfl ?_ | refine gny_sld 27 rfl rfl rfl rfl ?_ | refine gny_sldH 27 rfl rfl rfl ‹HRow _ _ 0 _› rfl ?_ | refine gny_ldN 27 rfl rfl rfl rfl ?_ | refine gny_bld 27 rfl rfl rfl ?_); (first | refine gny_p 28 rfl rfl rfl ?_ | refine gny_ld 28 rfl rfl rfl rfl ?_ | refine gny_ldH 28 rfl rfl rfl ‹HRow _ _ 0 _› rfl ?_ | refine gny_T 28 rfl rfl rfl ?_ | refine gny_F 28 rfl rfl rfl ?_ | refine gny_B 28 rfl rfl rfl ?_ | refine gny_skip 28 rfl rfl ?_ | refine gny_sp 28 rfl rfl rfl ?_ | refine gny_sB 28 rfl rfl rfl ?_ | refine gny_sld 28 rfl rfl rfl rfl ?_ | refine gny_sldH 28 rfl rfl rfl ‹HRow _ _ 0 _› rfl ?_ | refine gny_ldN 28 rfl rfl rfl rfl ?_ | refine gny_bld 28 rfl rfl rfl ?_); (first | refine gny_p 29 rfl rfl rfl ?_ | refine gny_ld 29 rfl rfl rfl rfl ?_ | refine gny_ldH 29 rfl rfl rfl ‹HRow _ _ 0 _› rfl ?_ | refine gny_T 29 rfl rfl rfl ?_ | refine gny_F 29 rfl rfl rfl ?_ | refine gny_B 29 rfl rfl rfl ?_ | refine gny_skip 29 rfl rfl ?_ | refine gny_sp 29 rfl rfl rfl ?_ | refine gny_sB 29 rfl rfl rfl ?_ | refine gny_sld 29 rfl rfl rfl rfl ?_ | refine gny_sldH 29 rfl rfl rfl ‹HRow _ _ 0 _› rfl ?_ | refine gny_ldN 29 rfl rfl rfl rfl ?_ | refine gny_bld 29 rfl rfl rfl ?_); (first | refine gny_p 30 rfl rfl rfl ?_ | refine gny_ld 30 rfl rfl rfl rfl ?_ | refine gny_ldH 30 rfl rfl rfl ‹HRow _ _ 0 _› rfl ?_ | refine gny_T 30 rfl rfl rfl ?_ | refine gny_F 30 rfl rfl rfl ?_ | refine gny_B 30 rfl rfl rfl ?_ | refine gny_skip 30 rfl rfl ?_ | refine gny_sp 30 rfl rfl rfl ?_ | refine gny_sB 30 rfl rfl rfl ?_ | refine gny_sld 30 rfl rfl rfl rfl ?_ | refine gny_sldH 30 rfl rfl rfl ‹HRow _ _ 0 _› rfl ?_ | refine gny_ldN 30 rfl rfl rfl rfl ?_ | refine gny_bld 30 rfl rfl rfl ?_); (first | refine gny_p 31 rfl rfl rfl ?_ | refine gny_ld 31 rfl rfl rfl rfl ?_ | refine gny_ldH 31 rfl rfl rfl ‹HRow _ _ 0 _› rfl ?_ | refine gny_T 31 rfl rfl rfl ?_ | refine gny_F 31 rfl rfl rfl ?_ | refine gny_B 31 rfl rfl rfl ?_ | refine gny_skip 31 rfl rfl ?_ | refine gny_sp 31 rfl rfl rfl ?_ | refine gny_sB 31 rfl rfl rfl ?_ | refine gny_sld 31 rfl rfl rfl rfl ?_ | refine gny_sldH 31 rfl rfl rfl ‹HRow _ _ 0 _› rfl ?_ | refine gny_ldN 31 rfl rfl rfl rfl ?_ | refine gny_bld 31 rfl rfl rfl ?_); (first | refine gny_p 32 rfl rfl rfl ?_ | refine gny_ld 32 rfl rfl rfl rfl ?_ | refine gny_ldH 32 rfl rfl rfl ‹HRow _ _ 0 _› rfl ?_ | refine gny_T 32 rfl rfl rfl ?_ | refine gny_F 32 rfl rfl rfl ?_ | refine gny_B 32 rfl rfl rfl ?_ | refine gny_skip 32 rfl rfl ?_ | refine gny_sp 32 rfl rfl rfl ?_ | refine gny_sB 32 rfl rfl rfl ?_ | refine gny_sld 32 rfl rfl rfl rfl ?_ | refine gny_sldH 32 rfl rfl rfl ‹HRow _ _ 0 _› rfl ?_ | refine gny_ldN 32 rfl rfl rfl rfl ?_ | refine gny_bld 32 rfl rfl rfl ?_)
  refine any_rest rfl ?_
  refine walk ?_
  have hks := pKeys_spec (W0 := W0) (hT8.mono hl811) (RdOk.mono (R := rRoute) hl811 hr8)
  refine ops_call rfl rfl hks fun r13 H13 B hl13 ⟨hv13, eB⟩ => ?_
  subst eB
  obtain ⟨b13, c13, rfl, _, _⟩ := hv13.1.shape
  have hkey : ∀ q, q ∈ (keysL (planRt m je)).map sb → q ∉ je.Taken := fun q hq => by
    obtain ⟨y, hy, rfl⟩ := List.mem_map.1 hq
    exact hkeys y hy
  generalize (keysL (planRt m je)).map sb = ks at *
  have hl813 := hl811.trans hl13
  have htk13 := (htk.mono hl813).1
  refine walk ?_
  refine ex_loop (σ := Nat) (fun k => k ≤ ks.length) (fun k => [(2, .pointer (some ⟨p2, 0, none⟩)), (3, .pointer (some ⟨p3, 0, none⟩)), (7, .pointer (some ⟨p7, 0, none⟩)), (8, .slice bl l.length cl), (115, .slice b13 ks.length c13), (116, I ks.length), (117, I k)]) (fun _ => H13) (fun _ => row p7 36 ((planRt m je).cv (.slice b7 (planRt m je).Cells.length c7)) :: row p3 27 (je.cv (.slice b3 je.Taken.length c3)) :: row p2 24 (m.cv s0) :: R) (fun k => ks.length - k) 0 (Nat.zero_le _) fun k hk0 K hL => ?_
  refine walk ?_
  refine ex_if rfl (fun hk => ?_) (fun hk => ?_)
  · have hk1 : k < ks.length := by omega
    have hk13 := hv13.1
    have hkm := hkey _ (List.getElem_mem hk1)
    refine walk ?_
    generalize ks[k] = s at *
    refine ex_loop (σ := Nat) (fun i => i ≤ je.Taken.length) (fun i => [(2, .pointer (some ⟨p2, 0, none⟩)), (3, .pointer (some ⟨p3, 0, none⟩)), (7, .pointer (some ⟨p7, 0, none⟩)), (8, .slice bl l.length cl), (10, .string s), (115, .slice b13 ks.length c13), (116, I ks.length), (117, I k), (122, .slice b3 je.Taken.length c3), (123, I je.Taken.length), (124, I i)]) (fun _ => H13) (fun _ => row p7 36 ((planRt m je).cv (.slice b7 (planRt m je).Cells.length c7)) :: row p3 27 (je.cv (.slice b3 je.Taken.length c3)) :: row p2 24 (m.cv s0) :: R) (fun i => je.Taken.length - i) 0 (Nat.zero_le _) fun i hi0 K2 hL2 => ?_
    refine walk ?_
    refine ex_if rfl (fun hi => ?_) (fun hi => ?_)
    · have hi1 : i < je.Taken.length := by omega
      have him := List.getElem_mem hi1
      refine walk ?_
      refine ex_if rfl (fun hx => ?_) (fun hx => ?_)
      · exact absurd (by rw [hx]; exact him) hkm
      · refine walk ?_
        refine out_next hL2 (i + 1) (by omega)
    · clear hL2
      refine walk ?_
      refine out_next hL (k + 1) (by omega)
  · clear hL
    have hbt := better18_spec (W0 := W0) (RdOk.mono (R := rMap) hl813 gm8) hw hfg.2 (hl.mono (hl11.trans hl13)).1 (hv7.mono hl813).1 hne (by rw [hlen, hrlen]) (fun x hx => (ok_free hok x hx).2) hrcs
    rw [decide_eq_false (p := betN _ _ _ _) hbet] at hbt
    refine walk ?_
    refine ops_pcall rfl rfl hbt ?_
    refine walk ?_
    refine fin0 ?_
    exact ⟨rfl, rfl⟩
end Go.Proofs.YtadahmihkbpglaaDoor
