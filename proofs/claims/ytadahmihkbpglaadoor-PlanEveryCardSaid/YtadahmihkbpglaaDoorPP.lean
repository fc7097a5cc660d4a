/- PlanMore, walked. -/
import Derived.Test.YtadahmihkbpglaaDoorPL
import Derived.Test.YtadahmihkbpglaaDoorPO
set_option linter.unusedVariables false
set_option linter.unusedSimpArgs false
namespace Go.Proofs.YtadahmihkbpglaaDoor
open Go Go.Sx Go.Proofs
/-- what holds where there is a plan -/
theorem hasP_ok {m : Map} {j : Job} (h : hasP m j) : ((freeC m j.Cell ∧ freeC m j.Goal) ∧ (1 ≤ j.N ∧ j.N ≤ 24) ∧ (0 ≤ j.Tick ∧ j.Tick + j.N - 1 ≤ 1073741824)) ∧ planC m j = 0 ∧ planRt m j = ⟨j.Tick, planP m j.Taken j.Goal (j.N - 1).toNat j.Tick j.Cell⟩ :=
  ⟨look_ok h.1, by unfold planC; rw [if_neg (fun e => e h.1), if_pos h], by unfold planRt; rw [if_pos h]⟩
theorem planC_cases {m : Map} {j : Job} : (lookV m j ≠ 0 ∧ planC m j = lookV m j ∧ ¬ hasP m j) ∨ (lookV m j = 0 ∧ planC m j = 180 ∧ ¬ hasP m j) ∨ hasP m j := by
  by_cases h : hasP m j
  · exact .inr (.inr h)
  by_cases h0 : lookV m j = 0
  · exact .inr (.inl ⟨h0, by unfold planC; rw [if_neg (fun e => e h0), if_neg h], h⟩)
  · exact .inl ⟨h0, by unfold planC; rw [if_pos h0], h⟩
/-- the plan as a route -/
theorem planRt_ok {m : Map} {j : Job} (h : hasP m j) : (planRt m j).Start = j.Tick ∧ (planRt m j).Cells ≠ [] ∧ (planRt m j).Cells.length = j.N.toNat ∧ okM m j.Taken j.Tick (planRt m j).Cells ∧ ∀ x ∈ (planRt m j).Cells, isC m x := by
  obtain ⟨⟨hf, hN, hT⟩, hc, hr⟩ := hasP_ok h
  obtain ⟨hok, _⟩ := plan_good (m := m) (tk := j.Taken) (goal := j.Goal) (k := (j.N - 1).toNat) (t := j.Tick) (c := j.Cell) (by have : bigT = 9223372036854775807 := rfl; omega) h.2
  obtain ⟨l, e, hl⟩ := planP_head (m := m) (tk := j.Taken) (goal := j.Goal) (k := (j.N - 1).toNat) (t := j.Tick) (c := j.Cell)
  rw [hr]
  refine ⟨rfl, by rw [e]; simp, by rw [e, List.length_cons, hl]; omega, hok, fun x hx => (ok_free hok x hx).2⟩
def moreJ (j : Job) (more : List ByteArray) : Job := ⟨j.Cell, j.Tick, j.Goal, j.N, j.Taken ++ more⟩
/-- with more taken -/
theorem more_code {m : Map} {j : Job} {more : List ByteArray} (h : planC m j ≠ 0) : planC m (moreJ j more) = planC m j := by
  have hl : lookV m (moreJ j more) = lookV m j := rfl
  rcases planC_cases (m := m) (j := j) with ⟨h0, h1, _⟩ | ⟨h0, h1, h2⟩ | h2
  · rw [h1]
    unfold planC
    rw [hl, if_pos h0]
  · have hno : ¬ hasP m (moreJ j more) := fun e => by
      obtain ⟨_, hN, hT⟩ := look_ok h0
      have hnone : planT m j.Taken j.Goal (j.N - 1).toNat j.Tick j.Cell = none := by
        cases hp : planT m j.Taken j.Goal (j.N - 1).toNat j.Tick j.Cell with
        | none => rfl
        | some x => exact absurd ⟨h0, by rw [hp]; rfl⟩ h2
      have := (plan_moreM (m := m) (tk := j.Taken) (more := more) (goal := j.Goal) (k := (j.N - 1).toNat) (t := j.Tick) (c := j.Cell) (by have : bigT = 9223372036854775807 := rfl; omega)).1 hnone
      have e2 := e.2
      simp only [moreJ] at e2
      rw [this] at e2
      cases e2
    rw [h1]
    unfold planC
    rw [hl, if_neg (fun e => e h0), if_neg hno]
  · exact absurd (hasP_ok h2).2.1 h
theorem more_stays {m : Map} {j : Job} {more : List ByteArray} (h : hasP m j) (hn : ∀ q ∈ keysL (planRt m j), sb q ∉ j.Taken ++ more) : hasP m (moreJ j more) ∧ planRt m (moreJ j more) = planRt m j := by
  obtain ⟨⟨hf, hN, hT⟩, hc, hr⟩ := hasP_ok h
  have hb : j.Tick + ((j.N - 1).toNat : Int) + 1 ≤ bigT := by have : bigT = 9223372036854775807 := rfl; omega
  obtain ⟨l, e, hl⟩ := planP_head (m := m) (tk := j.Taken) (goal := j.Goal) (k := (j.N - 1).toNat) (t := j.Tick) (c := j.Cell)
  have hp : plainR (planRt m j) := by rw [hr, e]; simp only [plainR, List.length_cons, tickI]; omega
  unfold keysL at hn
  rw [if_pos hp, hr] at hn
  obtain ⟨h1, h2⟩ := (plan_moreM (m := m) (tk := j.Taken) (more := more) (goal := j.Goal) (k := (j.N - 1).toNat) (t := j.Tick) (c := j.Cell) hb).2.1 h.2 hn
  have hh : hasP m (moreJ j more) := ⟨h.1, h1⟩
  refine ⟨hh, ?_⟩
  rw [(hasP_ok hh).2.2, hr]
  show (⟨j.Tick, planP m (j.Taken ++ more) j.Goal (j.N - 1).toNat j.Tick j.Cell⟩ : Route) = _
  rw [h2]
theorem more_worse {m : Map} {j : Job} {more : List ByteArray} (h : hasP m j) (h' : hasP m (moreJ j more)) : ¬ betN j.Goal (distM m j.Goal) (planRt m (moreJ j more)).Cells (planRt m j).Cells := by
  obtain ⟨⟨hf, hN, hT⟩, hc, hr⟩ := hasP_ok h
  have hb : j.Tick + ((j.N - 1).toNat : Int) + 1 ≤ bigT := by have : bigT = 9223372036854775807 := rfl; omega
  have h3 := (plan_moreM (m := m) (tk := j.Taken) (more := more) (goal := j.Goal) (k := (j.N - 1).toNat) (t := j.Tick) (c := j.Cell) hb).2.2 h'.2
  rw [(hasP_ok h').2.2, hr]
  show ¬ betN j.Goal (distM m j.Goal) (planP m (j.Taken ++ more) j.Goal (j.N - 1).toNat j.Tick j.Cell) (planP m j.Taken j.Goal (j.N - 1).toNat j.Tick j.Cell)
  obtain ⟨l, e, hl⟩ := planP_head (m := m) (tk := j.Taken) (goal := j.Goal) (k := (j.N - 1).toNat) (t := j.Tick) (c := j.Cell)
  obtain ⟨l', e', hl'⟩ := planP_head (m := m) (tk := j.Taken ++ more) (goal := j.Goal) (k := (j.N - 1).toNat) (t := j.Tick) (c := j.Cell)
  rw [bet_iff (t := j.Tick) j.Goal (distM m j.Goal) (by rw [e']; simp) (by rw [e, e', List.length_cons, List.length_cons, hl, hl']) (by rw [e', List.length_cons, hl']; omega)]
  exact h3
set_option maxRecDepth 100000 in
set_option maxHeartbeats 32000000 in
theorem planMore_spec {W0 : World} {H : Heap} {c d : List Value} {v : Value} {m : Map} {j : Job} {more : List ByteArray} (hT : TabH Tryd.prog H) (h0 : rMap H c m) (h1 : rJob H d j) (h2 : SlB rStr 1 16 H v more) :
    Ct Tryd.prog 5 #[.agg c.toArray, .agg d.toArray, v] W0 H [] (fun r H' B => r = .bool true ∧ B = []) := by
  refine Ct.go (vs := [.agg c.toArray, .agg d.toArray, v]) fun R => ?_
  have h2' := h2
  obtain ⟨bm, cm, rfl, _, _⟩ := h2.1.shape
  have g0 := h0
  have k0 := h1
  obtain ⟨s0, rfl, f1, f2, f3, h0⟩ := h0
  obtain ⟨s1, rfl, q1, q2, q3, q4, h1⟩ := h1
  refine walk ?_
  refine ops_box rfl rfl fun p2 _ => ?_
  refine ops_box rfl rfl fun p3 _ => ?_
  refine walk ?_
  refine ops_call (vs := []) rfl rfl (awake18_spec hT) fun r1 H1 B hl1 ⟨er, eB⟩ => ?_
  subst er eB
  refine walk ?_
  refine ops_call (vs := [.agg (m.cv s0).toArray]) rfl rfl (gNew_spec (RdOk.mono (R := rMap) hl1 g0)) fun r2 H2 B hl2 ⟨g, e, er, eB, h⟩ => ?_
  subst er eB
  have gm := RdOk.mono (R := rMap) (hl1.trans hl2) g0
  rcases h with ⟨hm, hG, rfl⟩ | ⟨hm, rfl, rfl⟩
  rotate_left
  · refine walkG ?_
    refine ops_pcall rfl rfl (rGood_spec gm) ?_
    rw [decide_eq_false hm]
    refine walkG ?_
    refine fin0 ?_
    exact ⟨rfl, rfl⟩
  have hGp := hG
  obtain ⟨⟨bg, s', mb, mm, rfl, _, _, _, _⟩, hgd, hfs⟩ := hGp
  refine walkG ?_
  have ho := own18_spec (W0 := W0) (RdOk.mono (R := rJob) (hl1.trans hl2) k0)
  refine ops_call rfl rfl ho fun r3 H3 B hl3 ⟨v3, er, eB, eH⟩ => ?_
  subst er eB eH
  refine ops_freeze v3 fun H4 hl4 hv3 => ?_
  have hjl := clip_len (j := j)
  have hj2 := clipJ2 (j := j)
  have hle : H.le H4 := hl1.trans (hl2.trans hl4)
  replace hG := hG.mono hl4
  replace gm := RdOk.mono (R := rMap) hl4 gm
  have gj : rJob H4 ((clipJ j).cv v3) (clipJ j) := ⟨_, rfl, q1, q2, q3, q4, hv3⟩
  have hT4 := hT.mono hle
  obtain ⟨b3, c3, rfl, _, _⟩ := hv3.1.shape
  clear hl4 hl3 hl2 hl1 h0 h1 k0 g0 ho
  generalize clipJ j = j' at *
  refine walk ?_
  have ho := own18_spec (W0 := W0) gj
  rw [hj2] at ho
  refine ops_call rfl rfl ho fun r5 H5 B hl5 ⟨v5, er, eB, eH⟩ => ?_
  subst er eB eH
  refine ops_freeze v5 fun H6 hl6 hv5 => ?_
  obtain ⟨b5, c5, rfl, _, _⟩ := hv5.1.shape
  have gj5 : rJob H6 (j'.cv (.slice b5 j'.Taken.length c5)) j' := by obtain ⟨_, _, a1, a2, a3, a4, _⟩ := gj; exact ⟨_, rfl, a1, a2, a3, a4, hv5⟩
  have hp := plan_any (W0 := W0) (hT4.mono hl6) (hG.mono hl6) gj5 (by omega)
  refine ops_call rfl rfl hp fun r7 H7 B hl7 ⟨v7, er, eB⟩ => ?_
  subst er eB
  refine ops_freeze v7 fun H8 hl8 hv7 => ?_
  obtain ⟨b7, c7, rfl, _, _⟩ := hv7.1.shape
  refine walk ?_
  refine ops_alloc rfl fun p9 _ => ?_
  have hl48 := hl6.trans (hl7.trans hl8)
  have gj8 : rJob H8 (j'.cv (.slice b3 j'.Taken.length c3)) j' := RdOk.mono (R := rJob) hl48 gj
  refine walk ?_
  have ho2 := own18_spec (W0 := W0) gj8
  rw [hj2] at ho2
  refine ops_call rfl rfl ho2 fun r8 H9 B hl9 ⟨v8, er, eB, eH⟩ => ?_
  subst er eB eH
  refine ops_shape v8 fun d8 e8 e _ _ _ => ?_
  subst e
  refine walk ?_
  refine ops_alloc rfl fun p10 _ => ?_
  refine walk ?_
  have hk20 : (min (more.length : Int) 20).toNat = (more.take 20).length := by simp; omega
  have h2a := (h2'.mono (hle.trans hl48)).1
  have h2s := slr_take (k := (more.take 20).length) h2a (by simp; omega)
  rw [show more.take (more.take 20).length = more.take 20 by simp [List.take_take]] at h2s
  have h20 : (more.take 20).length ≤ 20 := by simp; omega
  refine ex_any 7 [row p10 27 (j'.cv (.slice d8 j'.Taken.length e8))] ?_
  (first | refine gny_p 0 rfl rfl rfl ?_ | refine gny_ld 0 rfl rfl rfl rfl ?_ | refine gny_ldH 0 rfl rfl rfl ‹HRow _ _ 0 _› rfl ?_ | refine gny_T 0 rfl rfl rfl ?_ | refine gny_F 0 rfl rfl rfl ?_ | refine gny_B 0 rfl rfl rfl ?_ | refine gny_skip 0 rfl rfl ?_ | refine gny_sp 0 rfl rfl rfl ?_ | refine gny_sB 0 rfl rfl rfl ?_ | refine gny_sld 0 rfl rfl rfl rfl ?_ | refine gny_sldH 0 rfl rfl rfl ‹HRow _ _ 0 _› rfl ?_ | refine gny_ldN 0 rfl rfl rfl rfl ?_ | refine gny_bld 0 rfl rfl rfl ?_); (first | refine gny_p 1 rfl rfl rfl ?_ | refine gny_ld 1 rfl rfl rfl rfl ?_ | refine gny_ldH 1 rfl rfl rfl ‹HRow _ _ 0 _› rfl ?_ | refine gny_T 1 rfl rfl rfl ?_ | refine gny_F 1 rfl rfl rfl ?_ | refine gny_B 1 rfl rfl rfl ?_ | refine gny_skip 1 rfl rfl ?_ | refine gny_sp 1 rfl rfl rfl ?_ | refine gny_sB 1 rfl rfl rfl ?_ | refine gny_sld 1 rfl rfl rfl rfl ?_ | refine gny_sldH 1 rfl rfl rfl ‹HRow _ _ 0 _› rfl ?_ | refine gny_ldN 1 rfl rfl rfl rfl ?_ | refine gny_bld 1 rfl rfl rfl ?_); (first | refine gny_p 2 rfl rfl rfl ?_ | refine gny_ld 2 rfl rfl rfl rfl ?_ | refine gny_ldH 2 rfl rfl rfl ‹HRow _ _ 0 _› rfl ?_ | refine gny_T 2 rfl rfl rfl ?_ | refine gny_F 2 rfl rfl rfl ?_ | refine gny_B 2 rfl rfl rfl ?_ | refine gny_skip 2 rfl rfl ?_ | refine gny_sp 2 rfl rfl rfl ?_ | refine gny_sB 2 rfl rfl rfl ?_ | refine gny_sld 2 rfl rfl rfl rfl ?_ | refine gny_sldH 2 rfl rfl rfl ‹HRow _ _ 0 _› rfl ?_ | refine gny_ldN 2 rfl rfl rfl rfl ?_ | refine gny_bld 2 rfl rfl rfl ?_); (first | refine gny_p 3 rfl rfl rfl ?_ | refine gny_ld 3 rfl rfl rfl rfl ?_ | refine gny_ldH 3 rfl rfl rfl ‹HRow _ _ 0 _› rfl ?_ | refine gny_T 3 rfl rfl rfl ?_ | refine gny_F 3 rfl rfl rfl ?_ | refine gny_B 3 rfl rfl rfl ?_ | refine gny_skip 3 rfl rfl ?_ | refine gny_sp 3 rfl rfl rfl ?_ | refine gny_sB 3 rfl rfl rfl ?_ | refine gny_sld 3 rfl rfl rfl rfl ?_ | refine gny_sldH 3 rfl rfl rfl ‹HRow _ _ 0 _› rfl ?_ | refine gny_ldN 3 rfl rfl rfl rfl ?_ | refine gny_bld 3 rfl rfl rfl ?_); (first | refine gny_p 4 rfl rfl rfl ?_ | refine gny_ld 4 rfl rfl rfl rfl ?_ | refine gny_ldH 4 rfl rfl rfl ‹HRow _ _ 0 _› rfl ?_ | refine gny_T 4 rfl rfl rfl ?_ | refine gny_F 4 rfl rfl rfl ?_ | refine gny_B 4 rfl rfl rfl ?_ | refine gny_skip 4 rfl rfl ?_ | refine gny_sp 4 rfl rfl rfl ?_ | refine gny_sB 4 rfl rfl rfl ?_ | refine gny_sld 4 rfl rfl rfl rfl ?_ | refine gny_sldH 4 rfl rfl rfl ‹HRow _ _ 0 _› rfl ?_ | refine gny_ldN 4 rfl rfl rfl rfl ?_ | refine gny_bld 4 rfl rfl rfl ?_); (first | refine gny_p 5 rfl rfl rfl ?_ | refine gny_ld 5 rfl rfl rfl rfl ?_ | refine gny_ldH 5 rfl rfl rfl ‹HRow _ _ 0 _› rfl ?_ | refine gny_T 5 rfl rfl rfl ?_ | refine gny_F 5 rfl rfl rfl ?_ | refine gny_B 5 rfl rfl rfl ?_ | refine gny_skip 5 rfl rfl ?_ | refine gny_sp 5 rfl rfl rfl ?_ | refine gny_sB 5 rfl rfl rfl ?_ | refine gny_sld 5 rfl rfl rfl rfl ?_ | refine gny_sldH 5 rfl rfl rfl ‹HRow _ _ 0 _› rfl ?_ | refine gny_ldN 5 rfl rfl rfl rfl ?_ | refine gny_bld 5 rfl rfl rfl ?_); (first | refine gny_p 6 rfl rfl rfl ?_ | refine gny_ld 6 rfl rfl rfl rfl ?_ | refine gny_ldH 6 rfl rfl rfl ‹HRow _ _ 0 _› rfl ?_ | refine gny_T 6 rfl rfl rfl ?_ | refine gny_F 6 rfl rfl rfl ?_ | refine gny_B 6 rfl rfl rfl ?_ | refine gny_skip 6 rfl rfl ?_ | refine gny_sp 6 rfl rfl rfl ?_ | refine gny_sB 6 rfl rfl rfl ?_ | refine gny_sld 6 rfl rfl rfl rfl ?_ | refine gny_sldH 6 rfl rfl rfl ‹HRow _ _ 0 _› rfl ?_ | refine gny_ldN 6 rfl rfl rfl rfl ?_ | refine gny_bld 6 rfl rfl rfl ?_)
  rw [hk20]
  have hml : (j'.Taken ++ more.take 20).length ≤ 80 := by rw [List.length_append]; omega
  generalize more.take 20 = mo at *
  refine any_rest rfl ?_
  refine ops_appS rfl rfl h2s (by simp only [cap47]; omega) fun dk ek => ?_
  refine walk ?_
  refine ops_freeze (.slice dk (j'.Taken.length + mo.length) ek) fun H10 hl10 hvk => ?_
  have gk : rJob H10 ((moreJ j' mo).cv (.slice dk (j'.Taken.length + mo.length) ek)) (moreJ j' mo) := by obtain ⟨_, _, a1, a2, a3, a4, _⟩ := gj; exact ⟨_, rfl, a1, a2, a3, a4, hvk⟩
  have hp2 := plan_any (W0 := W0) (hT4.mono (hl48.trans hl10)) (hG.mono (hl48.trans hl10)) gk (by show (j'.Taken ++ mo).length ≤ 100; omega)
  refine ops_call rfl rfl hp2 fun r11 H11 B hl11 ⟨v11, er, eB⟩ => ?_
  subst er eB
  refine ops_freeze v11 fun H12 hl12 hv11 => ?_
  obtain ⟨b11, c11, rfl, _, _⟩ := hv11.1.shape
  have hl412 := hl48.trans (hl10.trans (hl11.trans hl12))
  refine walk ?_
  refine ops_alloc rfl fun p11 _ => ?_
  refine walk ?_
  refine ex_if rfl (fun he => ?_) (fun he => ?_)
  · refine walk ?_
    refine fin0 ?_
    exact ⟨by rw [decide_eq_true (more_code he)], rfl⟩
  have hP : hasP m j' := by
    rcases planC_cases (m := m) (j := j') with ⟨a, b, _⟩ | ⟨a, b, _⟩ | h
    · exact absurd (by rw [b]; exact a) he
    · exact absurd (by rw [b]; omega) he
    · exact h
  obtain ⟨⟨⟨hfc, hfg⟩, hN1, hT1⟩, _, _⟩ := hasP_ok hP
  obtain ⟨hst, hne, hlen, hok, hcs⟩ := planRt_ok hP
  have hr1 : rRoute H12 ((planRt m j').cv (.slice b7 (planRt m j').Cells.length c7)) (planRt m j') := ⟨_, rfl, by rw [hst]; unfold fits; omega, hv7.mono (hl10.trans (hl11.trans hl12))⟩
  have hks := pKeys_spec (W0 := W0) (hT4.mono hl412) hr1
  refine walk ?_
  refine ops_call rfl rfl hks fun r13 H13 B hl13 ⟨hv13, eB⟩ => ?_
  subst eB
  obtain ⟨b13, c13, rfl, _, _⟩ := hv13.1.shape
  have hkey : ∀ q, q ∈ (keysL (planRt m j')).map sb ↔ ∃ y ∈ keysL (planRt m j'), q = sb y := fun q => by simp [List.mem_map, eq_comm]
  generalize hkk : (keysL (planRt m j')).map sb = ks at *
  refine walk ?_
  refine ex_loop (σ := Nat × Bool) (fun s => s.1 ≤ ks.length ∧ (s.2 = true ↔ ∃ q ∈ ks.take s.1, q ∈ j'.Taken ++ mo)) (fun s => [(3, .pointer (some ⟨p2, 0, none⟩)), (4, .pointer (some ⟨p3, 0, none⟩)), (8, I (planC m j')), (9, .pointer (some ⟨p9, 0, none⟩)), (10, .pointer (some ⟨p10, 0, none⟩)), (11, .pointer (some ⟨p11, 0, none⟩)), (12, I (planC m (moreJ j' mo))), (13, .bool s.2), (66, .slice b13 ks.length c13), (67, I ks.length), (68, I s.1)]) (fun _ => H13) (fun _ => row p11 36 ((planRt m (moreJ j' mo)).cv (.slice b11 (planRt m (moreJ j' mo)).Cells.length c11)) :: row p10 27 ((moreJ j' mo).cv (.slice dk (j'.Taken.length + mo.length) ek)) :: row p9 36 ((planRt m j').cv (.slice b7 (planRt m j').Cells.length c7)) :: row p3 27 (j'.cv (.slice b3 j'.Taken.length c3)) :: row p2 24 (m.cv s0) :: R) (fun s => ks.length - s.1) (0, false) ⟨Nat.zero_le _, by simp⟩ fun ⟨k, b⟩ ⟨hk0, hb⟩ K hL => ?_
  simp only at hk0 hb
  dsimp only
  refine walk ?_
  refine ex_if rfl (fun hk => ?_) (fun hk => ?_)
  · have hk1 : k < ks.length := by omega
    have htk := List.take_succ_eq_append_getElem hk1
    have hk13 := hv13.1
    have hvk13 := (hvk.mono (hl11.trans (hl12.trans hl13))).1
    have hlk : (j'.Taken ++ mo).length = j'.Taken.length + mo.length := List.length_append
    refine walk ?_
    generalize ks[k] = q at *
    refine ex_loop (σ := Nat × Bool) (fun s => s.1 ≤ j'.Taken.length + mo.length ∧ (s.2 = true ↔ b = true ∨ q ∈ (j'.Taken ++ mo).take s.1)) (fun s => [(3, .pointer (some ⟨p2, 0, none⟩)), (4, .pointer (some ⟨p3, 0, none⟩)), (8, I (planC m j')), (9, .pointer (some ⟨p9, 0, none⟩)), (10, .pointer (some ⟨p10, 0, none⟩)), (11, .pointer (some ⟨p11, 0, none⟩)), (12, I (planC m (moreJ j' mo))), (13, .bool s.2), (15, .string q), (66, .slice b13 ks.length c13), (67, I ks.length), (68, I k), (73, .slice dk (j'.Taken.length + mo.length) ek), (74, I ((j'.Taken.length + mo.length : Nat) : Int)), (75, I s.1)]) (fun _ => H13) (fun _ => row p11 36 ((planRt m (moreJ j' mo)).cv (.slice b11 (planRt m (moreJ j' mo)).Cells.length c11)) :: row p10 27 ((moreJ j' mo).cv (.slice dk (j'.Taken.length + mo.length) ek)) :: row p9 36 ((planRt m j').cv (.slice b7 (planRt m j').Cells.length c7)) :: row p3 27 (j'.cv (.slice b3 j'.Taken.length c3)) :: row p2 24 (m.cv s0) :: R) (fun s => j'.Taken.length + mo.length - s.1) (0, b) ⟨Nat.zero_le _, by simp⟩ fun ⟨i, b'⟩ ⟨hi0, hb'⟩ K2 hL2 => ?_
    simp only at hi0 hb'
    dsimp only
    refine walk ?_
    refine ex_if rfl (fun hi => ?_) (fun hi => ?_)
    · have hi1 : i < (j'.Taken ++ mo).length := by omega
      have hti := List.take_succ_eq_append_getElem hi1
      refine walk ?_
      generalize (j'.Taken ++ mo)[i] = s at *
      have hstep : ∀ b'' : Bool, (b'' = true ↔ b' = true ∨ s = q) → (b'' = true ↔ b = true ∨ q ∈ (j'.Taken ++ mo).take (i + 1)) := fun b'' hb'' => by
        rw [hb'', hb', hti, List.mem_append, List.mem_singleton, eq_comm (a := q)]
        constructor
        · rintro ((h | h) | h)
          · exact .inl h
          · exact .inr (.inl h)
          · exact .inr (.inr h)
        · rintro (h | h | h)
          · exact .inl (.inl h)
          · exact .inl (.inr h)
          · exact .inr h
      cases b' with
      | true =>
        refine walk ?_
        refine out_next hL2 (i + 1, true) ⟨by simp only; omega, hstep _ (by simp)⟩
      | false =>
        refine walk ?_
        refine out_next hL2 (i + 1, decide (s = q)) ⟨by simp only; omega, hstep _ (by simp)⟩
    · clear hL2
      obtain rfl : i = j'.Taken.length + mo.length := by omega
      rw [List.take_of_length_le (by omega)] at hb'
      refine walk ?_
      refine out_next hL (k + 1, b') ⟨by simp only; omega, ?_⟩
      simp only
      rw [hb', hb, htk]
      constructor
      · rintro (⟨y, h1, h2⟩ | h)
        · exact ⟨y, List.mem_append_left _ h1, h2⟩
        · exact ⟨q, by simp, h⟩
      · rintro ⟨y, h1, h2⟩
        rcases List.mem_append.1 h1 with h1 | h1
        · exact .inl ⟨y, h1, h2⟩
        · rw [List.mem_singleton.1 h1] at h2; exact .inr h2
  clear hL
  obtain rfl : k = ks.length := by omega
  rw [List.take_length] at hb
  have hle13 := hl412.trans hl13
  cases b with
  | false =>
    have hno : ∀ q ∈ keysL (planRt m j'), sb q ∉ j'.Taken ++ mo := fun q hq h => by
      have := hb.2 ⟨sb q, (hkey _).2 ⟨q, hq, rfl⟩, h⟩
      cases this
    obtain ⟨hP', hrt⟩ := more_stays hP hno
    have hc' := (hasP_ok hP').2.1
    rw [hc', hrt]
    refine walk ?_
    refine ops_pcall rfl rfl (sameRoute_spec (RdOk.mono (R := rRoute) hl13 hr1) (y := planRt m j') (d := (planRt m j').cv (.slice b11 (planRt m j').Cells.length c11)) ⟨_, rfl, by rw [hst]; unfold fits; omega, by have := hv11.mono hl13; rw [hrt] at this; exact this⟩) ?_
    rw [decide_eq_true (p := _ = _) rfl]
    refine walk ?_
    refine fin0 ?_
    exact ⟨rfl, rfl⟩
  | true =>
    by_cases hP' : hasP m (moreJ j' mo)
    · have hc' := (hasP_ok hP').2.1
      have hw := more_worse hP hP'
      obtain ⟨hst', hne', hlen', hok', hcs'⟩ := planRt_ok hP'
      have hbt := better18_spec (W0 := W0) (RdOk.mono (R := rMap) hle13 gm) hG.good.1.1 hfg.2 (hv11.mono hl13).1 (hv7.mono (hl10.trans (hl11.trans (hl12.trans hl13)))).1 hne' (by rw [hlen, hlen']; rfl) hcs' hcs
      rw [decide_eq_false (p := betN _ _ _ _) hw] at hbt
      rw [hc']
      refine walk ?_
      refine ops_pcall rfl rfl hbt ?_
      refine walk ?_
      refine fin0 ?_
      exact ⟨rfl, rfl⟩
    · have hc' : planC m (moreJ j' mo) = 180 := by
        rcases planC_cases (m := m) (j := moreJ j' mo) with ⟨a, _, _⟩ | ⟨_, b, _⟩ | h
        · exact absurd hP.1 a
        · exact b
        · exact absurd h hP'
      rw [hc']
      refine walk ?_
      refine fin0 ?_
      exact ⟨rfl, rfl⟩
end Go.Proofs.YtadahmihkbpglaaDoor
