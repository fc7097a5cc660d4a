/- LockLoads, walked. -/
import Derived.Test.YtkhbfjkioehgfaaGreatDoorMT
set_option linter.unusedVariables false
set_option linter.unusedSimpArgs false
namespace Go.Proofs.YtkhbfjkioehgfaaGreatDoor
open Go Go.Sx Go.Proofs
theorem slr_all {α : Type} {R : Rd α} {sz : Nat} [RdOk R sz] {H : Heap} {v : Value} {xs : List α} (h : SlR R sz H v xs) : ∀ x ∈ xs, ∃ c, R H c x := fun x hx => by
  obtain ⟨cs, _, b⟩ := h
  obtain ⟨j, hj, rfl⟩ := List.getElem_of_mem hx
  obtain ⟨c, r, _, hc⟩ := b.get hj
  exact ⟨c, hc⟩
def clipR (q : Rec) : Rec := ⟨q.Kind, q.Txn, clipW q.Work, false, []⟩
set_option maxHeartbeats 32000000 in
set_option maxRecDepth 20000 in
theorem lockLoads_spec {W0 : World} {H : Heap} {v1 v2 v3 : Value} {holds : List Hold} {prep : List Rec} {script : List Op} (hP : PkH H) (h1 : SlB rHold 2 24 H v1 holds) (h2 : SlB rRec 9 120 H v2 prep) (h3 : SlB rOp 10 120 H v3 script) :
    Ct Tryz.prog 5 #[v1, v2, v3] W0 H [] (fun r H' B => r = .bool true ∧ B = []) := by
  refine Ct.go (vs := [v1, v2, v3]) fun R => ?_
  obtain ⟨b1, c1, rfl, hc1, hd1⟩ := h1.1.shape
  obtain ⟨b2, c2, rfl, hc2, hd2⟩ := h2.1.shape
  obtain ⟨b3, c3, rfl, hc3, hd3⟩ := h3.1.shape
  have hk1 : (min (holds.length : Int) 40).toNat = (holds.take 40).length := by simp; omega
  have ht1 := slr_takeG (j := (holds.take 40).length) h1.1 (by simp; omega)
  rw [show holds.take (holds.take 40).length = holds.take 40 by simp [List.take_take]] at ht1
  have hhk : ∀ h ∈ holds.take 40, h.Key.size ≤ cap47 ∧ fits h.Robot := fun h hh => by
    obtain ⟨c, _, k1, k2⟩ := slr_all h1.1 h (List.mem_of_mem_take hh)
    exact ⟨k1, k2⟩
  have hhl : (holds.take 40).length ≤ 40 := by simp; omega
  refine walk ?_
  refine ops_call (vs := []) rfl rfl awake14_spec fun r2 H2 B hl2 ⟨er, eB⟩ => ?_
  subst er eB
  refine walk ?_
  refine ops_mk0 (w := 24) rHold rfl fun ba => ?_
  refine walk ?_
  rw [hk1]
  refine ops_appS rfl rfl (ht1.mono hl2) (by rw [List.length_nil]; simp only [cap47]; omega) fun d1 e1 => ?_
  rw [List.nil_append, List.length_nil, Nat.zero_add]
  generalize holds.take 40 = ho at hhk hhl ⊢
  refine ops_freeze (.slice d1 ho.length e1) fun H3 hl3 hso => ?_
  refine walk ?_
  have hl03 : H.le H3 := hl2.trans hl3
  refine ex_loop (σ := Nat × Option Addr × Nat × Heap) (fun u => (u.1 ≤ prep.length ∧ u.1 ≤ 10) ∧ H3.le u.2.2.2 ∧ ∀ q ∈ (prep.take u.1).map clipR, okP q) (fun u => [(0, .slice d1 ho.length e1), (1, .slice b2 prep.length c2), (2, .slice b3 script.length c3), (7, .slice u.2.1 ((prep.take u.1).map clipR).length u.2.2.1), (8, I u.1)]) (fun u => u.2.2.2)
    (fun u => ownS rRec 9 120 47 u.2.2.2 (.slice u.2.1 ((prep.take u.1).map clipR).length u.2.2.1) ((prep.take u.1).map clipR) :: R) (fun u => prep.length - u.1) (0, none, 0, H3) ⟨⟨Nat.zero_le _, by omega⟩, .refl _, by simp⟩ (hs0 := ?_) fun ⟨k, d, e, HK⟩ ⟨⟨hk0, hk10⟩, hlK, hok⟩ K hL => ?_
  rotate_left
  · simp only [List.take_zero, List.map_nil, List.length_nil]
    refine Sub.trans ?_ ownS_nil
    (repeat (first | exact Sub.refl _ | exact Sub.nil _ | (apply sub_pick; (repeat (first | exact Has.here | apply Has.there)); skip) | apply Sub.drop))
  simp only at hk0 hk10 hlK hok
  dsimp only
  have hll : ((prep.take k).map clipR).length = k := by rw [List.length_map, List.length_take]; omega
  have h2K := h2.mono (hl03.trans hlK)
  refine walkG ?_
  refine ex_if rfl (fun hk => ?_) (fun hk => ?_)
  · have hk2 : k < prep.length := by omega
    have ht := List.take_succ_eq_append_getElem hk2
    refine walk ?_
    refine ex_any 20 [] ?_
    (first | refine gny_p 0 rfl rfl rfl ?_ | refine gny_ld 0 rfl rfl rfl rfl ?_ | refine gny_ldH 0 rfl rfl rfl ‹HRow _ _ 0 _› rfl ?_ | refine gny_T 0 rfl rfl rfl ?_ | refine gny_F 0 rfl rfl rfl ?_ | refine gny_B 0 rfl rfl rfl ?_ | refine gny_skip 0 rfl rfl ?_ | refine gny_sp 0 rfl rfl rfl ?_ | refine gny_sB 0 rfl rfl rfl ?_ | refine gny_sld 0 rfl rfl rfl rfl ?_ | refine gny_sldH 0 rfl rfl rfl ‹HRow _ _ 0 _› rfl ?_ | refine gny_ldN 0 rfl rfl rfl rfl ?_ | refine gny_bld 0 rfl rfl rfl ?_); (first | refine gny_p 1 rfl rfl rfl ?_ | refine gny_ld 1 rfl rfl rfl rfl ?_ | refine gny_ldH 1 rfl rfl rfl ‹HRow _ _ 0 _› rfl ?_ | refine gny_T 1 rfl rfl rfl ?_ | refine gny_F 1 rfl rfl rfl ?_ | refine gny_B 1 rfl rfl rfl ?_ | refine gny_skip 1 rfl rfl ?_ | refine gny_sp 1 rfl rfl rfl ?_ | refine gny_sB 1 rfl rfl rfl ?_ | refine gny_sld 1 rfl rfl rfl rfl ?_ | refine gny_sldH 1 rfl rfl rfl ‹HRow _ _ 0 _› rfl ?_ | refine gny_ldN 1 rfl rfl rfl rfl ?_ | refine gny_bld 1 rfl rfl rfl ?_); (first | refine gny_p 2 rfl rfl rfl ?_ | refine gny_ld 2 rfl rfl rfl rfl ?_ | refine gny_ldH 2 rfl rfl rfl ‹HRow _ _ 0 _› rfl ?_ | refine gny_T 2 rfl rfl rfl ?_ | refine gny_F 2 rfl rfl rfl ?_ | refine gny_B 2 rfl rfl rfl ?_ | refine gny_skip 2 rfl rfl ?_ | refine gny_sp 2 rfl rfl rfl ?_ | refine gny_sB 2 rfl rfl rfl ?_ | refine gny_sld 2 rfl rfl rfl rfl ?_ | refine gny_sldH 2 rfl rfl rfl ‹HRow _ _ 0 _› rfl ?_ | refine gny_ldN 2 rfl rfl rfl rfl ?_ | refine gny_bld 2 rfl rfl rfl ?_)
    refine gny_ixp 3 rfl rfl rfl h2K.1 hk2 fun b8 o8 cc8 hr8 hc8 => ?_
    obtain ⟨u1, u2, u3, rfl, g1, _⟩ := hc8
    (first | refine gny_p 4 rfl rfl rfl ?_ | refine gny_ld 4 rfl rfl rfl rfl ?_ | refine gny_ldH 4 rfl rfl rfl ‹HRow _ _ 0 _› rfl ?_ | refine gny_T 4 rfl rfl rfl ?_ | refine gny_F 4 rfl rfl rfl ?_ | refine gny_B 4 rfl rfl rfl ?_ | refine gny_skip 4 rfl rfl ?_ | refine gny_sp 4 rfl rfl rfl ?_ | refine gny_sB 4 rfl rfl rfl ?_ | refine gny_sld 4 rfl rfl rfl rfl ?_ | refine gny_sldH 4 rfl rfl rfl ‹HRow _ _ 0 _› rfl ?_ | refine gny_ldN 4 rfl rfl rfl rfl ?_ | refine gny_bld 4 rfl rfl rfl ?_)
    refine gny_ldHo 5 0 rfl rfl hr8 rfl rfl ?_
    (first | refine gny_p 6 rfl rfl rfl ?_ | refine gny_ld 6 rfl rfl rfl rfl ?_ | refine gny_ldH 6 rfl rfl rfl ‹HRow _ _ 0 _› rfl ?_ | refine gny_T 6 rfl rfl rfl ?_ | refine gny_F 6 rfl rfl rfl ?_ | refine gny_B 6 rfl rfl rfl ?_ | refine gny_skip 6 rfl rfl ?_ | refine gny_sp 6 rfl rfl rfl ?_ | refine gny_sB 6 rfl rfl rfl ?_ | refine gny_sld 6 rfl rfl rfl rfl ?_ | refine gny_sldH 6 rfl rfl rfl ‹HRow _ _ 0 _› rfl ?_ | refine gny_ldN 6 rfl rfl rfl rfl ?_ | refine gny_bld 6 rfl rfl rfl ?_); (first | refine gny_p 7 rfl rfl rfl ?_ | refine gny_ld 7 rfl rfl rfl rfl ?_ | refine gny_ldH 7 rfl rfl rfl ‹HRow _ _ 0 _› rfl ?_ | refine gny_T 7 rfl rfl rfl ?_ | refine gny_F 7 rfl rfl rfl ?_ | refine gny_B 7 rfl rfl rfl ?_ | refine gny_skip 7 rfl rfl ?_ | refine gny_sp 7 rfl rfl rfl ?_ | refine gny_sB 7 rfl rfl rfl ?_ | refine gny_sld 7 rfl rfl rfl rfl ?_ | refine gny_sldH 7 rfl rfl rfl ‹HRow _ _ 0 _› rfl ?_ | refine gny_ldN 7 rfl rfl rfl rfl ?_ | refine gny_bld 7 rfl rfl rfl ?_)
    refine gny_ixp 8 rfl rfl rfl h2K.1 hk2 fun b9 o9 cc9 hr9 hc9 => ?_
    obtain ⟨v1, v2, v3, rfl, _, g2, g3, g4, _⟩ := hc9
    (first | refine gny_p 9 rfl rfl rfl ?_ | refine gny_ld 9 rfl rfl rfl rfl ?_ | refine gny_ldH 9 rfl rfl rfl ‹HRow _ _ 0 _› rfl ?_ | refine gny_T 9 rfl rfl rfl ?_ | refine gny_F 9 rfl rfl rfl ?_ | refine gny_B 9 rfl rfl rfl ?_ | refine gny_skip 9 rfl rfl ?_ | refine gny_sp 9 rfl rfl rfl ?_ | refine gny_sB 9 rfl rfl rfl ?_ | refine gny_sld 9 rfl rfl rfl rfl ?_ | refine gny_sldH 9 rfl rfl rfl ‹HRow _ _ 0 _› rfl ?_ | refine gny_ldN 9 rfl rfl rfl rfl ?_ | refine gny_bld 9 rfl rfl rfl ?_)
    refine gny_ldNH 10 rfl rfl rfl (rec_txn hr9) rfl ?_
    (first | refine gny_p 11 rfl rfl rfl ?_ | refine gny_ld 11 rfl rfl rfl rfl ?_ | refine gny_ldH 11 rfl rfl rfl ‹HRow _ _ 0 _› rfl ?_ | refine gny_T 11 rfl rfl rfl ?_ | refine gny_F 11 rfl rfl rfl ?_ | refine gny_B 11 rfl rfl rfl ?_ | refine gny_skip 11 rfl rfl ?_ | refine gny_sp 11 rfl rfl rfl ?_ | refine gny_sB 11 rfl rfl rfl ?_ | refine gny_sld 11 rfl rfl rfl rfl ?_ | refine gny_sldH 11 rfl rfl rfl ‹HRow _ _ 0 _› rfl ?_ | refine gny_ldN 11 rfl rfl rfl rfl ?_ | refine gny_bld 11 rfl rfl rfl ?_); (first | refine gny_p 12 rfl rfl rfl ?_ | refine gny_ld 12 rfl rfl rfl rfl ?_ | refine gny_ldH 12 rfl rfl rfl ‹HRow _ _ 0 _› rfl ?_ | refine gny_T 12 rfl rfl rfl ?_ | refine gny_F 12 rfl rfl rfl ?_ | refine gny_B 12 rfl rfl rfl ?_ | refine gny_skip 12 rfl rfl ?_ | refine gny_sp 12 rfl rfl rfl ?_ | refine gny_sB 12 rfl rfl rfl ?_ | refine gny_sld 12 rfl rfl rfl rfl ?_ | refine gny_sldH 12 rfl rfl rfl ‹HRow _ _ 0 _› rfl ?_ | refine gny_ldN 12 rfl rfl rfl rfl ?_ | refine gny_bld 12 rfl rfl rfl ?_)
    refine gny_ixp 13 rfl rfl rfl h2K.1 hk2 fun b10 o10 cc10 hr10 hc10 => ?_
    obtain ⟨w1, w2, w3, rfl, _, _, _, _, k5, k6, k7, _⟩ := hc10
    (first | refine gny_p 14 rfl rfl rfl ?_ | refine gny_ld 14 rfl rfl rfl rfl ?_ | refine gny_ldH 14 rfl rfl rfl ‹HRow _ _ 0 _› rfl ?_ | refine gny_T 14 rfl rfl rfl ?_ | refine gny_F 14 rfl rfl rfl ?_ | refine gny_B 14 rfl rfl rfl ?_ | refine gny_skip 14 rfl rfl ?_ | refine gny_sp 14 rfl rfl rfl ?_ | refine gny_sB 14 rfl rfl rfl ?_ | refine gny_sld 14 rfl rfl rfl rfl ?_ | refine gny_sldH 14 rfl rfl rfl ‹HRow _ _ 0 _› rfl ?_ | refine gny_ldN 14 rfl rfl rfl rfl ?_ | refine gny_bld 14 rfl rfl rfl ?_)
    refine gny_ldNH 15 rfl rfl rfl (rec_work hr10) rfl ?_
    have hw0 : rWork HK [I prep[k].Work.Robot, w1, w2] prep[k].Work := ⟨_, _, rfl, k5, k6, k7⟩
    have hcw := clip_ok hw0
    refine gny_call 16 rfl rfl rfl (lawOwn_spec hw0) fun r5 H5 B hl5 ⟨cs, er, hcs, eB⟩ => ?_
    subst er eB
    refine ⟨(by (repeat (first | exact Sub.refl _ | exact Sub.nil _ | (apply sub_pick; (repeat (first | exact Has.here | apply Has.there)); skip) | apply Sub.drop))), ?_⟩
    obtain ⟨q1, q2, rfl, hq0, hq1, hq2⟩ := hcs
    obtain ⟨qb1, qc1, rfl, _, _⟩ := hq1.1.shape
    obtain ⟨qb2, qc2, rfl, _, _⟩ := hq2.1.shape
    (first | refine gny_p 17 rfl rfl rfl ?_ | refine gny_ld 17 rfl rfl rfl rfl ?_ | refine gny_ldH 17 rfl rfl rfl ‹HRow _ _ 0 _› rfl ?_ | refine gny_T 17 rfl rfl rfl ?_ | refine gny_F 17 rfl rfl rfl ?_ | refine gny_B 17 rfl rfl rfl ?_ | refine gny_skip 17 rfl rfl ?_ | refine gny_sp 17 rfl rfl rfl ?_ | refine gny_sB 17 rfl rfl rfl ?_ | refine gny_sld 17 rfl rfl rfl rfl ?_ | refine gny_sldH 17 rfl rfl rfl ‹HRow _ _ 0 _› rfl ?_ | refine gny_ldN 17 rfl rfl rfl rfl ?_ | refine gny_bld 17 rfl rfl rfl ?_)
    refine any_app1 (y := clipR prep[k]) 18 19 rfl rfl rfl ⟨_, _, nilS, rfl, g1, g2, g3, g4, hq0, hq1, hq2, SlB.nil⟩ (by rw [hll]; simp only [cap47]; omega) fun d3 e3 => ⟨(by (repeat (first | exact Sub.refl _ | exact Sub.nil _ | (apply sub_pick; (repeat (first | exact Has.here | apply Has.there)); skip) | apply Sub.drop))), ?_⟩
    have hse : (prep.take k).map clipR ++ [clipR prep[k]] = (prep.take (k + 1)).map clipR := by rw [ht, List.map_append]; rfl
    have hsl2 : ((prep.take k).map clipR).length + 1 = ((prep.take (k + 1)).map clipR).length := by rw [← hse]; simp
    rw [hsl2, hse]
    refine any_rest rfl ?_
    refine walk ?_
    refine out_next hL (k + 1, d3, e3, H5) ⟨⟨by simp only; omega, by simp only; omega⟩, hlK.trans hl5, fun q hq => ?_⟩
    simp only at hq
    rw [← hse, List.mem_append, List.mem_singleton] at hq
    rcases hq with hq | rfl
    · exact hok q hq
    · exact ⟨hcw, g2, g3, g4⟩
  clear hL
  have hin : ((prep.take k).map clipR).length ≤ 10 := by omega
  generalize (prep.take k).map clipR = inl at hok hin ⊢
  have h80 : ∀ q ∈ inl, q.Work.ks.length ≤ 80 := fun q hq => (hok q hq).1.ks_len
  have h80' : ∀ q ∈ inl, q.Work.ks.length * 16 ≤ cap47 := fun q hq => by have := h80 q hq; simp only [cap47]; omega
  refine walk ?_
  refine ops_mk0 (w := 24) rHold rfl fun bb => ?_
  refine walk ?_
  refine ops_appS rfl rfl (hso.mono hlK).1 (by rw [List.length_nil]; simp only [cap47]; omega) fun d4 e4 => ?_
  rw [List.nil_append, List.length_nil, Nat.zero_add]
  refine ops_freeze (.slice d4 ho.length e4) fun H4 hl4 hso4 => ?_
  refine ops_freeze (.slice d inl.length e) fun H5 hl5 hin5 => ?_
  refine walk ?_
  refine ops_call rfl rfl (load_spec (W0 := W0) (H := H5) (hso4.mono hl5) hin5 (by omega) h80') fun r6 H6 B hl6 ⟨s', a', p', hLP, hlast⟩ => ?_
  have hlK6 : HK.le H6 := hl4.trans (hl5.trans hl6)
  have hP6 := hP.mono (hl03.trans (hlK.trans hlK6))
  by_cases hz : lastE a' inl = 0
  · rw [if_pos hz] at hlast
    obtain ⟨er, eB⟩ := hlast
    subst er eB
    refine walk ?_
    refine ops_call rfl rfl (rLoad_spec (W0 := W0) (H := H6) (hso.mono (hlK.trans hlK6)) (hin5.mono hl6) (by omega) (by omega) h80) fun r7 H7 B hl7 ⟨cs, m', ec, er, hcs, hRL, eB⟩ => ?_
    subst er eB
    obtain ⟨q1, q2, rfl, hq1, hq2⟩ := hcs
    obtain ⟨qb1, qc1, rfl, _, _⟩ := hq1.1.shape
    obtain ⟨qb2, qc2, rfl, _, _⟩ := hq2.1.shape
    obtain ⟨g1, g2⟩ := load_both (n := 1) hhk hhl hok hLP hRL
    rw [hz] at g1
    subst g1
    obtain ⟨hI0, hR0⟩ := g2 rfl
    have hI0 := hI0.more (n' := 11) (by omega)
    refine ops_L (L' := tabO H7 p' s' :: R) ?_ ?_
    · refine Sub.trans ?_ (tab_up hl7)
      (repeat (first | exact Sub.refl _ | exact Sub.nil _ | (apply sub_pick; (repeat (first | exact Has.here | apply Has.there)); skip) | apply Sub.drop))
    refine walk ?_
    refine ops_alloc rfl fun p11 _ => ?_
    refine walk ?_
    refine ops_call rfl rfl (tells_spec (W0 := W0) (H := H7) (p := p') (s := s') (m := m') (n := 11) hI0 (by omega) hR0 ⟨_, _, rfl, hq1, hq2⟩) fun r8 H8 B hl8 ⟨er, eB⟩ => ?_
    subst er eB
    refine walk ?_
    refine ex_loop (σ := Nat × Nat × TS × Table × (Option Addr × Nat) × (Option Addr × Nat) × Heap) (fun u => (u.1 ≤ script.length ∧ u.1 ≤ 60) ∧ H8.le u.2.2.2.2.2.2 ∧ Inv (11 + u.1) u.2.2.1 ∧ Rel u.2.2.1 u.2.2.2.1 ∧ SlB rHold 2 24 u.2.2.2.2.2.2 (.slice u.2.2.2.2.1.1 u.2.2.2.1.Held.length u.2.2.2.2.1.2) u.2.2.2.1.Held ∧ SlB rRec 9 120 u.2.2.2.2.2.2 (.slice u.2.2.2.2.2.1.1 u.2.2.2.1.Prep.length u.2.2.2.2.2.1.2) u.2.2.2.1.Prep)
      (fun u => [(2, .slice b3 script.length c3), (9, .pointer (some ⟨u.2.1, 0, none⟩)), (11, .pointer (some ⟨p11, 0, none⟩)), (13, .bool true), (14, I u.1)]) (fun u => u.2.2.2.2.2.2)
      (fun u => tabO u.2.2.2.2.2.2 u.2.1 u.2.2.1 :: row p11 55 [.slice u.2.2.2.2.1.1 u.2.2.2.1.Held.length u.2.2.2.2.1.2, .slice u.2.2.2.2.2.1.1 u.2.2.2.1.Prep.length u.2.2.2.2.2.1.2] :: R) (fun u => script.length - u.1)
      (0, p', s', m', (qb1, qc1), (qb2, qc2), H8) ⟨⟨Nat.zero_le _, by omega⟩, .refl _, hI0, hR0, hq1.mono hl8, hq2.mono hl8⟩ fun ⟨j, q, s, m, ⟨f1, f2⟩, ⟨f3, f4⟩, HJ⟩ ⟨⟨hj0, hj60⟩, hlJ, hI, hR, hn1, hn2⟩ K hL => ?_
    simp only at hj0 hj60 hlJ hI hR hn1 hn2
    dsimp only
    have hl6J : H6.le HJ := hl7.trans (hl8.trans hlJ)
    refine walkG ?_
    refine ex_if rfl (fun hj => ?_) (fun hj => ?_)
    · have hj1 : j < script.length := by omega
      refine walk ?_
      refine ex_any 6 [row p11 55 [.slice f1 m.Held.length f2, .slice f3 m.Prep.length f4]] ?_
      (first | refine gny_p 0 rfl rfl rfl ?_ | refine gny_ld 0 rfl rfl rfl rfl ?_ | refine gny_ldH 0 rfl rfl rfl ‹HRow _ _ 0 _› rfl ?_ | refine gny_T 0 rfl rfl rfl ?_ | refine gny_F 0 rfl rfl rfl ?_ | refine gny_B 0 rfl rfl rfl ?_ | refine gny_skip 0 rfl rfl ?_ | refine gny_sp 0 rfl rfl rfl ?_ | refine gny_sB 0 rfl rfl rfl ?_ | refine gny_sld 0 rfl rfl rfl rfl ?_ | refine gny_sldH 0 rfl rfl rfl ‹HRow _ _ 0 _› rfl ?_ | refine gny_ldN 0 rfl rfl rfl rfl ?_ | refine gny_bld 0 rfl rfl rfl ?_); (first | refine gny_p 1 rfl rfl rfl ?_ | refine gny_ld 1 rfl rfl rfl rfl ?_ | refine gny_ldH 1 rfl rfl rfl ‹HRow _ _ 0 _› rfl ?_ | refine gny_T 1 rfl rfl rfl ?_ | refine gny_F 1 rfl rfl rfl ?_ | refine gny_B 1 rfl rfl rfl ?_ | refine gny_skip 1 rfl rfl ?_ | refine gny_sp 1 rfl rfl rfl ?_ | refine gny_sB 1 rfl rfl rfl ?_ | refine gny_sld 1 rfl rfl rfl rfl ?_ | refine gny_sldH 1 rfl rfl rfl ‹HRow _ _ 0 _› rfl ?_ | refine gny_ldN 1 rfl rfl rfl rfl ?_ | refine gny_bld 1 rfl rfl rfl ?_); (first | refine gny_p 2 rfl rfl rfl ?_ | refine gny_ld 2 rfl rfl rfl rfl ?_ | refine gny_ldH 2 rfl rfl rfl ‹HRow _ _ 0 _› rfl ?_ | refine gny_T 2 rfl rfl rfl ?_ | refine gny_F 2 rfl rfl rfl ?_ | refine gny_B 2 rfl rfl rfl ?_ | refine gny_skip 2 rfl rfl ?_ | refine gny_sp 2 rfl rfl rfl ?_ | refine gny_sB 2 rfl rfl rfl ?_ | refine gny_sld 2 rfl rfl rfl rfl ?_ | refine gny_sldH 2 rfl rfl rfl ‹HRow _ _ 0 _› rfl ?_ | refine gny_ldN 2 rfl rfl rfl rfl ?_ | refine gny_bld 2 rfl rfl rfl ?_); (first | refine gny_p 3 rfl rfl rfl ?_ | refine gny_ld 3 rfl rfl rfl rfl ?_ | refine gny_ldH 3 rfl rfl rfl ‹HRow _ _ 0 _› rfl ?_ | refine gny_T 3 rfl rfl rfl ?_ | refine gny_F 3 rfl rfl rfl ?_ | refine gny_B 3 rfl rfl rfl ?_ | refine gny_skip 3 rfl rfl ?_ | refine gny_sp 3 rfl rfl rfl ?_ | refine gny_sB 3 rfl rfl rfl ?_ | refine gny_sld 3 rfl rfl rfl rfl ?_ | refine gny_sldH 3 rfl rfl rfl ‹HRow _ _ 0 _› rfl ?_ | refine gny_ldN 3 rfl rfl rfl rfl ?_ | refine gny_bld 3 rfl rfl rfl ?_)
      refine gny_ixp 4 rfl rfl rfl (h3.mono (hl03.trans (hlK.trans (hlK6.trans hl6J)))).1 hj1 fun b o cc hr hc => ?_
      have hc0 := hc
      obtain ⟨u1, u2, rfl, _⟩ := hc
      refine gny_ldNH 5 rfl rfl rfl hr rfl ?_
      refine any_stage 13 [] ?_
      refine gny_call 6 rfl rfl rfl (play_spec (W0 := W0) (H := HJ) (p := q) (s := s) (m := m) (n := 11 + j) (o := script[j]) (hP6.mono hl6J) hI (by omega) hR ⟨_, _, rfl, hn1, hn2⟩ hc0) fun r9 H9 B hl9 ⟨p2, s2, m2, c2', er, hc', hI', hR', eB⟩ => ?_
      subst er eB
      refine ⟨(by (repeat (first | exact Sub.refl _ | exact Sub.nil _ | (apply sub_pick; (repeat (first | exact Has.here | apply Has.there)); skip) | apply Sub.drop))), ?_⟩
      obtain ⟨z1, z2, rfl, hz1, hz2⟩ := hc'
      obtain ⟨zb1, zc1, rfl, _, _⟩ := hz1.1.shape
      obtain ⟨zb2, zc2, rfl, _, _⟩ := hz2.1.shape
      (first | refine gny_p 7 rfl rfl rfl ?_ | refine gny_ld 7 rfl rfl rfl rfl ?_ | refine gny_ldH 7 rfl rfl rfl ‹HRow _ _ 0 _› rfl ?_ | refine gny_T 7 rfl rfl rfl ?_ | refine gny_F 7 rfl rfl rfl ?_ | refine gny_B 7 rfl rfl rfl ?_ | refine gny_skip 7 rfl rfl ?_ | refine gny_sp 7 rfl rfl rfl ?_ | refine gny_sB 7 rfl rfl rfl ?_ | refine gny_sld 7 rfl rfl rfl rfl ?_ | refine gny_sldH 7 rfl rfl rfl ‹HRow _ _ 0 _› rfl ?_ | refine gny_ldN 7 rfl rfl rfl rfl ?_ | refine gny_bld 7 rfl rfl rfl ?_)
      refine gny_ext 8 rfl rfl rfl rfl ?_
      refine gny_ext 9 rfl rfl rfl rfl ?_
      refine gny_ext 10 rfl rfl rfl rfl ?_
      (first | refine gny_p 11 rfl rfl rfl ?_ | refine gny_ld 11 rfl rfl rfl rfl ?_ | refine gny_ldH 11 rfl rfl rfl ‹HRow _ _ 0 _› rfl ?_ | refine gny_T 11 rfl rfl rfl ?_ | refine gny_F 11 rfl rfl rfl ?_ | refine gny_B 11 rfl rfl rfl ?_ | refine gny_skip 11 rfl rfl ?_ | refine gny_sp 11 rfl rfl rfl ?_ | refine gny_sB 11 rfl rfl rfl ?_ | refine gny_sld 11 rfl rfl rfl rfl ?_ | refine gny_sldH 11 rfl rfl rfl ‹HRow _ _ 0 _› rfl ?_ | refine gny_ldN 11 rfl rfl rfl rfl ?_ | refine gny_bld 11 rfl rfl rfl ?_)
      refine any_sta 12 rfl rfl rfl rfl (by simp) rfl ⟨(by (repeat (first | exact Sub.refl _ | exact Sub.nil _ | (apply sub_pick; (repeat (first | exact Has.here | apply Has.there)); skip) | apply Sub.drop))), ?_⟩
      refine any_rest rfl ?_
      refine walk ?_
      exact out_next hL (j + 1, p2, s2, m2, (zb1, zc1), (zb2, zc2), H9) ⟨⟨by simp only; omega, by simp only; omega⟩, hlJ.trans hl9, hI', hR', hz1, hz2⟩
    · clear hL
      refine walk ?_
      refine fin0 ?_
      exact ⟨rfl, rfl⟩
  · rw [if_neg hz] at hlast
    obtain ⟨er, eB⟩ := hlast
    subst er eB
    refine walk ?_
    refine ops_call rfl rfl (rLoad_spec (W0 := W0) (H := H6) (hso.mono (hlK.trans hlK6)) (hin5.mono hl6) (by omega) (by omega) h80) fun r7 H7 B hl7 ⟨cs, m', ec, er, hcs, hRL, eB⟩ => ?_
    subst er eB
    obtain ⟨q1, q2, rfl, hq1, hq2⟩ := hcs
    obtain ⟨qb1, qc1, rfl, _, _⟩ := hq1.1.shape
    obtain ⟨qb2, qc2, rfl, _, _⟩ := hq2.1.shape
    obtain ⟨g1, g2⟩ := load_both (n := 1) hhk hhl hok hLP hRL
    subst g1
    generalize lastE a' inl = ec at hz ⊢
    refine walk ?_
    refine ops_alloc rfl fun p11 _ => ?_
    refine walk ?_
    refine fin0 ?_
    exact ⟨rfl, rfl⟩
end Go.Proofs.YtkhbfjkioehgfaaGreatDoor
