/- DriveCrashes: the walk. -/
import Derived.Test.YtjafnombaehcaaaDV
set_option linter.unusedVariables false
set_option linter.unusedSimpArgs false
namespace Go.Proofs.Ytjafnombaehcaaa
open Go Go.Sx Go.Proofs
theorem fold_steps5 {m : Drive} {l : List Op} {k : Nat} (hm : m.Steps = 0) (hk : k ≤ 5) : ((l.take k).foldl playM m).Steps ≤ 5 := by
  have h := fold_steps (l := l.take k) (m := m) (by omega)
  have h2 : (l.take k).length ≤ k := by rw [List.length_take]; omega
  omega
abbrev mRow (p : Nat) (b : Option Addr) (d : Nat) (m : Drive) : HProp := row p 38 [.slice b m.Files.length d, I m.Steps, .bool m.Armed, I m.Left]
abbrev mCs (b : Option Addr) (d : Nat) (m : Drive) : List Value := [.slice b m.Files.length d, I m.Steps, .bool m.Armed, I m.Left]
abbrev pp (p : Nat) : Value := .pointer (some ⟨p, 0, none⟩)
set_option maxHeartbeats 8000000 in
theorem crashes_spec {W0 : World} {H : Heap} {v0 v1 v2 : Value} {ss mm : List Op} {kk : List (List Int)} (h0 : SlB rOp 6 96 H v0 ss) (hkk : SlB (rSl rInt 1 8) 1 24 H v1 kk) (hmm : SlB rOp 6 96 H v2 mm) :
    Ct Try.prog 5 #[v0, v1, v2] W0 H [] (fun r H' B => r = .bool true ∧ B = []) := by
  refine Ct.go (vs := [v0, v1, v2]) fun R => ?_
  obtain ⟨b0, c0, rfl, hc0, hd0⟩ := h0.1.shape
  obtain ⟨b1, c1, rfl, hc1, hd1⟩ := hkk.1.shape
  obtain ⟨b2, c2, rfl, hc2, hd2⟩ := hmm.1.shape
  refine walk ?_
  refine ops_call rfl rfl (built_spec h0) fun r1 H1 B hl1 ⟨b, c1', er, h1, eB⟩ => ?_
  subst er eB
  obtain ⟨b6, d6, rfl⟩ := rd_open h1
  refine walk ?_
  refine ops_alloc rfl fun p8 _ => ?_
  refine walk ?_
  refine ops_call rfl rfl awake_spec fun r2 H2 B hl2 ⟨er, eB⟩ => ?_
  subst er eB
  have hst : (buildM ss).Steps ≤ 80 := take_steps (Nat.le_refl 80)
  generalize buildM ss = M at *
  refine walk ?_
  refine ex_L (L' := driveO b M :: mRow p8 b6 d6 M :: R) (by (repeat (first | exact Sub.refl _ | exact Sub.nil _ | (apply sub_pick; (repeat (first | exact Has.here | apply Has.there)); skip) | apply Sub.drop))) ?_
  refine ex_know (A := driveO b M) (p := DK M) (by repeat (first | exact Has.here | apply Has.there)) (fun h => driveO_know) fun hdk => ?_
  have hmb := hdk.mb (by omega)
  refine ex_loop (σ := Nat × Heap) (fun s => (s.1 ≤ kk.length ∧ s.1 ≤ 12) ∧ H2.le s.2)
    (fun s => [(1, .slice b1 kk.length c1), (2, .slice b2 mm.length c2), (7, pp b), (8, pp p8), (9, .bool true), (10, I s.1)]) (fun s => s.2)
    (fun _ => driveO b M :: mRow p8 b6 d6 M :: R) (fun s => 12 - s.1) (0, H2) ⟨⟨Nat.zero_le _, Nat.zero_le _⟩, .refl _⟩ fun ⟨k, H3⟩ ⟨⟨hk0, hk12⟩, hl3⟩ K hL => ?_
  dsimp only at hk0 hk12 hl3 ⊢
  refine walkG ?_
  refine ex_if rfl (fun hq => ?_) (fun hq => ?_)
  rotate_left
  · clear hL
    refine walk ?_
    refine fin0 ?_
    exact ⟨rfl, rfl⟩
  have hk1 : k < kk.length := by omega
  have hl03 := hl1.trans (hl2.trans hl3)
  have hl13 := hl2.trans hl3
  have h3 : rDrive H3 (mCs b6 d6 M) M := RdOk.mono hl13 h1
  refine walk ?_
  refine ex_cutk (σ := Nat × Nat × Heap × Option Addr × Nat) (fun s => H3.le s.2.2.1 ∧ rDrive s.2.2.1 (mCs s.2.2.2.1 s.2.2.2.2 (crashM M kk[k])) (crashM M kk[k]))
    (fun s => [(11, pp s.2.1), (12, pp s.1), (1, .slice b1 kk.length c1), (2, .slice b2 mm.length c2), (7, pp b), (8, pp p8), (9, .bool true), (10, I k)]) (fun s => s.2.2.1)
    (fun s => mRow s.1 s.2.2.2.1 s.2.2.2.2 (crashM M kk[k]) :: driveO s.2.1 (crashM M kk[k]) :: driveO b M :: mRow p8 b6 d6 M :: R) (fun K7 hK7 => ?_) (fun ⟨p12, q, H5, b5, d5⟩ ⟨hl5, h5⟩ => ?_)
  · refine ex_any 13 (driveO b M :: mRow p8 b6 d6 M :: R) ?_
    (first | refine gny_p 0 rfl rfl rfl ?_ | refine gny_ld 0 rfl rfl rfl rfl ?_ | refine gny_ldH 0 rfl rfl rfl ‹HRow _ _ 0 _› rfl ?_ | refine gny_T 0 rfl rfl rfl ?_ | refine gny_F 0 rfl rfl rfl ?_ | refine gny_B 0 rfl rfl rfl ?_ | refine gny_skip 0 rfl rfl ?_ | refine gny_sp 0 rfl rfl rfl ?_ | refine gny_sB 0 rfl rfl rfl ?_ | refine gny_sld 0 rfl rfl rfl rfl ?_ | refine gny_sldH 0 rfl rfl rfl ‹HRow _ _ 0 _› rfl ?_ | refine gny_ldN 0 rfl rfl rfl rfl ?_ | refine gny_bld 0 rfl rfl rfl ?_); (first | refine gny_p 1 rfl rfl rfl ?_ | refine gny_ld 1 rfl rfl rfl rfl ?_ | refine gny_ldH 1 rfl rfl rfl ‹HRow _ _ 0 _› rfl ?_ | refine gny_T 1 rfl rfl rfl ?_ | refine gny_F 1 rfl rfl rfl ?_ | refine gny_B 1 rfl rfl rfl ?_ | refine gny_skip 1 rfl rfl ?_ | refine gny_sp 1 rfl rfl rfl ?_ | refine gny_sB 1 rfl rfl rfl ?_ | refine gny_sld 1 rfl rfl rfl rfl ?_ | refine gny_sldH 1 rfl rfl rfl ‹HRow _ _ 0 _› rfl ?_ | refine gny_ldN 1 rfl rfl rfl rfl ?_ | refine gny_bld 1 rfl rfl rfl ?_); (first | refine gny_p 2 rfl rfl rfl ?_ | refine gny_ld 2 rfl rfl rfl rfl ?_ | refine gny_ldH 2 rfl rfl rfl ‹HRow _ _ 0 _› rfl ?_ | refine gny_T 2 rfl rfl rfl ?_ | refine gny_F 2 rfl rfl rfl ?_ | refine gny_B 2 rfl rfl rfl ?_ | refine gny_skip 2 rfl rfl ?_ | refine gny_sp 2 rfl rfl rfl ?_ | refine gny_sB 2 rfl rfl rfl ?_ | refine gny_sld 2 rfl rfl rfl rfl ?_ | refine gny_sldH 2 rfl rfl rfl ‹HRow _ _ 0 _› rfl ?_ | refine gny_ldN 2 rfl rfl rfl rfl ?_ | refine gny_bld 2 rfl rfl rfl ?_); (first | refine gny_p 6 rfl rfl rfl ?_ | refine gny_ld 6 rfl rfl rfl rfl ?_ | refine gny_ldH 6 rfl rfl rfl ‹HRow _ _ 0 _› rfl ?_ | refine gny_T 6 rfl rfl rfl ?_ | refine gny_F 6 rfl rfl rfl ?_ | refine gny_B 6 rfl rfl rfl ?_ | refine gny_skip 6 rfl rfl ?_ | refine gny_sp 6 rfl rfl rfl ?_ | refine gny_sB 6 rfl rfl rfl ?_ | refine gny_sld 6 rfl rfl rfl rfl ?_ | refine gny_sldH 6 rfl rfl rfl ‹HRow _ _ 0 _› rfl ?_ | refine gny_ldN 6 rfl rfl rfl rfl ?_ | refine gny_bld 6 rfl rfl rfl ?_); (first | refine gny_p 7 rfl rfl rfl ?_ | refine gny_ld 7 rfl rfl rfl rfl ?_ | refine gny_ldH 7 rfl rfl rfl ‹HRow _ _ 0 _› rfl ?_ | refine gny_T 7 rfl rfl rfl ?_ | refine gny_F 7 rfl rfl rfl ?_ | refine gny_B 7 rfl rfl rfl ?_ | refine gny_skip 7 rfl rfl ?_ | refine gny_sp 7 rfl rfl rfl ?_ | refine gny_sB 7 rfl rfl rfl ?_ | refine gny_sld 7 rfl rfl rfl rfl ?_ | refine gny_sldH 7 rfl rfl rfl ‹HRow _ _ 0 _› rfl ?_ | refine gny_ldN 7 rfl rfl rfl rfl ?_ | refine gny_bld 7 rfl rfl rfl ?_); (first | refine gny_p 8 rfl rfl rfl ?_ | refine gny_ld 8 rfl rfl rfl rfl ?_ | refine gny_ldH 8 rfl rfl rfl ‹HRow _ _ 0 _› rfl ?_ | refine gny_T 8 rfl rfl rfl ?_ | refine gny_F 8 rfl rfl rfl ?_ | refine gny_B 8 rfl rfl rfl ?_ | refine gny_skip 8 rfl rfl ?_ | refine gny_sp 8 rfl rfl rfl ?_ | refine gny_sB 8 rfl rfl rfl ?_ | refine gny_sld 8 rfl rfl rfl rfl ?_ | refine gny_sldH 8 rfl rfl rfl ‹HRow _ _ 0 _› rfl ?_ | refine gny_ldN 8 rfl rfl rfl rfl ?_ | refine gny_bld 8 rfl rfl rfl ?_)
    have hk3 := hkk.mono hl03
    refine gny_ixp 3 rfl rfl rfl hk3.1 hk1 (fun o1 f1 g1 hr1 hg1 => ?_)
    obtain ⟨u1, rfl, hu1⟩ := hg1
    refine gny_ldHo 4 0 rfl rfl hr1 rfl rfl ?_
    refine gny_ixp 9 rfl rfl rfl hk3.1 hk1 (fun o2 f2 g2 hr2 hg2 => ?_)
    obtain ⟨u2, rfl, hu2⟩ := hg2
    refine gny_ldHo 10 0 rfl rfl hr2 rfl rfl ?_
    have hcs := crash_spec (W0 := W0) (b := b) (m := M) hu1
    have hrc := rCrash_spec (W0 := W0) h3 hu2 hmb fun f hf => (hdk.ok f hf).2.2
    refine any_ca 5 12 rfl rfl rfl hcs (fun r5 H5 B hl5 ⟨q, er, eB, eH⟩ => ?_) (fun p12 _ => ?_)
    · subst er eB eH
      refine ⟨(by (repeat (first | exact Sub.refl _ | exact Sub.nil _ | (apply sub_pick; (repeat (first | exact Has.here | apply Has.there)); skip) | apply Sub.drop))), ?_⟩
      refine any_ca 11 12 rfl rfl rfl hrc (fun r5 H5 B hl5 ⟨c5, er, h5, eB⟩ => ?_) (fun p12 _ => ?_)
      · subst er eB
        refine ⟨(by (repeat (first | exact Sub.refl _ | exact Sub.nil _ | (apply sub_pick; (repeat (first | exact Has.here | apply Has.there)); skip) | apply Sub.drop))), ?_⟩
        obtain ⟨b5, d5, rfl⟩ := rd_open h5
        refine gny_alloc 12 rfl rfl fun p12 _ => ?_
        refine any_rest rfl ?_
        refine walk ?_
        exact out_to hK7 (p12, q, H5, b5, d5) ⟨hl5, h5⟩
      · have hrc2 := hrc
        refine gny_call 11 rfl rfl rfl hrc2 fun r5 H5 B hl5 ⟨c5, er, h5, eB⟩ => ?_
        subst er eB
        refine ⟨(by (repeat (first | exact Sub.refl _ | exact Sub.nil _ | (apply sub_pick; (repeat (first | exact Has.here | apply Has.there)); skip) | apply Sub.drop))), ?_⟩
        obtain ⟨b5, d5, rfl⟩ := rd_open h5
        refine any_rest rfl ?_
        refine walk ?_
        exact out_to hK7 (p12, q, H5, b5, d5) ⟨hl5, h5⟩
    · have hcs2 := hcs
      refine gny_call 5 rfl rfl rfl hcs2 fun r5 H5 B hl5 ⟨q, er, eB, eH⟩ => ?_
      subst er eB eH
      refine ⟨(by (repeat (first | exact Sub.refl _ | exact Sub.nil _ | (apply sub_pick; (repeat (first | exact Has.here | apply Has.there)); skip) | apply Sub.drop))), ?_⟩
      have hrc2 := hrc
      refine gny_call 11 rfl rfl rfl hrc2 fun r5 H5 B hl5 ⟨c5, er, h5, eB⟩ => ?_
      subst er eB
      refine ⟨(by (repeat (first | exact Sub.refl _ | exact Sub.nil _ | (apply sub_pick; (repeat (first | exact Has.here | apply Has.there)); skip) | apply Sub.drop))), ?_⟩
      obtain ⟨b5, d5, rfl⟩ := rd_open h5
      refine any_rest rfl ?_
      refine walk ?_
      exact out_to hK7 (p12, q, H5, b5, d5) ⟨hl5, h5⟩
  dsimp only at hl5 h5 ⊢
  have hcst : (crashM M kk[k]).Steps = 0 := rfl
  have hcd : ¬ deadD (crashM M kk[k]) := fun e => by cases e.1
  generalize crashM M kk[k] = C at *
  refine walk ?_
  refine ops_pcall rfl rfl (tells_spec (b := q) h5) ?_
  refine walk ?_
  refine ops_pcall rfl rfl (deadO_spec (b := q) (m := C)) ?_
  rw [decide_eq_false hcd]
  refine walk ?_
  refine ops_pcall rfl rfl (steps_spec (b := q) (m := C)) ?_
  rw [show I C.Steps = I 0 by rw [hcst]]
  refine walk ?_
  refine ex_loop (σ := Nat × Heap × Nat × Option Addr × Nat) (fun s => (s.1 ≤ mm.length ∧ s.1 ≤ 5) ∧ H5.le s.2.1 ∧ rDrive s.2.1 (mCs s.2.2.2.1 s.2.2.2.2 ((mm.take s.1).foldl playM C)) ((mm.take s.1).foldl playM C))
    (fun s => [(1, .slice b1 kk.length c1), (2, .slice b2 mm.length c2), (7, pp b), (8, pp p8), (9, .bool true), (10, I k), (11, pp s.2.2.1), (12, pp p12), (13, I s.1)]) (fun s => s.2.1)
    (fun s => driveO s.2.2.1 ((mm.take s.1).foldl playM C) :: mRow p12 s.2.2.2.1 s.2.2.2.2 ((mm.take s.1).foldl playM C) :: driveO b M :: mRow p8 b6 d6 M :: R)
    (fun s => 5 - s.1) (0, H5, q, b5, d5) ⟨⟨Nat.zero_le _, Nat.zero_le _⟩, .refl _, h5⟩ fun ⟨j, H6, q6, b9, d9⟩ ⟨⟨hj0, hj5⟩, hl6, h6⟩ K2 hL2 => ?_
  dsimp only at hj0 hj5 hl6 h6 ⊢
  have hst5 := fold_steps5 (l := mm) hcst hj5
  have hnx : ∀ h : j < mm.length, (mm.take (j + 1)).foldl playM C = playM ((mm.take j).foldl playM C) mm[j] := fun h => by rw [List.take_succ_eq_append_getElem h, List.foldl_append]; rfl
  generalize (mm.take j).foldl playM C = D at *
  refine walkG ?_
  refine ex_if rfl (fun hq2 => ?_) (fun hq2 => ?_)
  · have hq3 := hq2.1
    have hj1 : j < mm.length := by omega
    have hnx1 := hnx hj1
    have hm6 := hmm.mono (hl03.trans (hl5.trans hl6))
    clear hL
    refine walk ?_
    refine ex_any 6 (driveO q6 D :: mRow p12 b9 d9 D :: driveO b M :: mRow p8 b6 d6 M :: R) ?_
    (first | refine gny_p 0 rfl rfl rfl ?_ | refine gny_ld 0 rfl rfl rfl rfl ?_ | refine gny_ldH 0 rfl rfl rfl ‹HRow _ _ 0 _› rfl ?_ | refine gny_T 0 rfl rfl rfl ?_ | refine gny_F 0 rfl rfl rfl ?_ | refine gny_B 0 rfl rfl rfl ?_ | refine gny_skip 0 rfl rfl ?_ | refine gny_sp 0 rfl rfl rfl ?_ | refine gny_sB 0 rfl rfl rfl ?_ | refine gny_sld 0 rfl rfl rfl rfl ?_ | refine gny_sldH 0 rfl rfl rfl ‹HRow _ _ 0 _› rfl ?_ | refine gny_ldN 0 rfl rfl rfl rfl ?_ | refine gny_bld 0 rfl rfl rfl ?_); (first | refine gny_p 1 rfl rfl rfl ?_ | refine gny_ld 1 rfl rfl rfl rfl ?_ | refine gny_ldH 1 rfl rfl rfl ‹HRow _ _ 0 _› rfl ?_ | refine gny_T 1 rfl rfl rfl ?_ | refine gny_F 1 rfl rfl rfl ?_ | refine gny_B 1 rfl rfl rfl ?_ | refine gny_skip 1 rfl rfl ?_ | refine gny_sp 1 rfl rfl rfl ?_ | refine gny_sB 1 rfl rfl rfl ?_ | refine gny_sld 1 rfl rfl rfl rfl ?_ | refine gny_sldH 1 rfl rfl rfl ‹HRow _ _ 0 _› rfl ?_ | refine gny_ldN 1 rfl rfl rfl rfl ?_ | refine gny_bld 1 rfl rfl rfl ?_); (first | refine gny_p 2 rfl rfl rfl ?_ | refine gny_ld 2 rfl rfl rfl rfl ?_ | refine gny_ldH 2 rfl rfl rfl ‹HRow _ _ 0 _› rfl ?_ | refine gny_T 2 rfl rfl rfl ?_ | refine gny_F 2 rfl rfl rfl ?_ | refine gny_B 2 rfl rfl rfl ?_ | refine gny_skip 2 rfl rfl ?_ | refine gny_sp 2 rfl rfl rfl ?_ | refine gny_sB 2 rfl rfl rfl ?_ | refine gny_sld 2 rfl rfl rfl rfl ?_ | refine gny_sldH 2 rfl rfl rfl ‹HRow _ _ 0 _› rfl ?_ | refine gny_ldN 2 rfl rfl rfl rfl ?_ | refine gny_bld 2 rfl rfl rfl ?_); (first | refine gny_p 3 rfl rfl rfl ?_ | refine gny_ld 3 rfl rfl rfl rfl ?_ | refine gny_ldH 3 rfl rfl rfl ‹HRow _ _ 0 _› rfl ?_ | refine gny_T 3 rfl rfl rfl ?_ | refine gny_F 3 rfl rfl rfl ?_ | refine gny_B 3 rfl rfl rfl ?_ | refine gny_skip 3 rfl rfl ?_ | refine gny_sp 3 rfl rfl rfl ?_ | refine gny_sB 3 rfl rfl rfl ?_ | refine gny_sld 3 rfl rfl rfl rfl ?_ | refine gny_sldH 3 rfl rfl rfl ‹HRow _ _ 0 _› rfl ?_ | refine gny_ldN 3 rfl rfl rfl rfl ?_ | refine gny_bld 3 rfl rfl rfl ?_)
    refine gny_ixp 4 rfl rfl rfl hm6.1 hj1 (fun o9 off cc hr hc => ?_)
    refine gny_ldNH 5 rfl rfl rfl hr (RdOk.len (R := rOp) hc) ?_
    refine any_stage 13 (driveO b M :: mRow p8 b6 d6 M :: R) ?_
    refine gny_call 6 rfl rfl rfl (play_spec (b := q6) h6 hc (by omega)) fun r7 H7 B hl7 ⟨q7, c7, er, h7, eB⟩ => ?_
    subst er eB
    refine ⟨(by (repeat (first | exact Sub.refl _ | exact Sub.nil _ | (apply sub_pick; (repeat (first | exact Has.here | apply Has.there)); skip) | apply Sub.drop))), ?_⟩
    rw [← hnx1] at h7 ⊢
    obtain ⟨b7, d7, rfl⟩ := rd_open h7
    (first | refine gny_p 7 rfl rfl rfl ?_ | refine gny_ld 7 rfl rfl rfl rfl ?_ | refine gny_ldH 7 rfl rfl rfl ‹HRow _ _ 0 _› rfl ?_ | refine gny_T 7 rfl rfl rfl ?_ | refine gny_F 7 rfl rfl rfl ?_ | refine gny_B 7 rfl rfl rfl ?_ | refine gny_skip 7 rfl rfl ?_ | refine gny_sp 7 rfl rfl rfl ?_ | refine gny_sB 7 rfl rfl rfl ?_ | refine gny_sld 7 rfl rfl rfl rfl ?_ | refine gny_sldH 7 rfl rfl rfl ‹HRow _ _ 0 _› rfl ?_ | refine gny_ldN 7 rfl rfl rfl rfl ?_ | refine gny_bld 7 rfl rfl rfl ?_)
    refine gny_ext 8 rfl rfl rfl rfl ?_
    refine gny_ext 9 rfl rfl rfl rfl ?_
    refine gny_ext 10 rfl rfl rfl rfl ?_
    (first | refine gny_p 11 rfl rfl rfl ?_ | refine gny_ld 11 rfl rfl rfl rfl ?_ | refine gny_ldH 11 rfl rfl rfl ‹HRow _ _ 0 _› rfl ?_ | refine gny_T 11 rfl rfl rfl ?_ | refine gny_F 11 rfl rfl rfl ?_ | refine gny_B 11 rfl rfl rfl ?_ | refine gny_skip 11 rfl rfl ?_ | refine gny_sp 11 rfl rfl rfl ?_ | refine gny_sB 11 rfl rfl rfl ?_ | refine gny_sld 11 rfl rfl rfl rfl ?_ | refine gny_sldH 11 rfl rfl rfl ‹HRow _ _ 0 _› rfl ?_ | refine gny_ldN 11 rfl rfl rfl rfl ?_ | refine gny_bld 11 rfl rfl rfl ?_)
    refine any_sta 12 rfl rfl rfl rfl (by simp) rfl ⟨(by (repeat (first | exact Sub.refl _ | exact Sub.nil _ | (apply sub_pick; (repeat (first | exact Has.here | apply Has.there)); skip) | apply Sub.drop))), ?_⟩
    refine any_rest rfl ?_
    have hfit : fits ((j : Int) + 1) := by unfold fits; omega
    refine walk ?_
    exact out_next hL2 (j + 1, H7, q7, b7, d7) ⟨⟨by omega, by omega⟩, hl6.trans hl7, h7⟩
  · clear hL2
    refine walk ?_
    refine ops_pcall rfl rfl (tells_spec (b := b) (RdOk.mono (hl5.trans hl6) h3 : rDrive H6 (mCs b6 d6 M) M)) ?_
    have hfit : fits ((k : Int) + 1) := by unfold fits; omega
    refine walk ?_
    exact out_next hL (k + 1, H6) ⟨⟨by omega, by omega⟩, hl3.trans (hl5.trans hl6)⟩
end Go.Proofs.Ytjafnombaehcaaa
