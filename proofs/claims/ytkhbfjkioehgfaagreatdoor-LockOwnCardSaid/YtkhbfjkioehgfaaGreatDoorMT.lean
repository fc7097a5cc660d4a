/- A table behind a script; LockPlays, walked. -/
import Derived.Test.YtkhbfjkioehgfaaGreatDoorMS
set_option linter.unusedVariables false
set_option linter.unusedSimpArgs false
namespace Go.Proofs.YtkhbfjkioehgfaaGreatDoor
open Go Go.Sx Go.Proofs
set_option maxHeartbeats 16000000 in
set_option maxRecDepth 20000 in
theorem built_spec {W0 : World} {H : Heap} {v : Value} {script : List Op} (hP : PkH H) (h0 : SlR rOp 10 H v script) :
    Ct Tryz.prog 19 #[v] W0 H [] (fun r H' B => ∃ p s m c, r = .tuple #[.pointer (some ⟨p, 0, none⟩), .agg c.toArray, .bool true] ∧ rTable H' c m ∧ Inv 60 s ∧ Rel s m ∧ B = [tabO H' p s]) := by
  refine Ct.go (vs := [v]) fun R => ?_
  obtain ⟨b0, c0, rfl, hc0, hd0⟩ := h0.shape
  refine walk ?_
  refine ops_alloc rfl fun p3 _ => ?_
  refine walk ?_
  refine ops_call (vs := []) rfl rfl new_spec fun r1 H1 B hl1 ⟨p, er, eB, eH⟩ => ?_
  subst er eB eH
  refine walk ?_
  refine ops_alloc rfl fun p6 _ => ?_
  refine walk ?_
  refine ex_loop (σ := Nat × Nat × TS × Table × (Option Addr × Nat) × (Option Addr × Nat) × Heap) (fun u => (u.1 ≤ script.length ∧ u.1 ≤ 60) ∧ H1.le u.2.2.2.2.2.2 ∧ Inv u.1 u.2.2.1 ∧ Rel u.2.2.1 u.2.2.2.1 ∧ SlB rHold 2 24 u.2.2.2.2.2.2 (.slice u.2.2.2.2.1.1 u.2.2.2.1.Held.length u.2.2.2.2.1.2) u.2.2.2.1.Held ∧ SlB rRec 9 120 u.2.2.2.2.2.2 (.slice u.2.2.2.2.2.1.1 u.2.2.2.1.Prep.length u.2.2.2.2.2.1.2) u.2.2.2.1.Prep)
    (fun u => [(0, .slice b0 script.length c0), (3, .pointer (some ⟨p3, 0, none⟩)), (5, .pointer (some ⟨u.2.1, 0, none⟩)), (6, .pointer (some ⟨p6, 0, none⟩)), (7, .bool true), (8, I u.1)]) (fun u => u.2.2.2.2.2.2)
    (fun u => tabO u.2.2.2.2.2.2 u.2.1 u.2.2.1 :: row p6 55 [.slice u.2.2.2.2.1.1 u.2.2.2.1.Held.length u.2.2.2.2.1.2, .slice u.2.2.2.2.2.1.1 u.2.2.2.1.Prep.length u.2.2.2.2.2.1.2] :: row p3 55 [nilS, nilS] :: R) (fun u => script.length - u.1)
    (0, p, ⟨[], [], []⟩, ⟨[], []⟩, (none, 0), (none, 0), H1) ⟨⟨Nat.zero_le _, by omega⟩, .refl _, inv0, rel0, SlB.nil, SlB.nil⟩ fun ⟨k, q, s, m, ⟨d1, d2⟩, ⟨d3, d4⟩, HK⟩ ⟨⟨hk0, hk60⟩, hlK, hI, hR, hn1, hn2⟩ K hL => ?_
  simp only at hk0 hk60 hlK hI hR hn1 hn2
  dsimp only
  refine walkG ?_
  refine ex_if rfl (fun hk => ?_) (fun hk => ?_)
  · have hk1 : k < script.length := by omega
    refine walk ?_
    refine ex_any 6 [row p6 55 [.slice d1 m.Held.length d2, .slice d3 m.Prep.length d4]] ?_
    (first | refine gny_p 0 rfl rfl rfl ?_ | refine gny_ld 0 rfl rfl rfl rfl ?_ | refine gny_ldH 0 rfl rfl rfl ‹HRow _ _ 0 _› rfl ?_ | refine gny_T 0 rfl rfl rfl ?_ | refine gny_F 0 rfl rfl rfl ?_ | refine gny_B 0 rfl rfl rfl ?_ | refine gny_skip 0 rfl rfl ?_ | refine gny_sp 0 rfl rfl rfl ?_ | refine gny_sB 0 rfl rfl rfl ?_ | refine gny_sld 0 rfl rfl rfl rfl ?_ | refine gny_sldH 0 rfl rfl rfl ‹HRow _ _ 0 _› rfl ?_ | refine gny_ldN 0 rfl rfl rfl rfl ?_ | refine gny_bld 0 rfl rfl rfl ?_); (first | refine gny_p 1 rfl rfl rfl ?_ | refine gny_ld 1 rfl rfl rfl rfl ?_ | refine gny_ldH 1 rfl rfl rfl ‹HRow _ _ 0 _› rfl ?_ | refine gny_T 1 rfl rfl rfl ?_ | refine gny_F 1 rfl rfl rfl ?_ | refine gny_B 1 rfl rfl rfl ?_ | refine gny_skip 1 rfl rfl ?_ | refine gny_sp 1 rfl rfl rfl ?_ | refine gny_sB 1 rfl rfl rfl ?_ | refine gny_sld 1 rfl rfl rfl rfl ?_ | refine gny_sldH 1 rfl rfl rfl ‹HRow _ _ 0 _› rfl ?_ | refine gny_ldN 1 rfl rfl rfl rfl ?_ | refine gny_bld 1 rfl rfl rfl ?_); (first | refine gny_p 2 rfl rfl rfl ?_ | refine gny_ld 2 rfl rfl rfl rfl ?_ | refine gny_ldH 2 rfl rfl rfl ‹HRow _ _ 0 _› rfl ?_ | refine gny_T 2 rfl rfl rfl ?_ | refine gny_F 2 rfl rfl rfl ?_ | refine gny_B 2 rfl rfl rfl ?_ | refine gny_skip 2 rfl rfl ?_ | refine gny_sp 2 rfl rfl rfl ?_ | refine gny_sB 2 rfl rfl rfl ?_ | refine gny_sld 2 rfl rfl rfl rfl ?_ | refine gny_sldH 2 rfl rfl rfl ‹HRow _ _ 0 _› rfl ?_ | refine gny_ldN 2 rfl rfl rfl rfl ?_ | refine gny_bld 2 rfl rfl rfl ?_); (first | refine gny_p 3 rfl rfl rfl ?_ | refine gny_ld 3 rfl rfl rfl rfl ?_ | refine gny_ldH 3 rfl rfl rfl ‹HRow _ _ 0 _› rfl ?_ | refine gny_T 3 rfl rfl rfl ?_ | refine gny_F 3 rfl rfl rfl ?_ | refine gny_B 3 rfl rfl rfl ?_ | refine gny_skip 3 rfl rfl ?_ | refine gny_sp 3 rfl rfl rfl ?_ | refine gny_sB 3 rfl rfl rfl ?_ | refine gny_sld 3 rfl rfl rfl rfl ?_ | refine gny_sldH 3 rfl rfl rfl ‹HRow _ _ 0 _› rfl ?_ | refine gny_ldN 3 rfl rfl rfl rfl ?_ | refine gny_bld 3 rfl rfl rfl ?_)
    refine gny_ixp 4 rfl rfl rfl (h0.mono hlK) hk1 fun b o cc hr hc => ?_
    have hc0 := hc
    obtain ⟨u1, u2, rfl, _⟩ := hc
    refine gny_ldNH 5 rfl rfl rfl hr rfl ?_
    refine any_stage 13 [] ?_
    refine gny_call 6 rfl rfl rfl (play_spec (W0 := W0) (H := HK) (p := q) (s := s) (m := m) (n := k) (o := script[k]) (hP.mono hlK) hI (by omega) hR ⟨_, _, rfl, hn1, hn2⟩ hc0) fun r5 H5 B hl5 ⟨p', s', m', c', er, hc', hI', hR', eB⟩ => ?_
    subst er eB
    refine ⟨(by (repeat (first | exact Sub.refl _ | exact Sub.nil _ | (apply sub_pick; (repeat (first | exact Has.here | apply Has.there)); skip) | apply Sub.drop))), ?_⟩
    obtain ⟨q1, q2, rfl, hq1, hq2⟩ := hc'
    obtain ⟨qb1, qc1, rfl, _, _⟩ := hq1.1.shape
    obtain ⟨qb2, qc2, rfl, _, _⟩ := hq2.1.shape
    (first | refine gny_p 7 rfl rfl rfl ?_ | refine gny_ld 7 rfl rfl rfl rfl ?_ | refine gny_ldH 7 rfl rfl rfl ‹HRow _ _ 0 _› rfl ?_ | refine gny_T 7 rfl rfl rfl ?_ | refine gny_F 7 rfl rfl rfl ?_ | refine gny_B 7 rfl rfl rfl ?_ | refine gny_skip 7 rfl rfl ?_ | refine gny_sp 7 rfl rfl rfl ?_ | refine gny_sB 7 rfl rfl rfl ?_ | refine gny_sld 7 rfl rfl rfl rfl ?_ | refine gny_sldH 7 rfl rfl rfl ‹HRow _ _ 0 _› rfl ?_ | refine gny_ldN 7 rfl rfl rfl rfl ?_ | refine gny_bld 7 rfl rfl rfl ?_)
    refine gny_ext 8 rfl rfl rfl rfl ?_
    refine gny_ext 9 rfl rfl rfl rfl ?_
    refine gny_ext 10 rfl rfl rfl rfl ?_
    (first | refine gny_p 11 rfl rfl rfl ?_ | refine gny_ld 11 rfl rfl rfl rfl ?_ | refine gny_ldH 11 rfl rfl rfl ‹HRow _ _ 0 _› rfl ?_ | refine gny_T 11 rfl rfl rfl ?_ | refine gny_F 11 rfl rfl rfl ?_ | refine gny_B 11 rfl rfl rfl ?_ | refine gny_skip 11 rfl rfl ?_ | refine gny_sp 11 rfl rfl rfl ?_ | refine gny_sB 11 rfl rfl rfl ?_ | refine gny_sld 11 rfl rfl rfl rfl ?_ | refine gny_sldH 11 rfl rfl rfl ‹HRow _ _ 0 _› rfl ?_ | refine gny_ldN 11 rfl rfl rfl rfl ?_ | refine gny_bld 11 rfl rfl rfl ?_)
    refine any_sta 12 rfl rfl rfl rfl (by simp) rfl ⟨(by (repeat (first | exact Sub.refl _ | exact Sub.nil _ | (apply sub_pick; (repeat (first | exact Has.here | apply Has.there)); skip) | apply Sub.drop))), ?_⟩
    refine any_rest rfl ?_
    refine walk ?_
    exact out_next hL (k + 1, p', s', m', (qb1, qc1), (qb2, qc2), H5) ⟨⟨by simp only; omega, by simp only; omega⟩, hlK.trans hl5, hI', hR', hq1, hq2⟩
  · clear hL
    refine walk ?_
    refine ex_any 5 [row p6 55 [.slice d1 m.Held.length d2, .slice d3 m.Prep.length d4]] ?_
    (first | refine gny_p 0 rfl rfl rfl ?_ | refine gny_ld 0 rfl rfl rfl rfl ?_ | refine gny_ldH 0 rfl rfl rfl ‹HRow _ _ 0 _› rfl ?_ | refine gny_T 0 rfl rfl rfl ?_ | refine gny_F 0 rfl rfl rfl ?_ | refine gny_B 0 rfl rfl rfl ?_ | refine gny_skip 0 rfl rfl ?_ | refine gny_sp 0 rfl rfl rfl ?_ | refine gny_sB 0 rfl rfl rfl ?_ | refine gny_sld 0 rfl rfl rfl rfl ?_ | refine gny_sldH 0 rfl rfl rfl ‹HRow _ _ 0 _› rfl ?_ | refine gny_ldN 0 rfl rfl rfl rfl ?_ | refine gny_bld 0 rfl rfl rfl ?_); (first | refine gny_p 1 rfl rfl rfl ?_ | refine gny_ld 1 rfl rfl rfl rfl ?_ | refine gny_ldH 1 rfl rfl rfl ‹HRow _ _ 0 _› rfl ?_ | refine gny_T 1 rfl rfl rfl ?_ | refine gny_F 1 rfl rfl rfl ?_ | refine gny_B 1 rfl rfl rfl ?_ | refine gny_skip 1 rfl rfl ?_ | refine gny_sp 1 rfl rfl rfl ?_ | refine gny_sB 1 rfl rfl rfl ?_ | refine gny_sld 1 rfl rfl rfl rfl ?_ | refine gny_sldH 1 rfl rfl rfl ‹HRow _ _ 0 _› rfl ?_ | refine gny_ldN 1 rfl rfl rfl rfl ?_ | refine gny_bld 1 rfl rfl rfl ?_); (first | refine gny_p 2 rfl rfl rfl ?_ | refine gny_ld 2 rfl rfl rfl rfl ?_ | refine gny_ldH 2 rfl rfl rfl ‹HRow _ _ 0 _› rfl ?_ | refine gny_T 2 rfl rfl rfl ?_ | refine gny_F 2 rfl rfl rfl ?_ | refine gny_B 2 rfl rfl rfl ?_ | refine gny_skip 2 rfl rfl ?_ | refine gny_sp 2 rfl rfl rfl ?_ | refine gny_sB 2 rfl rfl rfl ?_ | refine gny_sld 2 rfl rfl rfl rfl ?_ | refine gny_sldH 2 rfl rfl rfl ‹HRow _ _ 0 _› rfl ?_ | refine gny_ldN 2 rfl rfl rfl rfl ?_ | refine gny_bld 2 rfl rfl rfl ?_); (first | refine gny_p 3 rfl rfl rfl ?_ | refine gny_ld 3 rfl rfl rfl rfl ?_ | refine gny_ldH 3 rfl rfl rfl ‹HRow _ _ 0 _› rfl ?_ | refine gny_T 3 rfl rfl rfl ?_ | refine gny_F 3 rfl rfl rfl ?_ | refine gny_B 3 rfl rfl rfl ?_ | refine gny_skip 3 rfl rfl ?_ | refine gny_sp 3 rfl rfl rfl ?_ | refine gny_sB 3 rfl rfl rfl ?_ | refine gny_sld 3 rfl rfl rfl rfl ?_ | refine gny_sldH 3 rfl rfl rfl ‹HRow _ _ 0 _› rfl ?_ | refine gny_ldN 3 rfl rfl rfl rfl ?_ | refine gny_bld 3 rfl rfl rfl ?_)
    refine any_sta 4 rfl rfl rfl rfl (by simp) rfl ⟨(by (repeat (first | exact Sub.refl _ | exact Sub.nil _ | (apply sub_pick; (repeat (first | exact Has.here | apply Has.there)); skip) | apply Sub.drop))), ?_⟩
    refine any_rest rfl ?_
    refine walk ?_
    refine finB [tabO HK q s] ?_
    exact ⟨q, s, m, _, rfl, ⟨_, _, rfl, hn1, hn2⟩, hI.more hk60, hR, rfl⟩
theorem lockPlays_spec {W0 : World} {H : Heap} {v : Value} {script : List Op} (hP : PkH H) (h0 : SlR rOp 10 H v script) :
    Ct Tryz.prog 4 #[v] W0 H [] (fun r H' B => r = .bool true ∧ B = []) := by
  refine Ct.go (vs := [v]) fun R => ?_
  refine walk ?_
  refine ops_call rfl rfl (built_spec hP h0) fun r1 H1 B hl1 ⟨p, s, m, c, er, hc, hI, hR, eB⟩ => ?_
  subst er eB
  obtain ⟨q1, q2, rfl, hq1, hq2⟩ := hc
  obtain ⟨qb1, qc1, rfl, _, _⟩ := hq1.1.shape
  obtain ⟨qb2, qc2, rfl, _, _⟩ := hq2.1.shape
  refine walk ?_
  refine ops_alloc rfl fun p4 _ => ?_
  refine walk ?_
  refine ops_call (vs := []) rfl rfl awake14_spec fun r2 H2 B hl2 ⟨er, eB⟩ => ?_
  subst er eB
  refine walk ?_
  refine fin0 ?_
  exact ⟨rfl, rfl⟩
end Go.Proofs.YtkhbfjkioehgfaaGreatDoor
