/- One call, played. -/
import Derived.Test.YtjafnombaehcaaaDS
import Derived.Test.YtjafnombaehcaaaE35
set_option linter.unusedVariables false
set_option linter.unusedSimpArgs false
namespace Go.Proofs.Ytjafnombaehcaaa
open Go Go.Sx Go.Proofs
def playM (m : Drive) (o : Op) : Drive :=
  if o.Kind = 1 then appM m o.Name o.B else if o.Kind = 2 then syncM m o.Name else if o.Kind = 3 then renM m o.Name o.To else if o.Kind = 4 then delM m o.Name else if o.Kind = 5 then armM m o.N else if o.Kind = 6 then crashM m o.Keeps else m
/-- what a played call answers -/
def PPost (m : Drive) : Value → Heap → List HProp → Prop := fun r H' B => ∃ b c, r = .tuple #[.pointer (some ⟨b, 0, none⟩), .agg c.toArray, .bool true] ∧ rDrive H' c m ∧ B = [driveO b m]
set_option maxRecDepth 100000 in
set_option maxHeartbeats 8000000 in
theorem play_spec {W0 : World} {H : Heap} {b : Nat} {m : Drive} {o : Op} {c co : List Value} (h0 : rDrive H c m) (ho : rOp H co o) (hst : m.Steps ≤ 1000000000) :
    Ct Try.prog 21 #[.pointer (some ⟨b, 0, none⟩), .agg c.toArray, .agg co.toArray] W0 H [driveO b m] (PPost (playM m o)) := by
  refine Ct.go (vs := [.pointer (some ⟨b, 0, none⟩), .agg c.toArray, .agg co.toArray]) fun R => ?_
  refine ex_know (A := driveO b m) (p := DK m) (by repeat (first | exact Has.here | apply Has.there)) (fun h => driveO_know) fun hk => ?_
  have hmb := hk.mb hst
  obtain ⟨b0, c0, rfl⟩ := rd_open h0
  obtain ⟨s1, s2, rfl, o1, o2, o3, o4, o5, o6⟩ := ho
  obtain ⟨b1, c1, rfl, _, _⟩ := o4.1.shape
  obtain ⟨b2, c2, rfl, _, _⟩ := o6.1.shape
  refine walk ?_
  refine ops_box rfl rfl fun p4 _ => ?_
  refine walk ?_
  refine ops_box rfl rfl fun p5 _ => ?_
  refine walk ?_
  refine ops_alloc rfl fun p7 _ => ?_
  refine walk ?_
  refine ex_cutb (σ := Int × Heap × Option Addr × Nat) (fun s => H.le s.2.1 ∧ rDrive s.2.1 [.slice s.2.2.1 (playM m o).Files.length s.2.2.2, I (playM m o).Steps, .bool (playM m o).Armed, I (playM m o).Left] (playM m o))
    (fun s => [(0, .pointer (some ⟨b, 0, none⟩)), (4, .pointer (some ⟨p4, 0, none⟩)), (7, .pointer (some ⟨p7, 0, none⟩)), (9, I s.1), (10, I s.1)]) (fun s => s.2.1)
    (fun s => driveO b (playM m o) :: row p4 38 [.slice s.2.2.1 (playM m o).Files.length s.2.2.2, I (playM m o).Steps, .bool (playM m o).Armed, I (playM m o).Left] :: row p7 38 [nilS, I 0, .bool false, I 0] :: R) (fun K hK => ?_) (fun ⟨e, H1, b3, c3⟩ ⟨hl1, h1⟩ => ?_)
  rotate_left
  · dsimp only at hl1 h1 ⊢
    refine ex_seq ?_
    refine ex_any 12 (driveO b (playM m o) :: row p4 38 [.slice b3 (playM m o).Files.length c3, I (playM m o).Steps, .bool (playM m o).Armed, I (playM m o).Left] :: R) ?_
    (first | refine gny_p 0 rfl rfl rfl ?_ | refine gny_ld 0 rfl rfl rfl rfl ?_ | refine gny_ldH 0 rfl rfl rfl ‹HRow _ _ 0 _› rfl ?_ | refine gny_T 0 rfl rfl rfl ?_ | refine gny_F 0 rfl rfl rfl ?_ | refine gny_B 0 rfl rfl rfl ?_ | refine gny_skip 0 rfl rfl ?_ | refine gny_sp 0 rfl rfl rfl ?_ | refine gny_sB 0 rfl rfl rfl ?_ | refine gny_sld 0 rfl rfl rfl rfl ?_ | refine gny_sldH 0 rfl rfl rfl ‹HRow _ _ 0 _› rfl ?_ | refine gny_ldN 0 rfl rfl rfl rfl ?_ | refine gny_bld 0 rfl rfl rfl ?_); (first | refine gny_p 1 rfl rfl rfl ?_ | refine gny_ld 1 rfl rfl rfl rfl ?_ | refine gny_ldH 1 rfl rfl rfl ‹HRow _ _ 0 _› rfl ?_ | refine gny_T 1 rfl rfl rfl ?_ | refine gny_F 1 rfl rfl rfl ?_ | refine gny_B 1 rfl rfl rfl ?_ | refine gny_skip 1 rfl rfl ?_ | refine gny_sp 1 rfl rfl rfl ?_ | refine gny_sB 1 rfl rfl rfl ?_ | refine gny_sld 1 rfl rfl rfl rfl ?_ | refine gny_sldH 1 rfl rfl rfl ‹HRow _ _ 0 _› rfl ?_ | refine gny_ldN 1 rfl rfl rfl rfl ?_ | refine gny_bld 1 rfl rfl rfl ?_); (first | refine gny_p 2 rfl rfl rfl ?_ | refine gny_ld 2 rfl rfl rfl rfl ?_ | refine gny_ldH 2 rfl rfl rfl ‹HRow _ _ 0 _› rfl ?_ | refine gny_T 2 rfl rfl rfl ?_ | refine gny_F 2 rfl rfl rfl ?_ | refine gny_B 2 rfl rfl rfl ?_ | refine gny_skip 2 rfl rfl ?_ | refine gny_sp 2 rfl rfl rfl ?_ | refine gny_sB 2 rfl rfl rfl ?_ | refine gny_sld 2 rfl rfl rfl rfl ?_ | refine gny_sldH 2 rfl rfl rfl ‹HRow _ _ 0 _› rfl ?_ | refine gny_ldN 2 rfl rfl rfl rfl ?_ | refine gny_bld 2 rfl rfl rfl ?_); (first | refine gny_p 3 rfl rfl rfl ?_ | refine gny_ld 3 rfl rfl rfl rfl ?_ | refine gny_ldH 3 rfl rfl rfl ‹HRow _ _ 0 _› rfl ?_ | refine gny_T 3 rfl rfl rfl ?_ | refine gny_F 3 rfl rfl rfl ?_ | refine gny_B 3 rfl rfl rfl ?_ | refine gny_skip 3 rfl rfl ?_ | refine gny_sp 3 rfl rfl rfl ?_ | refine gny_sB 3 rfl rfl rfl ?_ | refine gny_sld 3 rfl rfl rfl rfl ?_ | refine gny_sldH 3 rfl rfl rfl ‹HRow _ _ 0 _› rfl ?_ | refine gny_ldN 3 rfl rfl rfl rfl ?_ | refine gny_bld 3 rfl rfl rfl ?_); (first | refine gny_p 4 rfl rfl rfl ?_ | refine gny_ld 4 rfl rfl rfl rfl ?_ | refine gny_ldH 4 rfl rfl rfl ‹HRow _ _ 0 _› rfl ?_ | refine gny_T 4 rfl rfl rfl ?_ | refine gny_F 4 rfl rfl rfl ?_ | refine gny_B 4 rfl rfl rfl ?_ | refine gny_skip 4 rfl rfl ?_ | refine gny_sp 4 rfl rfl rfl ?_ | refine gny_sB 4 rfl rfl rfl ?_ | refine gny_sld 4 rfl rfl rfl rfl ?_ | refine gny_sldH 4 rfl rfl rfl ‹HRow _ _ 0 _› rfl ?_ | refine gny_ldN 4 rfl rfl rfl rfl ?_ | refine gny_bld 4 rfl rfl rfl ?_); (first | refine gny_p 5 rfl rfl rfl ?_ | refine gny_ld 5 rfl rfl rfl rfl ?_ | refine gny_ldH 5 rfl rfl rfl ‹HRow _ _ 0 _› rfl ?_ | refine gny_T 5 rfl rfl rfl ?_ | refine gny_F 5 rfl rfl rfl ?_ | refine gny_B 5 rfl rfl rfl ?_ | refine gny_skip 5 rfl rfl ?_ | refine gny_sp 5 rfl rfl rfl ?_ | refine gny_sB 5 rfl rfl rfl ?_ | refine gny_sld 5 rfl rfl rfl rfl ?_ | refine gny_sldH 5 rfl rfl rfl ‹HRow _ _ 0 _› rfl ?_ | refine gny_ldN 5 rfl rfl rfl rfl ?_ | refine gny_bld 5 rfl rfl rfl ?_); (first | refine gny_p 6 rfl rfl rfl ?_ | refine gny_ld 6 rfl rfl rfl rfl ?_ | refine gny_ldH 6 rfl rfl rfl ‹HRow _ _ 0 _› rfl ?_ | refine gny_T 6 rfl rfl rfl ?_ | refine gny_F 6 rfl rfl rfl ?_ | refine gny_B 6 rfl rfl rfl ?_ | refine gny_skip 6 rfl rfl ?_ | refine gny_sp 6 rfl rfl rfl ?_ | refine gny_sB 6 rfl rfl rfl ?_ | refine gny_sld 6 rfl rfl rfl rfl ?_ | refine gny_sldH 6 rfl rfl rfl ‹HRow _ _ 0 _› rfl ?_ | refine gny_ldN 6 rfl rfl rfl rfl ?_ | refine gny_bld 6 rfl rfl rfl ?_); (first | refine gny_p 7 rfl rfl rfl ?_ | refine gny_ld 7 rfl rfl rfl rfl ?_ | refine gny_ldH 7 rfl rfl rfl ‹HRow _ _ 0 _› rfl ?_ | refine gny_T 7 rfl rfl rfl ?_ | refine gny_F 7 rfl rfl rfl ?_ | refine gny_B 7 rfl rfl rfl ?_ | refine gny_skip 7 rfl rfl ?_ | refine gny_sp 7 rfl rfl rfl ?_ | refine gny_sB 7 rfl rfl rfl ?_ | refine gny_sld 7 rfl rfl rfl rfl ?_ | refine gny_sldH 7 rfl rfl rfl ‹HRow _ _ 0 _› rfl ?_ | refine gny_ldN 7 rfl rfl rfl rfl ?_ | refine gny_bld 7 rfl rfl rfl ?_)
    refine gny_pcall 8 rfl rfl rfl (tells_spec h1) ?_
    (first | refine gny_p 9 rfl rfl rfl ?_ | refine gny_ld 9 rfl rfl rfl rfl ?_ | refine gny_ldH 9 rfl rfl rfl ‹HRow _ _ 0 _› rfl ?_ | refine gny_T 9 rfl rfl rfl ?_ | refine gny_F 9 rfl rfl rfl ?_ | refine gny_B 9 rfl rfl rfl ?_ | refine gny_skip 9 rfl rfl ?_ | refine gny_sp 9 rfl rfl rfl ?_ | refine gny_sB 9 rfl rfl rfl ?_ | refine gny_sld 9 rfl rfl rfl rfl ?_ | refine gny_sldH 9 rfl rfl rfl ‹HRow _ _ 0 _› rfl ?_ | refine gny_ldN 9 rfl rfl rfl rfl ?_ | refine gny_bld 9 rfl rfl rfl ?_); (first | refine gny_p 10 rfl rfl rfl ?_ | refine gny_ld 10 rfl rfl rfl rfl ?_ | refine gny_ldH 10 rfl rfl rfl ‹HRow _ _ 0 _› rfl ?_ | refine gny_T 10 rfl rfl rfl ?_ | refine gny_F 10 rfl rfl rfl ?_ | refine gny_B 10 rfl rfl rfl ?_ | refine gny_skip 10 rfl rfl ?_ | refine gny_sp 10 rfl rfl rfl ?_ | refine gny_sB 10 rfl rfl rfl ?_ | refine gny_sld 10 rfl rfl rfl rfl ?_ | refine gny_sldH 10 rfl rfl rfl ‹HRow _ _ 0 _› rfl ?_ | refine gny_ldN 10 rfl rfl rfl rfl ?_ | refine gny_bld 10 rfl rfl rfl ?_)
    refine any_sta 11 rfl rfl rfl rfl (by simp) rfl ⟨(by (repeat (first | exact Sub.refl _ | exact Sub.nil _ | (apply sub_pick; (repeat (first | exact Has.here | apply Has.there)); skip) | apply Sub.drop))), ?_⟩
    refine any_rest rfl ?_
    refine walk ?_
    refine finB [driveO b (playM m o)] ?_
    exact ⟨b, _, rfl, h1, rfl⟩
  unfold playM at hK ⊢
  by_cases k1 : o.Kind = 1
  · rw [if_pos k1] at hK ⊢
    refine walk ?_
    rw [decide_eq_true (p := o.Kind = 1) k1]
    refine walk ?_
    have hnl := o4.2
    refine ex_any 7 (driveO b m :: row p5 50 (o.cv (.slice b1 o.B.length c1) (.slice b2 o.Keeps.length c2)) :: row p4 38 [.slice b0 m.Files.length c0, I m.Steps, .bool m.Armed, I m.Left] :: row p7 38 [nilS, I 0, .bool false, I 0] :: R) ?_
    (first | refine gny_p 0 rfl rfl rfl ?_ | refine gny_ld 0 rfl rfl rfl rfl ?_ | refine gny_ldH 0 rfl rfl rfl ‹HRow _ _ 0 _› rfl ?_ | refine gny_T 0 rfl rfl rfl ?_ | refine gny_F 0 rfl rfl rfl ?_ | refine gny_B 0 rfl rfl rfl ?_ | refine gny_skip 0 rfl rfl ?_ | refine gny_sp 0 rfl rfl rfl ?_ | refine gny_sB 0 rfl rfl rfl ?_ | refine gny_sld 0 rfl rfl rfl rfl ?_ | refine gny_sldH 0 rfl rfl rfl ‹HRow _ _ 0 _› rfl ?_ | refine gny_ldN 0 rfl rfl rfl rfl ?_ | refine gny_bld 0 rfl rfl rfl ?_); (first | refine gny_p 1 rfl rfl rfl ?_ | refine gny_ld 1 rfl rfl rfl rfl ?_ | refine gny_ldH 1 rfl rfl rfl ‹HRow _ _ 0 _› rfl ?_ | refine gny_T 1 rfl rfl rfl ?_ | refine gny_F 1 rfl rfl rfl ?_ | refine gny_B 1 rfl rfl rfl ?_ | refine gny_skip 1 rfl rfl ?_ | refine gny_sp 1 rfl rfl rfl ?_ | refine gny_sB 1 rfl rfl rfl ?_ | refine gny_sld 1 rfl rfl rfl rfl ?_ | refine gny_sldH 1 rfl rfl rfl ‹HRow _ _ 0 _› rfl ?_ | refine gny_ldN 1 rfl rfl rfl rfl ?_ | refine gny_bld 1 rfl rfl rfl ?_); (first | refine gny_p 2 rfl rfl rfl ?_ | refine gny_ld 2 rfl rfl rfl rfl ?_ | refine gny_ldH 2 rfl rfl rfl ‹HRow _ _ 0 _› rfl ?_ | refine gny_T 2 rfl rfl rfl ?_ | refine gny_F 2 rfl rfl rfl ?_ | refine gny_B 2 rfl rfl rfl ?_ | refine gny_skip 2 rfl rfl ?_ | refine gny_sp 2 rfl rfl rfl ?_ | refine gny_sB 2 rfl rfl rfl ?_ | refine gny_sld 2 rfl rfl rfl rfl ?_ | refine gny_sldH 2 rfl rfl rfl ‹HRow _ _ 0 _› rfl ?_ | refine gny_ldN 2 rfl rfl rfl rfl ?_ | refine gny_bld 2 rfl rfl rfl ?_); (first | refine gny_p 4 rfl rfl rfl ?_ | refine gny_ld 4 rfl rfl rfl rfl ?_ | refine gny_ldH 4 rfl rfl rfl ‹HRow _ _ 0 _› rfl ?_ | refine gny_T 4 rfl rfl rfl ?_ | refine gny_F 4 rfl rfl rfl ?_ | refine gny_B 4 rfl rfl rfl ?_ | refine gny_skip 4 rfl rfl ?_ | refine gny_sp 4 rfl rfl rfl ?_ | refine gny_sB 4 rfl rfl rfl ?_ | refine gny_sld 4 rfl rfl rfl rfl ?_ | refine gny_sldH 4 rfl rfl rfl ‹HRow _ _ 0 _› rfl ?_ | refine gny_ldN 4 rfl rfl rfl rfl ?_ | refine gny_bld 4 rfl rfl rfl ?_); (first | refine gny_p 5 rfl rfl rfl ?_ | refine gny_ld 5 rfl rfl rfl rfl ?_ | refine gny_ldH 5 rfl rfl rfl ‹HRow _ _ 0 _› rfl ?_ | refine gny_T 5 rfl rfl rfl ?_ | refine gny_F 5 rfl rfl rfl ?_ | refine gny_B 5 rfl rfl rfl ?_ | refine gny_skip 5 rfl rfl ?_ | refine gny_sp 5 rfl rfl rfl ?_ | refine gny_sB 5 rfl rfl rfl ?_ | refine gny_sld 5 rfl rfl rfl rfl ?_ | refine gny_sldH 5 rfl rfl rfl ‹HRow _ _ 0 _› rfl ?_ | refine gny_ldN 5 rfl rfl rfl rfl ?_ | refine gny_bld 5 rfl rfl rfl ?_)
    refine gny_w 3 rfl rfl (op_mk0S (wd := 1) rU8 fun b9 => ⟨.refl _, (by (repeat (first | exact Sub.refl _ | exact Sub.nil _ | (apply sub_pick; (repeat (first | exact Has.here | apply Has.there)); skip) | apply Sub.drop))), ?_⟩)
    refine gny_w 6 rfl rfl (op_appSS (R := rU8) rfl o4.1 (by simpa using hnl) fun d7 e7 => ⟨.refl _, (by (repeat (first | exact Sub.refl _ | exact Sub.nil _ | (apply sub_pick; (repeat (first | exact Has.here | apply Has.there)); skip) | apply Sub.drop))), ?_⟩)
    rw [List.nil_append, show ([] : List Int).length + o.B.length = o.B.length from Nat.zero_add _]
    refine any_rest rfl ?_
    refine ops_freeze (.slice d7 o.B.length e7) fun H3 hl3 hs3 => ?_
    refine ops_call rfl rfl (append_spec (b := b) (m := m) (n := o.Name) (ns := o.B) o2 hst hs3) fun r4 H4 B hl4 ⟨er, eB, eH⟩ => ?_
    subst er eB eH
    refine walk ?_
    refine ops_b2sS rfl rfl (o4.mono hl3).1 ?_
    have hra := rAppend_spec (W0 := W0) (n := o.Name) (ns := o.B) (RdOk.mono hl3 h0 : rDrive H4 _ m) o2 (by simpa using hnl) hmb
    refine ops_call rfl rfl hra fun r5 H5 B hl5 ⟨c5, er, h5, eB⟩ => ?_
    subst er eB
    obtain ⟨b6, d6, rfl⟩ := rd_open h5
    refine walk ?_
    exact out_to hK (appC m o.Name o.B.length, H5, b6, d6) ⟨hl3.trans hl5, h5⟩
  rw [if_neg k1] at hK ⊢
  refine walk ?_
  rw [decide_eq_false (p := o.Kind = 1) k1]
  by_cases k2 : o.Kind = 2
  · rw [if_pos k2] at hK ⊢
    refine walk ?_
    refine ops_call rfl rfl (sync_spec (b := b) (m := m) (n := o.Name) o2 hst) fun r4 H4 B hl4 ⟨er, eB, eH⟩ => ?_
    subst er eB eH
    refine walk ?_
    refine ops_call rfl rfl (rSync_spec h0 o2 hmb) fun r5 H5 B hl5 ⟨c5, er, h5, eB⟩ => ?_
    subst er eB
    obtain ⟨b6, d6, rfl⟩ := rd_open h5
    refine walk ?_
    exact out_to hK (lookM m o.Name, H5, b6, d6) ⟨hl5, h5⟩
  rw [if_neg k2] at hK ⊢
  by_cases k3 : o.Kind = 3
  · rw [if_pos k3] at hK ⊢
    refine walk ?_
    refine ops_call rfl rfl (rename_spec (b := b) (m := m) (n := o.Name) (t := o.To) o2 o3 hst) fun r4 H4 B hl4 ⟨er, eB, eH⟩ => ?_
    subst er eB eH
    refine walk ?_
    refine ops_call rfl rfl (rRename_spec h0 o2 o3 hmb) fun r5 H5 B hl5 ⟨c5, er, h5, eB⟩ => ?_
    subst er eB
    obtain ⟨b6, d6, rfl⟩ := rd_open h5
    refine walk ?_
    exact out_to hK (renC m o.Name o.To, H5, b6, d6) ⟨hl5, h5⟩
  rw [if_neg k3] at hK ⊢
  by_cases k4 : o.Kind = 4
  · rw [if_pos k4] at hK ⊢
    refine walk ?_
    refine ops_call rfl rfl (delete_spec (b := b) (m := m) (n := o.Name) o2 hst) fun r4 H4 B hl4 ⟨er, eB, eH⟩ => ?_
    subst er eB eH
    refine walk ?_
    refine ops_call rfl rfl (rDelete_spec h0 o2 hmb) fun r5 H5 B hl5 ⟨c5, er, h5, eB⟩ => ?_
    subst er eB
    obtain ⟨b6, d6, rfl⟩ := rd_open h5
    refine walk ?_
    exact out_to hK (lookM m o.Name, H5, b6, d6) ⟨hl5, h5⟩
  rw [if_neg k4] at hK ⊢
  by_cases k5 : o.Kind = 5
  · rw [if_pos k5] at hK ⊢
    refine walk ?_
    refine ops_call rfl rfl (arm_spec (b := b) (m := m) o5) fun r4 H4 B hl4 ⟨er, eB, eH⟩ => ?_
    subst er eB eH
    refine walk ?_
    refine ops_call rfl rfl (rArm_spec h0 o5) fun r5 H5 B hl5 ⟨c5, er, h5, eB⟩ => ?_
    subst er eB
    obtain ⟨b6, d6, rfl⟩ := rd_open h5
    refine walk ?_
    exact out_to hK (armC m o.N, H5, b6, d6) ⟨hl5, h5⟩
  rw [if_neg k5] at hK ⊢
  by_cases k6 : o.Kind = 6
  rotate_left
  · rw [if_neg k6] at hK ⊢
    refine walk ?_
    exact out_to hK (0, H, b0, c0) ⟨.refl _, h0⟩
  rw [if_pos k6] at hK ⊢
  clear hK
  refine walk ?_
  refine ex_any 4 (driveO b m :: row p5 50 (o.cv (.slice b1 o.B.length c1) (.slice b2 o.Keeps.length c2)) :: row p4 38 [.slice b0 m.Files.length c0, I m.Steps, .bool m.Armed, I m.Left] :: row p7 38 [nilS, I 0, .bool false, I 0] :: R) ?_
  (first | refine gny_p 0 rfl rfl rfl ?_ | refine gny_ld 0 rfl rfl rfl rfl ?_ | refine gny_ldH 0 rfl rfl rfl ‹HRow _ _ 0 _› rfl ?_ | refine gny_T 0 rfl rfl rfl ?_ | refine gny_F 0 rfl rfl rfl ?_ | refine gny_B 0 rfl rfl rfl ?_ | refine gny_skip 0 rfl rfl ?_ | refine gny_sp 0 rfl rfl rfl ?_ | refine gny_sB 0 rfl rfl rfl ?_ | refine gny_sld 0 rfl rfl rfl rfl ?_ | refine gny_sldH 0 rfl rfl rfl ‹HRow _ _ 0 _› rfl ?_ | refine gny_ldN 0 rfl rfl rfl rfl ?_ | refine gny_bld 0 rfl rfl rfl ?_); (first | refine gny_p 1 rfl rfl rfl ?_ | refine gny_ld 1 rfl rfl rfl rfl ?_ | refine gny_ldH 1 rfl rfl rfl ‹HRow _ _ 0 _› rfl ?_ | refine gny_T 1 rfl rfl rfl ?_ | refine gny_F 1 rfl rfl rfl ?_ | refine gny_B 1 rfl rfl rfl ?_ | refine gny_skip 1 rfl rfl ?_ | refine gny_sp 1 rfl rfl rfl ?_ | refine gny_sB 1 rfl rfl rfl ?_ | refine gny_sld 1 rfl rfl rfl rfl ?_ | refine gny_sldH 1 rfl rfl rfl ‹HRow _ _ 0 _› rfl ?_ | refine gny_ldN 1 rfl rfl rfl rfl ?_ | refine gny_bld 1 rfl rfl rfl ?_)
  refine gny_alloc 2 rfl rfl fun p12 _ => ?_
  (first | refine gny_p 3 rfl rfl rfl ?_ | refine gny_ld 3 rfl rfl rfl rfl ?_ | refine gny_ldH 3 rfl rfl rfl ‹HRow _ _ 0 _› rfl ?_ | refine gny_T 3 rfl rfl rfl ?_ | refine gny_F 3 rfl rfl rfl ?_ | refine gny_B 3 rfl rfl rfl ?_ | refine gny_skip 3 rfl rfl ?_ | refine gny_sp 3 rfl rfl rfl ?_ | refine gny_sB 3 rfl rfl rfl ?_ | refine gny_sld 3 rfl rfl rfl rfl ?_ | refine gny_sldH 3 rfl rfl rfl ‹HRow _ _ 0 _› rfl ?_ | refine gny_ldN 3 rfl rfl rfl rfl ?_ | refine gny_bld 3 rfl rfl rfl ?_)
  refine any_rest rfl ?_
  refine walk ?_
  refine ex_any 7 (driveO b m :: row p12 38 [.slice b0 m.Files.length c0, I m.Steps, .bool m.Armed, I m.Left] :: row p5 50 (o.cv (.slice b1 o.B.length c1) (.slice b2 o.Keeps.length c2)) :: row p4 38 [.slice b0 m.Files.length c0, I m.Steps, .bool m.Armed, I m.Left] :: row p7 38 [nilS, I 0, .bool false, I 0] :: R) ?_
  (first | refine gny_p 0 rfl rfl rfl ?_ | refine gny_ld 0 rfl rfl rfl rfl ?_ | refine gny_ldH 0 rfl rfl rfl ‹HRow _ _ 0 _› rfl ?_ | refine gny_T 0 rfl rfl rfl ?_ | refine gny_F 0 rfl rfl rfl ?_ | refine gny_B 0 rfl rfl rfl ?_ | refine gny_skip 0 rfl rfl ?_ | refine gny_sp 0 rfl rfl rfl ?_ | refine gny_sB 0 rfl rfl rfl ?_ | refine gny_sld 0 rfl rfl rfl rfl ?_ | refine gny_sldH 0 rfl rfl rfl ‹HRow _ _ 0 _› rfl ?_ | refine gny_ldN 0 rfl rfl rfl rfl ?_ | refine gny_bld 0 rfl rfl rfl ?_); (first | refine gny_p 1 rfl rfl rfl ?_ | refine gny_ld 1 rfl rfl rfl rfl ?_ | refine gny_ldH 1 rfl rfl rfl ‹HRow _ _ 0 _› rfl ?_ | refine gny_T 1 rfl rfl rfl ?_ | refine gny_F 1 rfl rfl rfl ?_ | refine gny_B 1 rfl rfl rfl ?_ | refine gny_skip 1 rfl rfl ?_ | refine gny_sp 1 rfl rfl rfl ?_ | refine gny_sB 1 rfl rfl rfl ?_ | refine gny_sld 1 rfl rfl rfl rfl ?_ | refine gny_sldH 1 rfl rfl rfl ‹HRow _ _ 0 _› rfl ?_ | refine gny_ldN 1 rfl rfl rfl rfl ?_ | refine gny_bld 1 rfl rfl rfl ?_); (first | refine gny_p 2 rfl rfl rfl ?_ | refine gny_ld 2 rfl rfl rfl rfl ?_ | refine gny_ldH 2 rfl rfl rfl ‹HRow _ _ 0 _› rfl ?_ | refine gny_T 2 rfl rfl rfl ?_ | refine gny_F 2 rfl rfl rfl ?_ | refine gny_B 2 rfl rfl rfl ?_ | refine gny_skip 2 rfl rfl ?_ | refine gny_sp 2 rfl rfl rfl ?_ | refine gny_sB 2 rfl rfl rfl ?_ | refine gny_sld 2 rfl rfl rfl rfl ?_ | refine gny_sldH 2 rfl rfl rfl ‹HRow _ _ 0 _› rfl ?_ | refine gny_ldN 2 rfl rfl rfl rfl ?_ | refine gny_bld 2 rfl rfl rfl ?_); (first | refine gny_p 4 rfl rfl rfl ?_ | refine gny_ld 4 rfl rfl rfl rfl ?_ | refine gny_ldH 4 rfl rfl rfl ‹HRow _ _ 0 _› rfl ?_ | refine gny_T 4 rfl rfl rfl ?_ | refine gny_F 4 rfl rfl rfl ?_ | refine gny_B 4 rfl rfl rfl ?_ | refine gny_skip 4 rfl rfl ?_ | refine gny_sp 4 rfl rfl rfl ?_ | refine gny_sB 4 rfl rfl rfl ?_ | refine gny_sld 4 rfl rfl rfl rfl ?_ | refine gny_sldH 4 rfl rfl rfl ‹HRow _ _ 0 _› rfl ?_ | refine gny_ldN 4 rfl rfl rfl rfl ?_ | refine gny_bld 4 rfl rfl rfl ?_); (first | refine gny_p 5 rfl rfl rfl ?_ | refine gny_ld 5 rfl rfl rfl rfl ?_ | refine gny_ldH 5 rfl rfl rfl ‹HRow _ _ 0 _› rfl ?_ | refine gny_T 5 rfl rfl rfl ?_ | refine gny_F 5 rfl rfl rfl ?_ | refine gny_B 5 rfl rfl rfl ?_ | refine gny_skip 5 rfl rfl ?_ | refine gny_sp 5 rfl rfl rfl ?_ | refine gny_sB 5 rfl rfl rfl ?_ | refine gny_sld 5 rfl rfl rfl rfl ?_ | refine gny_sldH 5 rfl rfl rfl ‹HRow _ _ 0 _› rfl ?_ | refine gny_ldN 5 rfl rfl rfl rfl ?_ | refine gny_bld 5 rfl rfl rfl ?_); (first | refine gny_p 6 rfl rfl rfl ?_ | refine gny_ld 6 rfl rfl rfl rfl ?_ | refine gny_ldH 6 rfl rfl rfl ‹HRow _ _ 0 _› rfl ?_ | refine gny_T 6 rfl rfl rfl ?_ | refine gny_F 6 rfl rfl rfl ?_ | refine gny_B 6 rfl rfl rfl ?_ | refine gny_skip 6 rfl rfl ?_ | refine gny_sp 6 rfl rfl rfl ?_ | refine gny_sB 6 rfl rfl rfl ?_ | refine gny_sld 6 rfl rfl rfl rfl ?_ | refine gny_sldH 6 rfl rfl rfl ‹HRow _ _ 0 _› rfl ?_ | refine gny_ldN 6 rfl rfl rfl rfl ?_ | refine gny_bld 6 rfl rfl rfl ?_)
  refine gny_call 3 rfl rfl rfl (crash_spec (b := b) (m := m) o6) fun r4 H4 B hl4 ⟨q, er, eB, eH⟩ => ?_
  subst er eB eH
  refine ⟨(by (repeat (first | exact Sub.refl _ | exact Sub.nil _ | (apply sub_pick; (repeat (first | exact Has.here | apply Has.there)); skip) | apply Sub.drop))), ?_⟩
  refine any_rest rfl ?_
  have hrc := rCrash_spec (W0 := W0) h0 o6 hmb fun f hf => (hk.ok f hf).2.2
  refine ops_call rfl rfl hrc fun r5 H5 B hl5 ⟨c5, er, h5, eB⟩ => ?_
  subst er eB
  obtain ⟨b6, d6, rfl⟩ := rd_open h5
  refine walk ?_
  refine ex_any 16 (driveO b m :: driveO q (crashM m o.Keeps) :: row p12 38 [.slice b0 m.Files.length c0, I m.Steps, .bool m.Armed, I m.Left] :: row p4 38 [.slice b6 (crashM m o.Keeps).Files.length d6, I (crashM m o.Keeps).Steps, .bool (crashM m o.Keeps).Armed, I (crashM m o.Keeps).Left] :: R) ?_
  (first | refine gny_p 0 rfl rfl rfl ?_ | refine gny_ld 0 rfl rfl rfl rfl ?_ | refine gny_ldH 0 rfl rfl rfl ‹HRow _ _ 0 _› rfl ?_ | refine gny_T 0 rfl rfl rfl ?_ | refine gny_F 0 rfl rfl rfl ?_ | refine gny_B 0 rfl rfl rfl ?_ | refine gny_skip 0 rfl rfl ?_ | refine gny_sp 0 rfl rfl rfl ?_ | refine gny_sB 0 rfl rfl rfl ?_ | refine gny_sld 0 rfl rfl rfl rfl ?_ | refine gny_sldH 0 rfl rfl rfl ‹HRow _ _ 0 _› rfl ?_ | refine gny_ldN 0 rfl rfl rfl rfl ?_ | refine gny_bld 0 rfl rfl rfl ?_); (first | refine gny_p 1 rfl rfl rfl ?_ | refine gny_ld 1 rfl rfl rfl rfl ?_ | refine gny_ldH 1 rfl rfl rfl ‹HRow _ _ 0 _› rfl ?_ | refine gny_T 1 rfl rfl rfl ?_ | refine gny_F 1 rfl rfl rfl ?_ | refine gny_B 1 rfl rfl rfl ?_ | refine gny_skip 1 rfl rfl ?_ | refine gny_sp 1 rfl rfl rfl ?_ | refine gny_sB 1 rfl rfl rfl ?_ | refine gny_sld 1 rfl rfl rfl rfl ?_ | refine gny_sldH 1 rfl rfl rfl ‹HRow _ _ 0 _› rfl ?_ | refine gny_ldN 1 rfl rfl rfl rfl ?_ | refine gny_bld 1 rfl rfl rfl ?_); (first | refine gny_p 2 rfl rfl rfl ?_ | refine gny_ld 2 rfl rfl rfl rfl ?_ | refine gny_ldH 2 rfl rfl rfl ‹HRow _ _ 0 _› rfl ?_ | refine gny_T 2 rfl rfl rfl ?_ | refine gny_F 2 rfl rfl rfl ?_ | refine gny_B 2 rfl rfl rfl ?_ | refine gny_skip 2 rfl rfl ?_ | refine gny_sp 2 rfl rfl rfl ?_ | refine gny_sB 2 rfl rfl rfl ?_ | refine gny_sld 2 rfl rfl rfl rfl ?_ | refine gny_sldH 2 rfl rfl rfl ‹HRow _ _ 0 _› rfl ?_ | refine gny_ldN 2 rfl rfl rfl rfl ?_ | refine gny_bld 2 rfl rfl rfl ?_); (first | refine gny_p 3 rfl rfl rfl ?_ | refine gny_ld 3 rfl rfl rfl rfl ?_ | refine gny_ldH 3 rfl rfl rfl ‹HRow _ _ 0 _› rfl ?_ | refine gny_T 3 rfl rfl rfl ?_ | refine gny_F 3 rfl rfl rfl ?_ | refine gny_B 3 rfl rfl rfl ?_ | refine gny_skip 3 rfl rfl ?_ | refine gny_sp 3 rfl rfl rfl ?_ | refine gny_sB 3 rfl rfl rfl ?_ | refine gny_sld 3 rfl rfl rfl rfl ?_ | refine gny_sldH 3 rfl rfl rfl ‹HRow _ _ 0 _› rfl ?_ | refine gny_ldN 3 rfl rfl rfl rfl ?_ | refine gny_bld 3 rfl rfl rfl ?_); (first | refine gny_p 4 rfl rfl rfl ?_ | refine gny_ld 4 rfl rfl rfl rfl ?_ | refine gny_ldH 4 rfl rfl rfl ‹HRow _ _ 0 _› rfl ?_ | refine gny_T 4 rfl rfl rfl ?_ | refine gny_F 4 rfl rfl rfl ?_ | refine gny_B 4 rfl rfl rfl ?_ | refine gny_skip 4 rfl rfl ?_ | refine gny_sp 4 rfl rfl rfl ?_ | refine gny_sB 4 rfl rfl rfl ?_ | refine gny_sld 4 rfl rfl rfl rfl ?_ | refine gny_sldH 4 rfl rfl rfl ‹HRow _ _ 0 _› rfl ?_ | refine gny_ldN 4 rfl rfl rfl rfl ?_ | refine gny_bld 4 rfl rfl rfl ?_); (first | refine gny_p 5 rfl rfl rfl ?_ | refine gny_ld 5 rfl rfl rfl rfl ?_ | refine gny_ldH 5 rfl rfl rfl ‹HRow _ _ 0 _› rfl ?_ | refine gny_T 5 rfl rfl rfl ?_ | refine gny_F 5 rfl rfl rfl ?_ | refine gny_B 5 rfl rfl rfl ?_ | refine gny_skip 5 rfl rfl ?_ | refine gny_sp 5 rfl rfl rfl ?_ | refine gny_sB 5 rfl rfl rfl ?_ | refine gny_sld 5 rfl rfl rfl rfl ?_ | refine gny_sldH 5 rfl rfl rfl ‹HRow _ _ 0 _› rfl ?_ | refine gny_ldN 5 rfl rfl rfl rfl ?_ | refine gny_bld 5 rfl rfl rfl ?_); (first | refine gny_p 6 rfl rfl rfl ?_ | refine gny_ld 6 rfl rfl rfl rfl ?_ | refine gny_ldH 6 rfl rfl rfl ‹HRow _ _ 0 _› rfl ?_ | refine gny_T 6 rfl rfl rfl ?_ | refine gny_F 6 rfl rfl rfl ?_ | refine gny_B 6 rfl rfl rfl ?_ | refine gny_skip 6 rfl rfl ?_ | refine gny_sp 6 rfl rfl rfl ?_ | refine gny_sB 6 rfl rfl rfl ?_ | refine gny_sld 6 rfl rfl rfl rfl ?_ | refine gny_sldH 6 rfl rfl rfl ‹HRow _ _ 0 _› rfl ?_ | refine gny_ldN 6 rfl rfl rfl rfl ?_ | refine gny_bld 6 rfl rfl rfl ?_)
  refine gny_pcall 7 rfl rfl rfl (tells_spec h5) ?_
  (first | refine gny_p 8 rfl rfl rfl ?_ | refine gny_ld 8 rfl rfl rfl rfl ?_ | refine gny_ldH 8 rfl rfl rfl ‹HRow _ _ 0 _› rfl ?_ | refine gny_T 8 rfl rfl rfl ?_ | refine gny_F 8 rfl rfl rfl ?_ | refine gny_B 8 rfl rfl rfl ?_ | refine gny_skip 8 rfl rfl ?_ | refine gny_sp 8 rfl rfl rfl ?_ | refine gny_sB 8 rfl rfl rfl ?_ | refine gny_sld 8 rfl rfl rfl rfl ?_ | refine gny_sldH 8 rfl rfl rfl ‹HRow _ _ 0 _› rfl ?_ | refine gny_ldN 8 rfl rfl rfl rfl ?_ | refine gny_bld 8 rfl rfl rfl ?_); (first | refine gny_p 9 rfl rfl rfl ?_ | refine gny_ld 9 rfl rfl rfl rfl ?_ | refine gny_ldH 9 rfl rfl rfl ‹HRow _ _ 0 _› rfl ?_ | refine gny_T 9 rfl rfl rfl ?_ | refine gny_F 9 rfl rfl rfl ?_ | refine gny_B 9 rfl rfl rfl ?_ | refine gny_skip 9 rfl rfl ?_ | refine gny_sp 9 rfl rfl rfl ?_ | refine gny_sB 9 rfl rfl rfl ?_ | refine gny_sld 9 rfl rfl rfl rfl ?_ | refine gny_sldH 9 rfl rfl rfl ‹HRow _ _ 0 _› rfl ?_ | refine gny_ldN 9 rfl rfl rfl rfl ?_ | refine gny_bld 9 rfl rfl rfl ?_); (first | refine gny_p 10 rfl rfl rfl ?_ | refine gny_ld 10 rfl rfl rfl rfl ?_ | refine gny_ldH 10 rfl rfl rfl ‹HRow _ _ 0 _› rfl ?_ | refine gny_T 10 rfl rfl rfl ?_ | refine gny_F 10 rfl rfl rfl ?_ | refine gny_B 10 rfl rfl rfl ?_ | refine gny_skip 10 rfl rfl ?_ | refine gny_sp 10 rfl rfl rfl ?_ | refine gny_sB 10 rfl rfl rfl ?_ | refine gny_sld 10 rfl rfl rfl rfl ?_ | refine gny_sldH 10 rfl rfl rfl ‹HRow _ _ 0 _› rfl ?_ | refine gny_ldN 10 rfl rfl rfl rfl ?_ | refine gny_bld 10 rfl rfl rfl ?_); (first | refine gny_p 11 rfl rfl rfl ?_ | refine gny_ld 11 rfl rfl rfl rfl ?_ | refine gny_ldH 11 rfl rfl rfl ‹HRow _ _ 0 _› rfl ?_ | refine gny_T 11 rfl rfl rfl ?_ | refine gny_F 11 rfl rfl rfl ?_ | refine gny_B 11 rfl rfl rfl ?_ | refine gny_skip 11 rfl rfl ?_ | refine gny_sp 11 rfl rfl rfl ?_ | refine gny_sB 11 rfl rfl rfl ?_ | refine gny_sld 11 rfl rfl rfl rfl ?_ | refine gny_sldH 11 rfl rfl rfl ‹HRow _ _ 0 _› rfl ?_ | refine gny_ldN 11 rfl rfl rfl rfl ?_ | refine gny_bld 11 rfl rfl rfl ?_)
  refine gny_pcall 12 rfl rfl rfl (tells_spec (RdOk.mono hl5 h0 : rDrive H5 _ m)) ?_
  (first | refine gny_p 13 rfl rfl rfl ?_ | refine gny_ld 13 rfl rfl rfl rfl ?_ | refine gny_ldH 13 rfl rfl rfl ‹HRow _ _ 0 _› rfl ?_ | refine gny_T 13 rfl rfl rfl ?_ | refine gny_F 13 rfl rfl rfl ?_ | refine gny_B 13 rfl rfl rfl ?_ | refine gny_skip 13 rfl rfl ?_ | refine gny_sp 13 rfl rfl rfl ?_ | refine gny_sB 13 rfl rfl rfl ?_ | refine gny_sld 13 rfl rfl rfl rfl ?_ | refine gny_sldH 13 rfl rfl rfl ‹HRow _ _ 0 _› rfl ?_ | refine gny_ldN 13 rfl rfl rfl rfl ?_ | refine gny_bld 13 rfl rfl rfl ?_); (first | refine gny_p 14 rfl rfl rfl ?_ | refine gny_ld 14 rfl rfl rfl rfl ?_ | refine gny_ldH 14 rfl rfl rfl ‹HRow _ _ 0 _› rfl ?_ | refine gny_T 14 rfl rfl rfl ?_ | refine gny_F 14 rfl rfl rfl ?_ | refine gny_B 14 rfl rfl rfl ?_ | refine gny_skip 14 rfl rfl ?_ | refine gny_sp 14 rfl rfl rfl ?_ | refine gny_sB 14 rfl rfl rfl ?_ | refine gny_sld 14 rfl rfl rfl rfl ?_ | refine gny_sldH 14 rfl rfl rfl ‹HRow _ _ 0 _› rfl ?_ | refine gny_ldN 14 rfl rfl rfl rfl ?_ | refine gny_bld 14 rfl rfl rfl ?_)
  refine any_sta 15 rfl rfl rfl rfl (by simp) rfl ⟨(by (repeat (first | exact Sub.refl _ | exact Sub.nil _ | (apply sub_pick; (repeat (first | exact Has.here | apply Has.there)); skip) | apply Sub.drop))), ?_⟩
  refine any_rest rfl ?_
  refine walk ?_
  refine finB [driveO q (crashM m o.Keeps)] ?_
  exact ⟨q, _, rfl, h5, rfl⟩
end Go.Proofs.Ytjafnombaehcaaa
