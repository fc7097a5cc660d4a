/- A script, played; the document's example. -/
import Derived.Test.YtjafnombaehcaaaDT
set_option linter.unusedVariables false
set_option linter.unusedSimpArgs false
namespace Go.Proofs.Ytjafnombaehcaaa
open Go Go.Sx Go.Proofs
def buildM (script : List Op) : Drive := (script.take 80).foldl playM newM
theorem play_steps {m : Drive} {o : Op} (h : 0 ≤ m.Steps) : (playM m o).Steps ≤ m.Steps + 1 ∧ 0 ≤ (playM m o).Steps := by
  unfold playM
  have h1 : (stepM m).Steps = m.Steps + 1 := rfl
  split
  · unfold appM; split
    · split <;> (show m.Steps + 1 ≤ _ ∧ _ ≤ m.Steps + 1; omega)
    · omega
  split
  · unfold syncM; split
    · split
      · show m.Steps + 1 ≤ _ ∧ _ ≤ m.Steps + 1; omega
      · omega
    · omega
  split
  · unfold renM; split
    · split
      · show m.Steps + 1 ≤ _ ∧ _ ≤ m.Steps + 1; omega
      · omega
    · omega
  split
  · unfold delM; split
    · show m.Steps + 1 ≤ _ ∧ _ ≤ m.Steps + 1; omega
    · omega
  split
  · unfold armM; split
    · show m.Steps ≤ _ ∧ _ ≤ m.Steps; omega
    · omega
  split
  · show (0 : Int) ≤ _ ∧ _ ≤ (0 : Int); omega
  · omega
theorem fold_steps : ∀ {l : List Op} {m : Drive}, 0 ≤ m.Steps → (l.foldl playM m).Steps ≤ m.Steps + l.length ∧ 0 ≤ (l.foldl playM m).Steps
  | [], m, h => ⟨by simp, h⟩
  | o :: l, m, h => by
    have h1 := play_steps (o := o) h
    have h2 := fold_steps (l := l) h1.2
    rw [List.foldl_cons, List.length_cons]
    omega
theorem take_steps {script : List Op} {k : Nat} (hk : k ≤ 80) : ((script.take k).foldl playM newM).Steps ≤ 80 := by
  have h := fold_steps (l := script.take k) (m := newM) (Int.le_refl 0)
  have h2 : (script.take k).length ≤ k := by rw [List.length_take]; omega
  have h3 : newM.Steps = 0 := rfl
  omega
def BPost (m : Drive) : Value → Heap → List HProp → Prop := PPost m
set_option maxHeartbeats 8000000 in
theorem built_spec {W0 : World} {H : Heap} {v0 : Value} {script : List Op} (h0 : SlB rOp 6 96 H v0 script) :
    Ct Try.prog 15 #[v0] W0 H [] (PPost (buildM script)) := by
  refine Ct.go (vs := [v0]) fun R => ?_
  obtain ⟨b0, c0, rfl, hc0, hd0⟩ := h0.1.shape
  refine walk ?_
  refine ops_alloc rfl fun p3 _ => ?_
  refine walk ?_
  refine ops_call rfl rfl new_spec fun r1 H1 B hl1 ⟨b, er, eB, eH⟩ => ?_
  subst er eB eH
  refine walk ?_
  refine ops_alloc rfl fun p6 _ => ?_
  refine walk ?_
  have hz : rDrive H1 [nilS, I 0, .bool false, I 0] newM := zDrive_reads
  refine ex_loop (σ := Nat × Heap × Nat × Option Addr × Nat) (fun s => (s.1 ≤ script.length ∧ s.1 ≤ 80) ∧ H1.le s.2.1 ∧ rDrive s.2.1 [.slice s.2.2.2.1 ((script.take s.1).foldl playM newM).Files.length s.2.2.2.2, I ((script.take s.1).foldl playM newM).Steps, .bool ((script.take s.1).foldl playM newM).Armed, I ((script.take s.1).foldl playM newM).Left] ((script.take s.1).foldl playM newM))
    (fun s => [(0, .slice b0 script.length c0), (3, .pointer (some ⟨p3, 0, none⟩)), (5, .pointer (some ⟨s.2.2.1, 0, none⟩)), (6, .pointer (some ⟨p6, 0, none⟩)), (7, .bool true), (8, I s.1)]) (fun s => s.2.1)
    (fun s => driveO s.2.2.1 ((script.take s.1).foldl playM newM) :: row p6 38 [.slice s.2.2.2.1 ((script.take s.1).foldl playM newM).Files.length s.2.2.2.2, I ((script.take s.1).foldl playM newM).Steps, .bool ((script.take s.1).foldl playM newM).Armed, I ((script.take s.1).foldl playM newM).Left] :: row p3 38 [nilS, I 0, .bool false, I 0] :: R)
    (fun s => 80 - s.1) (0, H1, b, none, 0) ⟨⟨Nat.zero_le _, Nat.zero_le _⟩, .refl _, hz⟩ fun ⟨k, H2, b2, d, e⟩ ⟨⟨hk0, hk80⟩, hl2, hm⟩ K hL => ?_
  dsimp only at hk0 hk80 hl2 hm ⊢
  have hst := take_steps (script := script) hk80
  have hnx : ∀ h : k < script.length, (script.take (k + 1)).foldl playM newM = playM ((script.take k).foldl playM newM) script[k] := fun h => by rw [List.take_succ_eq_append_getElem h, List.foldl_append]; rfl
  have hend : ¬ (k < script.length ∧ k < 80) → buildM script = (script.take k).foldl playM newM := fun h => by
    unfold buildM
    by_cases h1 : k < script.length
    · rw [show k = 80 by omega]
    · rw [List.take_of_length_le (by omega), List.take_of_length_le (by omega)]
  generalize (script.take k).foldl playM newM = m at *
  refine walkG ?_
  refine ex_if rfl (fun hq => ?_) (fun hq => ?_)
  rotate_left
  · clear hL
    rw [hend fun h => hq ⟨⟨by omega, by omega⟩, rfl⟩]
    refine walk ?_
    refine ex_any 5 (driveO b2 m :: row p6 38 [.slice d m.Files.length e, I m.Steps, .bool m.Armed, I m.Left] :: R) ?_
    (first | refine gny_p 0 rfl rfl rfl ?_ | refine gny_ld 0 rfl rfl rfl rfl ?_ | refine gny_ldH 0 rfl rfl rfl ‹HRow _ _ 0 _› rfl ?_ | refine gny_T 0 rfl rfl rfl ?_ | refine gny_F 0 rfl rfl rfl ?_ | refine gny_B 0 rfl rfl rfl ?_ | refine gny_skip 0 rfl rfl ?_ | refine gny_sp 0 rfl rfl rfl ?_ | refine gny_sB 0 rfl rfl rfl ?_ | refine gny_sld 0 rfl rfl rfl rfl ?_ | refine gny_sldH 0 rfl rfl rfl ‹HRow _ _ 0 _› rfl ?_ | refine gny_ldN 0 rfl rfl rfl rfl ?_ | refine gny_bld 0 rfl rfl rfl ?_); (first | refine gny_p 1 rfl rfl rfl ?_ | refine gny_ld 1 rfl rfl rfl rfl ?_ | refine gny_ldH 1 rfl rfl rfl ‹HRow _ _ 0 _› rfl ?_ | refine gny_T 1 rfl rfl rfl ?_ | refine gny_F 1 rfl rfl rfl ?_ | refine gny_B 1 rfl rfl rfl ?_ | refine gny_skip 1 rfl rfl ?_ | refine gny_sp 1 rfl rfl rfl ?_ | refine gny_sB 1 rfl rfl rfl ?_ | refine gny_sld 1 rfl rfl rfl rfl ?_ | refine gny_sldH 1 rfl rfl rfl ‹HRow _ _ 0 _› rfl ?_ | refine gny_ldN 1 rfl rfl rfl rfl ?_ | refine gny_bld 1 rfl rfl rfl ?_); (first | refine gny_p 2 rfl rfl rfl ?_ | refine gny_ld 2 rfl rfl rfl rfl ?_ | refine gny_ldH 2 rfl rfl rfl ‹HRow _ _ 0 _› rfl ?_ | refine gny_T 2 rfl rfl rfl ?_ | refine gny_F 2 rfl rfl rfl ?_ | refine gny_B 2 rfl rfl rfl ?_ | refine gny_skip 2 rfl rfl ?_ | refine gny_sp 2 rfl rfl rfl ?_ | refine gny_sB 2 rfl rfl rfl ?_ | refine gny_sld 2 rfl rfl rfl rfl ?_ | refine gny_sldH 2 rfl rfl rfl ‹HRow _ _ 0 _› rfl ?_ | refine gny_ldN 2 rfl rfl rfl rfl ?_ | refine gny_bld 2 rfl rfl rfl ?_); (first | refine gny_p 3 rfl rfl rfl ?_ | refine gny_ld 3 rfl rfl rfl rfl ?_ | refine gny_ldH 3 rfl rfl rfl ‹HRow _ _ 0 _› rfl ?_ | refine gny_T 3 rfl rfl rfl ?_ | refine gny_F 3 rfl rfl rfl ?_ | refine gny_B 3 rfl rfl rfl ?_ | refine gny_skip 3 rfl rfl ?_ | refine gny_sp 3 rfl rfl rfl ?_ | refine gny_sB 3 rfl rfl rfl ?_ | refine gny_sld 3 rfl rfl rfl rfl ?_ | refine gny_sldH 3 rfl rfl rfl ‹HRow _ _ 0 _› rfl ?_ | refine gny_ldN 3 rfl rfl rfl rfl ?_ | refine gny_bld 3 rfl rfl rfl ?_)
    refine any_sta 4 rfl rfl rfl rfl (by simp) rfl ⟨(by (repeat (first | exact Sub.refl _ | exact Sub.nil _ | (apply sub_pick; (repeat (first | exact Has.here | apply Has.there)); skip) | apply Sub.drop))), ?_⟩
    refine any_rest rfl ?_
    refine walk ?_
    refine finB [driveO b2 m] ?_
    exact ⟨b2, _, rfl, hm, rfl⟩
  have hq1 := hq.1
  have hk1 : k < script.length := by omega
  have hnx1 := hnx hk1
  have h02 := h0.mono (hl1.trans hl2)
  refine walk ?_
  refine ex_any 6 (driveO b2 m :: row p6 38 [.slice d m.Files.length e, I m.Steps, .bool m.Armed, I m.Left] :: row p3 38 [nilS, I 0, .bool false, I 0] :: R) ?_
  (first | refine gny_p 0 rfl rfl rfl ?_ | refine gny_ld 0 rfl rfl rfl rfl ?_ | refine gny_ldH 0 rfl rfl rfl ‹HRow _ _ 0 _› rfl ?_ | refine gny_T 0 rfl rfl rfl ?_ | refine gny_F 0 rfl rfl rfl ?_ | refine gny_B 0 rfl rfl rfl ?_ | refine gny_skip 0 rfl rfl ?_ | refine gny_sp 0 rfl rfl rfl ?_ | refine gny_sB 0 rfl rfl rfl ?_ | refine gny_sld 0 rfl rfl rfl rfl ?_ | refine gny_sldH 0 rfl rfl rfl ‹HRow _ _ 0 _› rfl ?_ | refine gny_ldN 0 rfl rfl rfl rfl ?_ | refine gny_bld 0 rfl rfl rfl ?_); (first | refine gny_p 1 rfl rfl rfl ?_ | refine gny_ld 1 rfl rfl rfl rfl ?_ | refine gny_ldH 1 rfl rfl rfl ‹HRow _ _ 0 _› rfl ?_ | refine gny_T 1 rfl rfl rfl ?_ | refine gny_F 1 rfl rfl rfl ?_ | refine gny_B 1 rfl rfl rfl ?_ | refine gny_skip 1 rfl rfl ?_ | refine gny_sp 1 rfl rfl rfl ?_ | refine gny_sB 1 rfl rfl rfl ?_ | refine gny_sld 1 rfl rfl rfl rfl ?_ | refine gny_sldH 1 rfl rfl rfl ‹HRow _ _ 0 _› rfl ?_ | refine gny_ldN 1 rfl rfl rfl rfl ?_ | refine gny_bld 1 rfl rfl rfl ?_); (first | refine gny_p 2 rfl rfl rfl ?_ | refine gny_ld 2 rfl rfl rfl rfl ?_ | refine gny_ldH 2 rfl rfl rfl ‹HRow _ _ 0 _› rfl ?_ | refine gny_T 2 rfl rfl rfl ?_ | refine gny_F 2 rfl rfl rfl ?_ | refine gny_B 2 rfl rfl rfl ?_ | refine gny_skip 2 rfl rfl ?_ | refine gny_sp 2 rfl rfl rfl ?_ | refine gny_sB 2 rfl rfl rfl ?_ | refine gny_sld 2 rfl rfl rfl rfl ?_ | refine gny_sldH 2 rfl rfl rfl ‹HRow _ _ 0 _› rfl ?_ | refine gny_ldN 2 rfl rfl rfl rfl ?_ | refine gny_bld 2 rfl rfl rfl ?_); (first | refine gny_p 3 rfl rfl rfl ?_ | refine gny_ld 3 rfl rfl rfl rfl ?_ | refine gny_ldH 3 rfl rfl rfl ‹HRow _ _ 0 _› rfl ?_ | refine gny_T 3 rfl rfl rfl ?_ | refine gny_F 3 rfl rfl rfl ?_ | refine gny_B 3 rfl rfl rfl ?_ | refine gny_skip 3 rfl rfl ?_ | refine gny_sp 3 rfl rfl rfl ?_ | refine gny_sB 3 rfl rfl rfl ?_ | refine gny_sld 3 rfl rfl rfl rfl ?_ | refine gny_sldH 3 rfl rfl rfl ‹HRow _ _ 0 _› rfl ?_ | refine gny_ldN 3 rfl rfl rfl rfl ?_ | refine gny_bld 3 rfl rfl rfl ?_)
  refine gny_ixp 4 rfl rfl rfl h02.1 hk1 (fun b9 off cc hr hc => ?_)
  refine gny_ldNH 5 rfl rfl rfl hr (RdOk.len (R := rOp) hc) ?_
  refine any_stage 13 R ?_
  refine gny_call 6 rfl rfl rfl (play_spec (b := b2) hm hc (by omega)) fun r4 H4 B hl4 ⟨b4, c4, er, h4, eB⟩ => ?_
  subst er eB
  refine ⟨(by (repeat (first | exact Sub.refl _ | exact Sub.nil _ | (apply sub_pick; (repeat (first | exact Has.here | apply Has.there)); skip) | apply Sub.drop))), ?_⟩
  rw [← hnx1] at h4 ⊢
  obtain ⟨b6, d6, rfl⟩ := rd_open h4
  (first | refine gny_p 7 rfl rfl rfl ?_ | refine gny_ld 7 rfl rfl rfl rfl ?_ | refine gny_ldH 7 rfl rfl rfl ‹HRow _ _ 0 _› rfl ?_ | refine gny_T 7 rfl rfl rfl ?_ | refine gny_F 7 rfl rfl rfl ?_ | refine gny_B 7 rfl rfl rfl ?_ | refine gny_skip 7 rfl rfl ?_ | refine gny_sp 7 rfl rfl rfl ?_ | refine gny_sB 7 rfl rfl rfl ?_ | refine gny_sld 7 rfl rfl rfl rfl ?_ | refine gny_sldH 7 rfl rfl rfl ‹HRow _ _ 0 _› rfl ?_ | refine gny_ldN 7 rfl rfl rfl rfl ?_ | refine gny_bld 7 rfl rfl rfl ?_)
  refine gny_ext 8 rfl rfl rfl rfl ?_
  refine gny_ext 9 rfl rfl rfl rfl ?_
  refine gny_ext 10 rfl rfl rfl rfl ?_
  (first | refine gny_p 11 rfl rfl rfl ?_ | refine gny_ld 11 rfl rfl rfl rfl ?_ | refine gny_ldH 11 rfl rfl rfl ‹HRow _ _ 0 _› rfl ?_ | refine gny_T 11 rfl rfl rfl ?_ | refine gny_F 11 rfl rfl rfl ?_ | refine gny_B 11 rfl rfl rfl ?_ | refine gny_skip 11 rfl rfl ?_ | refine gny_sp 11 rfl rfl rfl ?_ | refine gny_sB 11 rfl rfl rfl ?_ | refine gny_sld 11 rfl rfl rfl rfl ?_ | refine gny_sldH 11 rfl rfl rfl ‹HRow _ _ 0 _› rfl ?_ | refine gny_ldN 11 rfl rfl rfl rfl ?_ | refine gny_bld 11 rfl rfl rfl ?_)
  refine any_sta 12 rfl rfl rfl rfl (by simp) rfl ⟨(by (repeat (first | exact Sub.refl _ | exact Sub.nil _ | (apply sub_pick; (repeat (first | exact Has.here | apply Has.there)); skip) | apply Sub.drop))), ?_⟩
  refine any_rest rfl ?_
  have hfit : fits ((k : Int) + 1) := by unfold fits; omega
  refine walk ?_
  exact out_next hL (k + 1, H4, b4, b6, d6) ⟨⟨by omega, by omega⟩, hl2.trans hl4, h4⟩
end Go.Proofs.Ytjafnombaehcaaa
