/- The reference's look, Delete, Arm, Sync, Rename. -/
import Derived.Test.YtjafnombaehcaaaDN
import Derived.Test.YtjafnombaehcaaaKC
set_option linter.unusedVariables false
set_option linter.unusedSimpArgs false
namespace Go.Proofs.Ytjafnombaehcaaa
open Go Go.Sx Go.Proofs
/-- a model's bounds -/
def MB (m : Drive) : Prop := (m.Files.length ≤ 256 ∧ ∀ f ∈ m.Files, f.B.size ≤ 262144) ∧ (0 ≤ m.Steps ∧ m.Steps ≤ 1000000000) ∧ 0 ≤ m.Left
theorem MB.fits1 {m : Drive} (h : MB m) : fits (m.Steps + 1) := by have := h.2.1; unfold fits; omega
theorem MB.fits2 {m : Drive} (h : MB m) (f : fits m.Left) : fits (m.Left - 1) := by have := h.2.2; unfold fits at *; omega
theorem rd_open {H : Heap} {c : List Value} {m : Drive} (h : rDrive H c m) : ∃ b d, c = [.slice b m.Files.length d, I m.Steps, .bool m.Armed, I m.Left] := by
  obtain ⟨s0, rfl, h1, f1, f2⟩ := h
  obtain ⟨b0, c0, rfl, hc0, hd0⟩ := h1.1.shape
  exact ⟨b0, c0, rfl⟩
/-- what the reference's calls answer -/
def RPost (m : Drive) (e : Int) : Value → Heap → List HProp → Prop := fun r H' B => ∃ c', r = .tuple #[.agg c'.toArray, I e] ∧ rDrive H' c' m ∧ B = []
theorem look_spec {W0 : World} {H : Heap} {m : Drive} {c : List Value} {n : ByteArray} (h0 : rDrive H c m) (hn : n.size ≤ cap47) :
    Ct Try.prog 48 #[.agg c.toArray, .string n] W0 H [] (fun r H' B => r = I (lookM m n) ∧ B = [] ∧ H' = H) := by
  refine Ct.go (vs := [.agg c.toArray, .string n]) fun R => ?_
  have h0' := h0
  obtain ⟨s0, rfl, h1, f1, f2⟩ := h0
  obtain ⟨b0, c0, rfl, hc0, hd0⟩ := h1.1.shape
  refine walk ?_
  refine ops_box rfl rfl fun p2 _ => ?_
  refine walk ?_
  refine ops_pcall rfl rfl (rNameN_spec hn) ?_
  by_cases hok0 : okN n
  rotate_left
  · rw [decide_eq_false hok0]
    refine walk ?_
    refine fin0 ?_
    exact ⟨by unfold lookM; rw [if_neg hok0], rfl, rfl⟩
  rw [decide_eq_true hok0]
  refine walk ?_
  refine ops_pcall rfl rfl (at_spec h0' hn) ?_
  rcases at_cases m.Files n with ⟨ha, hi⟩ | ⟨k, hk, ha, hi, hkn⟩
  · rw [hi]
    refine walk ?_
    refine fin0 ?_
    exact ⟨by unfold lookM; rw [if_pos hok0, ha]; rfl, rfl, rfl⟩
  rw [hi]
  refine walk ?_
  refine ops_pcall rfl rfl (rDead_spec h0') ?_
  by_cases hd : deadD m
  · rw [decide_eq_true hd]
    refine walk ?_
    refine fin0 ?_
    exact ⟨by unfold lookM; rw [if_pos hok0, ha, if_pos (show (some m.Files[k]).isSome = true from rfl), if_pos hd], rfl, rfl⟩
  · rw [decide_eq_false hd]
    refine walk ?_
    refine fin0 ?_
    exact ⟨by unfold lookM; rw [if_pos hok0, ha, if_pos (show (some m.Files[k]).isSome = true from rfl), if_neg hd], rfl, rfl⟩
theorem rDelete_spec {W0 : World} {H : Heap} {m : Drive} {c : List Value} {n : ByteArray} (h0 : rDrive H c m) (hn : n.size ≤ cap47) (hb : MB m) :
    Ct Try.prog 37 #[.agg c.toArray, .string n] W0 H [] (RPost (delM m n) (lookM m n)) := by
  refine Ct.go (vs := [.agg c.toArray, .string n]) fun R => ?_
  have h0' := h0
  obtain ⟨s0, rfl, h1, f1, f2⟩ := h0
  obtain ⟨b0, c0, rfl, hc0, hd0⟩ := h1.1.shape
  refine walk ?_
  refine ops_box rfl rfl fun p2 _ => ?_
  refine walk ?_
  refine ops_alloc rfl fun p4 _ => ?_
  refine walk ?_
  refine ops_pcall rfl rfl (look_spec h0' hn) ?_
  unfold delM
  refine walk ?_
  refine ex_if rfl (fun hq => ?_) (fun hq => ?_)
  · rw [if_neg hq]
    refine walk ?_
    refine fin0 ?_
    exact ⟨_, rfl, h0', rfl⟩
  have hq0 : lookM m n = 0 := Classical.not_not.1 hq
  rw [if_pos hq0, hq0]
  refine walk ?_
  refine ops_call rfl rfl (rStep_spec h0' hb.fits1 (hb.fits2 f2)) fun r3 H3 B hl3 ⟨c3, er, h3, eB, eH⟩ => ?_
  subst er eB eH
  refine walk ?_
  refine ops_call rfl rfl (without_spec h3 hn) fun r4 H4 B hl4 ⟨c4, er, h4, eB⟩ => ?_
  subst er eB
  obtain ⟨b4, d4, rfl⟩ := rd_open h4
  refine walk ?_
  refine fin0 ?_
  exact ⟨_, rfl, h4, rfl⟩
theorem rArm_spec {W0 : World} {H : Heap} {m : Drive} {c : List Value} {n : Int} (h0 : rDrive H c m) (fn : fits n) :
    Ct Try.prog 39 #[.agg c.toArray, I n] W0 H [] (RPost (armM m n) (armC m n)) := by
  refine Ct.go (vs := [.agg c.toArray, I n]) fun R => ?_
  have h0' := h0
  obtain ⟨s0, rfl, h1, f1, f2⟩ := h0
  obtain ⟨b0, c0, rfl, hc0, hd0⟩ := h1.1.shape
  refine walk ?_
  refine ops_box rfl rfl fun p2 _ => ?_
  refine walk ?_
  refine ops_alloc rfl fun p4 _ => ?_
  refine walk ?_
  refine ex_if rfl (fun hq => ?_) (fun hq => ?_)
  · have hc : armC m n = 1 := by unfold armC; rw [if_pos hq]
    have hm : armM m n = m := by unfold armM; rw [hc]; rfl
    rw [hc, hm]
    refine walk ?_
    refine fin0 ?_
    exact ⟨_, rfl, h0', rfl⟩
  refine walk ?_
  refine ops_pcall rfl rfl (rDead_spec h0') ?_
  refine walk ?_
  refine ex_if rfl (fun hd => ?_) (fun hd => ?_)
  · have hc : armC m n = 6 := by unfold armC; rw [if_neg hq, if_pos hd]
    have hm : armM m n = m := by unfold armM; rw [hc]; rfl
    rw [hc, hm]
    refine walk ?_
    refine fin0 ?_
    exact ⟨_, rfl, h0', rfl⟩
  have hc : armC m n = 0 := by unfold armC; rw [if_neg hq, if_neg hd]
  have hm : armM m n = ⟨m.Files, m.Steps, true, n⟩ := by unfold armM; rw [if_pos hc]
  rw [hc, hm]
  refine walk ?_
  refine fin0 ?_
  exact ⟨_, rfl, ⟨_, rfl, h1, f1, fn⟩, rfl⟩
set_option maxHeartbeats 8000000 in
theorem rSync_spec {W0 : World} {H : Heap} {m : Drive} {c : List Value} {n : ByteArray} (h0 : rDrive H c m) (hn : n.size ≤ cap47) (hb : MB m) :
    Ct Try.prog 35 #[.agg c.toArray, .string n] W0 H [] (RPost (syncM m n) (lookM m n)) := by
  refine Ct.go (vs := [.agg c.toArray, .string n]) fun R => ?_
  have h0' := h0
  obtain ⟨s0, rfl, h1, f1, f2⟩ := h0
  obtain ⟨b0, c0, rfl, hc0, hd0⟩ := h1.1.shape
  refine walk ?_
  refine ops_box rfl rfl fun p2 _ => ?_
  refine walk ?_
  refine ops_alloc rfl fun p4 _ => ?_
  refine walk ?_
  refine ops_pcall rfl rfl (look_spec h0' hn) ?_
  unfold syncM
  refine walk ?_
  refine ex_if rfl (fun hq => ?_) (fun hq => ?_)
  · rw [if_neg hq]
    refine walk ?_
    refine fin0 ?_
    exact ⟨_, rfl, h0', rfl⟩
  have hq0 : lookM m n = 0 := Classical.not_not.1 hq
  rw [if_pos hq0, hq0]
  have hat := at_spec (W0 := W0) h0' hn
  rcases at_cases m.Files n with ⟨ha, hi⟩ | ⟨k, hk, ha, hi, hkn⟩
  · unfold lookM at hq0
    rw [ha] at hq0
    split at hq0 <;> cases hq0
  rw [hi] at hat
  rw [ha]
  dsimp only
  refine walk ?_
  refine ex_any 8 (row p4 38 [nilS, I 0, .bool false, I 0] :: row p2 38 (m.cv (.slice b0 m.Files.length c0)) :: R) ?_
  (first | refine gny_p 0 rfl rfl rfl ?_ | refine gny_ld 0 rfl rfl rfl rfl ?_ | refine gny_ldH 0 rfl rfl rfl ‹HRow _ _ 0 _› rfl ?_ | refine gny_T 0 rfl rfl rfl ?_ | refine gny_F 0 rfl rfl rfl ?_ | refine gny_B 0 rfl rfl rfl ?_ | refine gny_skip 0 rfl rfl ?_ | refine gny_sp 0 rfl rfl rfl ?_ | refine gny_sB 0 rfl rfl rfl ?_ | refine gny_sld 0 rfl rfl rfl rfl ?_ | refine gny_sldH 0 rfl rfl rfl ‹HRow _ _ 0 _› rfl ?_ | refine gny_ldN 0 rfl rfl rfl rfl ?_ | refine gny_bld 0 rfl rfl rfl ?_); (first | refine gny_p 1 rfl rfl rfl ?_ | refine gny_ld 1 rfl rfl rfl rfl ?_ | refine gny_ldH 1 rfl rfl rfl ‹HRow _ _ 0 _› rfl ?_ | refine gny_T 1 rfl rfl rfl ?_ | refine gny_F 1 rfl rfl rfl ?_ | refine gny_B 1 rfl rfl rfl ?_ | refine gny_skip 1 rfl rfl ?_ | refine gny_sp 1 rfl rfl rfl ?_ | refine gny_sB 1 rfl rfl rfl ?_ | refine gny_sld 1 rfl rfl rfl rfl ?_ | refine gny_sldH 1 rfl rfl rfl ‹HRow _ _ 0 _› rfl ?_ | refine gny_ldN 1 rfl rfl rfl rfl ?_ | refine gny_bld 1 rfl rfl rfl ?_); (first | refine gny_p 2 rfl rfl rfl ?_ | refine gny_ld 2 rfl rfl rfl rfl ?_ | refine gny_ldH 2 rfl rfl rfl ‹HRow _ _ 0 _› rfl ?_ | refine gny_T 2 rfl rfl rfl ?_ | refine gny_F 2 rfl rfl rfl ?_ | refine gny_B 2 rfl rfl rfl ?_ | refine gny_skip 2 rfl rfl ?_ | refine gny_sp 2 rfl rfl rfl ?_ | refine gny_sB 2 rfl rfl rfl ?_ | refine gny_sld 2 rfl rfl rfl rfl ?_ | refine gny_sldH 2 rfl rfl rfl ‹HRow _ _ 0 _› rfl ?_ | refine gny_ldN 2 rfl rfl rfl rfl ?_ | refine gny_bld 2 rfl rfl rfl ?_); (first | refine gny_p 3 rfl rfl rfl ?_ | refine gny_ld 3 rfl rfl rfl rfl ?_ | refine gny_ldH 3 rfl rfl rfl ‹HRow _ _ 0 _› rfl ?_ | refine gny_T 3 rfl rfl rfl ?_ | refine gny_F 3 rfl rfl rfl ?_ | refine gny_B 3 rfl rfl rfl ?_ | refine gny_skip 3 rfl rfl ?_ | refine gny_sp 3 rfl rfl rfl ?_ | refine gny_sB 3 rfl rfl rfl ?_ | refine gny_sld 3 rfl rfl rfl rfl ?_ | refine gny_sldH 3 rfl rfl rfl ‹HRow _ _ 0 _› rfl ?_ | refine gny_ldN 3 rfl rfl rfl rfl ?_ | refine gny_bld 3 rfl rfl rfl ?_)
  refine any_ca 4 7 rfl rfl rfl hat (fun r5 H5 B hl5 ⟨er, eB, eH⟩ => ?_) (fun p7 _ => ?_)
  · subst er eB eH
    refine ⟨(by (repeat (first | exact Sub.refl _ | exact Sub.nil _ | (apply sub_pick; (repeat (first | exact Has.here | apply Has.there)); skip) | apply Sub.drop))), ?_⟩
    refine gny_ixp 5 rfl rfl rfl h1.1 hk (fun b off cc hr hc => ?_)
    obtain ⟨rfl, hn1, hn2, hn3⟩ := hc
    refine gny_ldNH 6 rfl rfl rfl hr rfl ?_
    refine gny_alloc 7 rfl rfl fun p7 _ => ?_
    refine any_rest rfl ?_
    refine walk ?_
    refine ex_any 4 (row p7 75 [.string m.Files[k].Name, .string m.Files[k].B, I m.Files[k].B.size] :: row p4 38 [nilS, I 0, .bool false, I 0] :: row p2 38 (m.cv (.slice b0 m.Files.length c0)) :: R) ?_
    (first | refine gny_p 0 rfl rfl rfl ?_ | refine gny_ld 0 rfl rfl rfl rfl ?_ | refine gny_ldH 0 rfl rfl rfl ‹HRow _ _ 0 _› rfl ?_ | refine gny_T 0 rfl rfl rfl ?_ | refine gny_F 0 rfl rfl rfl ?_ | refine gny_B 0 rfl rfl rfl ?_ | refine gny_skip 0 rfl rfl ?_ | refine gny_sp 0 rfl rfl rfl ?_ | refine gny_sB 0 rfl rfl rfl ?_ | refine gny_sld 0 rfl rfl rfl rfl ?_ | refine gny_sldH 0 rfl rfl rfl ‹HRow _ _ 0 _› rfl ?_ | refine gny_ldN 0 rfl rfl rfl rfl ?_ | refine gny_bld 0 rfl rfl rfl ?_); (first | refine gny_p 2 rfl rfl rfl ?_ | refine gny_ld 2 rfl rfl rfl rfl ?_ | refine gny_ldH 2 rfl rfl rfl ‹HRow _ _ 0 _› rfl ?_ | refine gny_T 2 rfl rfl rfl ?_ | refine gny_F 2 rfl rfl rfl ?_ | refine gny_B 2 rfl rfl rfl ?_ | refine gny_skip 2 rfl rfl ?_ | refine gny_sp 2 rfl rfl rfl ?_ | refine gny_sB 2 rfl rfl rfl ?_ | refine gny_sld 2 rfl rfl rfl rfl ?_ | refine gny_sldH 2 rfl rfl rfl ‹HRow _ _ 0 _› rfl ?_ | refine gny_ldN 2 rfl rfl rfl rfl ?_ | refine gny_bld 2 rfl rfl rfl ?_)
    refine gny_call 1 rfl rfl rfl (rStep_spec h0' hb.fits1 (hb.fits2 f2)) fun r3 H3 B hl3 ⟨c3, er, h3, eB, eH⟩ => ?_
    subst er eB eH
    refine ⟨(by (repeat (first | exact Sub.refl _ | exact Sub.nil _ | (apply sub_pick; (repeat (first | exact Has.here | apply Has.there)); skip) | apply Sub.drop))), ?_⟩
    have hB47 : m.Files[k].B.size ≤ 262144 := hb.1.2 _ (List.getElem_mem hk)
    have hw := with_spec (W0 := W0) (f := ⟨m.Files[k].Name, m.Files[k].B, m.Files[k].B.size⟩) h3 ⟨rfl, hn1, hn2, by unfold fits; simp only; omega⟩ (show m.Files.length ≤ 1000 from Nat.le_trans hb.1.1 (by decide))
    refine gny_call 3 rfl rfl rfl hw fun r4 H4 B hl4 ⟨c4, er, h4, eB⟩ => ?_
    subst er eB
    refine ⟨(by (repeat (first | exact Sub.refl _ | exact Sub.nil _ | (apply sub_pick; (repeat (first | exact Has.here | apply Has.there)); skip) | apply Sub.drop))), ?_⟩
    refine any_rest rfl ?_
    obtain ⟨b4, d4, rfl⟩ := rd_open h4
    refine walk ?_
    refine fin0 ?_
    exact ⟨_, rfl, h4, rfl⟩
  · have hat2 := hat
    refine gny_call 4 rfl rfl rfl hat2 fun r5 H5 B hl5 ⟨er, eB, eH⟩ => ?_
    subst er eB eH
    refine ⟨(by (repeat (first | exact Sub.refl _ | exact Sub.nil _ | (apply sub_pick; (repeat (first | exact Has.here | apply Has.there)); skip) | apply Sub.drop))), ?_⟩
    refine gny_ixp 5 rfl rfl rfl h1.1 hk (fun b off cc hr hc => ?_)
    obtain ⟨rfl, hn1, hn2, hn3⟩ := hc
    refine gny_ldNH 6 rfl rfl rfl hr rfl ?_
    refine any_rest rfl ?_
    refine walk ?_
    refine ex_any 4 (row p7 75 [.string m.Files[k].Name, .string m.Files[k].B, I m.Files[k].B.size] :: row p4 38 [nilS, I 0, .bool false, I 0] :: row p2 38 (m.cv (.slice b0 m.Files.length c0)) :: R) ?_
    (first | refine gny_p 0 rfl rfl rfl ?_ | refine gny_ld 0 rfl rfl rfl rfl ?_ | refine gny_ldH 0 rfl rfl rfl ‹HRow _ _ 0 _› rfl ?_ | refine gny_T 0 rfl rfl rfl ?_ | refine gny_F 0 rfl rfl rfl ?_ | refine gny_B 0 rfl rfl rfl ?_ | refine gny_skip 0 rfl rfl ?_ | refine gny_sp 0 rfl rfl rfl ?_ | refine gny_sB 0 rfl rfl rfl ?_ | refine gny_sld 0 rfl rfl rfl rfl ?_ | refine gny_sldH 0 rfl rfl rfl ‹HRow _ _ 0 _› rfl ?_ | refine gny_ldN 0 rfl rfl rfl rfl ?_ | refine gny_bld 0 rfl rfl rfl ?_); (first | refine gny_p 2 rfl rfl rfl ?_ | refine gny_ld 2 rfl rfl rfl rfl ?_ | refine gny_ldH 2 rfl rfl rfl ‹HRow _ _ 0 _› rfl ?_ | refine gny_T 2 rfl rfl rfl ?_ | refine gny_F 2 rfl rfl rfl ?_ | refine gny_B 2 rfl rfl rfl ?_ | refine gny_skip 2 rfl rfl ?_ | refine gny_sp 2 rfl rfl rfl ?_ | refine gny_sB 2 rfl rfl rfl ?_ | refine gny_sld 2 rfl rfl rfl rfl ?_ | refine gny_sldH 2 rfl rfl rfl ‹HRow _ _ 0 _› rfl ?_ | refine gny_ldN 2 rfl rfl rfl rfl ?_ | refine gny_bld 2 rfl rfl rfl ?_)
    refine gny_call 1 rfl rfl rfl (rStep_spec h0' hb.fits1 (hb.fits2 f2)) fun r3 H3 B hl3 ⟨c3, er, h3, eB, eH⟩ => ?_
    subst er eB eH
    refine ⟨(by (repeat (first | exact Sub.refl _ | exact Sub.nil _ | (apply sub_pick; (repeat (first | exact Has.here | apply Has.there)); skip) | apply Sub.drop))), ?_⟩
    have hB47 : m.Files[k].B.size ≤ 262144 := hb.1.2 _ (List.getElem_mem hk)
    have hw := with_spec (W0 := W0) (f := ⟨m.Files[k].Name, m.Files[k].B, m.Files[k].B.size⟩) h3 ⟨rfl, hn1, hn2, by unfold fits; simp only; omega⟩ (show m.Files.length ≤ 1000 from Nat.le_trans hb.1.1 (by decide))
    refine gny_call 3 rfl rfl rfl hw fun r4 H4 B hl4 ⟨c4, er, h4, eB⟩ => ?_
    subst er eB
    refine ⟨(by (repeat (first | exact Sub.refl _ | exact Sub.nil _ | (apply sub_pick; (repeat (first | exact Has.here | apply Has.there)); skip) | apply Sub.drop))), ?_⟩
    refine any_rest rfl ?_
    obtain ⟨b4, d4, rfl⟩ := rd_open h4
    refine walk ?_
    refine fin0 ?_
    exact ⟨_, rfl, h4, rfl⟩
end Go.Proofs.Ytjafnombaehcaaa
