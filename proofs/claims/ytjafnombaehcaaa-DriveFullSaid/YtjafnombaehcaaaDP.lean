/- The reference's Rename, Append. -/
import Derived.Test.YtjafnombaehcaaaDO
set_option linter.unusedVariables false
set_option linter.unusedSimpArgs false
namespace Go.Proofs.Ytjafnombaehcaaa
open Go Go.Sx Go.Proofs
set_option maxHeartbeats 8000000 in
theorem rRename_spec {W0 : World} {H : Heap} {m : Drive} {c : List Value} {n t : ByteArray} (h0 : rDrive H c m) (hn : n.size ≤ cap47) (ht : t.size ≤ cap47) (hb : MB m) :
    Ct Try.prog 36 #[.agg c.toArray, .string n, .string t] W0 H [] (RPost (renM m n t) (renC m n t)) := by
  refine Ct.go (vs := [.agg c.toArray, .string n, .string t]) fun R => ?_
  have h0' := h0
  obtain ⟨s0, rfl, h1, f1, f2⟩ := h0
  obtain ⟨b0, c0, rfl, hc0, hd0⟩ := h1.1.shape
  refine walk ?_
  refine ops_box rfl rfl fun p3 _ => ?_
  refine walk ?_
  refine ops_alloc rfl fun p6 _ => ?_
  refine walk ?_
  refine ops_pcall rfl rfl (rNameN_spec ht) ?_
  by_cases hokt : okN t
  rotate_left
  · rw [decide_eq_false hokt]
    have hc : renC m n t = 20 := by unfold renC; rw [if_neg hokt]
    have hdm : renM m n t = m := by unfold renM; rw [hc]; rfl
    rw [hc, hdm]
    refine walk ?_
    refine fin0 ?_
    exact ⟨_, rfl, h0', rfl⟩
  rw [decide_eq_true hokt]
  have hct : renC m n t = lookM m n := by unfold renC; rw [if_pos hokt]
  rw [hct]
  unfold renM
  rw [hct]
  refine walk ?_
  refine ops_pcall rfl rfl (look_spec h0' hn) ?_
  refine walk ?_
  refine ex_if rfl (fun hq => ?_) (fun hq => ?_)
  · rw [if_neg hq]
    refine walk ?_
    refine fin0 ?_
    exact ⟨_, rfl, h0', rfl⟩
  have hq0 : lookM m n = 0 := Classical.not_not.1 hq
  rw [if_pos hq0, hq0]
  have hat := at_spec (W0 := W0) h0' hn
  rcases at_cases m.Files n with ⟨ha, hi⟩ | ⟨k, hk, ha, hi, hkn⟩
  · unfold lookM at hq0
    rw [ha] at hq0
    split at hq0 <;> cases hq0
  rw [hi] at hat
  rw [ha]
  dsimp only
  refine walk ?_
  refine ex_any 8 (row p6 38 [nilS, I 0, .bool false, I 0] :: row p3 38 (m.cv (.slice b0 m.Files.length c0)) :: R) ?_
  (first | refine gny_p 0 rfl rfl rfl ?_ | refine gny_ld 0 rfl rfl rfl rfl ?_ | refine gny_ldH 0 rfl rfl rfl ‹HRow _ _ 0 _› rfl ?_ | refine gny_T 0 rfl rfl rfl ?_ | refine gny_F 0 rfl rfl rfl ?_ | refine gny_B 0 rfl rfl rfl ?_ | refine gny_skip 0 rfl rfl ?_ | refine gny_sp 0 rfl rfl rfl ?_ | refine gny_sB 0 rfl rfl rfl ?_ | refine gny_sld 0 rfl rfl rfl rfl ?_ | refine gny_sldH 0 rfl rfl rfl ‹HRow _ _ 0 _› rfl ?_ | refine gny_ldN 0 rfl rfl rfl rfl ?_ | refine gny_bld 0 rfl rfl rfl ?_); (first | refine gny_p 1 rfl rfl rfl ?_ | refine gny_ld 1 rfl rfl rfl rfl ?_ | refine gny_ldH 1 rfl rfl rfl ‹HRow _ _ 0 _› rfl ?_ | refine gny_T 1 rfl rfl rfl ?_ | refine gny_F 1 rfl rfl rfl ?_ | refine gny_B 1 rfl rfl rfl ?_ | refine gny_skip 1 rfl rfl ?_ | refine gny_sp 1 rfl rfl rfl ?_ | refine gny_sB 1 rfl rfl rfl ?_ | refine gny_sld 1 rfl rfl rfl rfl ?_ | refine gny_sldH 1 rfl rfl rfl ‹HRow _ _ 0 _› rfl ?_ | refine gny_ldN 1 rfl rfl rfl rfl ?_ | refine gny_bld 1 rfl rfl rfl ?_); (first | refine gny_p 2 rfl rfl rfl ?_ | refine gny_ld 2 rfl rfl rfl rfl ?_ | refine gny_ldH 2 rfl rfl rfl ‹HRow _ _ 0 _› rfl ?_ | refine gny_T 2 rfl rfl rfl ?_ | refine gny_F 2 rfl rfl rfl ?_ | refine gny_B 2 rfl rfl rfl ?_ | refine gny_skip 2 rfl rfl ?_ | refine gny_sp 2 rfl rfl rfl ?_ | refine gny_sB 2 rfl rfl rfl ?_ | refine gny_sld 2 rfl rfl rfl rfl ?_ | refine gny_sldH 2 rfl rfl rfl ‹HRow _ _ 0 _› rfl ?_ | refine gny_ldN 2 rfl rfl rfl rfl ?_ | refine gny_bld 2 rfl rfl rfl ?_); (first | refine gny_p 3 rfl rfl rfl ?_ | refine gny_ld 3 rfl rfl rfl rfl ?_ | refine gny_ldH 3 rfl rfl rfl ‹HRow _ _ 0 _› rfl ?_ | refine gny_T 3 rfl rfl rfl ?_ | refine gny_F 3 rfl rfl rfl ?_ | refine gny_B 3 rfl rfl rfl ?_ | refine gny_skip 3 rfl rfl ?_ | refine gny_sp 3 rfl rfl rfl ?_ | refine gny_sB 3 rfl rfl rfl ?_ | refine gny_sld 3 rfl rfl rfl rfl ?_ | refine gny_sldH 3 rfl rfl rfl ‹HRow _ _ 0 _› rfl ?_ | refine gny_ldN 3 rfl rfl rfl rfl ?_ | refine gny_bld 3 rfl rfl rfl ?_)
  refine any_ca 4 7 rfl rfl rfl hat (fun r5 H5 B hl5 ⟨er, eB, eH⟩ => ?_) (fun p7 _ => ?_)
  · subst er eB eH
    refine ⟨(by (repeat (first | exact Sub.refl _ | exact Sub.nil _ | (apply sub_pick; (repeat (first | exact Has.here | apply Has.there)); skip) | apply Sub.drop))), ?_⟩
    refine gny_ixp 5 rfl rfl rfl h1.1 hk (fun b off cc hr hc => ?_)
    obtain ⟨rfl, hn1, hn2, hn3⟩ := hc
    refine gny_ldNH 6 rfl rfl rfl hr rfl ?_
    refine gny_alloc 7 rfl rfl fun p7 _ => ?_
    refine any_rest rfl ?_
    refine walk ?_
    refine ops_call rfl rfl (rStep_spec h0' hb.fits1 (hb.fits2 f2)) fun r3 H3 B hl3 ⟨c3, er, h3, eB, eH⟩ => ?_
    subst er eB eH
    refine walk ?_
    refine ops_call rfl rfl (without_spec h3 hn) fun r4 H4 B hl4 ⟨c4, er, h4, eB⟩ => ?_
    subst er eB
    refine walk ?_
    refine ops_call rfl rfl (without_spec h4 ht) fun r5 H5 B hl5 ⟨c5, er, h5, eB⟩ => ?_
    subst er eB
    obtain ⟨b5, d5, rfl⟩ := rd_open h5
    refine walk ?_
    have hB47 : m.Files[k].B.size ≤ 262144 := hb.1.2 _ (List.getElem_mem hk)
    have hlen : (filesM (filesM (stepM m) (outF (stepM m).Files n)) (outF (filesM (stepM m) (outF (stepM m).Files n)).Files t)).Files.length ≤ 1000 := by
      refine Nat.le_trans (List.length_filter_le _ _) ?_
      refine Nat.le_trans (List.length_filter_le _ _) ?_
      exact Nat.le_trans hb.1.1 (by decide)
    have hw := with_spec (W0 := W0) (f := ⟨t, m.Files[k].B, m.Files[k].Synced⟩) h5 ⟨rfl, ht, hn2, hn3⟩ hlen
    refine ops_call rfl rfl hw fun r6 H6 B hl6 ⟨c6, er, h6, eB⟩ => ?_
    subst er eB
    obtain ⟨b6, d6, rfl⟩ := rd_open h6
    refine walk ?_
    refine fin0 ?_
    exact ⟨_, rfl, h6, rfl⟩
  · have hat2 := hat
    refine gny_call 4 rfl rfl rfl hat2 fun r5 H5 B hl5 ⟨er, eB, eH⟩ => ?_
    subst er eB eH
    refine ⟨(by (repeat (first | exact Sub.refl _ | exact Sub.nil _ | (apply sub_pick; (repeat (first | exact Has.here | apply Has.there)); skip) | apply Sub.drop))), ?_⟩
    refine gny_ixp 5 rfl rfl rfl h1.1 hk (fun b off cc hr hc => ?_)
    obtain ⟨rfl, hn1, hn2, hn3⟩ := hc
    refine gny_ldNH 6 rfl rfl rfl hr rfl ?_
    refine any_rest rfl ?_
    refine walk ?_
    refine ops_call rfl rfl (rStep_spec h0' hb.fits1 (hb.fits2 f2)) fun r3 H3 B hl3 ⟨c3, er, h3, eB, eH⟩ => ?_
    subst er eB eH
    refine walk ?_
    refine ops_call rfl rfl (without_spec h3 hn) fun r4 H4 B hl4 ⟨c4, er, h4, eB⟩ => ?_
    subst er eB
    refine walk ?_
    refine ops_call rfl rfl (without_spec h4 ht) fun r5 H5 B hl5 ⟨c5, er, h5, eB⟩ => ?_
    subst er eB
    obtain ⟨b5, d5, rfl⟩ := rd_open h5
    refine walk ?_
    have hB47 : m.Files[k].B.size ≤ 262144 := hb.1.2 _ (List.getElem_mem hk)
    have hlen : (filesM (filesM (stepM m) (outF (stepM m).Files n)) (outF (filesM (stepM m) (outF (stepM m).Files n)).Files t)).Files.length ≤ 1000 := by
      refine Nat.le_trans (List.length_filter_le _ _) ?_
      refine Nat.le_trans (List.length_filter_le _ _) ?_
      exact Nat.le_trans hb.1.1 (by decide)
    have hw := with_spec (W0 := W0) (f := ⟨t, m.Files[k].B, m.Files[k].Synced⟩) h5 ⟨rfl, ht, hn2, hn3⟩ hlen
    refine ops_call rfl rfl hw fun r6 H6 B hl6 ⟨c6, er, h6, eB⟩ => ?_
    subst er eB
    obtain ⟨b6, d6, rfl⟩ := rd_open h6
    refine walk ?_
    refine fin0 ?_
    exact ⟨_, rfl, h6, rfl⟩
/-- the file that is appended to -/
def appF (m : Drive) (n : ByteArray) : RF := match atF m.Files n with | some f => f | none => ⟨n, ⟨#[]⟩, 0⟩
theorem sizeV_app {m : Drive} {n : ByteArray} : sizeV m n = (appF m n).B.size := by unfold sizeV appF; split <;> simp_all; rfl
set_option maxHeartbeats 8000000 in
theorem rAppend_spec {W0 : World} {H : Heap} {m : Drive} {c : List Value} {n : ByteArray} {ns : List Int} (h0 : rDrive H c m) (hn : n.size ≤ cap47) (hns : ns.length ≤ cap47) (hb : MB m) :
    Ct Try.prog 25 #[.agg c.toArray, .string n, .string (tx ns)] W0 H [] (RPost (appM m n ns) (appC m n ns.length)) := by
  refine Ct.go (vs := [.agg c.toArray, .string n, .string (tx ns)]) fun R => ?_
  have h0' := h0
  obtain ⟨s0, rfl, h1, f1, f2⟩ := h0
  obtain ⟨b0, c0, rfl, hc0, hd0⟩ := h1.1.shape
  have htx : (tx ns).size = ns.length := tx_size ns
  simp only [cap47] at hns
  refine walk ?_
  refine ops_box rfl rfl fun p3 _ => ?_
  refine walk ?_
  refine ops_alloc rfl fun p6 _ => ?_
  refine walk ?_
  refine ops_pcall rfl rfl (rNameN_spec hn) ?_
  by_cases hok0 : okN n
  rotate_left
  · have hc : appC m n ns.length = 20 := by unfold appC; rw [if_neg hok0]
    have hdm : appM m n ns = m := by unfold appM; rw [hc]; rfl
    rw [decide_eq_false hok0, hc, hdm]
    refine walk ?_
    refine fin0 ?_
    exact ⟨_, rfl, h0', rfl⟩
  rw [decide_eq_true hok0]
  refine walk ?_
  refine ops_alloc rfl fun p8 _ => ?_
  refine walk ?_
  refine ops_pcall rfl rfl (at_spec h0' hn) ?_
  rcases at_cases m.Files n with ⟨ha, hi⟩ | ⟨k, hk, ha, hi, hkn⟩
  · rw [hi]
    have he0 : (⟨#[]⟩ : ByteArray).size = 0 := rfl
    have hsv : sizeV m n = 0 := by unfold sizeV; rw [ha]
    have hqq : (256 ≤ (m.Files.length : Int) ∨ 262144 < ((⟨#[]⟩ : ByteArray).size : Int) + (tx ns).size) ↔ (((atF m.Files n).isSome = false ∧ 256 ≤ m.Files.length) ∨ 262144 < sizeV m n + ns.length) := by
      rw [hsv, ha, he0, htx]
      constructor
      · rintro (h | h)
        · exact .inl ⟨rfl, by omega⟩
        · exact .inr (by omega)
      · rintro (⟨_, h⟩ | h)
        · exact .inl (by omega)
        · exact .inr (by omega)
    refine walkG ?_
    refine ex_if rfl (fun hq2 => ?_) (fun hq2 => ?_)
    · have hc : appC m n ns.length = 5 := by unfold appC; rw [if_pos hok0, if_pos (hqq.1 hq2)]
      have hdm : appM m n ns = m := by unfold appM; rw [hc]; rfl
      rw [hc, hdm]
      refine walk ?_
      refine fin0 ?_
      exact ⟨_, rfl, h0', rfl⟩
    have hnq := fun h => hq2 (hqq.2 h)
    refine walk ?_
    refine ops_pcall rfl rfl (rDead_spec h0') ?_
    by_cases hd : deadD m
    · have hc : appC m n ns.length = 6 := by unfold appC; rw [if_pos hok0, if_neg hnq, if_pos hd]
      have hdm : appM m n ns = m := by unfold appM; rw [hc]; rfl
      rw [hc, hdm, decide_eq_true hd]
      refine walk ?_
      refine fin0 ?_
      exact ⟨_, rfl, h0', rfl⟩
    have hc : appC m n ns.length = 0 := by unfold appC; rw [if_pos hok0, if_neg hnq, if_neg hd]
    rw [decide_eq_false hd, hc]
    unfold appM
    rw [if_pos hc]
    refine walk ?_
    have h47 : (⟨#[]⟩ ++ tx ns : ByteArray).size ≤ cap47 := by rw [ByteArray.size_append, he0, htx]; simp only [cap47]; omega
    have e47 : (⟨#[]⟩ ++ tx ns : ByteArray) = tx ns := by rw [show (⟨#[]⟩ : ByteArray) = tx [] from rfl, tx_app]; rfl
    refine ex_any 4 (row p8 75 [.string n, .string ((⟨#[]⟩ : ByteArray) ++ tx ns), I 0] :: row p6 38 [nilS, I 0, .bool false, I 0] :: row p3 38 (m.cv (.slice b0 m.Files.length c0)) :: R) ?_
    (first | refine gny_p 0 rfl rfl rfl ?_ | refine gny_ld 0 rfl rfl rfl rfl ?_ | refine gny_ldH 0 rfl rfl rfl ‹HRow _ _ 0 _› rfl ?_ | refine gny_T 0 rfl rfl rfl ?_ | refine gny_F 0 rfl rfl rfl ?_ | refine gny_B 0 rfl rfl rfl ?_ | refine gny_skip 0 rfl rfl ?_ | refine gny_sp 0 rfl rfl rfl ?_ | refine gny_sB 0 rfl rfl rfl ?_ | refine gny_sld 0 rfl rfl rfl rfl ?_ | refine gny_sldH 0 rfl rfl rfl ‹HRow _ _ 0 _› rfl ?_ | refine gny_ldN 0 rfl rfl rfl rfl ?_ | refine gny_bld 0 rfl rfl rfl ?_); (first | refine gny_p 2 rfl rfl rfl ?_ | refine gny_ld 2 rfl rfl rfl rfl ?_ | refine gny_ldH 2 rfl rfl rfl ‹HRow _ _ 0 _› rfl ?_ | refine gny_T 2 rfl rfl rfl ?_ | refine gny_F 2 rfl rfl rfl ?_ | refine gny_B 2 rfl rfl rfl ?_ | refine gny_skip 2 rfl rfl ?_ | refine gny_sp 2 rfl rfl rfl ?_ | refine gny_sB 2 rfl rfl rfl ?_ | refine gny_sld 2 rfl rfl rfl rfl ?_ | refine gny_sldH 2 rfl rfl rfl ‹HRow _ _ 0 _› rfl ?_ | refine gny_ldN 2 rfl rfl rfl rfl ?_ | refine gny_bld 2 rfl rfl rfl ?_)
    refine gny_call 1 rfl rfl rfl (rStep_spec h0' hb.fits1 (hb.fits2 f2)) fun r3 H3 B hl3 ⟨c3, er, h3, eB, eH⟩ => ?_
    subst er eB eH
    refine ⟨(by (repeat (first | exact Sub.refl _ | exact Sub.nil _ | (apply sub_pick; (repeat (first | exact Has.here | apply Has.there)); skip) | apply Sub.drop))), ?_⟩
    have hw := with_spec (W0 := W0) (f := ⟨n, ((⟨#[]⟩ : ByteArray) ++ tx ns), 0⟩) h3 ⟨rfl, hn, h47, fits0⟩ (show m.Files.length ≤ 1000 from Nat.le_trans hb.1.1 (by decide))
    refine gny_call 3 rfl rfl rfl hw fun r4 H4 B hl4 ⟨c4, er, h4, eB⟩ => ?_
    subst er eB
    refine ⟨(by (repeat (first | exact Sub.refl _ | exact Sub.nil _ | (apply sub_pick; (repeat (first | exact Has.here | apply Has.there)); skip) | apply Sub.drop))), ?_⟩
    refine any_rest rfl ?_
    obtain ⟨b4, d4, rfl⟩ := rd_open h4
    refine walk ?_
    refine fin0 ?_
    refine ⟨_, rfl, ?_, rfl⟩
    rw [ha]
    rw [e47] at h4
    exact h4
  · rw [hi]
    have hB47 : m.Files[k].B.size ≤ 262144 := hb.1.2 _ (List.getElem_mem hk)
    refine walk ?_
    refine ops_ixp rfl rfl h1.1 hk (fun b off cc hr hc => ?_)
    obtain ⟨rfl, hn1, hn2, hn3⟩ := hc
    refine ops_ldNH rfl rfl hr rfl ?_
    have hsv : sizeV m n = m.Files[k].B.size := by unfold sizeV; rw [ha]
    have hqq : (262144 < (m.Files[k].B.size : Int) + (tx ns).size) ↔ (((atF m.Files n).isSome = false ∧ 256 ≤ m.Files.length) ∨ 262144 < sizeV m n + ns.length) := by
      rw [hsv, ha, htx]
      constructor
      · intro h
        exact .inr (by omega)
      · rintro (⟨h, _⟩ | h)
        · cases h
        · omega
    refine walkG ?_
    refine ex_if rfl (fun hq2 => ?_) (fun hq2 => ?_)
    · have hc : appC m n ns.length = 5 := by unfold appC; rw [if_pos hok0, if_pos (hqq.1 hq2)]
      have hdm : appM m n ns = m := by unfold appM; rw [hc]; rfl
      rw [hc, hdm]
      refine walk ?_
      refine fin0 ?_
      exact ⟨_, rfl, h0', rfl⟩
    have hnq := fun h => hq2 (hqq.2 h)
    refine walk ?_
    refine ops_pcall rfl rfl (rDead_spec h0') ?_
    by_cases hd : deadD m
    · have hc : appC m n ns.length = 6 := by unfold appC; rw [if_pos hok0, if_neg hnq, if_pos hd]
      have hdm : appM m n ns = m := by unfold appM; rw [hc]; rfl
      rw [hc, hdm, decide_eq_true hd]
      refine walk ?_
      refine fin0 ?_
      exact ⟨_, rfl, h0', rfl⟩
    have hc : appC m n ns.length = 0 := by unfold appC; rw [if_pos hok0, if_neg hnq, if_neg hd]
    rw [decide_eq_false hd, hc]
    unfold appM
    rw [if_pos hc]
    refine walk ?_
    have h47 : (m.Files[k].B ++ tx ns : ByteArray).size ≤ cap47 := by rw [ByteArray.size_append, htx]; simp only [cap47]; omega
    refine ex_any 4 (row p8 75 [.string m.Files[k].Name, .string (m.Files[k].B ++ tx ns), I m.Files[k].Synced] :: row p6 38 [nilS, I 0, .bool false, I 0] :: row p3 38 (m.cv (.slice b0 m.Files.length c0)) :: R) ?_
    (first | refine gny_p 0 rfl rfl rfl ?_ | refine gny_ld 0 rfl rfl rfl rfl ?_ | refine gny_ldH 0 rfl rfl rfl ‹HRow _ _ 0 _› rfl ?_ | refine gny_T 0 rfl rfl rfl ?_ | refine gny_F 0 rfl rfl rfl ?_ | refine gny_B 0 rfl rfl rfl ?_ | refine gny_skip 0 rfl rfl ?_ | refine gny_sp 0 rfl rfl rfl ?_ | refine gny_sB 0 rfl rfl rfl ?_ | refine gny_sld 0 rfl rfl rfl rfl ?_ | refine gny_sldH 0 rfl rfl rfl ‹HRow _ _ 0 _› rfl ?_ | refine gny_ldN 0 rfl rfl rfl rfl ?_ | refine gny_bld 0 rfl rfl rfl ?_); (first | refine gny_p 2 rfl rfl rfl ?_ | refine gny_ld 2 rfl rfl rfl rfl ?_ | refine gny_ldH 2 rfl rfl rfl ‹HRow _ _ 0 _› rfl ?_ | refine gny_T 2 rfl rfl rfl ?_ | refine gny_F 2 rfl rfl rfl ?_ | refine gny_B 2 rfl rfl rfl ?_ | refine gny_skip 2 rfl rfl ?_ | refine gny_sp 2 rfl rfl rfl ?_ | refine gny_sB 2 rfl rfl rfl ?_ | refine gny_sld 2 rfl rfl rfl rfl ?_ | refine gny_sldH 2 rfl rfl rfl ‹HRow _ _ 0 _› rfl ?_ | refine gny_ldN 2 rfl rfl rfl rfl ?_ | refine gny_bld 2 rfl rfl rfl ?_)
    refine gny_call 1 rfl rfl rfl (rStep_spec h0' hb.fits1 (hb.fits2 f2)) fun r3 H3 B hl3 ⟨c3, er, h3, eB, eH⟩ => ?_
    subst er eB eH
    refine ⟨(by (repeat (first | exact Sub.refl _ | exact Sub.nil _ | (apply sub_pick; (repeat (first | exact Has.here | apply Has.there)); skip) | apply Sub.drop))), ?_⟩
    have hw := with_spec (W0 := W0) (f := ⟨m.Files[k].Name, (m.Files[k].B ++ tx ns), m.Files[k].Synced⟩) h3 ⟨rfl, hn1, h47, hn3⟩ (show m.Files.length ≤ 1000 from Nat.le_trans hb.1.1 (by decide))
    refine gny_call 3 rfl rfl rfl hw fun r4 H4 B hl4 ⟨c4, er, h4, eB⟩ => ?_
    subst er eB
    refine ⟨(by (repeat (first | exact Sub.refl _ | exact Sub.nil _ | (apply sub_pick; (repeat (first | exact Has.here | apply Has.there)); skip) | apply Sub.drop))), ?_⟩
    refine any_rest rfl ?_
    obtain ⟨b4, d4, rfl⟩ := rd_open h4
    refine walk ?_
    refine fin0 ?_
    refine ⟨_, rfl, ?_, rfl⟩
    rw [ha]
    dsimp only
    rw [← hkn]
    exact h4
end Go.Proofs.Ytjafnombaehcaaa
