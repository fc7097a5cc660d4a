/- The reference's Crash. -/
import Derived.Test.YtjafnombaehcaaaDP
set_option linter.unusedVariables false
set_option linter.unusedSimpArgs false
namespace Go.Proofs.Ytjafnombaehcaaa
open Go Go.Sx Go.Proofs
theorem crFold_len {ks : List Int} {fs : List RF} : (crAll fs ks).2.length = fs.length := by
  have := congrArg List.length (crAll_names (fs := fs) (ks := ks))
  simpa using this
set_option maxHeartbeats 8000000 in
theorem rCrash_spec {W0 : World} {H : Heap} {m : Drive} {c : List Value} {v0 : Value} {ks : List Int} (h0 : rDrive H c m) (hk0 : SlB rInt 1 8 H v0 ks) (hb : MB m) (hsy : ∀ f ∈ m.Files, 0 ≤ f.Synced ∧ f.Synced ≤ f.B.size) :
    Ct Try.prog 17 #[.agg c.toArray, v0] W0 H [] (fun r H' B => ∃ c', r = .agg c'.toArray ∧ rDrive H' c' (crashM m ks) ∧ B = []) := by
  refine Ct.go (vs := [.agg c.toArray, v0]) fun R => ?_
  obtain ⟨s0, rfl, h1, f1, f2⟩ := h0
  obtain ⟨b0, c0, rfl, hc0, hd0⟩ := h1.1.shape
  obtain ⟨bb, cc, rfl, _, _⟩ := hk0.1.shape
  obtain ⟨fs, st, ar, lf⟩ := m
  obtain ⟨⟨hb1, hb2⟩, _, _⟩ := hb
  dsimp only at *
  refine walk ?_
  refine ops_box rfl rfl fun p2 _ => ?_
  refine walk ?_
  refine ops_alloc rfl fun p4 _ => ?_
  refine walk ?_
  refine ops_alloc rfl fun p5 _ => ?_
  refine walk ?_
  refine ex_L (L' := ownS rRF 3 40 75 H nilS [] :: row p5 38 [nilS, I 0, .bool false, I 0] :: row p4 38 [nilS, I 0, .bool false, I 0] :: row p2 38 [.slice b0 fs.length c0, I st, .bool ar, I lf] :: R) (Sub.trans (by (repeat (first | exact Sub.refl _ | exact Sub.nil _ | (apply sub_pick; (repeat (first | exact Has.here | apply Has.there)); skip) | apply Sub.drop))) ownS_nil) ?_
  refine ex_loop (σ := Nat × Option Addr × Nat) (fun s => s.1 ≤ fs.length)
    (fun s => [(1, .slice bb ks.length cc), (2, .pointer (some ⟨p2, 0, none⟩)), (4, .pointer (some ⟨p4, 0, none⟩)), (5, .pointer (some ⟨p5, 0, none⟩)), (6, I ((crAll (fs.take s.1) ks).1 : Nat)), (7, I s.1)]) (fun _ => H)
    (fun s => ownS rRF 3 40 75 H (.slice s.2.1 (crAll (fs.take s.1) ks).2.length s.2.2) (crAll (fs.take s.1) ks).2 :: row p5 38 [.slice s.2.1 (crAll (fs.take s.1) ks).2.length s.2.2, I 0, .bool false, I 0] :: row p4 38 [nilS, I 0, .bool false, I 0] :: row p2 38 [.slice b0 fs.length c0, I st, .bool ar, I lf] :: R)
    (fun s => fs.length - s.1) (0, none, 0) (Nat.zero_le _) fun ⟨k, d, e⟩ hk1 K hL => ?_
  dsimp only at hk1 ⊢
  have hsl : (crAll (fs.take k) ks).2.length = k := by rw [crFold_len, List.length_take]; omega
  have hnx2 : (crAll (fs.take k) ks).1 ≤ 256 := by
    have := crAll_next (fs := fs.take k) (ks := ks)
    rw [List.length_take] at this
    omega
  have hs1 : ∀ h : k < fs.length, crAll (fs.take (k + 1)) ks = crStep ks (crAll (fs.take k) ks) fs[k] := fun h => by rw [List.take_succ_eq_append_getElem h, crAll_snoc]
  have hfin : k = fs.length → (crAll fs ks).2 = (crAll (fs.take k) ks).2 := fun h => by rw [h, List.take_length]
  generalize crAll (fs.take k) ks = s at *
  obtain ⟨nx, l⟩ := s
  dsimp only at hsl hnx2 hfin ⊢
  refine walk ?_
  refine ex_if rfl (fun hq => ?_) (fun hq => ?_)
  rotate_left
  · clear hL hs1
    have hkf : k = fs.length := by omega
    refine walk ?_
    refine out_freeze (.slice d l.length e) fun H3 hl3 hs3 => ?_
    refine fin0 ?_
    exact ⟨_, rfl, ⟨_, rfl, by rw [show (crashM ⟨fs, st, ar, lf⟩ ks).Files = l from hfin hkf]; exact hs3, fits0, fits0⟩, rfl⟩
  have hk2 : k < fs.length := by omega
  have hs2 := hs1 hk2
  clear hs1 hfin
  have hsf := hsy _ (List.getElem_mem hk2)
  have hbf := hb2 _ (List.getElem_mem hk2)
  refine walk ?_
  refine ops_ixp rfl rfl h1.1 hk2 (fun b off ccc hr hc => ?_)
  obtain ⟨rfl, hn1, hn2, hn3⟩ := hc
  refine ops_ldNH rfl rfl hr rfl ?_
  refine ops_alloc rfl fun p8 _ => ?_
  generalize fs[k] = f at *
  have hks := hk0.1
  have hcN1 : ¬ f.Synced < f.B.size → crN ks nx f.B.size f.Synced = f.B.size := fun h => if_neg h
  have hcN2 : f.Synced < f.B.size → crN ks nx f.B.size f.Synced = f.Synced + min (keepK ks nx) (f.B.size - f.Synced) := fun h => if_pos h
  have hkk : 0 ≤ keepK ks nx := by unfold keepK; split <;> omega
  refine walk ?_
  refine ex_cutk (σ := Unit) (fun _ => True) (fun _ => [(9, I (crN ks nx f.B.size f.Synced)), (6, I (if f.Synced < f.B.size then nx + 1 else nx : Nat)), (8, .pointer (some ⟨p8, 0, none⟩)), (1, .slice bb ks.length cc), (2, .pointer (some ⟨p2, 0, none⟩)), (4, .pointer (some ⟨p4, 0, none⟩)), (5, .pointer (some ⟨p5, 0, none⟩)), (7, I k)])
    (fun _ => H) (fun _ => row p8 75 [.string f.Name, .string f.B, I f.Synced] :: ownS rRF 3 40 75 H (.slice d l.length e) l :: row p5 38 [.slice d l.length e, I 0, .bool false, I 0] :: row p4 38 [nilS, I 0, .bool false, I 0] :: row p2 38 [.slice b0 fs.length c0, I st, .bool ar, I lf] :: R) (fun K2 hK2 => ?_) (fun _ _ => ?_)
  · refine ex_if rfl (fun hq1 => ?_) (fun hq1 => ?_)
    rotate_left
    · rw [hcN1 hq1, if_neg hq1] at hK2
      refine walk ?_
      exact out_to hK2 () trivial
    rw [hcN2 hq1, if_pos hq1] at hK2
    refine walkG ?_
    refine ex_cutk (σ := Unit) (fun _ => True) (fun _ => [(10, I (keepK ks nx)), (9, I f.B.size), (6, I nx), (8, .pointer (some ⟨p8, 0, none⟩)), (1, .slice bb ks.length cc), (2, .pointer (some ⟨p2, 0, none⟩)), (4, .pointer (some ⟨p4, 0, none⟩)), (5, .pointer (some ⟨p5, 0, none⟩)), (7, I k)])
      (fun _ => H) (fun _ => row p8 75 [.string f.Name, .string f.B, I f.Synced] :: ownS rRF 3 40 75 H (.slice d l.length e) l :: row p5 38 [.slice d l.length e, I 0, .bool false, I 0] :: row p4 38 [nilS, I 0, .bool false, I 0] :: row p2 38 [.slice b0 fs.length c0, I st, .bool ar, I lf] :: R) (fun K3 hK3 => ?_) (fun _ _ => ?_)
    · refine ex_if rfl (fun hq2 => ?_) (fun hq2 => ?_)
      · have hq3 : nx < ks.length := by omega
        have hgd : ks.getD nx default = ks[nx] := by simp [List.getD, hq3]
        have hkv : keepK ks nx = ks[nx] := by
          unfold keepK; rw [if_pos hq3]
          rw [hgd] at hq2
          simp only [List.getD, List.getElem?_eq_getElem hq3, Option.getD_some]; omega
        rw [hkv] at hK3
        refine walk ?_
        exact out_to hK3 () trivial
      · have hkv : keepK ks nx = 0 := by
          unfold keepK
          split
          · next h3 =>
            have hgd : ks.getD nx default = ks[nx] := by simp [List.getD, h3]
            rw [hgd] at hq2
            simp only [List.getD, List.getElem?_eq_getElem h3, Option.getD_some]; omega
          · rfl
        rw [hkv] at hK3
        refine walk ?_
        exact out_to hK3 () trivial
    have hkf2 : keepK ks nx ≤ 9223372036854775807 := by
      unfold keepK
      split
      · next h3 =>
        have := hks.fits _ (List.getElem_mem h3)
        simp only [List.getD, List.getElem?_eq_getElem h3, Option.getD_some]
        unfold fits at this; omega
      · omega
    refine walk ?_
    refine ex_if rfl (fun hq2 => ?_) (fun hq2 => ?_)
    · rw [show min (keepK ks nx) ((f.B.size : Int) - f.Synced) = keepK ks nx by omega] at hK2
      refine walk ?_
      exact out_to hK2 () trivial
    · rw [show f.Synced + min (keepK ks nx) ((f.B.size : Int) - f.Synced) = f.B.size by omega] at hK2
      refine walk ?_
      exact out_to hK2 () trivial
  have hcb : 0 ≤ crN ks nx f.B.size f.Synced ∧ crN ks nx f.B.size f.Synced ≤ f.B.size := by
    by_cases h : f.Synced < f.B.size
    · rw [hcN2 h]; omega
    · rw [hcN1 h]; omega
  have hcr : crAll (fs.take (k + 1)) ks = (if f.Synced < f.B.size then nx + 1 else nx, l ++ [⟨f.Name, f.B.extract 0 (crN ks nx f.B.size f.Synced).toNat, crN ks nx f.B.size f.Synced⟩]) := hs2
  generalize crN ks nx f.B.size f.Synced = j at *
  obtain ⟨j, rfl⟩ := Int.eq_ofNat_of_zero_le hcb.1
  rw [Int.toNat_natCast] at hcr
  have hjb : j ≤ f.B.size := by omega
  obtain ⟨fn, fb, fsy⟩ := f
  obtain ⟨bl, rfl⟩ : ∃ bl, fb = sb bl := ⟨_, sb_of fb⟩
  dsimp only at hjb hn1 hn2 hcr ⊢
  have hjb2 : j ≤ bl.length := by rw [sb_size] at hjb; exact hjb
  rw [sb_take] at hcr
  have hn2' : (sb (bl.take j)).size ≤ cap47 := by rw [sb_size] at hn2 ⊢; rw [List.length_take]; omega
  have hfj : fits (j : Int) := by have h9 : (sb bl).size ≤ 262144 := hbf; rw [sb_size] at h9; unfold fits; omega
  have hcapA : (l.length + 1) * 40 ≤ cap47 := by simp only [cap47]; omega
  refine ex_any 12 (row p8 75 [.string fn, .string (sb bl), I fsy] :: row p5 38 [.slice d l.length e, I 0, .bool false, I 0] :: row p4 38 [nilS, I 0, .bool false, I 0] :: row p2 38 [.slice b0 fs.length c0, I st, .bool ar, I lf] :: R) ?_
  (first | refine gny_p 0 rfl rfl rfl ?_ | refine gny_ld 0 rfl rfl rfl rfl ?_ | refine gny_ldH 0 rfl rfl rfl ‹HRow _ _ 0 _› rfl ?_ | refine gny_T 0 rfl rfl rfl ?_ | refine gny_F 0 rfl rfl rfl ?_ | refine gny_B 0 rfl rfl rfl ?_ | refine gny_skip 0 rfl rfl ?_ | refine gny_sp 0 rfl rfl rfl ?_ | refine gny_sB 0 rfl rfl rfl ?_ | refine gny_sld 0 rfl rfl rfl rfl ?_ | refine gny_sldH 0 rfl rfl rfl ‹HRow _ _ 0 _› rfl ?_ | refine gny_ldN 0 rfl rfl rfl rfl ?_ | refine gny_bld 0 rfl rfl rfl ?_); (first | refine gny_p 1 rfl rfl rfl ?_ | refine gny_ld 1 rfl rfl rfl rfl ?_ | refine gny_ldH 1 rfl rfl rfl ‹HRow _ _ 0 _› rfl ?_ | refine gny_T 1 rfl rfl rfl ?_ | refine gny_F 1 rfl rfl rfl ?_ | refine gny_B 1 rfl rfl rfl ?_ | refine gny_skip 1 rfl rfl ?_ | refine gny_sp 1 rfl rfl rfl ?_ | refine gny_sB 1 rfl rfl rfl ?_ | refine gny_sld 1 rfl rfl rfl rfl ?_ | refine gny_sldH 1 rfl rfl rfl ‹HRow _ _ 0 _› rfl ?_ | refine gny_ldN 1 rfl rfl rfl rfl ?_ | refine gny_bld 1 rfl rfl rfl ?_); (first | refine gny_p 2 rfl rfl rfl ?_ | refine gny_ld 2 rfl rfl rfl rfl ?_ | refine gny_ldH 2 rfl rfl rfl ‹HRow _ _ 0 _› rfl ?_ | refine gny_T 2 rfl rfl rfl ?_ | refine gny_F 2 rfl rfl rfl ?_ | refine gny_B 2 rfl rfl rfl ?_ | refine gny_skip 2 rfl rfl ?_ | refine gny_sp 2 rfl rfl rfl ?_ | refine gny_sB 2 rfl rfl rfl ?_ | refine gny_sld 2 rfl rfl rfl rfl ?_ | refine gny_sldH 2 rfl rfl rfl ‹HRow _ _ 0 _› rfl ?_ | refine gny_ldN 2 rfl rfl rfl rfl ?_ | refine gny_bld 2 rfl rfl rfl ?_); (first | refine gny_p 3 rfl rfl rfl ?_ | refine gny_ld 3 rfl rfl rfl rfl ?_ | refine gny_ldH 3 rfl rfl rfl ‹HRow _ _ 0 _› rfl ?_ | refine gny_T 3 rfl rfl rfl ?_ | refine gny_F 3 rfl rfl rfl ?_ | refine gny_B 3 rfl rfl rfl ?_ | refine gny_skip 3 rfl rfl ?_ | refine gny_sp 3 rfl rfl rfl ?_ | refine gny_sB 3 rfl rfl rfl ?_ | refine gny_sld 3 rfl rfl rfl rfl ?_ | refine gny_sldH 3 rfl rfl rfl ‹HRow _ _ 0 _› rfl ?_ | refine gny_ldN 3 rfl rfl rfl rfl ?_ | refine gny_bld 3 rfl rfl rfl ?_); (first | refine gny_p 4 rfl rfl rfl ?_ | refine gny_ld 4 rfl rfl rfl rfl ?_ | refine gny_ldH 4 rfl rfl rfl ‹HRow _ _ 0 _› rfl ?_ | refine gny_T 4 rfl rfl rfl ?_ | refine gny_F 4 rfl rfl rfl ?_ | refine gny_B 4 rfl rfl rfl ?_ | refine gny_skip 4 rfl rfl ?_ | refine gny_sp 4 rfl rfl rfl ?_ | refine gny_sB 4 rfl rfl rfl ?_ | refine gny_sld 4 rfl rfl rfl rfl ?_ | refine gny_sldH 4 rfl rfl rfl ‹HRow _ _ 0 _› rfl ?_ | refine gny_ldN 4 rfl rfl rfl rfl ?_ | refine gny_bld 4 rfl rfl rfl ?_); (first | refine gny_p 5 rfl rfl rfl ?_ | refine gny_ld 5 rfl rfl rfl rfl ?_ | refine gny_ldH 5 rfl rfl rfl ‹HRow _ _ 0 _› rfl ?_ | refine gny_T 5 rfl rfl rfl ?_ | refine gny_F 5 rfl rfl rfl ?_ | refine gny_B 5 rfl rfl rfl ?_ | refine gny_skip 5 rfl rfl ?_ | refine gny_sp 5 rfl rfl rfl ?_ | refine gny_sB 5 rfl rfl rfl ?_ | refine gny_sld 5 rfl rfl rfl rfl ?_ | refine gny_sldH 5 rfl rfl rfl ‹HRow _ _ 0 _› rfl ?_ | refine gny_ldN 5 rfl rfl rfl rfl ?_ | refine gny_bld 5 rfl rfl rfl ?_); (first | refine gny_p 6 rfl rfl rfl ?_ | refine gny_ld 6 rfl rfl rfl rfl ?_ | refine gny_ldH 6 rfl rfl rfl ‹HRow _ _ 0 _› rfl ?_ | refine gny_T 6 rfl rfl rfl ?_ | refine gny_F 6 rfl rfl rfl ?_ | refine gny_B 6 rfl rfl rfl ?_ | refine gny_skip 6 rfl rfl ?_ | refine gny_sp 6 rfl rfl rfl ?_ | refine gny_sB 6 rfl rfl rfl ?_ | refine gny_sld 6 rfl rfl rfl rfl ?_ | refine gny_sldH 6 rfl rfl rfl ‹HRow _ _ 0 _› rfl ?_ | refine gny_ldN 6 rfl rfl rfl rfl ?_ | refine gny_bld 6 rfl rfl rfl ?_); (first | refine gny_p 7 rfl rfl rfl ?_ | refine gny_ld 7 rfl rfl rfl rfl ?_ | refine gny_ldH 7 rfl rfl rfl ‹HRow _ _ 0 _› rfl ?_ | refine gny_T 7 rfl rfl rfl ?_ | refine gny_F 7 rfl rfl rfl ?_ | refine gny_B 7 rfl rfl rfl ?_ | refine gny_skip 7 rfl rfl ?_ | refine gny_sp 7 rfl rfl rfl ?_ | refine gny_sB 7 rfl rfl rfl ?_ | refine gny_sld 7 rfl rfl rfl rfl ?_ | refine gny_sldH 7 rfl rfl rfl ‹HRow _ _ 0 _› rfl ?_ | refine gny_ldN 7 rfl rfl rfl rfl ?_ | refine gny_bld 7 rfl rfl rfl ?_); (first | refine gny_p 8 rfl rfl rfl ?_ | refine gny_ld 8 rfl rfl rfl rfl ?_ | refine gny_ldH 8 rfl rfl rfl ‹HRow _ _ 0 _› rfl ?_ | refine gny_T 8 rfl rfl rfl ?_ | refine gny_F 8 rfl rfl rfl ?_ | refine gny_B 8 rfl rfl rfl ?_ | refine gny_skip 8 rfl rfl ?_ | refine gny_sp 8 rfl rfl rfl ?_ | refine gny_sB 8 rfl rfl rfl ?_ | refine gny_sld 8 rfl rfl rfl rfl ?_ | refine gny_sldH 8 rfl rfl rfl ‹HRow _ _ 0 _› rfl ?_ | refine gny_ldN 8 rfl rfl rfl rfl ?_ | refine gny_bld 8 rfl rfl rfl ?_); (first | refine gny_p 9 rfl rfl rfl ?_ | refine gny_ld 9 rfl rfl rfl rfl ?_ | refine gny_ldH 9 rfl rfl rfl ‹HRow _ _ 0 _› rfl ?_ | refine gny_T 9 rfl rfl rfl ?_ | refine gny_F 9 rfl rfl rfl ?_ | refine gny_B 9 rfl rfl rfl ?_ | refine gny_skip 9 rfl rfl ?_ | refine gny_sp 9 rfl rfl rfl ?_ | refine gny_sB 9 rfl rfl rfl ?_ | refine gny_sld 9 rfl rfl rfl rfl ?_ | refine gny_sldH 9 rfl rfl rfl ‹HRow _ _ 0 _› rfl ?_ | refine gny_ldN 9 rfl rfl rfl rfl ?_ | refine gny_bld 9 rfl rfl rfl ?_)
  refine any_app1 10 11 (y := (⟨fn, sb (bl.take j), j⟩ : RF)) rfl rfl rfl ⟨rfl, hn1, hn2', hfj⟩ hcapA fun d3 e3 => ⟨(by (repeat (first | exact Sub.refl _ | exact Sub.nil _ | (apply sub_pick; (repeat (first | exact Has.here | apply Has.there)); skip) | apply Sub.drop))), ?_⟩
  refine any_rest rfl ?_
  rw [show l.length + 1 = (l ++ [(⟨fn, sb (bl.take j), j⟩ : RF)]).length by simp]
  have hfit : fits ((k : Int) + 1) := by unfold fits; omega
  refine walk ?_
  refine out_next hL (k + 1, d3, e3) (by dsimp only; omega) (hs := ?_) (hf := ?_)
  · dsimp only
    rw [hcr]
    (repeat (first | exact Sub.refl _ | exact Sub.nil _ | (apply sub_pick; (repeat (first | exact Has.here | apply Has.there)); skip) | apply Sub.drop))
  · dsimp only
    rw [hcr]
    repeat (first | exact fsub_nil _ | refine fsub_cons rfl ?_)
end Go.Proofs.Ytjafnombaehcaaa
