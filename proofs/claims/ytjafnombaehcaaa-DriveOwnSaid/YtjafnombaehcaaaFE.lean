/- DriveOwn: the walk. -/
import Derived.Test.YtjafnombaehcaaaDX
set_option linter.unusedVariables false
set_option linter.unusedSimpArgs false
namespace Go.Proofs.Ytjafnombaehcaaa
open Go Go.Sx Go.Proofs
def nOwn : ByteArray := ⟨#[111, 119, 110]⟩
theorem nOwn47 : nOwn.size ≤ cap47 := by decide
theorem at_iff0 {fs : List RF} {n : ByteArray} {g : RF} (h : upF fs) : atF fs n = some g → g ∈ fs := fun e => by
    rcases at_cases fs n with ⟨ha, _⟩ | ⟨k, hk, ha, _, hkn⟩
    · rw [ha] at e; cases e
    · rw [ha] at e; cases e; exact List.getElem_mem hk
set_option maxRecDepth 100000 in
set_option maxHeartbeats 16000000 in
theorem own_spec {W0 : World} {H : Heap} {v0 v1 : Value} {ss : List Op} {bs : List Int} (h0 : SlB rOp 6 96 H v0 ss) (hbs : SlB rU8 1 1 H v1 bs) :
    Ct Try.prog 7 #[v0, v1] W0 H [] (fun r H' B => r = .bool true ∧ B = []) := by
  refine Ct.go (vs := [v0, v1]) fun R => ?_
  obtain ⟨b0, c0, rfl, hc0, hd0⟩ := h0.1.shape
  obtain ⟨b1, c1, rfl, hc1, hd1⟩ := hbs.1.shape
  refine walk ?_
  refine ops_call rfl rfl (built_spec h0) fun r1 H1 B hl1 ⟨b, c1', er, h1, eB⟩ => ?_
  subst er eB
  obtain ⟨b6, d6, rfl⟩ := rd_open h1
  refine walk ?_
  refine ops_alloc rfl fun p6 _ => ?_
  refine walk ?_
  refine ops_call rfl rfl awake_spec fun r2 H2 B hl2 ⟨er, eB⟩ => ?_
  subst er eB
  have hst : (buildM ss).Steps ≤ 80 := take_steps (Nat.le_refl 80)
  generalize buildM ss = M at *
  refine walk ?_
  refine ex_L (L' := driveO b M :: mRow p6 b6 d6 M :: R) (by (repeat (first | exact Sub.refl _ | exact Sub.nil _ | (apply sub_pick; (repeat (first | exact Has.here | apply Has.there)); skip) | apply Sub.drop))) ?_
  refine ex_know (A := driveO b M) (p := DK M) (by repeat (first | exact Has.here | apply Has.there)) (fun h => driveO_know) fun hdk => ?_
  have hmb := hdk.mb (by omega)
  have h2 : rDrive H2 (mCs b6 d6 M) M := RdOk.mono hl2 h1
  refine ex_cutk (σ := Nat × Nat × Heap × Option Addr × Nat) (fun s => H2.le s.2.2.1 ∧ rDrive s.2.2.1 (mCs s.2.2.2.1 s.2.2.2.2 (crashM M [])) (crashM M []))
    (fun s => [(8, pp s.2.1), (9, pp s.1), (1, .slice b1 bs.length c1), (5, pp b), (6, pp p6), (7, .bool true)]) (fun s => s.2.2.1)
    (fun s => mRow s.1 s.2.2.2.1 s.2.2.2.2 (crashM M []) :: driveO s.2.1 (crashM M []) :: driveO b M :: mRow p6 b6 d6 M :: R) (fun K4 hK4 => ?_) (fun ⟨p9, q, H5, b5, d5⟩ ⟨hl5, h5⟩ => ?_)
  · refine ex_any 5 (driveO b M :: mRow p6 b6 d6 M :: R) ?_
    (first | refine gny_p 0 rfl rfl rfl ?_ | refine gny_ld 0 rfl rfl rfl rfl ?_ | refine gny_ldH 0 rfl rfl rfl ‹HRow _ _ 0 _› rfl ?_ | refine gny_T 0 rfl rfl rfl ?_ | refine gny_F 0 rfl rfl rfl ?_ | refine gny_B 0 rfl rfl rfl ?_ | refine gny_skip 0 rfl rfl ?_ | refine gny_sp 0 rfl rfl rfl ?_ | refine gny_sB 0 rfl rfl rfl ?_ | refine gny_sld 0 rfl rfl rfl rfl ?_ | refine gny_sldH 0 rfl rfl rfl ‹HRow _ _ 0 _› rfl ?_ | refine gny_ldN 0 rfl rfl rfl rfl ?_ | refine gny_bld 0 rfl rfl rfl ?_); (first | refine gny_p 2 rfl rfl rfl ?_ | refine gny_ld 2 rfl rfl rfl rfl ?_ | refine gny_ldH 2 rfl rfl rfl ‹HRow _ _ 0 _› rfl ?_ | refine gny_T 2 rfl rfl rfl ?_ | refine gny_F 2 rfl rfl rfl ?_ | refine gny_B 2 rfl rfl rfl ?_ | refine gny_skip 2 rfl rfl ?_ | refine gny_sp 2 rfl rfl rfl ?_ | refine gny_sB 2 rfl rfl rfl ?_ | refine gny_sld 2 rfl rfl rfl rfl ?_ | refine gny_sldH 2 rfl rfl rfl ‹HRow _ _ 0 _› rfl ?_ | refine gny_ldN 2 rfl rfl rfl rfl ?_ | refine gny_bld 2 rfl rfl rfl ?_)
    have hcs := crash_spec (W0 := W0) (H := H2) (b := b) (m := M) (v0 := nilS) (ks := []) SlB.nil
    have hrc := rCrash_spec (W0 := W0) (v0 := nilS) (ks := []) h2 SlB.nil hmb fun f hf => (hdk.ok f hf).2.2
    refine any_ca 1 4 rfl rfl rfl hcs (fun r5 H5 B hl5 ⟨q, er, eB, eH⟩ => ?_) (fun p9 _ => ?_)
    · subst er eB eH
      refine ⟨(by (repeat (first | exact Sub.refl _ | exact Sub.nil _ | (apply sub_pick; (repeat (first | exact Has.here | apply Has.there)); skip) | apply Sub.drop))), ?_⟩
      refine any_ca 3 4 rfl rfl rfl hrc (fun r5 H5 B hl5 ⟨c5, er, h5, eB⟩ => ?_) (fun p9 _ => ?_)
      · subst er eB
        refine ⟨(by (repeat (first | exact Sub.refl _ | exact Sub.nil _ | (apply sub_pick; (repeat (first | exact Has.here | apply Has.there)); skip) | apply Sub.drop))), ?_⟩
        obtain ⟨b5, d5, rfl⟩ := rd_open h5
        refine gny_alloc 4 rfl rfl fun p9 _ => ?_
        refine any_rest rfl ?_
        refine walk ?_
        exact out_to hK4 (p9, q, H5, b5, d5) ⟨hl5, h5⟩
      · have hrc2 := hrc
        refine gny_call 3 rfl rfl rfl hrc2 fun r5 H5 B hl5 ⟨c5, er, h5, eB⟩ => ?_
        subst er eB
        refine ⟨(by (repeat (first | exact Sub.refl _ | exact Sub.nil _ | (apply sub_pick; (repeat (first | exact Has.here | apply Has.there)); skip) | apply Sub.drop))), ?_⟩
        obtain ⟨b5, d5, rfl⟩ := rd_open h5
        refine any_rest rfl ?_
        refine walk ?_
        exact out_to hK4 (p9, q, H5, b5, d5) ⟨hl5, h5⟩
    · have hcs2 := hcs
      refine gny_call 1 rfl rfl rfl hcs2 fun r5 H5 B hl5 ⟨q, er, eB, eH⟩ => ?_
      subst er eB eH
      refine ⟨(by (repeat (first | exact Sub.refl _ | exact Sub.nil _ | (apply sub_pick; (repeat (first | exact Has.here | apply Has.there)); skip) | apply Sub.drop))), ?_⟩
      have hrc2 := hrc
      refine gny_call 3 rfl rfl rfl hrc2 fun r5 H5 B hl5 ⟨c5, er, h5, eB⟩ => ?_
      subst er eB
      refine ⟨(by (repeat (first | exact Sub.refl _ | exact Sub.nil _ | (apply sub_pick; (repeat (first | exact Has.here | apply Has.there)); skip) | apply Sub.drop))), ?_⟩
      obtain ⟨b5, d5, rfl⟩ := rd_open h5
      refine any_rest rfl ?_
      refine walk ?_
      exact out_to hK4 (p9, q, H5, b5, d5) ⟨hl5, h5⟩
  dsimp only at hl5 h5 ⊢
  have hcst : (crashM M []).Steps = 0 := rfl
  refine ex_know (A := driveO q (crashM M [])) (p := DK (crashM M [])) (by repeat (first | exact Has.here | apply Has.there)) (fun h => driveO_know) fun hdc => ?_
  have hmc := hdc.mb (by rw [hcst]; decide)
  generalize crashM M [] = C at *
  have hb5 := hbs.mono (hl1.trans (hl2.trans hl5))
  obtain ⟨xs, hxs⟩ : ∃ xs, xs = bs.take (min bs.length 1000) := ⟨_, rfl⟩
  have hxl : xs.length = min bs.length 1000 := by rw [hxs, List.length_take]; omega
  have hpre : SlR rU8 1 H5 (.slice b1 xs.length c1) xs := by rw [hxl, hxs]; exact slr_take hb5.1 (by omega)
  have hmin : (min (bs.length : Int) 1000) = (xs.length : Nat) := by rw [hxl]; omega
  refine walk ?_
  refine ops_mk0 (w := 1) rU8 rfl fun b7 => ?_
  refine walk ?_
  rw [show (min (bs.length : Int) 1000).toNat = xs.length by omega]
  refine ops_appS rfl rfl hpre (by simp only [List.length_nil, cap47]; omega) fun d1 e1 => ?_
  simp only [List.length_nil, Nat.zero_add, List.nil_append]
  refine walk ?_
  refine ops_app1 (y := (77 : Int)) rfl rfl rfl ⟨rfl, rfl⟩ (by simp only [cap47]; omega) fun dr er => ?_
  have hxr : (xs ++ [(77 : Int)]).length = xs.length + 1 := by simp
  refine ops_shape (.slice dr (xs.length + 1) er) fun dr2 er2 he2 hcap2 hcap3 _ => ?_
  rw [hxr] at hcap2
  injection he2 with he3 he4 he5
  subst he5
  refine walk ?_
  rw [show (((xs.length + 1 : Nat) : Int) - 1).toNat = xs.length by omega]
  have hx1000 : xs.length ≤ 1000 := by omega
  have hpreD : ∀ {D : Heap}, SlB rU8 1 1 D (.slice dr (xs.length + 1) er) (xs ++ [77]) → SlB rU8 1 1 D (.slice dr xs.length er) xs := fun h => ⟨by
    have := slr_take (k := xs.length) h.1 (by simp)
    rwa [show (xs ++ [(77 : Int)]).take xs.length = xs by simp] at this, by simp only [cap47]; omega⟩
  refine ops_lendS (.slice dr (xs.length + 1) er) fun D hD hdj hleD hsD => ?_
  refine ops_b2sS rfl rfl (hpreD hsD).1 ?_
  refine ops_back hD hdj (.refl _) ?_
  refine walk ?_
  refine ops_lendS (.slice dr (xs.length + 1) er) fun D2 hD2 hdj2 hleD2 hsD2 => ?_
  refine ops_call rfl rfl (append_spec (b := q) (m := C) (n := nOwn) (ns := xs) nOwn47 (by omega) (hpreD hsD2)) fun r6 H6 B hl6 ⟨er6, eB, eH⟩ => ?_
  subst er6 eB
  refine ops_back hD2 hdj2 (eH ▸ .refl _) ?_
  refine ops_know (A := driveO q (appM C nOwn xs)) (p := DK (appM C nOwn xs)) (by repeat (first | exact Has.here | apply Has.there)) (fun h => driveO_know) fun hda => ?_
  refine walk ?_
  have hra := rAppend_spec (W0 := W0) (n := nOwn) (ns := xs) h5 nOwn47 (by simp only [cap47]; omega) hmc
  refine ops_call rfl rfl hra fun r7 H7 B hl7 ⟨c7, er7, h7, eB⟩ => ?_
  subst er7 eB
  obtain ⟨b7', d7, rfl⟩ := rd_open h7
  refine walk ?_
  refine ops_lendS (.slice dr (xs.length + 1) er) fun D3 hD3 hdj3 hleD3 hsD3 => ?_
  refine ops_b2sS rfl rfl (hpreD hsD3).1 ?_
  have hne2 : ¬ ¬ tx xs = tx xs := fun h => h rfl
  have hj3 : xs.length < (xs ++ [(77 : Int)]).length := by rw [hxr]; omega
  have hg3 : (xs ++ [(77 : Int)])[xs.length]'hj3 = 77 := by simp
  have hs3' := hsD3.1
  refine walk ?_
  rw [hg3]
  refine walk ?_
  refine ex_back hD3 hdj3 (.refl _) ?_
  refine ex_loop (σ := Nat × List Int) (fun s => s.1 ≤ xs.length + 1 ∧ s.2.length = xs.length + 1) (fun s => [(5, pp b), (6, pp p6), (8, pp q), (9, pp p9), (10, .slice dr (xs.length + 1) er), (83, I (xs.length + 1 : Nat)), (84, I s.1)]) (fun _ => H7)
    (fun s => ownS rU8 1 1 5 H5 (.slice dr (xs.length + 1) er) s.2 :: driveO q (appM C nOwn xs) :: mRow p9 b7' d7 (appM C nOwn xs) :: driveO b M :: mRow p6 b6 d6 M :: R) (fun s => xs.length + 1 - s.1) (0, xs ++ [77]) ⟨Nat.zero_le _, hxr⟩ fun ⟨k, ys⟩ ⟨hk0, hys⟩ K hL => ?_
  dsimp only at hk0 hys ⊢
  refine walk ?_
  refine ex_if rfl (fun hq => ?_) (fun hq => ?_)
  · have hk1 : k < xs.length + 1 := by omega
    refine walk ?_
    refine ops_stS (y' := (0 : Int)) rfl rfl rfl ⟨rfl, rfl⟩ (by rw [hys]; exact hk1) ?_
    have hfit : fits ((k : Int) + 1) := by unfold fits; omega
    refine walk ?_
    exact out_next hL (k + 1, ys.set k 0) ⟨by omega, by rw [List.length_set]; exact hys⟩
  clear hL
  refine walk ?_
  refine ops_call rfl rfl (read_spec (b := q) (m := appM C nOwn xs) (n := nOwn) nOwn47) fun r8 H8 B hl8 ⟨v8, n8, er8, hn8, eB, eH⟩ => ?_
  subst er8 eB eH
  have hn8l : n8.length ≤ 262144 := by
    have h9 := congrArg ByteArray.size hn8
    rw [tx_size] at h9
    rw [h9]
    unfold readT
    split
    · next f hf => exact (hda.ok f (at_iff0 hda.up hf)).2.1
    · decide
  refine ops_shape v8 fun b8 c8 e8 _ _ _ => ?_
  subst e8
  refine walk ?_
  refine ex_loop (σ := Nat × List Int) (fun s => s.1 ≤ n8.length ∧ s.2.length = n8.length) (fun s => [(5, pp b), (6, pp p6), (8, pp q), (9, pp p9), (16, .slice b8 n8.length c8), (97, I n8.length), (98, I s.1)]) (fun _ => H8)
    (fun s => ownS rU8 1 1 5 H8 (.slice b8 n8.length c8) s.2 :: driveO q (appM C nOwn xs) :: mRow p9 b7' d7 (appM C nOwn xs) :: driveO b M :: mRow p6 b6 d6 M :: R) (fun s => n8.length - s.1) (0, n8) ⟨Nat.zero_le _, rfl⟩ fun ⟨k2, zs⟩ ⟨hk2, hzs⟩ K hL => ?_
  dsimp only at hk2 hzs ⊢
  refine walk ?_
  refine ex_if rfl (fun hq => ?_) (fun hq => ?_)
  · have hk1 : k2 < n8.length := by omega
    refine walk ?_
    refine ops_stS (y' := (9 : Int)) rfl rfl rfl ⟨rfl, rfl⟩ (by rw [hzs]; exact hk1) ?_
    have hfit : fits ((k2 : Int) + 1) := by unfold fits; omega
    refine walk ?_
    exact out_next hL (k2 + 1, zs.set k2 9) ⟨by omega, by rw [List.length_set]; exact hzs⟩
  clear hL
  refine walk ?_
  refine ex_loop (σ := Nat × Option Addr × Nat) (fun s => s.1 ≤ 20) (fun s => [(5, pp b), (6, pp p6), (8, pp q), (9, pp p9), (16, .slice s.2.1 (zs ++ List.replicate s.1 8).length s.2.2), (19, I s.1)]) (fun _ => H8)
    (fun s => ownS rU8 1 1 5 H8 (.slice s.2.1 (zs ++ List.replicate s.1 8).length s.2.2) (zs ++ List.replicate s.1 8) :: driveO q (appM C nOwn xs) :: mRow p9 b7' d7 (appM C nOwn xs) :: driveO b M :: mRow p6 b6 d6 M :: R) (fun s => 20 - s.1) (0, b8, c8) (Nat.zero_le _) (fun ⟨j, b9, c9⟩ hj0 K hL => ?_) (hs0 := ?_) (hf0 := ?_)
  · dsimp only
    rw [show zs ++ List.replicate 0 (8 : Int) = zs from List.append_nil _, hzs]
    (repeat (first | exact Sub.refl _ | exact Sub.nil _ | (apply sub_pick; (repeat (first | exact Has.here | apply Has.there)); skip) | apply Sub.drop))
  · dsimp only
    rw [show zs ++ List.replicate 0 (8 : Int) = zs from List.append_nil _, hzs]
    repeat (first | exact fsub_nil _ | refine fsub_cons rfl ?_)
  dsimp only at hj0 ⊢
  have hnext : zs ++ List.replicate j 8 ++ [8] = zs ++ List.replicate (j + 1) (8 : Int) := by rw [List.append_assoc, ← List.replicate_succ']
  have hlw : (zs ++ List.replicate j (8 : Int)).length = n8.length + j := by rw [List.length_append, List.length_replicate, hzs]
  have hlast : j = 20 → ∃ ws, zs ++ List.replicate j (8 : Int) = ws ++ [8] := fun h => ⟨zs ++ List.replicate 19 8, by rw [h, List.append_assoc, ← List.replicate_succ']⟩
  generalize zs ++ List.replicate j (8 : Int) = ws at *
  refine walk ?_
  refine ex_if rfl (fun hq => ?_) (fun hq => ?_)
  · have hj1 : j < 20 := by omega
    refine walk ?_
    refine ops_app1 (y := (8 : Int)) rfl rfl rfl ⟨rfl, rfl⟩ (by simp only [cap47]; omega) fun d9 e9 => ?_
    rw [hnext, show ws.length + 1 = (zs ++ List.replicate (j + 1) (8 : Int)).length by rw [← hnext]; simp]
    refine walk ?_
    exact out_next hL (j + 1, d9, e9) (by omega)
  clear hL
  obtain ⟨ws', rfl⟩ := hlast (by omega)
  refine walk ?_
  refine ops_call rfl rfl (namesO_spec (b := q) (m := appM C nOwn xs)) fun r9 H9 B hl9 ⟨eB, eH⟩ => ?_
  subst eB eH
  refine ops_shape r9 fun b10 c10 e10 _ _ _ => ?_
  subst e10
  obtain ⟨nn, hnn⟩ : ∃ nn, nn = (appM C nOwn xs).Files.map (·.Name) := ⟨_, rfl⟩
  rw [← hnn]
  have hnnl : nn.length ≤ 256 := by rw [hnn, List.length_map]; exact hda.len
  clear hnn
  refine walk ?_
  refine ex_loop (σ := Nat × List ByteArray) (fun s => s.1 ≤ nn.length ∧ s.2.length = nn.length) (fun s => [(5, pp b), (6, pp p6), (8, pp q), (9, pp p9), (16, .slice b9 (ws' ++ [8]).length c9), (20, .slice b10 nn.length c10), (115, I nn.length), (116, I s.1)]) (fun _ => H9)
    (fun s => ownS rStr 1 16 9 H9 (.slice b10 nn.length c10) s.2 :: ownS rU8 1 1 5 H9 (.slice b9 (ws' ++ [8]).length c9) (ws' ++ [8]) :: driveO q (appM C nOwn xs) :: mRow p9 b7' d7 (appM C nOwn xs) :: driveO b M :: mRow p6 b6 d6 M :: R) (fun s => nn.length - s.1) (0, nn) ⟨Nat.zero_le _, rfl⟩ fun ⟨k4, us⟩ ⟨hk4, hus⟩ K hL => ?_
  dsimp only at hk4 hus ⊢
  refine walk ?_
  refine ex_if rfl (fun hq => ?_) (fun hq => ?_)
  · have hk1 : k4 < nn.length := by omega
    refine walk ?_
    refine ops_stS (y' := (⟨#[63]⟩ : ByteArray)) rfl rfl rfl ⟨rfl, by decide⟩ (by rw [hus]; exact hk1) ?_
    have hfit : fits ((k4 : Int) + 1) := by unfold fits; omega
    refine walk ?_
    exact out_next hL (k4 + 1, us.set k4 ⟨#[63]⟩) ⟨by omega, by rw [List.length_set]; exact hus⟩
  clear hL
  refine walk ?_
  refine ops_pcall rfl rfl (tells_spec (b := q) h7) ?_
  refine walk ?_
  refine ops_pcall rfl rfl (tells_spec (b := b) (RdOk.mono (hl5.trans hl7) h2 : rDrive H9 (mCs b6 d6 M) M)) ?_
  refine walk ?_
  have hwl : ws'.length < (ws' ++ [(8 : Int)]).length := by simp
  rw [show (((ws' ++ [(8 : Int)]).length : Nat) : Int) - 1 = (ws'.length : Nat) by rw [List.length_append, List.length_singleton]; omega]
  refine ops_ixo1 rfl rfl rfl hwl ?_
  rw [show (ws' ++ [(8 : Int)])[ws'.length]'hwl = 8 by simp]
  refine walk ?_
  refine fin0 ?_
  exact ⟨rfl, rfl⟩
end Go.Proofs.Ytjafnombaehcaaa
