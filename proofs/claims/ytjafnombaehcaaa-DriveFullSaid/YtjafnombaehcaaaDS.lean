/- All that is told. -/
import Derived.Test.YtjafnombaehcaaaDR
set_option linter.unusedVariables false
set_option linter.unusedSimpArgs false
namespace Go.Proofs.Ytjafnombaehcaaa
open Go Go.Sx Go.Proofs
def okRF (f : RF) : Prop := okN f.Name ∧ f.B.size ≤ 262144 ∧ 0 ≤ f.Synced ∧ f.Synced ≤ f.B.size
/-- what is known of a drive's model -/
structure DK (m : Drive) : Prop where
  up : upF m.Files
  ok : ∀ f ∈ m.Files, okRF f
  len : m.Files.length ≤ 256
  st : 0 ≤ m.Steps
  left : 0 ≤ m.Left
  unarmed : m.Armed = false → m.Left = 0
theorem driveO_know {b : Nat} {m : Drive} {h : Heap} (ho : driveO b m h) : DK m := by
  obtain ⟨mb, zs, _, ⟨⟨hrel, hok⟩, hz, hst, harm, hun⟩⟩ := ho
  refine ⟨hrel.2, fun f hf => ?_, hrel.len ▸ hz, hst, ?_, hun⟩
  · obtain ⟨e, he, rfl⟩ := List.mem_map.1 (hrel.1.mem_iff.2 hf)
    obtain ⟨h1, h2, h3, h4⟩ := hok e he
    exact ⟨h1, by simp only [FE.f, tx_size]; exact h2, h3, by simp only [FE.f, tx_size]; exact h4⟩
  · cases ha : m.Armed with
    | true => exact (harm ha).1
    | false => rw [hun ha]; exact Int.le_refl _
theorem DK.mb {m : Drive} (h : DK m) (hs : m.Steps ≤ 1000000000) : MB m := ⟨⟨h.len, fun f hf => (h.ok f hf).2.1⟩, ⟨h.st, hs⟩, h.left⟩
theorem at_mem {fs : List RF} {f : RF} (h : upF fs) (hf : f ∈ fs) : atF fs f.Name = some f := by
  rcases at_cases fs f.Name with ⟨ha, _⟩ | ⟨k, hk, ha, _, hkn⟩
  · unfold atF at ha
    rw [List.find?_eq_none] at ha
    exact absurd (ha f hf) (by simp)
  · rw [ha]
    obtain ⟨j, hj, rfl⟩ := List.getElem_of_mem hf
    have hn := up_names h
    rw [List.nodup_iff_pairwise_ne, List.pairwise_map, List.pairwise_iff_getElem] at hn
    rcases Nat.lt_trichotomy k j with hlt | rfl | hlt
    · exact absurd hkn (hn k j hk hj hlt)
    · rfl
    · exact absurd hkn.symm (hn j k hj hk hlt)
set_option maxHeartbeats 4000000 in
theorem namesO_spec {W0 : World} {H : Heap} {b : Nat} {m : Drive} :
    Ct Try.prog 14 #[.pointer (some ⟨b, 0, none⟩)] W0 H [driveO b m] (fun r H' B => B = [ownS rStr 1 16 9 H r (m.Files.map (·.Name)), driveO b m] ∧ H' = H) := by
  refine Ct.go (vs := [.pointer (some ⟨b, 0, none⟩)]) fun R => ?_
  refine ex_open (A := driveO b m) (σ := Nat × List FE) (B := fun s => [dRow b s.1 m.Steps m.Armed (leftV m), dMap s.1 s.2, bigL fA s.2]) (p := fun s => DOk s.2 m) (by repeat (first | exact Has.here | apply Has.there)) (fun h ⟨mb, zs, hb, hk⟩ => ⟨(mb, zs), hk, hb⟩) fun ⟨mb, zs⟩ hk => ?_
  dsimp only at hk ⊢
  have hk' := hk
  obtain ⟨⟨hrel, hok⟩, hz, hst0, harm, hun⟩ := hk
  have hshut : ∀ h, big [dRow b mb m.Steps m.Armed (leftV m), dMap mb zs, bigL fA zs] h → driveO b m h := fun h hb => ⟨mb, zs, hb, hk'⟩
  refine walk ?_
  refine ops_call rfl rfl keys_ct fun r1 H1 B hl1 ⟨p, er, eB, eH⟩ => ?_
  subst er eB eH
  have hc := sorted_ct (W0 := W0) (H := H1) (H0 := Heap.empty) (RV := rVal) (p := p) (b := mb) (ms := msF zs) (fun q hq => by obtain ⟨e, he, rfl⟩ := List.mem_map.1 hq; exact okN_size (hok e he).1) (by simp only [msF, List.length_map, cap47]; omega)
  refine ops_call rfl rfl hc fun r2 H2 B hl2 ⟨eB, eH⟩ => ?_
  subst eB eH
  rw [rel_sorted hrel]
  refine walk ?_
  refine finB [ownS rStr 1 16 9 H2 r2 (m.Files.map (·.Name)), driveO b m] ?_ (hs := ?_)
  · exact ⟨rfl, rfl⟩
  · refine Sub.cons ?_
    exact sub_fold (B := [dRow b mb m.Steps m.Armed (leftV m), dMap mb zs, bigL fA zs]) (by (repeat (first | exact Sub.refl _ | exact Sub.nil _ | (apply sub_pick; (repeat (first | exact Has.here | apply Has.there)); skip) | apply Sub.drop))) hshut
theorem badN : ¬ okN (⟨#[66, 97, 100]⟩ : ByteArray) := by decide +kernel
theorem atF_bad {m : Drive} (h : DK m) {n : ByteArray} (hn : ¬ okN n) : atF m.Files n = none := by
  rcases at_cases m.Files n with ⟨ha, _⟩ | ⟨k, hk, _, _, hkn⟩
  · exact ha
  · exact absurd (hkn ▸ (h.ok _ (List.getElem_mem hk)).1) hn
set_option maxHeartbeats 8000000 in
theorem tells_spec {W0 : World} {H : Heap} {b : Nat} {m : Drive} {c : List Value} (h0 : rDrive H c m) :
    Ct Try.prog 18 #[.pointer (some ⟨b, 0, none⟩), .agg c.toArray] W0 H [driveO b m] (fun r H' B => r = .bool true ∧ B = [driveO b m] ∧ H' = H) := by
  refine Ct.go (vs := [.pointer (some ⟨b, 0, none⟩), .agg c.toArray]) fun R => ?_
  refine ex_know (A := driveO b m) (p := DK m) (by repeat (first | exact Has.here | apply Has.there)) (fun h => driveO_know) fun hk => ?_
  have h0' := h0
  obtain ⟨s0, rfl, h1, f1, f2⟩ := h0
  obtain ⟨b0, c0, rfl, hc0, hd0⟩ := h1.1.shape
  refine walk ?_
  refine ops_box rfl rfl fun p3 _ => ?_
  refine walk ?_
  refine ops_call rfl rfl (namesO_spec (b := b) (m := m)) fun r1 H1 B hl1 ⟨eB, eH⟩ => ?_
  subst eB eH
  refine ops_freeze r1 fun H2 hl2 hs2 => ?_
  obtain ⟨b1, c1, rfl, hc1, hd1⟩ := hs2.1.shape
  have h02 : rDrive H2 (m.cv (.slice b0 m.Files.length c0)) m := RdOk.mono hl2 h0'
  have hml : (m.Files.map (·.Name)).length = m.Files.length := List.length_map _
  rw [hml]
  refine walk ?_
  refine ex_any 20 (row p3 38 (m.cv (.slice b0 m.Files.length c0)) :: driveO b m :: R) ?_
  (first | refine gny_p 0 rfl rfl rfl ?_ | refine gny_ld 0 rfl rfl rfl rfl ?_ | refine gny_ldH 0 rfl rfl rfl ‹HRow _ _ 0 _› rfl ?_ | refine gny_T 0 rfl rfl rfl ?_ | refine gny_F 0 rfl rfl rfl ?_ | refine gny_B 0 rfl rfl rfl ?_ | refine gny_skip 0 rfl rfl ?_ | refine gny_sp 0 rfl rfl rfl ?_ | refine gny_sB 0 rfl rfl rfl ?_ | refine gny_sld 0 rfl rfl rfl rfl ?_ | refine gny_sldH 0 rfl rfl rfl ‹HRow _ _ 0 _› rfl ?_ | refine gny_ldN 0 rfl rfl rfl rfl ?_ | refine gny_bld 0 rfl rfl rfl ?_); (first | refine gny_p 1 rfl rfl rfl ?_ | refine gny_ld 1 rfl rfl rfl rfl ?_ | refine gny_ldH 1 rfl rfl rfl ‹HRow _ _ 0 _› rfl ?_ | refine gny_T 1 rfl rfl rfl ?_ | refine gny_F 1 rfl rfl rfl ?_ | refine gny_B 1 rfl rfl rfl ?_ | refine gny_skip 1 rfl rfl ?_ | refine gny_sp 1 rfl rfl rfl ?_ | refine gny_sB 1 rfl rfl rfl ?_ | refine gny_sld 1 rfl rfl rfl rfl ?_ | refine gny_sldH 1 rfl rfl rfl ‹HRow _ _ 0 _› rfl ?_ | refine gny_ldN 1 rfl rfl rfl rfl ?_ | refine gny_bld 1 rfl rfl rfl ?_); (first | refine gny_p 2 rfl rfl rfl ?_ | refine gny_ld 2 rfl rfl rfl rfl ?_ | refine gny_ldH 2 rfl rfl rfl ‹HRow _ _ 0 _› rfl ?_ | refine gny_T 2 rfl rfl rfl ?_ | refine gny_F 2 rfl rfl rfl ?_ | refine gny_B 2 rfl rfl rfl ?_ | refine gny_skip 2 rfl rfl ?_ | refine gny_sp 2 rfl rfl rfl ?_ | refine gny_sB 2 rfl rfl rfl ?_ | refine gny_sld 2 rfl rfl rfl rfl ?_ | refine gny_sldH 2 rfl rfl rfl ‹HRow _ _ 0 _› rfl ?_ | refine gny_ldN 2 rfl rfl rfl rfl ?_ | refine gny_bld 2 rfl rfl rfl ?_); (first | refine gny_p 3 rfl rfl rfl ?_ | refine gny_ld 3 rfl rfl rfl rfl ?_ | refine gny_ldH 3 rfl rfl rfl ‹HRow _ _ 0 _› rfl ?_ | refine gny_T 3 rfl rfl rfl ?_ | refine gny_F 3 rfl rfl rfl ?_ | refine gny_B 3 rfl rfl rfl ?_ | refine gny_skip 3 rfl rfl ?_ | refine gny_sp 3 rfl rfl rfl ?_ | refine gny_sB 3 rfl rfl rfl ?_ | refine gny_sld 3 rfl rfl rfl rfl ?_ | refine gny_sldH 3 rfl rfl rfl ‹HRow _ _ 0 _› rfl ?_ | refine gny_ldN 3 rfl rfl rfl rfl ?_ | refine gny_bld 3 rfl rfl rfl ?_); (first | refine gny_p 4 rfl rfl rfl ?_ | refine gny_ld 4 rfl rfl rfl rfl ?_ | refine gny_ldH 4 rfl rfl rfl ‹HRow _ _ 0 _› rfl ?_ | refine gny_T 4 rfl rfl rfl ?_ | refine gny_F 4 rfl rfl rfl ?_ | refine gny_B 4 rfl rfl rfl ?_ | refine gny_skip 4 rfl rfl ?_ | refine gny_sp 4 rfl rfl rfl ?_ | refine gny_sB 4 rfl rfl rfl ?_ | refine gny_sld 4 rfl rfl rfl rfl ?_ | refine gny_sldH 4 rfl rfl rfl ‹HRow _ _ 0 _› rfl ?_ | refine gny_ldN 4 rfl rfl rfl rfl ?_ | refine gny_bld 4 rfl rfl rfl ?_); (first | refine gny_p 5 rfl rfl rfl ?_ | refine gny_ld 5 rfl rfl rfl rfl ?_ | refine gny_ldH 5 rfl rfl rfl ‹HRow _ _ 0 _› rfl ?_ | refine gny_T 5 rfl rfl rfl ?_ | refine gny_F 5 rfl rfl rfl ?_ | refine gny_B 5 rfl rfl rfl ?_ | refine gny_skip 5 rfl rfl ?_ | refine gny_sp 5 rfl rfl rfl ?_ | refine gny_sB 5 rfl rfl rfl ?_ | refine gny_sld 5 rfl rfl rfl rfl ?_ | refine gny_sldH 5 rfl rfl rfl ‹HRow _ _ 0 _› rfl ?_ | refine gny_ldN 5 rfl rfl rfl rfl ?_ | refine gny_bld 5 rfl rfl rfl ?_); (first | refine gny_p 6 rfl rfl rfl ?_ | refine gny_ld 6 rfl rfl rfl rfl ?_ | refine gny_ldH 6 rfl rfl rfl ‹HRow _ _ 0 _› rfl ?_ | refine gny_T 6 rfl rfl rfl ?_ | refine gny_F 6 rfl rfl rfl ?_ | refine gny_B 6 rfl rfl rfl ?_ | refine gny_skip 6 rfl rfl ?_ | refine gny_sp 6 rfl rfl rfl ?_ | refine gny_sB 6 rfl rfl rfl ?_ | refine gny_sld 6 rfl rfl rfl rfl ?_ | refine gny_sldH 6 rfl rfl rfl ‹HRow _ _ 0 _› rfl ?_ | refine gny_ldN 6 rfl rfl rfl rfl ?_ | refine gny_bld 6 rfl rfl rfl ?_); (first | refine gny_p 7 rfl rfl rfl ?_ | refine gny_ld 7 rfl rfl rfl rfl ?_ | refine gny_ldH 7 rfl rfl rfl ‹HRow _ _ 0 _› rfl ?_ | refine gny_T 7 rfl rfl rfl ?_ | refine gny_F 7 rfl rfl rfl ?_ | refine gny_B 7 rfl rfl rfl ?_ | refine gny_skip 7 rfl rfl ?_ | refine gny_sp 7 rfl rfl rfl ?_ | refine gny_sB 7 rfl rfl rfl ?_ | refine gny_sld 7 rfl rfl rfl rfl ?_ | refine gny_sldH 7 rfl rfl rfl ‹HRow _ _ 0 _› rfl ?_ | refine gny_ldN 7 rfl rfl rfl rfl ?_ | refine gny_bld 7 rfl rfl rfl ?_); (first | refine gny_p 9 rfl rfl rfl ?_ | refine gny_ld 9 rfl rfl rfl rfl ?_ | refine gny_ldH 9 rfl rfl rfl ‹HRow _ _ 0 _› rfl ?_ | refine gny_T 9 rfl rfl rfl ?_ | refine gny_F 9 rfl rfl rfl ?_ | refine gny_B 9 rfl rfl rfl ?_ | refine gny_skip 9 rfl rfl ?_ | refine gny_sp 9 rfl rfl rfl ?_ | refine gny_sB 9 rfl rfl rfl ?_ | refine gny_sld 9 rfl rfl rfl rfl ?_ | refine gny_sldH 9 rfl rfl rfl ‹HRow _ _ 0 _› rfl ?_ | refine gny_ldN 9 rfl rfl rfl rfl ?_ | refine gny_bld 9 rfl rfl rfl ?_); (first | refine gny_p 10 rfl rfl rfl ?_ | refine gny_ld 10 rfl rfl rfl rfl ?_ | refine gny_ldH 10 rfl rfl rfl ‹HRow _ _ 0 _› rfl ?_ | refine gny_T 10 rfl rfl rfl ?_ | refine gny_F 10 rfl rfl rfl ?_ | refine gny_B 10 rfl rfl rfl ?_ | refine gny_skip 10 rfl rfl ?_ | refine gny_sp 10 rfl rfl rfl ?_ | refine gny_sB 10 rfl rfl rfl ?_ | refine gny_sld 10 rfl rfl rfl rfl ?_ | refine gny_sldH 10 rfl rfl rfl ‹HRow _ _ 0 _› rfl ?_ | refine gny_ldN 10 rfl rfl rfl rfl ?_ | refine gny_bld 10 rfl rfl rfl ?_)
  refine gny_pcall 8 rfl rfl rfl steps_spec ?_
  (first | refine gny_p 11 rfl rfl rfl ?_ | refine gny_ld 11 rfl rfl rfl rfl ?_ | refine gny_ldH 11 rfl rfl rfl ‹HRow _ _ 0 _› rfl ?_ | refine gny_T 11 rfl rfl rfl ?_ | refine gny_F 11 rfl rfl rfl ?_ | refine gny_B 11 rfl rfl rfl ?_ | refine gny_skip 11 rfl rfl ?_ | refine gny_sp 11 rfl rfl rfl ?_ | refine gny_sB 11 rfl rfl rfl ?_ | refine gny_sld 11 rfl rfl rfl rfl ?_ | refine gny_sldH 11 rfl rfl rfl ‹HRow _ _ 0 _› rfl ?_ | refine gny_ldN 11 rfl rfl rfl rfl ?_ | refine gny_bld 11 rfl rfl rfl ?_); (first | refine gny_p 12 rfl rfl rfl ?_ | refine gny_ld 12 rfl rfl rfl rfl ?_ | refine gny_ldH 12 rfl rfl rfl ‹HRow _ _ 0 _› rfl ?_ | refine gny_T 12 rfl rfl rfl ?_ | refine gny_F 12 rfl rfl rfl ?_ | refine gny_B 12 rfl rfl rfl ?_ | refine gny_skip 12 rfl rfl ?_ | refine gny_sp 12 rfl rfl rfl ?_ | refine gny_sB 12 rfl rfl rfl ?_ | refine gny_sld 12 rfl rfl rfl rfl ?_ | refine gny_sldH 12 rfl rfl rfl ‹HRow _ _ 0 _› rfl ?_ | refine gny_ldN 12 rfl rfl rfl rfl ?_ | refine gny_bld 12 rfl rfl rfl ?_); (first | refine gny_p 13 rfl rfl rfl ?_ | refine gny_ld 13 rfl rfl rfl rfl ?_ | refine gny_ldH 13 rfl rfl rfl ‹HRow _ _ 0 _› rfl ?_ | refine gny_T 13 rfl rfl rfl ?_ | refine gny_F 13 rfl rfl rfl ?_ | refine gny_B 13 rfl rfl rfl ?_ | refine gny_skip 13 rfl rfl ?_ | refine gny_sp 13 rfl rfl rfl ?_ | refine gny_sB 13 rfl rfl rfl ?_ | refine gny_sld 13 rfl rfl rfl rfl ?_ | refine gny_sldH 13 rfl rfl rfl ‹HRow _ _ 0 _› rfl ?_ | refine gny_ldN 13 rfl rfl rfl rfl ?_ | refine gny_bld 13 rfl rfl rfl ?_); (first | refine gny_p 14 rfl rfl rfl ?_ | refine gny_ld 14 rfl rfl rfl rfl ?_ | refine gny_ldH 14 rfl rfl rfl ‹HRow _ _ 0 _› rfl ?_ | refine gny_T 14 rfl rfl rfl ?_ | refine gny_F 14 rfl rfl rfl ?_ | refine gny_B 14 rfl rfl rfl ?_ | refine gny_skip 14 rfl rfl ?_ | refine gny_sp 14 rfl rfl rfl ?_ | refine gny_sB 14 rfl rfl rfl ?_ | refine gny_sld 14 rfl rfl rfl rfl ?_ | refine gny_sldH 14 rfl rfl rfl ‹HRow _ _ 0 _› rfl ?_ | refine gny_ldN 14 rfl rfl rfl rfl ?_ | refine gny_bld 14 rfl rfl rfl ?_); (first | refine gny_p 16 rfl rfl rfl ?_ | refine gny_ld 16 rfl rfl rfl rfl ?_ | refine gny_ldH 16 rfl rfl rfl ‹HRow _ _ 0 _› rfl ?_ | refine gny_T 16 rfl rfl rfl ?_ | refine gny_F 16 rfl rfl rfl ?_ | refine gny_B 16 rfl rfl rfl ?_ | refine gny_skip 16 rfl rfl ?_ | refine gny_sp 16 rfl rfl rfl ?_ | refine gny_sB 16 rfl rfl rfl ?_ | refine gny_sld 16 rfl rfl rfl rfl ?_ | refine gny_sldH 16 rfl rfl rfl ‹HRow _ _ 0 _› rfl ?_ | refine gny_ldN 16 rfl rfl rfl rfl ?_ | refine gny_bld 16 rfl rfl rfl ?_)
  refine gny_pcall 15 rfl rfl rfl deadO_spec ?_
  refine gny_pcall 17 rfl rfl rfl (rDead_spec h02) ?_
  have hneq : ¬ ¬ decide (deadD m) = decide (deadD m) := fun h => h rfl
  (first | refine gny_p 18 rfl rfl rfl ?_ | refine gny_ld 18 rfl rfl rfl rfl ?_ | refine gny_ldH 18 rfl rfl rfl ‹HRow _ _ 0 _› rfl ?_ | refine gny_T 18 rfl rfl rfl ?_ | refine gny_F 18 rfl rfl rfl ?_ | refine gny_B 18 rfl rfl rfl ?_ | refine gny_skip 18 rfl rfl ?_ | refine gny_sp 18 rfl rfl rfl ?_ | refine gny_sB 18 rfl rfl rfl ?_ | refine gny_sld 18 rfl rfl rfl rfl ?_ | refine gny_sldH 18 rfl rfl rfl ‹HRow _ _ 0 _› rfl ?_ | refine gny_ldN 18 rfl rfl rfl rfl ?_ | refine gny_bld 18 rfl rfl rfl ?_); (first | refine gny_p 19 rfl rfl rfl ?_ | refine gny_ld 19 rfl rfl rfl rfl ?_ | refine gny_ldH 19 rfl rfl rfl ‹HRow _ _ 0 _› rfl ?_ | refine gny_T 19 rfl rfl rfl ?_ | refine gny_F 19 rfl rfl rfl ?_ | refine gny_B 19 rfl rfl rfl ?_ | refine gny_skip 19 rfl rfl ?_ | refine gny_sp 19 rfl rfl rfl ?_ | refine gny_sB 19 rfl rfl rfl ?_ | refine gny_sld 19 rfl rfl rfl rfl ?_ | refine gny_sldH 19 rfl rfl rfl ‹HRow _ _ 0 _› rfl ?_ | refine gny_ldN 19 rfl rfl rfl rfl ?_ | refine gny_bld 19 rfl rfl rfl ?_)
  refine any_rest rfl ?_
  refine walk ?_
  have h12 := h1.mono hl2
  refine ex_loop (σ := Nat) (fun k => k ≤ m.Files.length) (fun k => [(0, .pointer (some ⟨b, 0, none⟩)), (3, .pointer (some ⟨p3, 0, none⟩)), (5, .slice b1 m.Files.length c1), (38, .slice b0 m.Files.length c0), (39, I m.Files.length), (40, I k)]) (fun _ => H2)
    (fun _ => row p3 38 (m.cv (.slice b0 m.Files.length c0)) :: driveO b m :: R) (fun k => m.Files.length - k) 0 (Nat.zero_le _) fun k hk0 K hL => ?_
  have hz := hk.len
  refine walk ?_
  refine ex_if rfl (fun hk1 => ?_) (fun hk1 => ?_)
  · have hk2 : k < m.Files.length := by omega
    have hmem := List.getElem_mem hk2
    have hfo := hk.ok _ hmem
    have hat := at_mem hk.up hmem
    have hs3 := hs2.1
    have hj : k < (m.Files.map (·.Name)).length := by rw [hml]; exact hk2
    refine walk ?_
    refine ops_ixp rfl rfl h12.1 hk2 (fun b2 off cc hr hc => ?_)
    obtain ⟨rfl, hn1, hn2, hn3⟩ := hc
    refine ops_ldNH rfl rfl hr rfl ?_
    refine ops_alloc rfl fun p7 _ => ?_
    have hnm : (m.Files.map (·.Name))[k]'hj = m.Files[k].Name := List.getElem_map _
    have hrc : readC m m.Files[k].Name = 0 := by unfold readC; rw [if_pos hfo.1, hat]; rfl
    have hrt : readT m m.Files[k].Name = m.Files[k].B := by unfold readT; rw [hat]
    have hsz : sizeV m m.Files[k].Name = m.Files[k].B.size := by unfold sizeV; rw [hat]
    have hlo : looseV m m.Files[k].Name = m.Files[k].B.size - m.Files[k].Synced := by unfold looseV; rw [hat]
    generalize m.Files[k] = f at *
    refine walk ?_
    refine ops_call rfl rfl (read_spec (b := b) (m := m) (n := f.Name) hn1) fun r3 H3 B hl3 ⟨v, ns, er, hns, eB, eH⟩ => ?_
    subst er eB eH
    rw [hrt] at hns
    rw [hrc]
    refine walk ?_
    refine ex_freeze v fun H4 hl4 hs4 => ?_
    obtain ⟨b4, c4, rfl, _, _⟩ := hs4.1.shape
    have hs34 : SlR rStr 1 H4 (.slice b1 m.Files.length c1) (m.Files.map (·.Name)) := by rw [← hml]; exact hs3.mono (hl3.trans hl4)
    obtain ⟨_, hf2, hf3, hf4⟩ := hfo
    have hne1 : ¬ ¬ f.Name = f.Name := fun h => h rfl
    have hne2 : ¬ ¬ f.B = f.B := fun h => h rfl
    refine ex_any 41 (row p7 75 [.string f.Name, .string f.B, I f.Synced] :: driveO b m :: row p3 38 (m.cv (.slice b0 m.Files.length c0)) :: R) ?_
    (first | refine gny_p 0 rfl rfl rfl ?_ | refine gny_ld 0 rfl rfl rfl rfl ?_ | refine gny_ldH 0 rfl rfl rfl ‹HRow _ _ 0 _› rfl ?_ | refine gny_T 0 rfl rfl rfl ?_ | refine gny_F 0 rfl rfl rfl ?_ | refine gny_B 0 rfl rfl rfl ?_ | refine gny_skip 0 rfl rfl ?_ | refine gny_sp 0 rfl rfl rfl ?_ | refine gny_sB 0 rfl rfl rfl ?_ | refine gny_sld 0 rfl rfl rfl rfl ?_ | refine gny_sldH 0 rfl rfl rfl ‹HRow _ _ 0 _› rfl ?_ | refine gny_ldN 0 rfl rfl rfl rfl ?_ | refine gny_bld 0 rfl rfl rfl ?_); (first | refine gny_p 1 rfl rfl rfl ?_ | refine gny_ld 1 rfl rfl rfl rfl ?_ | refine gny_ldH 1 rfl rfl rfl ‹HRow _ _ 0 _› rfl ?_ | refine gny_T 1 rfl rfl rfl ?_ | refine gny_F 1 rfl rfl rfl ?_ | refine gny_B 1 rfl rfl rfl ?_ | refine gny_skip 1 rfl rfl ?_ | refine gny_sp 1 rfl rfl rfl ?_ | refine gny_sB 1 rfl rfl rfl ?_ | refine gny_sld 1 rfl rfl rfl rfl ?_ | refine gny_sldH 1 rfl rfl rfl ‹HRow _ _ 0 _› rfl ?_ | refine gny_ldN 1 rfl rfl rfl rfl ?_ | refine gny_bld 1 rfl rfl rfl ?_); (first | refine gny_p 4 rfl rfl rfl ?_ | refine gny_ld 4 rfl rfl rfl rfl ?_ | refine gny_ldH 4 rfl rfl rfl ‹HRow _ _ 0 _› rfl ?_ | refine gny_T 4 rfl rfl rfl ?_ | refine gny_F 4 rfl rfl rfl ?_ | refine gny_B 4 rfl rfl rfl ?_ | refine gny_skip 4 rfl rfl ?_ | refine gny_sp 4 rfl rfl rfl ?_ | refine gny_sB 4 rfl rfl rfl ?_ | refine gny_sld 4 rfl rfl rfl rfl ?_ | refine gny_sldH 4 rfl rfl rfl ‹HRow _ _ 0 _› rfl ?_ | refine gny_ldN 4 rfl rfl rfl rfl ?_ | refine gny_bld 4 rfl rfl rfl ?_); (first | refine gny_p 5 rfl rfl rfl ?_ | refine gny_ld 5 rfl rfl rfl rfl ?_ | refine gny_ldH 5 rfl rfl rfl ‹HRow _ _ 0 _› rfl ?_ | refine gny_T 5 rfl rfl rfl ?_ | refine gny_F 5 rfl rfl rfl ?_ | refine gny_B 5 rfl rfl rfl ?_ | refine gny_skip 5 rfl rfl ?_ | refine gny_sp 5 rfl rfl rfl ?_ | refine gny_sB 5 rfl rfl rfl ?_ | refine gny_sld 5 rfl rfl rfl rfl ?_ | refine gny_sldH 5 rfl rfl rfl ‹HRow _ _ 0 _› rfl ?_ | refine gny_ldN 5 rfl rfl rfl rfl ?_ | refine gny_bld 5 rfl rfl rfl ?_)
    refine gny_el 2 3 rfl rfl rfl rfl rfl hs34 hj ?_
    rw [hnm]
    (first | refine gny_p 6 rfl rfl rfl ?_ | refine gny_ld 6 rfl rfl rfl rfl ?_ | refine gny_ldH 6 rfl rfl rfl ‹HRow _ _ 0 _› rfl ?_ | refine gny_T 6 rfl rfl rfl ?_ | refine gny_F 6 rfl rfl rfl ?_ | refine gny_B 6 rfl rfl rfl ?_ | refine gny_skip 6 rfl rfl ?_ | refine gny_sp 6 rfl rfl rfl ?_ | refine gny_sB 6 rfl rfl rfl ?_ | refine gny_sld 6 rfl rfl rfl rfl ?_ | refine gny_sldH 6 rfl rfl rfl ‹HRow _ _ 0 _› rfl ?_ | refine gny_ldN 6 rfl rfl rfl rfl ?_ | refine gny_bld 6 rfl rfl rfl ?_); (first | refine gny_p 7 rfl rfl rfl ?_ | refine gny_ld 7 rfl rfl rfl rfl ?_ | refine gny_ldH 7 rfl rfl rfl ‹HRow _ _ 0 _› rfl ?_ | refine gny_T 7 rfl rfl rfl ?_ | refine gny_F 7 rfl rfl rfl ?_ | refine gny_B 7 rfl rfl rfl ?_ | refine gny_skip 7 rfl rfl ?_ | refine gny_sp 7 rfl rfl rfl ?_ | refine gny_sB 7 rfl rfl rfl ?_ | refine gny_sld 7 rfl rfl rfl rfl ?_ | refine gny_sldH 7 rfl rfl rfl ‹HRow _ _ 0 _› rfl ?_ | refine gny_ldN 7 rfl rfl rfl rfl ?_ | refine gny_bld 7 rfl rfl rfl ?_); (first | refine gny_p 8 rfl rfl rfl ?_ | refine gny_ld 8 rfl rfl rfl rfl ?_ | refine gny_ldH 8 rfl rfl rfl ‹HRow _ _ 0 _› rfl ?_ | refine gny_T 8 rfl rfl rfl ?_ | refine gny_F 8 rfl rfl rfl ?_ | refine gny_B 8 rfl rfl rfl ?_ | refine gny_skip 8 rfl rfl ?_ | refine gny_sp 8 rfl rfl rfl ?_ | refine gny_sB 8 rfl rfl rfl ?_ | refine gny_sld 8 rfl rfl rfl rfl ?_ | refine gny_sldH 8 rfl rfl rfl ‹HRow _ _ 0 _› rfl ?_ | refine gny_ldN 8 rfl rfl rfl rfl ?_ | refine gny_bld 8 rfl rfl rfl ?_); (first | refine gny_p 9 rfl rfl rfl ?_ | refine gny_ld 9 rfl rfl rfl rfl ?_ | refine gny_ldH 9 rfl rfl rfl ‹HRow _ _ 0 _› rfl ?_ | refine gny_T 9 rfl rfl rfl ?_ | refine gny_F 9 rfl rfl rfl ?_ | refine gny_B 9 rfl rfl rfl ?_ | refine gny_skip 9 rfl rfl ?_ | refine gny_sp 9 rfl rfl rfl ?_ | refine gny_sB 9 rfl rfl rfl ?_ | refine gny_sld 9 rfl rfl rfl rfl ?_ | refine gny_sldH 9 rfl rfl rfl ‹HRow _ _ 0 _› rfl ?_ | refine gny_ldN 9 rfl rfl rfl rfl ?_ | refine gny_bld 9 rfl rfl rfl ?_); (first | refine gny_p 10 rfl rfl rfl ?_ | refine gny_ld 10 rfl rfl rfl rfl ?_ | refine gny_ldH 10 rfl rfl rfl ‹HRow _ _ 0 _› rfl ?_ | refine gny_T 10 rfl rfl rfl ?_ | refine gny_F 10 rfl rfl rfl ?_ | refine gny_B 10 rfl rfl rfl ?_ | refine gny_skip 10 rfl rfl ?_ | refine gny_sp 10 rfl rfl rfl ?_ | refine gny_sB 10 rfl rfl rfl ?_ | refine gny_sld 10 rfl rfl rfl rfl ?_ | refine gny_sldH 10 rfl rfl rfl ‹HRow _ _ 0 _› rfl ?_ | refine gny_ldN 10 rfl rfl rfl rfl ?_ | refine gny_bld 10 rfl rfl rfl ?_); (first | refine gny_p 11 rfl rfl rfl ?_ | refine gny_ld 11 rfl rfl rfl rfl ?_ | refine gny_ldH 11 rfl rfl rfl ‹HRow _ _ 0 _› rfl ?_ | refine gny_T 11 rfl rfl rfl ?_ | refine gny_F 11 rfl rfl rfl ?_ | refine gny_B 11 rfl rfl rfl ?_ | refine gny_skip 11 rfl rfl ?_ | refine gny_sp 11 rfl rfl rfl ?_ | refine gny_sB 11 rfl rfl rfl ?_ | refine gny_sld 11 rfl rfl rfl rfl ?_ | refine gny_sldH 11 rfl rfl rfl ‹HRow _ _ 0 _› rfl ?_ | refine gny_ldN 11 rfl rfl rfl rfl ?_ | refine gny_bld 11 rfl rfl rfl ?_); (first | refine gny_p 12 rfl rfl rfl ?_ | refine gny_ld 12 rfl rfl rfl rfl ?_ | refine gny_ldH 12 rfl rfl rfl ‹HRow _ _ 0 _› rfl ?_ | refine gny_T 12 rfl rfl rfl ?_ | refine gny_F 12 rfl rfl rfl ?_ | refine gny_B 12 rfl rfl rfl ?_ | refine gny_skip 12 rfl rfl ?_ | refine gny_sp 12 rfl rfl rfl ?_ | refine gny_sB 12 rfl rfl rfl ?_ | refine gny_sld 12 rfl rfl rfl rfl ?_ | refine gny_sldH 12 rfl rfl rfl ‹HRow _ _ 0 _› rfl ?_ | refine gny_ldN 12 rfl rfl rfl rfl ?_ | refine gny_bld 12 rfl rfl rfl ?_)
    refine gny_pure 13 rfl rfl (op_b2sS rfl hs4.1) ?_ (by decide +kernel) (fun _ _ _ h => h) (.refl _) (by (repeat (first | exact Sub.refl _ | exact Sub.nil _ | (apply sub_pick; (repeat (first | exact Has.here | apply Has.there)); skip) | apply Sub.drop))) rfl
    rw [hns]
    (first | refine gny_p 14 rfl rfl rfl ?_ | refine gny_ld 14 rfl rfl rfl rfl ?_ | refine gny_ldH 14 rfl rfl rfl ‹HRow _ _ 0 _› rfl ?_ | refine gny_T 14 rfl rfl rfl ?_ | refine gny_F 14 rfl rfl rfl ?_ | refine gny_B 14 rfl rfl rfl ?_ | refine gny_skip 14 rfl rfl ?_ | refine gny_sp 14 rfl rfl rfl ?_ | refine gny_sB 14 rfl rfl rfl ?_ | refine gny_sld 14 rfl rfl rfl rfl ?_ | refine gny_sldH 14 rfl rfl rfl ‹HRow _ _ 0 _› rfl ?_ | refine gny_ldN 14 rfl rfl rfl rfl ?_ | refine gny_bld 14 rfl rfl rfl ?_); (first | refine gny_p 15 rfl rfl rfl ?_ | refine gny_ld 15 rfl rfl rfl rfl ?_ | refine gny_ldH 15 rfl rfl rfl ‹HRow _ _ 0 _› rfl ?_ | refine gny_T 15 rfl rfl rfl ?_ | refine gny_F 15 rfl rfl rfl ?_ | refine gny_B 15 rfl rfl rfl ?_ | refine gny_skip 15 rfl rfl ?_ | refine gny_sp 15 rfl rfl rfl ?_ | refine gny_sB 15 rfl rfl rfl ?_ | refine gny_sld 15 rfl rfl rfl rfl ?_ | refine gny_sldH 15 rfl rfl rfl ‹HRow _ _ 0 _› rfl ?_ | refine gny_ldN 15 rfl rfl rfl rfl ?_ | refine gny_bld 15 rfl rfl rfl ?_); (first | refine gny_p 16 rfl rfl rfl ?_ | refine gny_ld 16 rfl rfl rfl rfl ?_ | refine gny_ldH 16 rfl rfl rfl ‹HRow _ _ 0 _› rfl ?_ | refine gny_T 16 rfl rfl rfl ?_ | refine gny_F 16 rfl rfl rfl ?_ | refine gny_B 16 rfl rfl rfl ?_ | refine gny_skip 16 rfl rfl ?_ | refine gny_sp 16 rfl rfl rfl ?_ | refine gny_sB 16 rfl rfl rfl ?_ | refine gny_sld 16 rfl rfl rfl rfl ?_ | refine gny_sldH 16 rfl rfl rfl ‹HRow _ _ 0 _› rfl ?_ | refine gny_ldN 16 rfl rfl rfl rfl ?_ | refine gny_bld 16 rfl rfl rfl ?_); (first | refine gny_p 17 rfl rfl rfl ?_ | refine gny_ld 17 rfl rfl rfl rfl ?_ | refine gny_ldH 17 rfl rfl rfl ‹HRow _ _ 0 _› rfl ?_ | refine gny_T 17 rfl rfl rfl ?_ | refine gny_F 17 rfl rfl rfl ?_ | refine gny_B 17 rfl rfl rfl ?_ | refine gny_skip 17 rfl rfl ?_ | refine gny_sp 17 rfl rfl rfl ?_ | refine gny_sB 17 rfl rfl rfl ?_ | refine gny_sld 17 rfl rfl rfl rfl ?_ | refine gny_sldH 17 rfl rfl rfl ‹HRow _ _ 0 _› rfl ?_ | refine gny_ldN 17 rfl rfl rfl rfl ?_ | refine gny_bld 17 rfl rfl rfl ?_); (first | refine gny_p 18 rfl rfl rfl ?_ | refine gny_ld 18 rfl rfl rfl rfl ?_ | refine gny_ldH 18 rfl rfl rfl ‹HRow _ _ 0 _› rfl ?_ | refine gny_T 18 rfl rfl rfl ?_ | refine gny_F 18 rfl rfl rfl ?_ | refine gny_B 18 rfl rfl rfl ?_ | refine gny_skip 18 rfl rfl ?_ | refine gny_sp 18 rfl rfl rfl ?_ | refine gny_sB 18 rfl rfl rfl ?_ | refine gny_sld 18 rfl rfl rfl rfl ?_ | refine gny_sldH 18 rfl rfl rfl ‹HRow _ _ 0 _› rfl ?_ | refine gny_ldN 18 rfl rfl rfl rfl ?_ | refine gny_bld 18 rfl rfl rfl ?_); (first | refine gny_p 19 rfl rfl rfl ?_ | refine gny_ld 19 rfl rfl rfl rfl ?_ | refine gny_ldH 19 rfl rfl rfl ‹HRow _ _ 0 _› rfl ?_ | refine gny_T 19 rfl rfl rfl ?_ | refine gny_F 19 rfl rfl rfl ?_ | refine gny_B 19 rfl rfl rfl ?_ | refine gny_skip 19 rfl rfl ?_ | refine gny_sp 19 rfl rfl rfl ?_ | refine gny_sB 19 rfl rfl rfl ?_ | refine gny_sld 19 rfl rfl rfl rfl ?_ | refine gny_sldH 19 rfl rfl rfl ‹HRow _ _ 0 _› rfl ?_ | refine gny_ldN 19 rfl rfl rfl rfl ?_ | refine gny_bld 19 rfl rfl rfl ?_); (first | refine gny_p 20 rfl rfl rfl ?_ | refine gny_ld 20 rfl rfl rfl rfl ?_ | refine gny_ldH 20 rfl rfl rfl ‹HRow _ _ 0 _› rfl ?_ | refine gny_T 20 rfl rfl rfl ?_ | refine gny_F 20 rfl rfl rfl ?_ | refine gny_B 20 rfl rfl rfl ?_ | refine gny_skip 20 rfl rfl ?_ | refine gny_sp 20 rfl rfl rfl ?_ | refine gny_sB 20 rfl rfl rfl ?_ | refine gny_sld 20 rfl rfl rfl rfl ?_ | refine gny_sldH 20 rfl rfl rfl ‹HRow _ _ 0 _› rfl ?_ | refine gny_ldN 20 rfl rfl rfl rfl ?_ | refine gny_bld 20 rfl rfl rfl ?_); (first | refine gny_p 21 rfl rfl rfl ?_ | refine gny_ld 21 rfl rfl rfl rfl ?_ | refine gny_ldH 21 rfl rfl rfl ‹HRow _ _ 0 _› rfl ?_ | refine gny_T 21 rfl rfl rfl ?_ | refine gny_F 21 rfl rfl rfl ?_ | refine gny_B 21 rfl rfl rfl ?_ | refine gny_skip 21 rfl rfl ?_ | refine gny_sp 21 rfl rfl rfl ?_ | refine gny_sB 21 rfl rfl rfl ?_ | refine gny_sld 21 rfl rfl rfl rfl ?_ | refine gny_sldH 21 rfl rfl rfl ‹HRow _ _ 0 _› rfl ?_ | refine gny_ldN 21 rfl rfl rfl rfl ?_ | refine gny_bld 21 rfl rfl rfl ?_); (first | refine gny_p 23 rfl rfl rfl ?_ | refine gny_ld 23 rfl rfl rfl rfl ?_ | refine gny_ldH 23 rfl rfl rfl ‹HRow _ _ 0 _› rfl ?_ | refine gny_T 23 rfl rfl rfl ?_ | refine gny_F 23 rfl rfl rfl ?_ | refine gny_B 23 rfl rfl rfl ?_ | refine gny_skip 23 rfl rfl ?_ | refine gny_sp 23 rfl rfl rfl ?_ | refine gny_sB 23 rfl rfl rfl ?_ | refine gny_sld 23 rfl rfl rfl rfl ?_ | refine gny_sldH 23 rfl rfl rfl ‹HRow _ _ 0 _› rfl ?_ | refine gny_ldN 23 rfl rfl rfl rfl ?_ | refine gny_bld 23 rfl rfl rfl ?_); (first | refine gny_p 24 rfl rfl rfl ?_ | refine gny_ld 24 rfl rfl rfl rfl ?_ | refine gny_ldH 24 rfl rfl rfl ‹HRow _ _ 0 _› rfl ?_ | refine gny_T 24 rfl rfl rfl ?_ | refine gny_F 24 rfl rfl rfl ?_ | refine gny_B 24 rfl rfl rfl ?_ | refine gny_skip 24 rfl rfl ?_ | refine gny_sp 24 rfl rfl rfl ?_ | refine gny_sB 24 rfl rfl rfl ?_ | refine gny_sld 24 rfl rfl rfl rfl ?_ | refine gny_sldH 24 rfl rfl rfl ‹HRow _ _ 0 _› rfl ?_ | refine gny_ldN 24 rfl rfl rfl rfl ?_ | refine gny_bld 24 rfl rfl rfl ?_); (first | refine gny_p 25 rfl rfl rfl ?_ | refine gny_ld 25 rfl rfl rfl rfl ?_ | refine gny_ldH 25 rfl rfl rfl ‹HRow _ _ 0 _› rfl ?_ | refine gny_T 25 rfl rfl rfl ?_ | refine gny_F 25 rfl rfl rfl ?_ | refine gny_B 25 rfl rfl rfl ?_ | refine gny_skip 25 rfl rfl ?_ | refine gny_sp 25 rfl rfl rfl ?_ | refine gny_sB 25 rfl rfl rfl ?_ | refine gny_sld 25 rfl rfl rfl rfl ?_ | refine gny_sldH 25 rfl rfl rfl ‹HRow _ _ 0 _› rfl ?_ | refine gny_ldN 25 rfl rfl rfl rfl ?_ | refine gny_bld 25 rfl rfl rfl ?_)
    refine gny_pcall 22 rfl rfl rfl size_spec ?_
    rw [hsz]
    (first | refine gny_p 26 rfl rfl rfl ?_ | refine gny_ld 26 rfl rfl rfl rfl ?_ | refine gny_ldH 26 rfl rfl rfl ‹HRow _ _ 0 _› rfl ?_ | refine gny_T 26 rfl rfl rfl ?_ | refine gny_F 26 rfl rfl rfl ?_ | refine gny_B 26 rfl rfl rfl ?_ | refine gny_skip 26 rfl rfl ?_ | refine gny_sp 26 rfl rfl rfl ?_ | refine gny_sB 26 rfl rfl rfl ?_ | refine gny_sld 26 rfl rfl rfl rfl ?_ | refine gny_sldH 26 rfl rfl rfl ‹HRow _ _ 0 _› rfl ?_ | refine gny_ldN 26 rfl rfl rfl rfl ?_ | refine gny_bld 26 rfl rfl rfl ?_); (first | refine gny_p 27 rfl rfl rfl ?_ | refine gny_ld 27 rfl rfl rfl rfl ?_ | refine gny_ldH 27 rfl rfl rfl ‹HRow _ _ 0 _› rfl ?_ | refine gny_T 27 rfl rfl rfl ?_ | refine gny_F 27 rfl rfl rfl ?_ | refine gny_B 27 rfl rfl rfl ?_ | refine gny_skip 27 rfl rfl ?_ | refine gny_sp 27 rfl rfl rfl ?_ | refine gny_sB 27 rfl rfl rfl ?_ | refine gny_sld 27 rfl rfl rfl rfl ?_ | refine gny_sldH 27 rfl rfl rfl ‹HRow _ _ 0 _› rfl ?_ | refine gny_ldN 27 rfl rfl rfl rfl ?_ | refine gny_bld 27 rfl rfl rfl ?_); (first | refine gny_p 28 rfl rfl rfl ?_ | refine gny_ld 28 rfl rfl rfl rfl ?_ | refine gny_ldH 28 rfl rfl rfl ‹HRow _ _ 0 _› rfl ?_ | refine gny_T 28 rfl rfl rfl ?_ | refine gny_F 28 rfl rfl rfl ?_ | refine gny_B 28 rfl rfl rfl ?_ | refine gny_skip 28 rfl rfl ?_ | refine gny_sp 28 rfl rfl rfl ?_ | refine gny_sB 28 rfl rfl rfl ?_ | refine gny_sld 28 rfl rfl rfl rfl ?_ | refine gny_sldH 28 rfl rfl rfl ‹HRow _ _ 0 _› rfl ?_ | refine gny_ldN 28 rfl rfl rfl rfl ?_ | refine gny_bld 28 rfl rfl rfl ?_); (first | refine gny_p 29 rfl rfl rfl ?_ | refine gny_ld 29 rfl rfl rfl rfl ?_ | refine gny_ldH 29 rfl rfl rfl ‹HRow _ _ 0 _› rfl ?_ | refine gny_T 29 rfl rfl rfl ?_ | refine gny_F 29 rfl rfl rfl ?_ | refine gny_B 29 rfl rfl rfl ?_ | refine gny_skip 29 rfl rfl ?_ | refine gny_sp 29 rfl rfl rfl ?_ | refine gny_sB 29 rfl rfl rfl ?_ | refine gny_sld 29 rfl rfl rfl rfl ?_ | refine gny_sldH 29 rfl rfl rfl ‹HRow _ _ 0 _› rfl ?_ | refine gny_ldN 29 rfl rfl rfl rfl ?_ | refine gny_bld 29 rfl rfl rfl ?_); (first | refine gny_p 30 rfl rfl rfl ?_ | refine gny_ld 30 rfl rfl rfl rfl ?_ | refine gny_ldH 30 rfl rfl rfl ‹HRow _ _ 0 _› rfl ?_ | refine gny_T 30 rfl rfl rfl ?_ | refine gny_F 30 rfl rfl rfl ?_ | refine gny_B 30 rfl rfl rfl ?_ | refine gny_skip 30 rfl rfl ?_ | refine gny_sp 30 rfl rfl rfl ?_ | refine gny_sB 30 rfl rfl rfl ?_ | refine gny_sld 30 rfl rfl rfl rfl ?_ | refine gny_sldH 30 rfl rfl rfl ‹HRow _ _ 0 _› rfl ?_ | refine gny_ldN 30 rfl rfl rfl rfl ?_ | refine gny_bld 30 rfl rfl rfl ?_); (first | refine gny_p 31 rfl rfl rfl ?_ | refine gny_ld 31 rfl rfl rfl rfl ?_ | refine gny_ldH 31 rfl rfl rfl ‹HRow _ _ 0 _› rfl ?_ | refine gny_T 31 rfl rfl rfl ?_ | refine gny_F 31 rfl rfl rfl ?_ | refine gny_B 31 rfl rfl rfl ?_ | refine gny_skip 31 rfl rfl ?_ | refine gny_sp 31 rfl rfl rfl ?_ | refine gny_sB 31 rfl rfl rfl ?_ | refine gny_sld 31 rfl rfl rfl rfl ?_ | refine gny_sldH 31 rfl rfl rfl ‹HRow _ _ 0 _› rfl ?_ | refine gny_ldN 31 rfl rfl rfl rfl ?_ | refine gny_bld 31 rfl rfl rfl ?_); (first | refine gny_p 33 rfl rfl rfl ?_ | refine gny_ld 33 rfl rfl rfl rfl ?_ | refine gny_ldH 33 rfl rfl rfl ‹HRow _ _ 0 _› rfl ?_ | refine gny_T 33 rfl rfl rfl ?_ | refine gny_F 33 rfl rfl rfl ?_ | refine gny_B 33 rfl rfl rfl ?_ | refine gny_skip 33 rfl rfl ?_ | refine gny_sp 33 rfl rfl rfl ?_ | refine gny_sB 33 rfl rfl rfl ?_ | refine gny_sld 33 rfl rfl rfl rfl ?_ | refine gny_sldH 33 rfl rfl rfl ‹HRow _ _ 0 _› rfl ?_ | refine gny_ldN 33 rfl rfl rfl rfl ?_ | refine gny_bld 33 rfl rfl rfl ?_); (first | refine gny_p 34 rfl rfl rfl ?_ | refine gny_ld 34 rfl rfl rfl rfl ?_ | refine gny_ldH 34 rfl rfl rfl ‹HRow _ _ 0 _› rfl ?_ | refine gny_T 34 rfl rfl rfl ?_ | refine gny_F 34 rfl rfl rfl ?_ | refine gny_B 34 rfl rfl rfl ?_ | refine gny_skip 34 rfl rfl ?_ | refine gny_sp 34 rfl rfl rfl ?_ | refine gny_sB 34 rfl rfl rfl ?_ | refine gny_sld 34 rfl rfl rfl rfl ?_ | refine gny_sldH 34 rfl rfl rfl ‹HRow _ _ 0 _› rfl ?_ | refine gny_ldN 34 rfl rfl rfl rfl ?_ | refine gny_bld 34 rfl rfl rfl ?_); (first | refine gny_p 35 rfl rfl rfl ?_ | refine gny_ld 35 rfl rfl rfl rfl ?_ | refine gny_ldH 35 rfl rfl rfl ‹HRow _ _ 0 _› rfl ?_ | refine gny_T 35 rfl rfl rfl ?_ | refine gny_F 35 rfl rfl rfl ?_ | refine gny_B 35 rfl rfl rfl ?_ | refine gny_skip 35 rfl rfl ?_ | refine gny_sp 35 rfl rfl rfl ?_ | refine gny_sB 35 rfl rfl rfl ?_ | refine gny_sld 35 rfl rfl rfl rfl ?_ | refine gny_sldH 35 rfl rfl rfl ‹HRow _ _ 0 _› rfl ?_ | refine gny_ldN 35 rfl rfl rfl rfl ?_ | refine gny_bld 35 rfl rfl rfl ?_); (first | refine gny_p 36 rfl rfl rfl ?_ | refine gny_ld 36 rfl rfl rfl rfl ?_ | refine gny_ldH 36 rfl rfl rfl ‹HRow _ _ 0 _› rfl ?_ | refine gny_T 36 rfl rfl rfl ?_ | refine gny_F 36 rfl rfl rfl ?_ | refine gny_B 36 rfl rfl rfl ?_ | refine gny_skip 36 rfl rfl ?_ | refine gny_sp 36 rfl rfl rfl ?_ | refine gny_sB 36 rfl rfl rfl ?_ | refine gny_sld 36 rfl rfl rfl rfl ?_ | refine gny_sldH 36 rfl rfl rfl ‹HRow _ _ 0 _› rfl ?_ | refine gny_ldN 36 rfl rfl rfl rfl ?_ | refine gny_bld 36 rfl rfl rfl ?_); (first | refine gny_p 37 rfl rfl rfl ?_ | refine gny_ld 37 rfl rfl rfl rfl ?_ | refine gny_ldH 37 rfl rfl rfl ‹HRow _ _ 0 _› rfl ?_ | refine gny_T 37 rfl rfl rfl ?_ | refine gny_F 37 rfl rfl rfl ?_ | refine gny_B 37 rfl rfl rfl ?_ | refine gny_skip 37 rfl rfl ?_ | refine gny_sp 37 rfl rfl rfl ?_ | refine gny_sB 37 rfl rfl rfl ?_ | refine gny_sld 37 rfl rfl rfl rfl ?_ | refine gny_sldH 37 rfl rfl rfl ‹HRow _ _ 0 _› rfl ?_ | refine gny_ldN 37 rfl rfl rfl rfl ?_ | refine gny_bld 37 rfl rfl rfl ?_); (first | refine gny_p 38 rfl rfl rfl ?_ | refine gny_ld 38 rfl rfl rfl rfl ?_ | refine gny_ldH 38 rfl rfl rfl ‹HRow _ _ 0 _› rfl ?_ | refine gny_T 38 rfl rfl rfl ?_ | refine gny_F 38 rfl rfl rfl ?_ | refine gny_B 38 rfl rfl rfl ?_ | refine gny_skip 38 rfl rfl ?_ | refine gny_sp 38 rfl rfl rfl ?_ | refine gny_sB 38 rfl rfl rfl ?_ | refine gny_sld 38 rfl rfl rfl rfl ?_ | refine gny_sldH 38 rfl rfl rfl ‹HRow _ _ 0 _› rfl ?_ | refine gny_ldN 38 rfl rfl rfl rfl ?_ | refine gny_bld 38 rfl rfl rfl ?_)
    refine gny_pcall 32 rfl rfl rfl loose_spec ?_
    rw [hlo]
    (first | refine gny_p 39 rfl rfl rfl ?_ | refine gny_ld 39 rfl rfl rfl rfl ?_ | refine gny_ldH 39 rfl rfl rfl ‹HRow _ _ 0 _› rfl ?_ | refine gny_T 39 rfl rfl rfl ?_ | refine gny_F 39 rfl rfl rfl ?_ | refine gny_B 39 rfl rfl rfl ?_ | refine gny_skip 39 rfl rfl ?_ | refine gny_sp 39 rfl rfl rfl ?_ | refine gny_sB 39 rfl rfl rfl ?_ | refine gny_sld 39 rfl rfl rfl rfl ?_ | refine gny_sldH 39 rfl rfl rfl ‹HRow _ _ 0 _› rfl ?_ | refine gny_ldN 39 rfl rfl rfl rfl ?_ | refine gny_bld 39 rfl rfl rfl ?_); (first | refine gny_p 40 rfl rfl rfl ?_ | refine gny_ld 40 rfl rfl rfl rfl ?_ | refine gny_ldH 40 rfl rfl rfl ‹HRow _ _ 0 _› rfl ?_ | refine gny_T 40 rfl rfl rfl ?_ | refine gny_F 40 rfl rfl rfl ?_ | refine gny_B 40 rfl rfl rfl ?_ | refine gny_skip 40 rfl rfl ?_ | refine gny_sp 40 rfl rfl rfl ?_ | refine gny_sB 40 rfl rfl rfl ?_ | refine gny_sld 40 rfl rfl rfl rfl ?_ | refine gny_sldH 40 rfl rfl rfl ‹HRow _ _ 0 _› rfl ?_ | refine gny_ldN 40 rfl rfl rfl rfl ?_ | refine gny_bld 40 rfl rfl rfl ?_)
    refine any_rest rfl ?_
    have hfit : fits ((k : Int) + 1) := by unfold fits; omega
    refine walk ?_
    refine out_weak (hl3.trans hl4) ?_
    exact out_next hL (k + 1) (by omega)
  · clear hL
    refine walk ?_
    refine ops_call rfl rfl (missing_spec h02 hz) fun r5 H5 B hl5 ⟨⟨n, er, hn1, hn2⟩, eB, eH⟩ => ?_
    subst er eB eH
    have hn47 := okN_size hn1
    refine walk ?_
    refine ops_call rfl rfl (read_spec (b := b) (m := m) (n := n) hn47) fun r6 H6 B hl6 ⟨v6, ns6, er, hns6, eB, eH⟩ => ?_
    subst er eB eH
    have hc6 : readC m n = 4 := by unfold readC; rw [if_pos hn1, hn2]; rfl
    have ht6 : ns6 = [] := by
      rw [show readT m n = tx [] by unfold readT; rw [hn2]] at hns6
      have h9 := congrArg ByteArray.size hns6
      rw [tx_size, tx_size] at h9
      exact List.eq_nil_of_length_eq_zero h9
    rw [hc6, ht6]
    refine walk ?_
    refine ops_call rfl rfl (read_spec (b := b) (m := m) (n := ⟨#[66, 97, 100]⟩) (by decide)) fun r7 H7 B hl7 ⟨v7, ns7, er, hns7, eB, eH⟩ => ?_
    subst er eB eH
    have hb7 := atF_bad hk badN
    have hc7 : readC m ⟨#[66, 97, 100]⟩ = 20 := by unfold readC; rw [if_neg badN]
    have ht7 : ns7 = [] := by
      rw [show readT m ⟨#[66, 97, 100]⟩ = tx [] by unfold readT; rw [hb7]] at hns7
      have h9 := congrArg ByteArray.size hns7
      rw [tx_size, tx_size] at h9
      exact List.eq_nil_of_length_eq_zero h9
    rw [hc7, ht7]
    refine ops_shape v6 fun b6 c6 e6 _ _ _ => ?_
    refine ops_shape v7 fun b7 c7 e7 _ _ _ => ?_
    replace e6 : v6 = .slice b6 0 c6 := e6
    replace e7 : v7 = .slice b7 0 c7 := e7
    subst e6 e7
    refine walk ?_
    refine ops_pcall rfl rfl size_spec ?_
    rw [show sizeV m ⟨#[66, 97, 100]⟩ = 0 by unfold sizeV; rw [hb7]]
    refine walk ?_
    refine ops_pcall rfl rfl loose_spec ?_
    rw [show looseV m n = 0 by unfold looseV; rw [hn2]]
    refine walk ?_
    refine out_weak hl2 ?_
    refine finB [driveO b m] ?_
    exact ⟨rfl, rfl, rfl⟩
end Go.Proofs.Ytjafnombaehcaaa
