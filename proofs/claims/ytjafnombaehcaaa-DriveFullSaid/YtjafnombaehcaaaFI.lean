/- DriveFull: the walk. -/
import Derived.Test.YtjafnombaehcaaaFH
import Derived.Test.YtjafnombaehcaaaE36
set_option linter.unusedVariables false
set_option linter.unusedSimpArgs false
namespace Go.Proofs.Ytjafnombaehcaaa
open Go Go.Sx Go.Proofs
theorem app_steps {m : Drive} {n : ByteArray} {ns : List Int} (h : 0 ≤ m.Steps) : (appM m n ns).Steps ≤ m.Steps + 1 ∧ 0 ≤ (appM m n ns).Steps := by
  have := play_steps (m := m) (o := ⟨1, n, n, ns, 0, []⟩) h
  rwa [show playM m ⟨1, n, n, ns, 0, []⟩ = appM m n ns by simp [playM]] at this
theorem ren_steps {m : Drive} {n t : ByteArray} (h : 0 ≤ m.Steps) : (renM m n t).Steps ≤ m.Steps + 1 ∧ 0 ≤ (renM m n t).Steps := by
  have := play_steps (m := m) (o := ⟨3, n, t, [], 0, []⟩) h
  rwa [show playM m ⟨3, n, t, [], 0, []⟩ = renM m n t by simp [playM]] at this
theorem del_steps {m : Drive} {n : ByteArray} (h : 0 ≤ m.Steps) : (delM m n).Steps ≤ m.Steps + 1 ∧ 0 ≤ (delM m n).Steps := by
  have := play_steps (m := m) (o := ⟨4, n, n, [], 0, []⟩) h
  rwa [show playM m ⟨4, n, n, [], 0, []⟩ = delM m n by simp [playM]] at this
theorem rl1b {H : Heap} : RL rU8 H [.int .u8 1] [1] := ⟨[.int .u8 1], _, rfl, ⟨rfl, rfl⟩, rfl⟩
set_option maxRecDepth 100000 in
set_option maxHeartbeats 16000000 in
theorem full_spec {W0 : World} {H : Heap} {n0 : Int} (hn0 : fits n0) :
    Ct Try.prog 3 #[I n0] W0 H [] (fun r H' B => r = .bool true ∧ B = []) := by
  refine Ct.go (vs := [I n0]) fun R => ?_
  refine walk ?_
  refine ops_call rfl rfl awake_spec fun r2 H2 B hl2 ⟨er, eB⟩ => ?_
  subst er eB
  have hw : 0 ≤ IntKind.u64.wrap n0 := by rw [IntKind.wrap_u64]; omega
  obtain ⟨n, hn, hn8⟩ : ∃ n : Nat, (IntKind.u64.wrap n0).tmod 9 = (n : Int) ∧ n ≤ 8 := by
    have h1 : (IntKind.u64.wrap n0).tmod 9 = (IntKind.u64.wrap n0) % 9 := Int.tmod_eq_emod_of_nonneg hw
    exact ⟨((IntKind.u64.wrap n0) % 9).toNat, by omega, by omega⟩
  refine walk ?_
  rw [hn]
  refine walk ?_
  refine ops_call rfl rfl new_spec fun r1 H1 B hl1 ⟨b, er, eB, eH⟩ => ?_
  subst er eB eH
  refine walk ?_
  refine ex_loop (σ := Nat) (fun k => k ≤ 256) (fun k => [(0, I n), (3, .pointer (some ⟨b, 0, none⟩)), (4, I k)]) (fun _ => H1)
    (fun k => driveO b (fullM k) :: R) (fun k => 256 - k) 0 (Nat.zero_le _) fun k hk0 K hL => ?_
  refine walk ?_
  refine ex_if rfl (fun hq => ?_) (fun hq => ?_)
  · have hk1 : k < 256 := by omega
    have hok := nmF_ok hk1
    have hap := full_app hk1
    obtain ⟨g, _, hst, _⟩ := full_vw (Nat.le_of_lt hk1)
    have hst2 : (fullM k).Steps ≤ 1000000000 := by omega
    have hnx : fullM (k + 1) = appM (fullM k) (nmF k) [] := rfl
    have ht : ((k : Int)).tmod 16 = (k % 16 : Nat) := by rw [Int.tmod_eq_emod_of_nonneg (by omega)]; omega
    have hd : ((k : Int)).tdiv 16 = (k / 16 : Nat) := by rw [Int.tdiv_eq_ediv_of_nonneg (by omega)]; omega
    have hf16 : fits ((k : Int).tdiv 16) := by rw [hd]; unfold fits; omega
    refine walk ?_
    refine ops_bsN rfl rfl fun pb _ => ?_
    refine ops_b2s [102, IntKind.u8.wrap (97 + (k : Int).tmod 16), IntKind.u8.wrap (97 + (k : Int).tdiv 16)] rfl rfl .here ?_
    have hnm : sb ([102, IntKind.u8.wrap (97 + (k : Int).tmod 16), IntKind.u8.wrap (97 + (k : Int).tdiv 16)].map fun n => UInt8.ofNat n.toNat) = nmF k := by
      unfold nmF
      rw [ht, hd, IntKind.wrap_u8, IntKind.wrap_u8]
      simp only [List.map_cons, List.map_nil]
      rw [show ((97 + ((k % 16 : Nat) : Int)) % 256).toNat = 97 + k % 16 by omega, show ((97 + ((k / 16 : Nat) : Int)) % 256).toNat = 97 + k / 16 by omega]
      rfl
    rw [hnm]
    refine ops_call rfl rfl (append_spec (b := b) (m := fullM k) (n := nmF k) (v0 := nilS) (ns := []) (okN_size hok) hst2 SlB.nil) fun r5 H5 B hl5 ⟨er, eB, eH⟩ => ?_
    subst er eB eH
    rw [show appC (fullM k) (nmF k) ([] : List Int).length = 0 from hap, ← hnx]
    have hfit : fits ((k : Int) + 1) := by unfold fits; omega
    refine walk ?_
    exact out_next hL (k + 1) (by omega)
  clear hL
  have hk3 : k = 256 := by omega
  obtain ⟨g, hv, hst, hg1, hg2⟩ := full_vw hk0
  generalize fullM k = m at *
  have hz1 : (List.replicate (262144 - n) (0 : Int)).length = 262144 - n := List.length_replicate
  have hz2 : (List.replicate (n + 1) (0 : Int)).length = n + 1 := List.length_replicate
  have hz3 : (List.replicate n (0 : Int)).length = n := List.length_replicate
  have hA := fullA hn8 hz1 hz2 hz3 hk3 hv hg1 hg2
  obtain ⟨k1, k2, k3, k4⟩ := nss
  refine walk ?_
  rw [show (262144 : Int) - n = ((262144 - n : Nat) : Int) by omega]
  refine ops_mkT rU8 0 (262144 - n) rfl ⟨rfl, rfl⟩ (by simp only [cap47]; omega) (by simp only [cap47]; omega) fun bo => ?_
  generalize (some (⟨bo, 0, none⟩ : Addr)) = bo
  refine ops_freeze (.slice bo (262144 - n) (262144 - n)) fun H2 hl2' hs2 => ?_
  generalize hzz1 : List.replicate (262144 - n) (0 : Int) = z1 at *
  have t0 : 0 ≤ m.Steps ∧ m.Steps ≤ 256 := by omega
  have t2 := app_steps (n := nFaa) (ns := z1) t0.1
  have t3 := app_steps (n := nFaa) (ns := List.replicate n 0) t2.2
  have t4 := ren_steps (n := nFba) (t := nG) t3.2
  have t5 := del_steps (n := nFca) t4.2
  have e1 : appM m nG [] = m := appM_same hA.a1
  have e2 : appM (appM m nFaa z1) nFaa (List.replicate (n + 1) 0) = appM m nFaa z1 := appM_same hA.a3
  have e6 : appM (renM (appM (appM m nFaa z1) nFaa (List.replicate n 0)) nFba nG) nFba [] = renM (appM (appM m nFaa z1) nFaa (List.replicate n 0)) nFba nG := appM_same hA.a6
  refine walk ?_
  refine ops_call rfl rfl (append_spec (b := b) (m := m) (n := nG) (v0 := nilS) (ns := []) k1 (by omega) SlB.nil) fun r5 H5 B hl5 ⟨er, eB, eH⟩ => ?_
  subst er eB eH
  rw [show appC m nG ([] : List Int).length = 5 from hA.a1, e1]
  refine walk ?_
  refine ops_call rfl rfl (append_spec (b := b) (m := m) (n := nFaa) k2 (by omega) hs2) fun r6 H6 B hl6 ⟨er, eB, eH⟩ => ?_
  subst er eB eH
  rw [hA.a2]
  refine walk ?_
  rw [show (n : Int) + 1 = ((n + 1 : Nat) : Int) from rfl]
  refine ops_mkTg rU8 0 (n + 1) rfl rfl ⟨rfl, rfl⟩ (by simp only [cap47]; omega) (by simp only [cap47]; omega) fun bo2 => ?_
  generalize (some (⟨bo2, 0, none⟩ : Addr)) = bo2
  refine ops_freeze (.slice bo2 (n + 1) (n + 1)) fun H7 hl7 hs7 => ?_
  generalize List.replicate (n + 1) (0 : Int) = z2 at *
  generalize hm2 : appM m nFaa z1 = m2 at *
  refine ops_call rfl rfl (append_spec (b := b) (m := m2) (n := nFaa) k2 (by omega) hs7) fun r8 H8 B hl8 ⟨er, eB, eH⟩ => ?_
  subst er eB eH
  rw [hA.a3, e2]
  refine walk ?_
  refine ops_mkTg rU8 0 n rfl rfl ⟨rfl, rfl⟩ (by simp only [cap47]; omega) (by simp only [cap47]; omega) fun bo3 => ?_
  generalize (some (⟨bo3, 0, none⟩ : Addr)) = bo3
  refine ops_freeze (.slice bo3 n n) fun H9 hl9 hs9 => ?_
  generalize List.replicate n (0 : Int) = z3 at *
  refine ops_call rfl rfl (append_spec (b := b) (m := m2) (n := nFaa) k2 (by omega) hs9) fun r10 H10 B hl10 ⟨er, eB, eH⟩ => ?_
  subst er eB eH
  rw [hA.a4]
  generalize appM m2 nFaa z3 = m3 at *
  refine walk ?_
  refine ops_call rfl rfl (rename_spec (b := b) (m := m3) (n := nFba) (t := nG) k3 k1 (by omega)) fun r11 H11 B hl11 ⟨er, eB, eH⟩ => ?_
  subst er eB eH
  rw [hA.a5]
  generalize renM m3 nFba nG = m4 at *
  refine walk ?_
  refine ops_call rfl rfl (append_spec (b := b) (m := m4) (n := nFba) (v0 := nilS) (ns := []) k3 (by omega) SlB.nil) fun r12 H12 B hl12 ⟨er, eB, eH⟩ => ?_
  subst er eB eH
  rw [show appC m4 nFba ([] : List Int).length = 5 from hA.a6, e6]
  refine walk ?_
  refine ops_call rfl rfl (delete_spec (b := b) (m := m4) (n := nFca) k4 (by omega)) fun r13 H13 B hl13 ⟨er, eB, eH⟩ => ?_
  subst er eB eH
  rw [hA.a7]
  generalize delM m4 nFca = m5 at *
  refine walk ?_
  refine ops_bsN rfl rfl fun p5 _ => ?_
  refine ops_frzR .here fun H14 hl14 hr14 => ?_
  refine ops_call rfl rfl (append_spec (b := b) (m := m5) (n := nFba) (ns := [1]) (v0 := .slice (some ⟨p5, 0, none⟩) 1 1) k3 (by omega) ⟨slr_of_hrow hr14 rl1b (Nat.le_refl _) (by decide), by decide⟩) fun r15 H15 B hl15 ⟨er, eB, eH⟩ => ?_
  subst er eB eH
  rw [show appC m5 nFba ([1] : List Int).length = 0 from hA.a8]
  have a9 := hA.a9
  have a10 := hA.a10
  generalize appM m5 nFba [1] = m6 at *
  refine walk ?_
  refine ops_pcall rfl rfl (size_spec (b := b) (m := m6) (n := nFaa)) ?_
  rw [a9]
  refine walk ?_
  refine ops_call rfl rfl (namesO_spec (b := b) (m := m6)) fun r16 H16 B hl16 ⟨eB, eH⟩ => ?_
  subst eB eH
  refine ops_shape r16 fun b16 c16 e16 _ _ _ => ?_
  rw [List.length_map, a10] at e16
  subst e16
  refine walk ?_
  refine fin0 ?_
  exact ⟨rfl, rfl⟩
end Go.Proofs.Ytjafnombaehcaaa
