/- DriveSyncs: the walk. -/
import Derived.Test.YtjafnombaehcaaaFB
set_option linter.unusedVariables false
set_option linter.unusedSimpArgs false
namespace Go.Proofs.Ytjafnombaehcaaa
open Go Go.Sx Go.Proofs
abbrev pp (p : Nat) : Value := .pointer (some ⟨p, 0, none⟩)
abbrev big40 : Int := 1099511627776
theorem rep_set {k n : Nat} (h : k < n) : (List.replicate k big40 ++ List.replicate (n - k) (0 : Int)).set k big40 = List.replicate (k + 1) big40 ++ List.replicate (n - (k + 1)) 0 := by
  rw [List.set_append_right _ _ (by simp), List.length_replicate, Nat.sub_self, show n - k = (n - (k + 1)) + 1 by omega, List.replicate_succ, List.set_cons_zero, List.replicate_succ' (n := k)]
  simp
/-- the first k names are synced -/
def SyncI (m0 m : Drive) (k : Nat) : Prop := nmL m = nmL m0 ∧ ∀ f ∈ m.Files, f.Name ∈ (nmL m0).take k → f.Synced = f.B.size
theorem sync_step {m0 m : Drive} {k : Nat} (h : SyncI m0 m k) (hd : DK m) (hk : k < (nmL m0).length) (hnd : lookM m (nmL m0)[k] = 0) : SyncI m0 (syncM m (nmL m0)[k]) (k + 1) := by
  have hmem : (nmL m0)[k] ∈ nmL m := by rw [h.1]; exact List.getElem_mem hk
  obtain ⟨h1, h2, h3⟩ := sync_files hd hnd hmem
  refine ⟨h1.trans h.1, fun f hf hft => ?_⟩
  by_cases hn : f.Name = (nmL m0)[k]
  · exact h2 f hf hn
  · refine h.2 f (h3 f hf hn) ?_
    rw [List.take_succ_eq_append_getElem hk] at hft
    rcases List.mem_append.1 hft with h | h
    · exact h
    · exact absurd (List.mem_singleton.1 h) hn
theorem sync_loose {m : Drive} {n : ByteArray} (hd : DK m) (hd' : DK (syncM m n)) (hl : lookM m n = 0) (hn : n ∈ nmL m) : looseV (syncM m n) n = 0 := by
  obtain ⟨h1, h2, h3⟩ := sync_files hd hl hn
  have hm : n ∈ (syncM m n).Files.map (·.Name) := by rw [h1]; exact hn
  obtain ⟨f, hf, hfn⟩ := List.mem_map.1 hm
  have := h2 f hf hfn
  unfold looseV
  have h4 := at_mem hd'.up hf
  rw [hfn] at h4
  rw [h4]
  dsimp only
  omega
theorem sync_steps {m : Drive} {n : ByteArray} (h : 0 ≤ m.Steps) : (syncM m n).Steps ≤ m.Steps + 1 := by
  unfold syncM
  split
  · split
    · show m.Steps + 1 ≤ _; omega
    · omega
  · omega
set_option maxRecDepth 100000 in
set_option maxHeartbeats 8000000 in
theorem syncs_spec {W0 : World} {H : Heap} {v0 v1 : Value} {ss : List Op} {ks : List Int} (h0 : SlB rOp 6 96 H v0 ss) (hks : SlB rInt 1 8 H v1 ks) :
    Ct Try.prog 6 #[v0, v1] W0 H [] (fun r H' B => r = .bool true ∧ B = []) := by
  refine Ct.go (vs := [v0, v1]) fun R => ?_
  obtain ⟨b0, c0, rfl, hc0, hd0⟩ := h0.1.shape
  obtain ⟨b1, c1, rfl, hc1, hd1⟩ := hks.1.shape
  refine walk ?_
  refine ops_call rfl rfl (built_spec h0) fun r1 H1 B hl1 ⟨b, c1', er, h1, eB⟩ => ?_
  subst er eB
  obtain ⟨b6, d6, rfl⟩ := rd_open h1
  refine walk ?_
  refine ops_alloc rfl fun p6 _ => ?_
  refine walk ?_
  refine ops_call rfl rfl awake_spec fun r2 H2 B hl2 ⟨er, eB⟩ => ?_
  subst er eB
  have hst : (buildM ss).Steps ≤ 80 := take_steps (Nat.le_refl 80)
  generalize buildM ss = M at *
  refine walk ?_
  refine ops_mkT rInt 0 300 rfl ⟨rfl, fits0⟩ (by simp only [cap47]; omega) (by simp only [cap47]; omega) fun bo => ?_
  generalize (some (⟨bo, 0, none⟩ : Addr)) = bo
  refine walk ?_
  refine ex_loop (σ := Nat) (fun k => k ≤ 300) (fun k => [(1, .slice b1 ks.length c1), (5, pp b), (8, .slice bo 300 300), (27, I (300 : Nat)), (28, I k)]) (fun _ => H2)
    (fun k => ownS rInt 1 8 3 H2 (.slice bo 300 300) (List.replicate k big40 ++ List.replicate (300 - k) 0) :: driveO b M :: R) (fun k => 300 - k) 0 (Nat.zero_le _) fun k hk0 K hL => ?_
  have hlen : (List.replicate k big40 ++ List.replicate (300 - k) (0 : Int)).length = 300 := by rw [List.length_append, List.length_replicate, List.length_replicate]; omega
  have hset : k < 300 → (List.replicate k big40 ++ List.replicate (300 - k) (0 : Int)).set k big40 = List.replicate (k + 1) big40 ++ List.replicate (300 - (k + 1)) 0 := fun h => rep_set h
  have hend : k = 300 → List.replicate k big40 ++ List.replicate (300 - k) (0 : Int) = List.replicate 300 big40 := fun h => by rw [h]; exact List.append_nil _
  generalize List.replicate k big40 ++ List.replicate (300 - k) (0 : Int) = xs at *
  refine walk ?_
  refine ex_if rfl (fun hq => ?_) (fun hq => ?_)
  · have hk1 : k < 300 := by omega
    have hset1 := hset hk1
    clear hset hend
    refine walk ?_
    refine ops_stS (y' := big40) rfl rfl rfl ⟨rfl, by show fits 1099511627776; unfold fits; omega⟩ (by rw [hlen]; exact hk1) ?_
    rw [hset1]
    have hfit : fits ((k : Int) + 1) := by unfold fits; omega
    refine walk ?_
    exact out_next hL (k + 1) (by omega)
  clear hL hset
  have hk3 : k = 300 := by omega
  rw [hend hk3] at hlen ⊢
  clear hend
  have hkeep : ∀ k, k < 300 → keepK (List.replicate 300 big40) k = 1099511627776 := fun k hk => keep_rep hk
  generalize List.replicate 300 big40 = all at *
  refine ex_freeze (.slice bo 300 300) fun H3 hl3 hs3 => ?_
  refine ex_know (A := driveO b M) (p := DK M) (by repeat (first | exact Has.here | apply Has.there)) (fun h => driveO_know) fun hdk => ?_
  refine walk ?_
  have hc := crash_spec (W0 := W0) (b := b) (m := M) hs3
  refine ops_call rfl rfl hc fun r5 H5 B hl5 ⟨q, er, eB, eH⟩ => ?_
  subst er eB eH
  refine ops_call rfl rfl (same_spec (b := b) (q := q) (crash_keeps hdk hkeep)) fun r6 H6 B hl6 ⟨er, eB, eH⟩ => ?_
  subst er eB eH
  refine walk ?_
  refine ops_call rfl rfl (namesO_spec (b := b) (m := M)) fun r7 H7 B hl7 ⟨eB, eH⟩ => ?_
  subst eB eH
  refine ops_freeze r7 fun H8 hl8 hs8 => ?_
  obtain ⟨b7, c7, rfl, _, _⟩ := hs8.1.shape
  have hs8' : SlR rStr 1 H8 (.slice b7 (nmL M).length c7) (nmL M) := hs8.1
  rw [show M.Files.map (·.Name) = nmL M from rfl]
  have hln : (nmL M).length ≤ 256 := by simpa using hdk.len
  refine walk ?_
  refine ex_loop (σ := Nat × Drive) (fun s => s.1 ≤ (nmL M).length ∧ SyncI M s.2 s.1 ∧ s.2.Steps ≤ 80 + s.1) (fun s => [(1, .slice b1 ks.length c1), (5, pp b), (42, .slice b7 (nmL M).length c7), (43, I (nmL M).length), (44, I s.1)]) (fun _ => H8)
    (fun s => driveO b s.2 :: R) (fun s => (nmL M).length - s.1) (0, M) ⟨Nat.zero_le _, ⟨rfl, fun f hf h => by simp at h⟩, by simpa using hst⟩ fun ⟨k, m⟩ ⟨hk0, hsy, hms⟩ K hL => ?_
  dsimp only at hk0 hsy hms ⊢
  refine ex_know (A := driveO b m) (p := DK m) (by repeat (first | exact Has.here | apply Has.there)) (fun h => driveO_know) fun hdm => ?_
  refine walk ?_
  refine ex_if rfl (fun hq => ?_) (fun hq => ?_)
  · have hk1 : k < (nmL M).length := by omega
    have hmem : (nmL M)[k] ∈ nmL m := by rw [hsy.1]; exact List.getElem_mem hk1
    have hz1 := nm_size hdk hk1
    have hlk := look_name hdm hmem
    refine walk ?_
    refine ops_call rfl rfl (sync_spec (b := b) (m := m) (n := (nmL M)[k]) hz1 (by omega)) fun r9 H9 B hl9 ⟨er, eB, eH⟩ => ?_
    subst er eB eH
    by_cases hd : deadD m
    · rw [if_pos hd] at hlk
      have hsm : syncM m (nmL M)[k] = m := by unfold syncM; rw [hlk]; rfl
      rw [hlk, hsm]
      clear hL
      refine walk ?_
      refine ops_pcall rfl rfl (deadO_spec (b := b) (m := m)) ?_
      rw [decide_eq_true hd]
      refine walk ?_
      refine fin0 ?_
      exact ⟨rfl, rfl⟩
    · rw [if_neg hd] at hlk
      rw [hlk]
      refine ops_know (A := driveO b (syncM m (nmL M)[k])) (p := DK (syncM m (nmL M)[k])) (by repeat (first | exact Has.here | apply Has.there)) (fun h => driveO_know) fun hdm2 => ?_
      have hlo := sync_loose hdm hdm2 hlk hmem
      have hst2 := sync_step hsy hdm hk1 hlk
      have hss := sync_steps (m := m) (n := (nmL M)[k]) hdm.st
      refine walk ?_
      refine ops_pcall rfl rfl (loose_spec (b := b) (m := syncM m (nmL M)[k]) (n := (nmL M)[k])) ?_
      rw [hlo]
      have hfit : fits ((k : Int) + 1) := by unfold fits; omega
      refine walk ?_
      exact out_next hL (k + 1, syncM m (nmL M)[k]) ⟨by omega, hst2, by show (syncM m (nmL M)[k]).Steps ≤ 80 + ((k + 1 : Nat) : Int); omega⟩
  · clear hL
    have hkl : k = (nmL M).length := by omega
    have hall : ∀ f ∈ m.Files, f.Synced = f.B.size := fun f hf => hsy.2 f hf (by rw [hkl, List.take_length, ← hsy.1]; exact List.mem_map.2 ⟨f, hf, rfl⟩)
    have hks8 := hks.mono (hl1.trans (hl2.trans (hl3.trans hl8)))
    refine walk ?_
    have hc9 := crash_spec (W0 := W0) (b := b) (m := m) hks8
    refine ops_call rfl rfl hc9 fun r9 H9 B hl9 ⟨q9, er, eB, eH⟩ => ?_
    subst er eB eH
    refine ops_call rfl rfl (same_spec (b := b) (q := q9) (crash_synced (ks := ks) hdm hall)) fun r6 H6 B hl6 ⟨er, eB, eH⟩ => ?_
    subst er eB eH
    refine walk ?_
    refine fin0 ?_
    exact ⟨rfl, rfl⟩
end Go.Proofs.Ytjafnombaehcaaa
