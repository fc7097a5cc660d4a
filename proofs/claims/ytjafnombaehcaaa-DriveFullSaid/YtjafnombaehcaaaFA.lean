/- Crashes that keep all, syncs one by one. No program in sight. -/
import Derived.Test.YtjafnombaehcaaaDV
set_option linter.unusedVariables false
set_option linter.unusedSimpArgs false
namespace Go.Proofs.Ytjafnombaehcaaa
open Go Go.Sx Go.Proofs
/-- two drives have the same files: names and bytes -/
def SameF (m m' : Drive) : Prop := m.Files.map (fun f => (f.Name, f.B)) = m'.Files.map (fun f => (f.Name, f.B))
theorem SameF.names {m m' : Drive} (h : SameF m m') : m.Files.map (·.Name) = m'.Files.map (·.Name) := by
  have := congrArg (List.map Prod.fst) h
  simpa [List.map_map, Function.comp_def] using this
theorem extract_all (b : ByteArray) : b.extract 0 b.size = b := by
  rw [sb_of b, sb_size, sb_take, List.take_length]
/-- all that is loose is kept, or nothing is loose -/
theorem cr_same {ks : List Int} : ∀ {fs : List RF} {s : Nat × List RF}, (∀ f ∈ fs, 0 ≤ f.Synced ∧ f.Synced ≤ f.B.size) → (∀ f ∈ fs, ∀ k, k < s.1 + fs.length → f.Synced < f.B.size → f.B.size - f.Synced ≤ keepK ks k) →
    ((fs.foldl (crStep ks) s).2).map (fun f => (f.Name, f.B)) = s.2.map (fun f => (f.Name, f.B)) ++ fs.map (fun f => (f.Name, f.B))
  | [], s, _, _ => by simp
  | f :: fs, s, hs, hk => by
    have h1 := hs f (by simp)
    have hn : crN ks s.1 f.B.size f.Synced = f.B.size := by
      unfold crN
      split
      · next h =>
        have := hk f (by simp) s.1 (by simp) h
        omega
      · rfl
    have hx : f.B.extract 0 (crN ks s.1 f.B.size f.Synced).toNat = f.B := by rw [hn, Int.toNat_natCast, extract_all]
    rw [List.foldl_cons, cr_same (fun g hg => hs g (by simp [hg])) (fun g hg k hk' hl => hk g (by simp [hg]) k (by
      simp only [crStep, List.length_cons] at hk' ⊢
      split at hk' <;> omega) hl)]
    simp only [crStep, List.map_append, List.map_cons, List.map_nil, hx, List.append_assoc, List.singleton_append]
theorem keep_rep {k : Nat} (hk2 : k < 300) : keepK (List.replicate 300 1099511627776) k = 1099511627776 := by
  generalize hn : 300 = n at *
  unfold keepK
  rw [if_pos (by rw [List.length_replicate]; exact hk2)]
  rw [List.getD, List.getElem?_replicate, if_pos hk2]
  rfl
theorem crash_keeps {m : Drive} {ks : List Int} (h : DK m) (hks : ∀ k, k < 300 → keepK ks k = 1099511627776) : SameF m (crashM m ks) := by
  have h2 := cr_same (ks := ks) (fs := m.Files) (s := (0, [])) (fun f hf => (h.ok f hf).2.2) (fun f hf k hk hl => by
    have h3 := (h.ok f hf).2.1
    have h4 := h.len
    have h5 := (h.ok f hf).2.2.1
    have hk2 : k < 300 := by simp only at hk; omega
    rw [hks k hk2]
    omega)
  exact Eq.symm h2
theorem crash_all {m : Drive} (h : DK m) : SameF m (crashM m (List.replicate 300 1099511627776)) := crash_keeps h fun k hk => keep_rep hk
theorem crash_synced {m : Drive} {ks : List Int} (h : DK m) (hs : ∀ f ∈ m.Files, f.Synced = f.B.size) : SameF m (crashM m ks) := by
  have h2 := cr_same (ks := ks) (fs := m.Files) (s := (0, [])) (fun f hf => (h.ok f hf).2.2) (fun f hf k hk hl => by have := hs f hf; omega)
  exact Eq.symm h2
/-- two lists that rise and have the same names have them in the same order -/
theorem up_eq {xs ys : List ByteArray} (hp : xs.Perm ys) (hx : xs.Pairwise SLt) (hy : ys.Pairwise SLt) : xs = ys := by
  rw [← sortT_of (.refl _) hx, sortT_of hp hy]
theorem up_pair {fs : List RF} (h : upF fs) : (fs.map (·.Name)).Pairwise SLt := by rw [List.pairwise_map]; exact h
theorem withF_mem {fs : List RF} {f g : RF} (h : upF fs) : g ∈ withF fs f ↔ g = f ∨ (g ∈ fs ∧ g.Name ≠ f.Name) := by
  rw [withF_ins, (insF_perm h).mem_iff, List.mem_cons, mem_outF]
theorem out_names {fs : List RF} {n : ByteArray} (h : upF fs) (hn : n ∈ fs.map (·.Name)) : (n :: (outF fs n).map (·.Name)).Perm (fs.map (·.Name)) := by
  induction fs with
  | nil => cases hn
  | cons g r ih =>
    obtain ⟨h1, h2⟩ := List.pairwise_cons.1 h
    by_cases hg : g.Name = n
    · have hr : outF (g :: r) n = r := by
        rw [show outF (g :: r) n = outF r n by simp [outF, hg]]
        exact outF_none fun x hx e => slt_ne (h1 x hx) (hg.trans e.symm)
      rw [hr, List.map_cons, hg]
    · have hr : outF (g :: r) n = g :: outF r n := by simp [outF, hg]
      rw [hr, List.map_cons, List.map_cons]
      have hn' : n ∈ r.map (·.Name) := by
        rcases List.mem_cons.1 hn with e | e
        · exact absurd e.symm hg
        · exact e
      exact (List.Perm.swap _ _ _).trans ((ih h2 hn').cons _)
/-- a file that is there is put again: the names stay -/
theorem with_names {fs : List RF} {f : RF} (h : upF fs) (hn : f.Name ∈ fs.map (·.Name)) : (withF fs f).map (·.Name) = fs.map (·.Name) := by
  refine up_eq ?_ (up_pair (withF_ins ▸ insF_up h)) (up_pair h)
  rw [withF_ins]
  have h1 := (insF_perm (f := f) h).map (·.Name)
  exact h1.trans (out_names h hn)
/-- what a sync leaves of a drive's files -/
theorem sync_files {m : Drive} {n : ByteArray} (h : DK m) (hl : lookM m n = 0) (hn : n ∈ m.Files.map (·.Name)) :
    (syncM m n).Files.map (·.Name) = m.Files.map (·.Name) ∧ (∀ g ∈ (syncM m n).Files, g.Name = n → g.Synced = g.B.size) ∧ (∀ g ∈ (syncM m n).Files, g.Name ≠ n → g ∈ m.Files) := by
  obtain ⟨f, hf, hfn⟩ := List.mem_map.1 hn
  subst hfn
  have hat := at_mem h.up hf
  have e : (syncM m f.Name).Files = withF m.Files ⟨f.Name, f.B, f.B.size⟩ := by unfold syncM; rw [if_pos hl, hat]; rfl
  rw [e]
  refine ⟨with_names h.up hn, fun g hg hgn => ?_, fun g hg hgn => ?_⟩
  · rcases (withF_mem h.up).1 hg with rfl | ⟨_, h2⟩
    · rfl
    · exact absurd hgn h2
  · rcases (withF_mem h.up).1 hg with rfl | ⟨h1, _⟩
    · exact absurd rfl hgn
    · exact h1
theorem look_name {m : Drive} {n : ByteArray} (h : DK m) (hn : n ∈ m.Files.map (·.Name)) : lookM m n = if deadD m then 6 else 0 := by
  obtain ⟨f, hf, rfl⟩ := List.mem_map.1 hn
  unfold lookM
  rw [if_pos (h.ok f hf).1, at_mem h.up hf]
  rfl
end Go.Proofs.Ytjafnombaehcaaa
