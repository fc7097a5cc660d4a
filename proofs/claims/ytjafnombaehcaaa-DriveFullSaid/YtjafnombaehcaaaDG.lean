/- Steps that change a drive: Delete. -/
import Derived.Test.YtjafnombaehcaaaDF
import Derived.Test.YtjafnombaehcaaaE34
set_option linter.unusedVariables false
set_option linter.unusedSimpArgs false
namespace Go.Proofs.Ytjafnombaehcaaa
open Go Go.Sx Go.Proofs
def stepM (m : Drive) : Drive := ⟨m.Files, m.Steps + 1, m.Armed, if m.Armed = true then m.Left - 1 else m.Left⟩
def filesM (m : Drive) (fs : List RF) : Drive := ⟨fs, m.Steps, m.Armed, m.Left⟩
theorem left_step {m : Drive} : leftV (stepM m) = leftV m - 1 := by
  unfold leftV stepM
  cases m.Armed <;> simp <;> omega
theorem left_files {m : Drive} {fs : List RF} : leftV (filesM m fs) = leftV m := rfl
theorem left_fits {m : Drive} (h1 : 0 ≤ m.Steps ∧ m.Steps ≤ 1000000000) (h2 : m.Armed = true → 0 ≤ m.Left ∧ fits m.Left) : fits (leftV m - 1) := by
  unfold leftV
  split
  · next h => have := h2 h; unfold fits at *; omega
  · unfold fits; omega
/-- what is wrong with a step on a file that must be there -/
def lookM (m : Drive) (n : ByteArray) : Int := if okN n then (if (atF m.Files n).isSome = true then (if deadD m then 6 else 0) else 4) else 20
def delM (m : Drive) (n : ByteArray) : Drive := if lookM m n = 0 then filesM (stepM m) (outF m.Files n) else m
theorem ok_step {zs : List FE} {m : Drive} (h : DOk zs m) (hd : ¬ deadD m) : DOk zs (stepM m) := by
  obtain ⟨⟨h1, h2⟩, h3, h4, h5, h6⟩ := h
  refine ⟨⟨h1, h2⟩, h3, by show 0 ≤ m.Steps + 1; omega, fun ha => ?_, fun ha => ?_⟩
  · have ha' : m.Armed = true := ha
    obtain ⟨a, b⟩ := h5 ha'
    have : m.Left ≠ 0 := fun e => hd ⟨ha', e⟩
    simp only [stepM, ha', if_true]
    unfold fits at *
    omega
  · have ha' : m.Armed = false := ha
    simp only [stepM, ha']
    exact h6 ha'
theorem ok_files {zs zs' : List FE} {m : Drive} {fs : List RF} (h : DOk zs m) (h1 : RelF zs' fs) (h2 : ∀ e ∈ zs', okE e) (h3 : zs'.length ≤ 256) : DOk zs' (filesM m fs) := ⟨⟨h1, h2⟩, h3, h.2.2⟩
set_option maxHeartbeats 4000000 in
theorem delete_spec {W0 : World} {H : Heap} {b : Nat} {m : Drive} {n : ByteArray} (hn : n.size ≤ cap47) (hst : m.Steps ≤ 1000000000) :
    Ct Try.prog 12 #[.pointer (some ⟨b, 0, none⟩), .string n] W0 H [driveO b m] (fun r H' B => r = I (lookM m n) ∧ B = [driveO b (delM m n)] ∧ H' = H) := by
  refine Ct.go (vs := [.pointer (some ⟨b, 0, none⟩), .string n]) fun R => ?_
  refine ex_open (A := driveO b m) (σ := Nat × List FE) (B := fun s => [dRow b s.1 m.Steps m.Armed (leftV m), dMap s.1 s.2, bigL fA s.2]) (p := fun s => DOk s.2 m) (by repeat (first | exact Has.here | apply Has.there)) (fun h ⟨mb, zs, hb, hk⟩ => ⟨(mb, zs), hk, hb⟩) fun ⟨mb, zs⟩ hk => ?_
  dsimp only at hk ⊢
  have hk' := hk
  obtain ⟨⟨hrel, hok⟩, hz, hst0, harm, hun⟩ := hk
  have hshut : ∀ h, big [dRow b mb m.Steps m.Armed (leftV m), dMap mb zs, bigL fA zs] h → driveO b m h := fun h hb => ⟨mb, zs, hb, hk'⟩
  have f1 : fits (m.Steps + 1) := by unfold fits; omega
  have f2 := left_fits ⟨hst0, hst⟩ harm
  have hdd := dead_iff (m := m) fun h => (harm h).1
  refine walk ?_
  refine ops_pcall rfl rfl (find_spec hn) ?_
  unfold findV
  by_cases hok0 : okN n
  rotate_left
  · have hlk : lookM m n = 20 := by unfold lookM; rw [if_neg hok0]
    have hdm : delM m n = m := by unfold delM; rw [hlk]; rfl
    rw [if_neg hok0, hlk, hdm]
    refine walk ?_
    refine finB [driveO b m] ?_ (hs := sub_fold (B := [dRow b mb m.Steps m.Armed (leftV m), dMap mb zs, bigL fA zs]) (Sub.refl _) hshut)
    exact ⟨rfl, rfl, rfl⟩
  rw [if_pos hok0]
  rcases name_cases zs n with ⟨l1, e, l2, rfl, rfl⟩ | hno
  · have he : e ∈ l1 ++ e :: l2 := by simp
    have hat := at_in hrel he
    rw [get_in hrel he]
    refine walk ?_
    refine ops_call rfl rfl (step_spec (b := b) (mb := mb) (ar := m.Armed) f1 f2) fun r2 H2 B hl2 ⟨er, eB, eH⟩ => ?_
    subst er eB eH
    by_cases hd : deadV m.Armed (leftV m)
    · have hlk : lookM m e.nm = 6 := by unfold lookM; rw [if_pos hok0, hat, if_pos (show (some e.f).isSome = true from rfl), if_pos (hdd.1 hd)]
      have hdm : delM m e.nm = m := by unfold delM; rw [hlk]; rfl
      rw [if_pos hd, if_pos hd, if_pos hd, hlk, hdm]
      refine walk ?_
      refine finB [driveO b m] ?_ (hs := sub_fold (B := [dRow b mb m.Steps m.Armed (leftV m), dMap mb (l1 ++ e :: l2), bigL fA (l1 ++ e :: l2)]) (by (repeat (first | exact Sub.refl _ | exact Sub.nil _ | (apply sub_pick; (repeat (first | exact Has.here | apply Has.there)); skip) | apply Sub.drop))) hshut)
      exact ⟨rfl, rfl, rfl⟩
    · have hnd : ¬ deadD m := fun e1 => hd (hdd.2 e1)
      have hlk : lookM m e.nm = 0 := by unfold lookM; rw [if_pos hok0, hat, if_pos (show (some e.f).isSome = true from rfl), if_neg hnd]
      have hdm : delM m e.nm = filesM (stepM m) (outF m.Files e.nm) := by unfold delM; rw [if_pos hlk]
      rw [if_neg hd, if_neg hd, if_neg hd, hlk, hdm]
      refine walk ?_
      refine ops_delete (RV := rVal) rfl ((by repeat (first | exact Has.here | apply Has.there))) ?_
      rw [ms_del hrel.names]
      have hk2 := ok_files (ok_step hk' hnd) (rel_del hrel) (fun x hx => hok x (by simp only [List.mem_append, List.mem_cons] at hx ⊢; rcases hx with h | h; exact .inl h; exact .inr (.inr h))) (by simp only [List.length_append, List.length_cons] at hz ⊢; omega)
      refine walk ?_
      refine finB [driveO b (filesM (stepM m) (outF m.Files e.nm))] ?_ (hs := ?_)
      · exact ⟨rfl, rfl, rfl⟩
      · refine sub_fold (B := [dRow b mb (m.Steps + 1) m.Armed (leftV m - 1), dMap mb (l1 ++ l2), bigL fA (l1 ++ l2)]) ?_ fun h hb => ⟨mb, l1 ++ l2, by rw [left_files, left_step]; exact hb, hk2⟩
        refine Sub.trans (show Sub _ (bigL fA (l1 ++ e :: l2) :: dRow b mb (m.Steps + 1) m.Armed (leftV m - 1) :: dMap mb (l1 ++ l2) :: R) from (by (repeat (first | exact Sub.refl _ | exact Sub.nil _ | (apply sub_pick; (repeat (first | exact Has.here | apply Has.there)); skip) | apply Sub.drop)))) ?_
        refine bigL_out.trans ((Sub.drop (Sub.refl _)).trans ?_)
        (repeat (first | exact Sub.refl _ | exact Sub.nil _ | (apply sub_pick; (repeat (first | exact Has.here | apply Has.there)); skip) | apply Sub.drop))
  · rw [get_out hno]
    have hlk : lookM m n = 4 := by unfold lookM; rw [if_pos hok0, at_out hrel hno]; rfl
    have hdm : delM m n = m := by unfold delM; rw [hlk]; rfl
    rw [hlk, hdm]
    refine walk ?_
    refine finB [driveO b m] ?_ (hs := sub_fold (B := [dRow b mb m.Steps m.Armed (leftV m), dMap mb zs, bigL fA zs]) (Sub.refl _) hshut)
    exact ⟨rfl, rfl, rfl⟩
end Go.Proofs.Ytjafnombaehcaaa
