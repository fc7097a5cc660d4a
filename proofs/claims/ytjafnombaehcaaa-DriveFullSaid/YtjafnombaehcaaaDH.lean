/- Steps that change a drive: Sync. -/
import Derived.Test.YtjafnombaehcaaaDG
set_option linter.unusedVariables false
set_option linter.unusedSimpArgs false
namespace Go.Proofs.Ytjafnombaehcaaa
open Go Go.Sx Go.Proofs
def syncM (m : Drive) (n : ByteArray) : Drive := if lookM m n = 0 then (match atF m.Files n with | some f => filesM (stepM m) (withF m.Files ⟨f.Name, f.B, f.B.size⟩) | none => m) else m
set_option maxHeartbeats 4000000 in
theorem sync_spec {W0 : World} {H : Heap} {b : Nat} {m : Drive} {n : ByteArray} (hn : n.size ≤ cap47) (hst : m.Steps ≤ 1000000000) :
    Ct Try.prog 23 #[.pointer (some ⟨b, 0, none⟩), .string n] W0 H [driveO b m] (fun r H' B => r = I (lookM m n) ∧ B = [driveO b (syncM m n)] ∧ H' = H) := by
  refine Ct.go (vs := [.pointer (some ⟨b, 0, none⟩), .string n]) fun R => ?_
  refine ex_open (A := driveO b m) (σ := Nat × List FE) (B := fun s => [dRow b s.1 m.Steps m.Armed (leftV m), dMap s.1 s.2, bigL fA s.2]) (p := fun s => DOk s.2 m) (by repeat (first | exact Has.here | apply Has.there)) (fun h ⟨mb, zs, hb, hk⟩ => ⟨(mb, zs), hk, hb⟩) fun ⟨mb, zs⟩ hk => ?_
  dsimp only at hk ⊢
  have hk' := hk
  obtain ⟨⟨hrel, hok⟩, hz, hst0, harm, hun⟩ := hk
  have hshut : ∀ h, big [dRow b mb m.Steps m.Armed (leftV m), dMap mb zs, bigL fA zs] h → driveO b m h := fun h hb => ⟨mb, zs, hb, hk'⟩
  have f1 : fits (m.Steps + 1) := by unfold fits; omega
  have f2 := left_fits ⟨hst0, hst⟩ harm
  have hdd := dead_iff (m := m) fun h => (harm h).1
  refine walk ?_
  refine ops_pcall rfl rfl (find_spec hn) ?_
  unfold findV
  by_cases hok0 : okN n
  rotate_left
  · have hlk : lookM m n = 20 := by unfold lookM; rw [if_neg hok0]
    have hdm : syncM m n = m := by unfold syncM; rw [hlk]; rfl
    rw [if_neg hok0, hlk, hdm]
    refine walk ?_
    refine finB [driveO b m] ?_ (hs := sub_fold (B := [dRow b mb m.Steps m.Armed (leftV m), dMap mb zs, bigL fA zs]) (Sub.refl _) hshut)
    exact ⟨rfl, rfl, rfl⟩
  rw [if_pos hok0]
  rcases name_cases zs n with ⟨l1, e, l2, rfl, rfl⟩ | hno
  · have he : e ∈ l1 ++ e :: l2 := by simp
    have hat := at_in hrel he
    rw [get_in hrel he]
    refine walk ?_
    refine ops_call rfl rfl (step_spec (b := b) (mb := mb) (ar := m.Armed) f1 f2) fun r2 H2 B hl2 ⟨er, eB, eH⟩ => ?_
    subst er eB eH
    by_cases hd : deadV m.Armed (leftV m)
    · have hlk : lookM m e.nm = 6 := by unfold lookM; rw [if_pos hok0, hat, if_pos (show (some e.f).isSome = true from rfl), if_pos (hdd.1 hd)]
      have hdm : syncM m e.nm = m := by unfold syncM; rw [hlk]; rfl
      rw [if_pos hd, if_pos hd, if_pos hd, hlk, hdm]
      refine walk ?_
      refine finB [driveO b m] ?_ (hs := sub_fold (B := [dRow b mb m.Steps m.Armed (leftV m), dMap mb (l1 ++ e :: l2), bigL fA (l1 ++ e :: l2)]) (by (repeat (first | exact Sub.refl _ | exact Sub.nil _ | (apply sub_pick; (repeat (first | exact Has.here | apply Has.there)); skip) | apply Sub.drop))) hshut)
      exact ⟨rfl, rfl, rfl⟩
    · have hnd : ¬ deadD m := fun e1 => hd (hdd.2 e1)
      have hlk : lookM m e.nm = 0 := by unfold lookM; rw [if_pos hok0, hat, if_pos (show (some e.f).isSome = true from rfl), if_neg hnd]
      have hdm : syncM m e.nm = filesM (stepM m) (withF m.Files ⟨e.nm, tx e.bs, e.bs.length⟩) := by unfold syncM; rw [if_pos hlk, hat]; simp [FE.f, tx_size]
      rw [if_neg hd, if_neg hd, if_neg hd, hlk, hdm]
      have hoe := hok e he
      have hr2 := rel_set (e' := ⟨e.nm, e.pf, e.v, e.bs, e.bs.length⟩) hrel rfl
      have hk2 := ok_files (ok_step hk' hnd) hr2 (fun x hx => by
        simp only [List.mem_append, List.mem_cons] at hx
        rcases hx with h | h | h
        · exact hok x (by simp [h])
        · subst h
          exact ⟨hoe.1, hoe.2.1, by simp only; omega, by simp only; omega⟩
        · exact hok x (by simp [h])) (by simp only [List.length_append, List.length_cons] at hz ⊢; omega)
      obtain ⟨n, pf, v, bs, sy⟩ := e
      dsimp only at *
      refine ops_L (L' := row pf 67 [v, I sy] :: ownS rU8 1 1 5 Heap.empty v bs :: bigL fA (l1 ++ l2) :: dRow b mb (m.Steps + 1) m.Armed (leftV m - 1) :: dMap mb (l1 ++ ⟨n, pf, v, bs, sy⟩ :: l2) :: R) (Sub.trans (by (repeat (first | exact Sub.refl _ | exact Sub.nil _ | (apply sub_pick; (repeat (first | exact Has.here | apply Has.there)); skip) | apply Sub.drop))) (zs_out (e := ⟨n, pf, v, bs, sy⟩))) ?_
      refine ops_shape v fun d1 c1 hv _ _ _ => ?_
      subst hv
      refine walk ?_
      refine finB [driveO b (filesM (stepM m) (withF m.Files ⟨n, tx bs, bs.length⟩))] ?_ (hs := ?_)
      · exact ⟨rfl, rfl, rfl⟩
      · refine sub_fold (B := [dRow b mb (m.Steps + 1) m.Armed (leftV m - 1), dMap mb (l1 ++ ⟨n, pf, .slice d1 bs.length c1, bs, bs.length⟩ :: l2), bigL fA (l1 ++ ⟨n, pf, .slice d1 bs.length c1, bs, bs.length⟩ :: l2)]) ?_ fun h hb => ⟨mb, _, by rw [left_files, left_step]; exact hb, hk2⟩
        have hms : msF (l1 ++ ⟨n, pf, .slice d1 bs.length c1, bs, sy⟩ :: l2) = msF (l1 ++ ⟨n, pf, .slice d1 bs.length c1, bs, bs.length⟩ :: l2) := by simp [msF]
        rw [dMap, hms]
        refine Sub.trans (zs_in (e := ⟨n, pf, .slice d1 bs.length c1, bs, bs.length⟩)) ?_
        (repeat (first | exact Sub.refl _ | exact Sub.nil _ | (apply sub_pick; (repeat (first | exact Has.here | apply Has.there)); skip) | apply Sub.drop))
  · rw [get_out hno]
    have hlk : lookM m n = 4 := by unfold lookM; rw [if_pos hok0, at_out hrel hno]; rfl
    have hdm : syncM m n = m := by unfold syncM; rw [hlk]; rfl
    rw [hlk, hdm]
    refine walk ?_
    refine finB [driveO b m] ?_ (hs := sub_fold (B := [dRow b mb m.Steps m.Armed (leftV m), dMap mb zs, bigL fA zs]) (Sub.refl _) hshut)
    exact ⟨rfl, rfl, rfl⟩
end Go.Proofs.Ytjafnombaehcaaa
