/- Steps that change a drive: Rename. -/
import Derived.Test.YtjafnombaehcaaaDJ
set_option linter.unusedVariables false
set_option linter.unusedSimpArgs false
namespace Go.Proofs.Ytjafnombaehcaaa
open Go Go.Sx Go.Proofs
def renC (m : Drive) (n t : ByteArray) : Int := if okN t then lookM m n else 20
def renM (m : Drive) (n t : ByteArray) : Drive := if renC m n t = 0 then (match atF m.Files n with | some f => filesM (stepM m) (withF (outF (outF m.Files n) t) ⟨t, f.B, f.Synced⟩) | none => m) else m
theorem rel_perm {zs zs' : List FE} {fs : List RF} (h : RelF zs fs) (hp : zs.Perm zs') : RelF zs' fs := ⟨((hp.map FE.f).symm).trans h.1, h.2⟩
theorem out_self {zs : List FE} {fs : List RF} {t : ByteArray} (h : RelF zs fs) (hn : ∀ e ∈ zs, e.nm ≠ t) : outF fs t = fs := outF_none fun g hg => by
  obtain ⟨x, hx, rfl⟩ := List.mem_map.1 (h.1.mem_iff.2 hg)
  exact hn x hx
/-- the file under its new name -/
def FE.as (e : FE) (t : ByteArray) : FE := ⟨t, e.pf, e.v, e.bs, e.sy⟩
/-- the entries behind a renaming -/
theorem ren_map {zs : List FE} {fs : List RF} {e : FE} {t : ByteArray} (h : RelF zs fs) : ∃ a1 a2, mset t (ptr e.pf) (msF zs) = msF (a1 ++ e.as t :: a2) ∧ RelF (a1 ++ e.as t :: a2) (withF (outF fs t) (e.as t).f) ∧ (∀ x ∈ a1 ++ a2, x ∈ zs) ∧ (a1 ++ a2).length ≤ zs.length ∧ ∀ L, Sub (bigL fA zs :: L) (bigL fA (a1 ++ a2) :: L) := by
  rcases name_cases zs t with ⟨a1, e2, a2, rfl, rfl⟩ | hno
  · refine ⟨a1, a2, ms_set (e' := e.as e2.nm) h.names rfl, ?_, fun x hx => ?_, by simp, fun L => ?_⟩
    · have h1 := rel_del h
      have hno : ∀ x ∈ a1 ++ a2, x.nm ≠ (e.as e2.nm).nm := by
        intro x hx hxe
        have hn := h.names
        rw [List.map_append, List.map_cons] at hn
        have hn' := (List.perm_middle (a := e2.nm) (l₁ := a1.map FE.nm) (l₂ := a2.map FE.nm)).nodup_iff.1 hn
        rw [List.nodup_cons, ← List.map_append] at hn'
        exact hn'.1 (List.mem_map.2 ⟨x, hx, hxe⟩)
      have h2 := rel_new (e := e.as e2.nm) h1 hno
      exact rel_perm h2 ((List.perm_append_singleton _ _).trans List.perm_middle.symm)
    · simp only [List.mem_append, List.mem_cons] at hx ⊢
      rcases hx with h | h
      · exact .inl h
      · exact .inr (.inr h)
    · exact bigL_out.trans (Sub.drop (Sub.refl _))
  · refine ⟨zs, [], ms_new (e := e.as t) hno, ?_, fun x hx => by simpa using hx, by simp, fun L => by rw [List.append_nil]; exact Sub.refl _⟩
    rw [out_self h hno]
    exact rel_new (e := e.as t) h hno
set_option maxHeartbeats 8000000 in
theorem rename_spec {W0 : World} {H : Heap} {b : Nat} {m : Drive} {n t : ByteArray} (hn : n.size ≤ cap47) (ht : t.size ≤ cap47) (hst : m.Steps ≤ 1000000000) :
    Ct Try.prog 11 #[.pointer (some ⟨b, 0, none⟩), .string n, .string t] W0 H [driveO b m] (fun r H' B => r = I (renC m n t) ∧ B = [driveO b (renM m n t)] ∧ H' = H) := by
  refine Ct.go (vs := [.pointer (some ⟨b, 0, none⟩), .string n, .string t]) fun R => ?_
  refine ex_open (A := driveO b m) (σ := Nat × List FE) (B := fun s => [dRow b s.1 m.Steps m.Armed (leftV m), dMap s.1 s.2, bigL fA s.2]) (p := fun s => DOk s.2 m) (by repeat (first | exact Has.here | apply Has.there)) (fun h ⟨mb, zs, hb, hk⟩ => ⟨(mb, zs), hk, hb⟩) fun ⟨mb, zs⟩ hk => ?_
  dsimp only at hk ⊢
  have hk' := hk
  obtain ⟨⟨hrel, hok⟩, hz, hst0, harm, hun⟩ := hk
  have hshut : ∀ h, big [dRow b mb m.Steps m.Armed (leftV m), dMap mb zs, bigL fA zs] h → driveO b m h := fun h hb => ⟨mb, zs, hb, hk'⟩
  have f1 : fits (m.Steps + 1) := by unfold fits; omega
  have f2 := left_fits ⟨hst0, hst⟩ harm
  have hdd := dead_iff (m := m) fun h => (harm h).1
  refine walk ?_
  refine ops_pcall rfl rfl (find_spec hn) ?_
  unfold findV
  by_cases hokt : okN t
  rotate_left
  · have hc : renC m n t = 20 := by unfold renC; rw [if_neg hokt]
    have hdm : renM m n t = m := by unfold renM; rw [hc]; rfl
    rw [hc, hdm]
    by_cases hok0 : okN n
    · rw [if_pos hok0]
      rcases name_cases zs n with ⟨l1, e, l2, rfl, rfl⟩ | hno
      · have he : e ∈ l1 ++ e :: l2 := by simp
        rw [get_in hrel he]
        refine walk ?_
        refine ops_pcall rfl rfl (goodN_spec ht) ?_
        rw [decide_eq_false hokt]
        refine walk ?_
        refine finB [driveO b m] ?_ (hs := sub_fold (B := [dRow b mb m.Steps m.Armed (leftV m), dMap mb (l1 ++ e :: l2), bigL fA (l1 ++ e :: l2)]) (Sub.refl _) hshut)
        exact ⟨rfl, rfl, rfl⟩
      · rw [get_out hno]
        refine walk ?_
        refine ops_pcall rfl rfl (goodN_spec ht) ?_
        rw [decide_eq_false hokt]
        refine walk ?_
        refine finB [driveO b m] ?_ (hs := sub_fold (B := [dRow b mb m.Steps m.Armed (leftV m), dMap mb zs, bigL fA zs]) (Sub.refl _) hshut)
        exact ⟨rfl, rfl, rfl⟩
    · rw [if_neg hok0]
      refine walk ?_
      refine ops_pcall rfl rfl (goodN_spec ht) ?_
      rw [decide_eq_false hokt]
      refine walk ?_
      refine finB [driveO b m] ?_ (hs := sub_fold (B := [dRow b mb m.Steps m.Armed (leftV m), dMap mb zs, bigL fA zs]) (Sub.refl _) hshut)
      exact ⟨rfl, rfl, rfl⟩
  have hct : renC m n t = lookM m n := by unfold renC; rw [if_pos hokt]
  by_cases hok0 : okN n
  rotate_left
  · have hlk : lookM m n = 20 := by unfold lookM; rw [if_neg hok0]
    have hdm : renM m n t = m := by unfold renM; rw [hct, hlk]; rfl
    rw [if_neg hok0, hct, hlk, hdm]
    refine walk ?_
    refine ops_pcall rfl rfl (goodN_spec ht) ?_
    rw [decide_eq_true hokt]
    refine walk ?_
    refine finB [driveO b m] ?_ (hs := sub_fold (B := [dRow b mb m.Steps m.Armed (leftV m), dMap mb zs, bigL fA zs]) (Sub.refl _) hshut)
    exact ⟨rfl, rfl, rfl⟩
  rw [if_pos hok0]
  rcases name_cases zs n with ⟨l1, e, l2, rfl, rfl⟩ | hno
  · have he : e ∈ l1 ++ e :: l2 := by simp
    have hat := at_in hrel he
    rw [get_in hrel he]
    refine walk ?_
    refine ops_pcall rfl rfl (goodN_spec ht) ?_
    rw [decide_eq_true hokt]
    refine walk ?_
    refine ops_call rfl rfl (step_spec (b := b) (mb := mb) (ar := m.Armed) f1 f2) fun r2 H2 B hl2 ⟨er, eB, eH⟩ => ?_
    subst er eB eH
    by_cases hd : deadV m.Armed (leftV m)
    · have hlk : lookM m e.nm = 6 := by unfold lookM; rw [if_pos hok0, hat, if_pos (show (some e.f).isSome = true from rfl), if_pos (hdd.1 hd)]
      have hdm : renM m e.nm t = m := by unfold renM; rw [hct, hlk]; rfl
      rw [if_pos hd, if_pos hd, if_pos hd, hct, hlk, hdm]
      refine walk ?_
      refine finB [driveO b m] ?_ (hs := sub_fold (B := [dRow b mb m.Steps m.Armed (leftV m), dMap mb (l1 ++ e :: l2), bigL fA (l1 ++ e :: l2)]) (by (repeat (first | exact Sub.refl _ | exact Sub.nil _ | (apply sub_pick; (repeat (first | exact Has.here | apply Has.there)); skip) | apply Sub.drop))) hshut)
      exact ⟨rfl, rfl, rfl⟩
    have hnd : ¬ deadD m := fun e1 => hd (hdd.2 e1)
    have hlk : lookM m e.nm = 0 := by unfold lookM; rw [if_pos hok0, hat, if_pos (show (some e.f).isSome = true from rfl), if_neg hnd]
    have hdm : renM m e.nm t = filesM (stepM m) (withF (outF (outF m.Files e.nm) t) (e.as t).f) := by unfold renM; rw [if_pos (hct.trans hlk), hat]; rfl
    rw [if_neg hd, if_neg hd, if_neg hd, hct, hlk, hdm]
    refine walk ?_
    refine ops_delete (RV := rVal) rfl ((by repeat (first | exact Has.here | apply Has.there))) ?_
    rw [ms_del hrel.names]
    refine walk ?_
    refine ops_update (RV := rVal) (u := ptr e.pf) (cs := [ptr e.pf]) rfl rfl (show rVal Heap.empty [ptr e.pf] (ptr e.pf) from ⟨rfl, rfl⟩) (by repeat (first | exact Has.here | apply Has.there)) ?_
    obtain ⟨a1, a2, hm1, hr2, hm2, hl2, hs2⟩ := ren_map (e := e) (t := t) (rel_del hrel)
    rw [hm1]
    have hoe := hok e he
    have hk2 := ok_files (ok_step hk' hnd) hr2 (fun x hx => by
      simp only [List.mem_append, List.mem_cons] at hx
      have hin : x ∈ a1 ++ a2 ∨ x = e.as t := by
        rcases hx with h | h | h
        · exact .inl (by simp [h])
        · exact .inr h
        · exact .inl (by simp [h])
      rcases hin with h | h
      · refine hok x ?_
        have := hm2 x h
        simp only [List.mem_append, List.mem_cons] at this ⊢
        rcases this with h | h
        · exact .inl h
        · exact .inr (.inr h)
      · rw [h]
        exact ⟨hokt, hoe.2⟩) (by simp only [List.length_append, List.length_cons] at hz hl2 ⊢; omega)
    refine walk ?_
    refine finB [driveO b (filesM (stepM m) (withF (outF (outF m.Files e.nm) t) (e.as t).f))] ?_ (hs := ?_)
    · exact ⟨rfl, rfl, rfl⟩
    · refine sub_fold (B := [dRow b mb (m.Steps + 1) m.Armed (leftV m - 1), dMap mb (a1 ++ e.as t :: a2), bigL fA (a1 ++ e.as t :: a2)]) ?_ fun h hb => ⟨mb, _, by rw [left_files, left_step]; exact hb, hk2⟩
      refine Sub.trans (show Sub _ (bigL fA (l1 ++ e :: l2) :: dRow b mb (m.Steps + 1) m.Armed (leftV m - 1) :: dMap mb (a1 ++ e.as t :: a2) :: R) from (by (repeat (first | exact Sub.refl _ | exact Sub.nil _ | (apply sub_pick; (repeat (first | exact Has.here | apply Has.there)); skip) | apply Sub.drop)))) ?_
      refine bigL_out.trans ((Sub.cons (hs2 _)).trans ?_)
      refine Sub.trans (show Sub _ (fA (e.as t) :: bigL fA (a1 ++ a2) :: dRow b mb (m.Steps + 1) m.Armed (leftV m - 1) :: dMap mb (a1 ++ e.as t :: a2) :: R) from Sub.refl _) ?_
      refine bigL_in.trans ?_
      (repeat (first | exact Sub.refl _ | exact Sub.nil _ | (apply sub_pick; (repeat (first | exact Has.here | apply Has.there)); skip) | apply Sub.drop))
  · rw [get_out hno]
    have hlk : lookM m n = 4 := by unfold lookM; rw [if_pos hok0, at_out hrel hno]; rfl
    have hdm : renM m n t = m := by unfold renM; rw [hct, hlk]; rfl
    rw [hct, hlk, hdm]
    refine walk ?_
    refine ops_pcall rfl rfl (goodN_spec ht) ?_
    rw [decide_eq_true hokt]
    refine walk ?_
    refine finB [driveO b m] ?_ (hs := sub_fold (B := [dRow b mb m.Steps m.Armed (leftV m), dMap mb zs, bigL fA zs]) (Sub.refl _) hshut)
    exact ⟨rfl, rfl, rfl⟩
end Go.Proofs.Ytjafnombaehcaaa
