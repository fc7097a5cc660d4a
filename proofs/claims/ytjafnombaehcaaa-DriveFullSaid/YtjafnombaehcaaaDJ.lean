/- Steps that change a drive: Append. -/
import Derived.Test.YtjafnombaehcaaaDI
set_option linter.unusedVariables false
set_option linter.unusedSimpArgs false
namespace Go.Proofs.Ytjafnombaehcaaa
open Go Go.Sx Go.Proofs
/-- what Append answers -/
def appC (m : Drive) (n : ByteArray) (k : Nat) : Int := if okN n then (if ((atF m.Files n).isSome = false ∧ 256 ≤ m.Files.length) ∨ 262144 < sizeV m n + k then 5 else (if deadD m then 6 else 0)) else 20
def appM (m : Drive) (n : ByteArray) (ns : List Int) : Drive := if appC m n ns.length = 0 then (match atF m.Files n with | some f => filesM (stepM m) (withF m.Files ⟨n, f.B ++ tx ns, f.Synced⟩) | none => filesM (stepM m) (withF m.Files ⟨n, tx ns, 0⟩)) else m
/-- Size, over the parts -/
theorem sizeP_spec {W0 : World} {H : Heap} {b mb : Nat} {st lf : Int} {ar : Bool} {zs : List FE} {m : Drive} {n : ByteArray} (hrel : RelF zs m.Files) :
    Ct Try.prog 13 #[.pointer (some ⟨b, 0, none⟩), .string n] W0 H [dRow b mb st ar lf, dMap mb zs, bigL fA zs] (fun r H' B => r = I (sizeV m n) ∧ B = [dRow b mb st ar lf, dMap mb zs, bigL fA zs] ∧ H' = H) := by
  refine Ct.go (vs := [.pointer (some ⟨b, 0, none⟩), .string n]) fun R => ?_
  refine walk ?_
  refine ops_lkO (RV := rVal) (val := fun x : Value => x) (z := nilP) rfl rfl ((by repeat (first | exact Has.here | apply Has.there))) ?_
  rcases name_cases zs n with ⟨l1, e, l2, rfl, rfl⟩ | hno
  · have he : e ∈ l1 ++ e :: l2 := by simp
    rw [get_in hrel he, Option.getD_some, sizeV_in hrel he]
    obtain ⟨n, pf, v, bs, sy⟩ := e
    dsimp only at *
    refine ops_L (L' := row pf 67 [v, I sy] :: ownS rU8 1 1 5 Heap.empty v bs :: bigL fA (l1 ++ l2) :: dRow b mb st ar lf :: dMap mb (l1 ++ ⟨n, pf, v, bs, sy⟩ :: l2) :: R) (Sub.trans (by (repeat (first | exact Sub.refl _ | exact Sub.nil _ | (apply sub_pick; (repeat (first | exact Has.here | apply Has.there)); skip) | apply Sub.drop))) (zs_out (e := ⟨n, pf, v, bs, sy⟩))) ?_
    refine ops_shape v fun d1 c1 hv _ _ _ => ?_
    subst hv
    refine walk ?_
    refine finB [dRow b mb st ar lf, dMap mb (l1 ++ ⟨n, pf, .slice d1 bs.length c1, bs, sy⟩ :: l2), bigL fA (l1 ++ ⟨n, pf, .slice d1 bs.length c1, bs, sy⟩ :: l2)] ?_ (hs := ?_)
    · exact ⟨rfl, rfl, rfl⟩
    · refine Sub.trans (zs_in (e := ⟨n, pf, .slice d1 bs.length c1, bs, sy⟩)) ?_
      (repeat (first | exact Sub.refl _ | exact Sub.nil _ | (apply sub_pick; (repeat (first | exact Has.here | apply Has.there)); skip) | apply Sub.drop))
  · rw [get_out hno, Option.getD_none, sizeV_out hrel hno]
    refine walk ?_
    refine finB [dRow b mb st ar lf, dMap mb zs, bigL fA zs] ?_
    exact ⟨rfl, rfl, rfl⟩
set_option maxHeartbeats 8000000 in
theorem append_spec {W0 : World} {H : Heap} {b : Nat} {m : Drive} {n : ByteArray} {v0 : Value} {ns : List Int} (hn : n.size ≤ cap47) (hst : m.Steps ≤ 1000000000) (h0 : SlB rU8 1 1 H v0 ns) :
    Ct Try.prog 10 #[.pointer (some ⟨b, 0, none⟩), .string n, v0] W0 H [driveO b m] (fun r H' B => r = I (appC m n ns.length) ∧ B = [driveO b (appM m n ns)] ∧ H' = H) := by
  refine Ct.go (vs := [.pointer (some ⟨b, 0, none⟩), .string n, v0]) fun R => ?_
  obtain ⟨bb, cc, rfl, _, _⟩ := h0.1.shape
  refine ex_open (A := driveO b m) (σ := Nat × List FE) (B := fun s => [dRow b s.1 m.Steps m.Armed (leftV m), dMap s.1 s.2, bigL fA s.2]) (p := fun s => DOk s.2 m) (by repeat (first | exact Has.here | apply Has.there)) (fun h ⟨mb, zs, hb, hk⟩ => ⟨(mb, zs), hk, hb⟩) fun ⟨mb, zs⟩ hk => ?_
  dsimp only at hk ⊢
  have hk' := hk
  obtain ⟨⟨hrel, hok⟩, hz, hst0, harm, hun⟩ := hk
  have hshut : ∀ h, big [dRow b mb m.Steps m.Armed (leftV m), dMap mb zs, bigL fA zs] h → driveO b m h := fun h hb => ⟨mb, zs, hb, hk'⟩
  have f1 : fits (m.Steps + 1) := by unfold fits; omega
  have f2 := left_fits ⟨hst0, hst⟩ harm
  have hdd := dead_iff (m := m) fun h => (harm h).1
  refine walk ?_
  refine ops_pcall rfl rfl (find_spec hn) ?_
  unfold findV
  by_cases hok0 : okN n
  rotate_left
  · have hc : appC m n ns.length = 20 := by unfold appC; rw [if_neg hok0]
    have hdm : appM m n ns = m := by unfold appM; rw [hc]; rfl
    rw [if_neg hok0, hc, hdm]
    refine walk ?_
    refine finB [driveO b m] ?_ (hs := sub_fold (B := [dRow b mb m.Steps m.Armed (leftV m), dMap mb zs, bigL fA zs]) (Sub.refl _) hshut)
    exact ⟨rfl, rfl, rfl⟩
  rw [if_pos hok0]
  rcases name_cases zs n with ⟨l1, e, l2, rfl, rfl⟩ | hno
  · have he : e ∈ l1 ++ e :: l2 := by simp
    have hat := at_in hrel he
    rw [get_in hrel he]
    refine walk ?_
    refine ops_pcall rfl rfl (sizeP_spec (n := e.nm) hrel) ?_
    rw [sizeV_in hrel he]
    have hoe := hok e he
    have hlo := hoe.2.1
    have hnl := h0.2
    simp only [cap47] at hnl
    refine walk ?_
    refine ex_if rfl (fun hq => ?_) (fun hq => ?_)
    · have hc : appC m e.nm ns.length = 5 := by unfold appC; rw [if_pos hok0, if_pos (.inr (by rw [sizeV_in hrel he]; exact hq))]
      have hdm : appM m e.nm ns = m := by unfold appM; rw [hc]; rfl
      rw [hc, hdm]
      refine walk ?_
      refine finB [driveO b m] ?_ (hs := sub_fold (B := [dRow b mb m.Steps m.Armed (leftV m), dMap mb (l1 ++ e :: l2), bigL fA (l1 ++ e :: l2)]) (Sub.refl _) hshut)
      exact ⟨rfl, rfl, rfl⟩
    have hnf : ¬ (((atF m.Files e.nm).isSome = false ∧ 256 ≤ m.Files.length) ∨ 262144 < sizeV m e.nm + ns.length) := by
      rw [hat, sizeV_in hrel he]
      rintro (⟨h, _⟩ | h)
      · cases h
      · exact hq h
    refine walk ?_
    refine ops_call rfl rfl (step_spec (b := b) (mb := mb) (ar := m.Armed) f1 f2) fun r2 H2 B hl2 ⟨er, eB, eH⟩ => ?_
    subst er eB eH
    by_cases hd : deadV m.Armed (leftV m)
    · have hc : appC m e.nm ns.length = 6 := by unfold appC; rw [if_pos hok0, if_neg hnf, if_pos (hdd.1 hd)]
      have hdm : appM m e.nm ns = m := by unfold appM; rw [hc]; rfl
      rw [if_pos hd, if_pos hd, if_pos hd, hc, hdm]
      refine walk ?_
      refine finB [driveO b m] ?_ (hs := sub_fold (B := [dRow b mb m.Steps m.Armed (leftV m), dMap mb (l1 ++ e :: l2), bigL fA (l1 ++ e :: l2)]) (by (repeat (first | exact Sub.refl _ | exact Sub.nil _ | (apply sub_pick; (repeat (first | exact Has.here | apply Has.there)); skip) | apply Sub.drop))) hshut)
      exact ⟨rfl, rfl, rfl⟩
    have hnd : ¬ deadD m := fun e1 => hd (hdd.2 e1)
    have hc : appC m e.nm ns.length = 0 := by unfold appC; rw [if_pos hok0, if_neg hnf, if_neg hnd]
    have hdm : appM m e.nm ns = filesM (stepM m) (withF m.Files ⟨e.nm, tx (e.bs ++ ns), e.sy⟩) := by unfold appM; rw [if_pos hc, hat]; simp [FE.f, tx_app]
    rw [if_neg hd, if_neg hd, if_neg hd, hc, hdm]
    obtain ⟨n, pf, v, bs, sy⟩ := e
    dsimp only at *
    refine ops_L (L' := row pf 67 [v, I sy] :: ownS rU8 1 1 5 Heap.empty v bs :: bigL fA (l1 ++ l2) :: dRow b mb (m.Steps + 1) m.Armed (leftV m - 1) :: dMap mb (l1 ++ ⟨n, pf, v, bs, sy⟩ :: l2) :: R) (Sub.trans (by (repeat (first | exact Sub.refl _ | exact Sub.nil _ | (apply sub_pick; (repeat (first | exact Has.here | apply Has.there)); skip) | apply Sub.drop))) (zs_out (e := ⟨n, pf, v, bs, sy⟩))) ?_
    refine ops_shape v fun d1 c1 hv _ _ _ => ?_
    subst hv
    have hbl : (l1 ++ ⟨n, pf, .slice d1 bs.length c1, bs, sy⟩ :: l2).length ≤ 256 := hz
    refine walk ?_
    refine ops_appS (hl := empty_le _) rfl rfl h0.1 (by simp only [cap47]; omega) fun d2 c2 => ?_
    have hbn : (bs ++ ns).length = bs.length + ns.length := List.length_append
    rw [← hbn]
    refine walk ?_
    have hr2 := rel_set (e' := ⟨n, pf, .slice d2 (bs ++ ns).length c2, bs ++ ns, sy⟩) hrel rfl
    have hk2 := ok_files (ok_step hk' hnd) hr2 (fun x hx => by
      simp only [List.mem_append, List.mem_cons] at hx
      rcases hx with h | h | h
      · exact hok x (by simp [h])
      · subst h
        exact ⟨hoe.1, by simp only [hbn]; omega, hoe.2.2.1, by have := hoe.2.2.2; simp only [hbn] at *; omega⟩
      · exact hok x (by simp [h])) (by simp only [List.length_append, List.length_cons] at hbl ⊢; omega)
    refine finB [driveO b (filesM (stepM m) (withF m.Files ⟨n, tx (bs ++ ns), sy⟩))] ?_ (hs := ?_)
    · exact ⟨rfl, rfl, rfl⟩
    · refine (sub_flat _ Heap.empty).trans ?_
      refine sub_fold (B := [dRow b mb (m.Steps + 1) m.Armed (leftV m - 1), dMap mb (l1 ++ ⟨n, pf, .slice d2 (bs ++ ns).length c2, bs ++ ns, sy⟩ :: l2), bigL fA (l1 ++ ⟨n, pf, .slice d2 (bs ++ ns).length c2, bs ++ ns, sy⟩ :: l2)]) ?_ fun h hb => ⟨mb, _, by rw [left_files, left_step]; exact hb, hk2⟩
      have hms : msF (l1 ++ ⟨n, pf, .slice d1 bs.length c1, bs, sy⟩ :: l2) = msF (l1 ++ ⟨n, pf, .slice d2 (bs ++ ns).length c2, bs ++ ns, sy⟩ :: l2) := by simp [msF]
      rw [dMap, hms]
      refine Sub.trans (show Sub _ (row pf 67 [.slice d2 (bs ++ ns).length c2, I sy] :: ownS rU8 1 1 5 Heap.empty (.slice d2 (bs ++ ns).length c2) (bs ++ ns) :: bigL fA (l1 ++ l2) :: dRow b mb (m.Steps + 1) m.Armed (leftV m - 1) :: mapO Value.string rVal false Heap.empty mb (msF (l1 ++ ⟨n, pf, .slice d2 (bs ++ ns).length c2, bs ++ ns, sy⟩ :: l2)) :: R) from (by (repeat (first | exact Sub.refl _ | exact Sub.nil _ | (apply sub_pick; (repeat (first | exact Has.here | apply Has.there)); skip) | apply Sub.drop)))) ?_
      refine Sub.trans (zs_in (e := ⟨n, pf, .slice d2 (bs ++ ns).length c2, bs ++ ns, sy⟩)) ?_
      (repeat (first | exact Sub.refl _ | exact Sub.nil _ | (apply sub_pick; (repeat (first | exact Has.here | apply Has.there)); skip) | apply Sub.drop))
  · have hat := at_out hrel hno
    have hfl : m.Files.length = zs.length := hrel.len.symm
    rw [get_out hno]
    refine walk ?_
    refine ops_mlen (RV := rVal) rfl rfl ((by repeat (first | exact Has.here | apply Has.there))) ?_
    rw [show (msF zs).length = zs.length by simp [msF]]
    by_cases hq : (256 : Int) ≤ (zs.length : Int)
    · have hc : appC m n ns.length = 5 := by unfold appC; rw [if_pos hok0, if_pos (.inl ⟨by rw [hat]; rfl, by rw [hfl]; omega⟩)]
      have hdm : appM m n ns = m := by unfold appM; rw [hc]; rfl
      rw [hc, hdm]
      refine walk ?_
      refine finB [driveO b m] ?_ (hs := sub_fold (B := [dRow b mb m.Steps m.Armed (leftV m), dMap mb zs, bigL fA zs]) (Sub.refl _) hshut)
      exact ⟨rfl, rfl, rfl⟩
    refine walk ?_
    refine ops_pcall rfl rfl (sizeP_spec (n := n) hrel) ?_
    rw [sizeV_out hrel hno]
    have hnl := h0.2
    simp only [cap47] at hnl
    refine walk ?_
    refine ex_if rfl (fun hq2 => ?_) (fun hq2 => ?_)
    · have hc : appC m n ns.length = 5 := by unfold appC; rw [if_pos hok0, if_pos (.inr (by rw [sizeV_out hrel hno]; exact hq2))]
      have hdm : appM m n ns = m := by unfold appM; rw [hc]; rfl
      rw [hc, hdm]
      refine walk ?_
      refine finB [driveO b m] ?_ (hs := sub_fold (B := [dRow b mb m.Steps m.Armed (leftV m), dMap mb zs, bigL fA zs]) (Sub.refl _) hshut)
      exact ⟨rfl, rfl, rfl⟩
    have hnf : ¬ (((atF m.Files n).isSome = false ∧ 256 ≤ m.Files.length) ∨ 262144 < sizeV m n + ns.length) := by
      rw [sizeV_out hrel hno]
      rintro (⟨_, h⟩ | h)
      · rw [hfl] at h; omega
      · exact hq2 h
    refine walk ?_
    refine ops_call rfl rfl (step_spec (b := b) (mb := mb) (ar := m.Armed) f1 f2) fun r2 H2 B hl2 ⟨er, eB, eH⟩ => ?_
    subst er eB eH
    by_cases hd : deadV m.Armed (leftV m)
    · have hc : appC m n ns.length = 6 := by unfold appC; rw [if_pos hok0, if_neg hnf, if_pos (hdd.1 hd)]
      have hdm : appM m n ns = m := by unfold appM; rw [hc]; rfl
      rw [if_pos hd, if_pos hd, if_pos hd, hc, hdm]
      refine walk ?_
      refine finB [driveO b m] ?_ (hs := sub_fold (B := [dRow b mb m.Steps m.Armed (leftV m), dMap mb zs, bigL fA zs]) (by (repeat (first | exact Sub.refl _ | exact Sub.nil _ | (apply sub_pick; (repeat (first | exact Has.here | apply Has.there)); skip) | apply Sub.drop))) hshut)
      exact ⟨rfl, rfl, rfl⟩
    have hnd : ¬ deadD m := fun e1 => hd (hdd.2 e1)
    have hc : appC m n ns.length = 0 := by unfold appC; rw [if_pos hok0, if_neg hnf, if_neg hnd]
    have hdm : appM m n ns = filesM (stepM m) (withF m.Files ⟨n, tx ns, 0⟩) := by unfold appM; rw [if_pos hc, hat]
    rw [if_neg hd, if_neg hd, if_neg hd, hc, hdm]
    refine walk ?_
    refine ops_box rfl rfl fun p _ => ?_
    refine walk ?_
    refine ops_update (RV := rVal) (u := ptr p) (cs := [ptr p]) rfl rfl (show rVal Heap.empty [ptr p] (ptr p) from ⟨rfl, rfl⟩) (by repeat (first | exact Has.here | apply Has.there)) ?_
    rw [ms_new (e := ⟨n, p, nilS, [], 0⟩) hno]
    refine walk ?_
    refine ops_L (L' := ownS rU8 1 1 5 Heap.empty nilS [] :: dRow b mb (m.Steps + 1) m.Armed (leftV m - 1) :: dMap mb (zs ++ [⟨n, p, nilS, [], 0⟩]) :: bigL fA zs :: row p 67 [nilS, I 0] :: R) (Sub.trans (by (repeat (first | exact Sub.refl _ | exact Sub.nil _ | (apply sub_pick; (repeat (first | exact Has.here | apply Has.there)); skip) | apply Sub.drop))) ownS_nil) ?_
    refine ops_appS (hl := empty_le _) rfl rfl h0.1 (by simpa using h0.2) fun d2 c2 => ?_
    rw [List.nil_append, show ([] : List Int).length + ns.length = ns.length from Nat.zero_add _]
    refine walk ?_
    have hr2 := rel_new (e := ⟨n, p, .slice d2 ns.length c2, ns, 0⟩) hrel hno
    have hk2 := ok_files (ok_step hk' hnd) hr2 (fun x hx => by
      rcases List.mem_append.1 hx with h | h
      · exact hok x h
      · rw [List.mem_singleton.1 h]
        exact ⟨hok0, by simp only; omega, Int.le_refl _, by simp only; omega⟩) (by simp only [List.length_append, List.length_cons, List.length_nil]; omega)
    refine finB [driveO b (filesM (stepM m) (withF m.Files ⟨n, tx ns, 0⟩))] ?_ (hs := ?_)
    · exact ⟨rfl, rfl, rfl⟩
    · refine (sub_flat _ Heap.empty).trans ?_
      refine sub_fold (B := [dRow b mb (m.Steps + 1) m.Armed (leftV m - 1), dMap mb (zs ++ [⟨n, p, .slice d2 ns.length c2, ns, 0⟩]), bigL fA (zs ++ [⟨n, p, .slice d2 ns.length c2, ns, 0⟩])]) ?_ fun h hb => ⟨mb, _, by rw [left_files, left_step]; exact hb, hk2⟩
      have hms : msF (zs ++ [⟨n, p, nilS, [], 0⟩]) = msF (zs ++ [⟨n, p, .slice d2 ns.length c2, ns, 0⟩]) := by simp [msF]
      rw [dMap, hms]
      refine Sub.trans (show Sub _ (row p 67 [.slice d2 ns.length c2, I 0] :: ownS rU8 1 1 5 Heap.empty (.slice d2 ns.length c2) ns :: bigL fA (zs ++ []) :: dRow b mb (m.Steps + 1) m.Armed (leftV m - 1) :: mapO Value.string rVal false Heap.empty mb (msF (zs ++ [⟨n, p, .slice d2 ns.length c2, ns, 0⟩])) :: R) from by rw [List.append_nil]; exact (by (repeat (first | exact Sub.refl _ | exact Sub.nil _ | (apply sub_pick; (repeat (first | exact Has.here | apply Has.there)); skip) | apply Sub.drop)))) ?_
      refine Sub.trans (zs_in (e := ⟨n, p, .slice d2 ns.length c2, ns, 0⟩)) ?_
      (repeat (first | exact Sub.refl _ | exact Sub.nil _ | (apply sub_pick; (repeat (first | exact Has.here | apply Has.there)); skip) | apply Sub.drop))
end Go.Proofs.Ytjafnombaehcaaa
