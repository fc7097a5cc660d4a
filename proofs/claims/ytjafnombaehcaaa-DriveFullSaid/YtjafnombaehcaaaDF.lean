/- A file's bytes, read. -/
import Derived.Test.YtjafnombaehcaaaDE
set_option linter.unusedVariables false
set_option linter.unusedSimpArgs false
namespace Go.Proofs.Ytjafnombaehcaaa
open Go Go.Sx Go.Proofs
instance {k : IntKind} : RdFlat (rNum k) := ⟨fun h => h⟩
theorem cloneB_spec {W0 : World} {H : Heap} {v : Value} {xs : List Int} (h0 : SlB rU8 1 1 H v xs) :
    Ct Try.prog 32 #[v] W0 H [] (fun r H' B => B = [ownS rU8 1 1 5 H r xs] ∧ H' = H) := by
  refine Ct.go fun R => ?_
  obtain ⟨b0, c0, rfl, hc0, hd0⟩ := h0.1.shape
  refine walk ?_
  refine ex_if rfl (fun h => ?_) (fun h => ?_)
  · subst h
    refine walk ?_
    obtain rfl : xs = [] := by
      obtain ⟨⟨cs, ⟨b, c, e, _, hl, _, h⟩, _⟩, _⟩ := h0
      cases e
      rcases h with h | ⟨b, off, h, _⟩
      · exact List.eq_nil_of_length_eq_zero h
      · cases h
    refine finB [ownS rU8 1 1 5 H (.slice none 0 0) []] ?_ (hs := ownS_nil)
    exact ⟨rfl, rfl⟩
  · refine walk ?_
    refine ops_mk0 (w := 1) rU8 rfl fun b => ?_
    refine walk ?_
    refine ops_appS rfl rfl h0.1 (by simpa using h0.2) fun base cap => ?_
    refine walk ?_
    refine finB [_] ?_
    exact ⟨rfl, rfl⟩
def readC (m : Drive) (n : ByteArray) : Int := if okN n then (if (atF m.Files n).isSome = true then 0 else 4) else 20
def readT (m : Drive) (n : ByteArray) : ByteArray := match atF m.Files n with | some f => f.B | none => tx []
set_option maxHeartbeats 4000000 in
theorem read_spec {W0 : World} {H : Heap} {b : Nat} {m : Drive} {n : ByteArray} (hn : n.size ≤ cap47) :
    Ct Try.prog 26 #[.pointer (some ⟨b, 0, none⟩), .string n] W0 H [driveO b m] (fun r H' B => ∃ v ns, r = .tuple #[v, I (readC m n)] ∧ tx ns = readT m n ∧ B = [ownS rU8 1 1 5 H v ns, driveO b m] ∧ H' = H) := by
  refine Ct.go (vs := [.pointer (some ⟨b, 0, none⟩), .string n]) fun R => ?_
  refine ex_open (A := driveO b m) (σ := Nat × List FE) (B := fun s => [dRow b s.1 m.Steps m.Armed (leftV m), dMap s.1 s.2, bigL fA s.2]) (p := fun s => DOk s.2 m) (by repeat (first | exact Has.here | apply Has.there)) (fun h ⟨mb, zs, hb, hk⟩ => ⟨(mb, zs), hk, hb⟩) fun ⟨mb, zs⟩ hk => ?_
  dsimp only at hk ⊢
  obtain ⟨⟨hrel, hok⟩, hz, hrest⟩ := hk
  have hshut : ∀ h, big [dRow b mb m.Steps m.Armed (leftV m), dMap mb zs, bigL fA zs] h → driveO b m h := fun h hb => ⟨mb, zs, hb, ⟨hrel, hok⟩, hz, hrest⟩
  refine walk ?_
  refine ops_pcall rfl rfl (find_spec hn) ?_
  unfold findV
  by_cases hok0 : okN n
  rotate_left
  · have hno : ∀ e ∈ zs, e.nm ≠ n := fun e he h => hok0 (by rw [← h]; exact (hok e he).1)
    rw [if_neg hok0]
    refine walk ?_
    refine finB [ownS rU8 1 1 5 H nilS [], driveO b m] ?_ (hs := ?_)
    · exact ⟨nilS, [], by unfold readC; rw [if_neg hok0], by unfold readT; rw [at_out hrel hno], rfl, rfl⟩
    · exact (sub_fold (B := [dRow b mb m.Steps m.Armed (leftV m), dMap mb zs, bigL fA zs]) (Sub.refl _) hshut).trans ownS_nil
  rw [if_pos hok0]
  rcases name_cases zs n with ⟨l1, e, l2, rfl, rfl⟩ | hno
  · have he : e ∈ l1 ++ e :: l2 := by simp
    have hat := at_in hrel he
    rw [get_in hrel he]
    obtain ⟨n, pf, v, bs, sy⟩ := e
    dsimp only at *
    refine ops_L (L' := row pf 67 [v, I sy] :: ownS rU8 1 1 5 Heap.empty v bs :: bigL fA (l1 ++ l2) :: dRow b mb m.Steps m.Armed (leftV m) :: dMap mb (l1 ++ ⟨n, pf, v, bs, sy⟩ :: l2) :: R) (Sub.trans (by (repeat (first | exact Sub.refl _ | exact Sub.nil _ | (apply sub_pick; (repeat (first | exact Has.here | apply Has.there)); skip) | apply Sub.drop))) (zs_out (e := ⟨n, pf, v, bs, sy⟩))) ?_
    refine ops_shape v fun d1 c1 hv _ _ _ => ?_
    subst hv
    refine walk ?_
    refine ops_lendS (.slice d1 bs.length c1) fun D hD hdj hleD hsD => ?_
    refine ops_call rfl rfl (cloneB_spec hsD) fun r2 H2 B hl2 ⟨eB, eH⟩ => ?_
    subst eB eH
    refine ops_back hD hdj (.refl _) ?_
    refine walk ?_
    refine finB [ownS rU8 1 1 5 H r2 bs, driveO b m] ?_ (hs := ?_)
    · exact ⟨r2, bs, by unfold readC; rw [if_pos hok0, hat]; rfl, by unfold readT; rw [hat]; rfl, rfl, rfl⟩
    · refine Sub.trans (show Sub _ (ownS rU8 1 1 5 (union H D) r2 bs :: row pf 67 [.slice d1 bs.length c1, I sy] :: ownS rU8 1 1 5 Heap.empty (.slice d1 bs.length c1) bs :: bigL fA (l1 ++ l2) :: dRow b mb m.Steps m.Armed (leftV m) :: dMap mb (l1 ++ ⟨n, pf, .slice d1 bs.length c1, bs, sy⟩ :: l2) :: R) from (by (repeat (first | exact Sub.refl _ | exact Sub.nil _ | (apply sub_pick; (repeat (first | exact Has.here | apply Has.there)); skip) | apply Sub.drop)))) ?_
      refine (sub_flat _ H).trans (Sub.cons ?_)
      refine (zs_in (e := ⟨n, pf, .slice d1 bs.length c1, bs, sy⟩)).trans ?_
      exact sub_fold (B := [dRow b mb m.Steps m.Armed (leftV m), dMap mb (l1 ++ ⟨n, pf, .slice d1 bs.length c1, bs, sy⟩ :: l2), bigL fA (l1 ++ ⟨n, pf, .slice d1 bs.length c1, bs, sy⟩ :: l2)]) (by (repeat (first | exact Sub.refl _ | exact Sub.nil _ | (apply sub_pick; (repeat (first | exact Has.here | apply Has.there)); skip) | apply Sub.drop))) hshut
  · rw [get_out hno]
    refine walk ?_
    refine finB [ownS rU8 1 1 5 H nilS [], driveO b m] ?_ (hs := ?_)
    · exact ⟨nilS, [], by unfold readC; rw [if_pos hok0, at_out hrel hno]; rfl, by unfold readT; rw [at_out hrel hno], rfl, rfl⟩
    · exact (sub_fold (B := [dRow b mb m.Steps m.Armed (leftV m), dMap mb zs, bigL fA zs]) (Sub.refl _) hshut).trans ownS_nil
end Go.Proofs.Ytjafnombaehcaaa
