/- A drive as an object that is owned; what is asked of it. -/
import Derived.Test.YtjafnombaehcaaaDD
set_option linter.unusedVariables false
set_option linter.unusedSimpArgs false
namespace Go.Proofs.Ytjafnombaehcaaa
open Go Go.Sx Go.Proofs
abbrev rU8 : Rd Int := rNum .u8
abbrev fRow (e : FE) : HProp := row e.pf 67 [e.v, I e.sy]
abbrev fOwn (e : FE) : HProp := ownS rU8 1 1 5 Heap.empty e.v e.bs
/-- a file, owned -/
def fA (e : FE) : HProp := fun h => big [fRow e, fOwn e] h
section
variable {e : FE} {l1 l2 : List FE} {L : List HProp}
theorem fA_open : Sub (fA e :: L) (fRow e :: fOwn e :: L) := sub_open (B := [fRow e, fOwn e]) fun _ h => h
theorem fA_shut : Sub (fRow e :: fOwn e :: L) (fA e :: L) := sub_shut (B := [fRow e, fOwn e]) fun _ h => h
theorem zs_out : Sub (bigL fA (l1 ++ e :: l2) :: L) (fRow e :: fOwn e :: bigL fA (l1 ++ l2) :: L) := bigL_out.trans fA_open
theorem zs_in : Sub (fRow e :: fOwn e :: bigL fA (l1 ++ l2) :: L) (bigL fA (l1 ++ e :: l2) :: L) := fA_shut.trans bigL_in
end
def okE (e : FE) : Prop := okN e.nm ∧ e.bs.length ≤ 262144 ∧ 0 ≤ e.sy ∧ e.sy ≤ e.bs.length
/-- steps that are left, as the program counts them -/
def leftV (m : Drive) : Int := if m.Armed = true then m.Left else -m.Steps
def DOk (zs : List FE) (m : Drive) : Prop := (RelF zs m.Files ∧ ∀ e ∈ zs, okE e) ∧ zs.length ≤ 256 ∧ 0 ≤ m.Steps ∧ (m.Armed = true → 0 ≤ m.Left ∧ fits m.Left) ∧ (m.Armed = false → m.Left = 0)
/-- a drive, owned: what it holds is m -/
def driveO (b : Nat) (m : Drive) : HProp := fun h => ∃ mb zs, big [dRow b mb m.Steps m.Armed (leftV m), dMap mb zs, bigL fA zs] h ∧ DOk zs m
def sizeV (m : Drive) (n : ByteArray) : Int := match atF m.Files n with | some f => f.B.size | none => 0
theorem sizeV_in {zs : List FE} {m : Drive} {e : FE} (h : RelF zs m.Files) (he : e ∈ zs) : sizeV m e.nm = e.bs.length := by
  unfold sizeV; rw [at_in h he]; simp [FE.f, tx_size]
theorem sizeV_out {zs : List FE} {m : Drive} {n : ByteArray} (h : RelF zs m.Files) (hn : ∀ e ∈ zs, e.nm ≠ n) : sizeV m n = 0 := by
  unfold sizeV; rw [at_out h hn]
set_option maxHeartbeats 4000000 in
theorem size_spec {W0 : World} {H : Heap} {b : Nat} {m : Drive} {n : ByteArray} :
    Ct Try.prog 13 #[.pointer (some ⟨b, 0, none⟩), .string n] W0 H [driveO b m] (fun r H' B => r = I (sizeV m n) ∧ B = [driveO b m] ∧ H' = H) := by
  refine Ct.go (vs := [.pointer (some ⟨b, 0, none⟩), .string n]) fun R => ?_
  refine ex_open (A := driveO b m) (σ := Nat × List FE) (B := fun s => [dRow b s.1 m.Steps m.Armed (leftV m), dMap s.1 s.2, bigL fA s.2]) (p := fun s => DOk s.2 m) (by repeat (first | exact Has.here | apply Has.there)) (fun h ⟨mb, zs, hb, hk⟩ => ⟨(mb, zs), hk, hb⟩) fun ⟨mb, zs⟩ hk => ?_
  dsimp only at hk ⊢
  obtain ⟨⟨hrel, hok⟩, hz, hrest⟩ := hk
  refine walk ?_
  refine ops_lkO (RV := rVal) (val := fun x : Value => x) (z := nilP) rfl rfl ((by repeat (first | exact Has.here | apply Has.there))) ?_
  rcases name_cases zs n with ⟨l1, e, l2, rfl, rfl⟩ | hno
  · have he : e ∈ l1 ++ e :: l2 := by simp
    rw [get_in hrel he, Option.getD_some, sizeV_in hrel he]
    obtain ⟨n, pf, v, bs, sy⟩ := e
    dsimp only at *
    refine ops_L (L' := row pf 67 [v, I sy] :: ownS rU8 1 1 5 Heap.empty v bs :: bigL fA (l1 ++ l2) :: dRow b mb m.Steps m.Armed (leftV m) :: dMap mb (l1 ++ ⟨n, pf, v, bs, sy⟩ :: l2) :: R) (Sub.trans (by (repeat (first | exact Sub.refl _ | exact Sub.nil _ | (apply sub_pick; (repeat (first | exact Has.here | apply Has.there)); skip) | apply Sub.drop))) (zs_out (e := ⟨n, pf, v, bs, sy⟩))) ?_
    refine ops_shape v fun d1 c1 hv _ _ _ => ?_
    subst hv
    refine walk ?_
    refine finB [driveO b m] ?_ (hs := ?_)
    · exact ⟨rfl, rfl, rfl⟩
    · refine sub_fold (B := [dRow b mb m.Steps m.Armed (leftV m), dMap mb (l1 ++ ⟨n, pf, .slice d1 bs.length c1, bs, sy⟩ :: l2), bigL fA (l1 ++ ⟨n, pf, .slice d1 bs.length c1, bs, sy⟩ :: l2)]) ?_ fun h hb => ⟨mb, _, hb, ⟨hrel, hok⟩, hz, hrest⟩
      refine Sub.trans (zs_in (e := ⟨n, pf, .slice d1 bs.length c1, bs, sy⟩)) ?_
      (repeat (first | exact Sub.refl _ | exact Sub.nil _ | (apply sub_pick; (repeat (first | exact Has.here | apply Has.there)); skip) | apply Sub.drop))
  · rw [get_out hno, Option.getD_none, sizeV_out hrel hno]
    refine walk ?_
    refine finB [driveO b m] ?_ (hs := ?_)
    · exact ⟨rfl, rfl, rfl⟩
    · exact sub_fold (B := [dRow b mb m.Steps m.Armed (leftV m), dMap mb zs, bigL fA zs]) (Sub.refl _) fun h hb => ⟨mb, zs, hb, ⟨hrel, hok⟩, hz, hrest⟩
def looseV (m : Drive) (n : ByteArray) : Int := match atF m.Files n with | some f => f.B.size - f.Synced | none => 0
theorem looseV_in {zs : List FE} {m : Drive} {e : FE} (h : RelF zs m.Files) (he : e ∈ zs) : looseV m e.nm = e.bs.length - e.sy := by
  unfold looseV; rw [at_in h he]; simp [FE.f, tx_size]
theorem looseV_out {zs : List FE} {m : Drive} {n : ByteArray} (h : RelF zs m.Files) (hn : ∀ e ∈ zs, e.nm ≠ n) : looseV m n = 0 := by
  unfold looseV; rw [at_out h hn]
set_option maxHeartbeats 4000000 in
theorem loose_spec {W0 : World} {H : Heap} {b : Nat} {m : Drive} {n : ByteArray} :
    Ct Try.prog 24 #[.pointer (some ⟨b, 0, none⟩), .string n] W0 H [driveO b m] (fun r H' B => r = I (looseV m n) ∧ B = [driveO b m] ∧ H' = H) := by
  refine Ct.go (vs := [.pointer (some ⟨b, 0, none⟩), .string n]) fun R => ?_
  refine ex_open (A := driveO b m) (σ := Nat × List FE) (B := fun s => [dRow b s.1 m.Steps m.Armed (leftV m), dMap s.1 s.2, bigL fA s.2]) (p := fun s => DOk s.2 m) (by repeat (first | exact Has.here | apply Has.there)) (fun h ⟨mb, zs, hb, hk⟩ => ⟨(mb, zs), hk, hb⟩) fun ⟨mb, zs⟩ hk => ?_
  dsimp only at hk ⊢
  obtain ⟨⟨hrel, hok⟩, hz, hrest⟩ := hk
  refine walk ?_
  refine ops_lkO (RV := rVal) (val := fun x : Value => x) (z := nilP) rfl rfl ((by repeat (first | exact Has.here | apply Has.there))) ?_
  rcases name_cases zs n with ⟨l1, e, l2, rfl, rfl⟩ | hno
  · have he : e ∈ l1 ++ e :: l2 := by simp
    obtain ⟨_, he1, he2, he3⟩ := hok e he
    rw [get_in hrel he, Option.getD_some, looseV_in hrel he]
    obtain ⟨n, pf, v, bs, sy⟩ := e
    dsimp only at *
    refine ops_L (L' := row pf 67 [v, I sy] :: ownS rU8 1 1 5 Heap.empty v bs :: bigL fA (l1 ++ l2) :: dRow b mb m.Steps m.Armed (leftV m) :: dMap mb (l1 ++ ⟨n, pf, v, bs, sy⟩ :: l2) :: R) (Sub.trans (by (repeat (first | exact Sub.refl _ | exact Sub.nil _ | (apply sub_pick; (repeat (first | exact Has.here | apply Has.there)); skip) | apply Sub.drop))) (zs_out (e := ⟨n, pf, v, bs, sy⟩))) ?_
    refine ops_shape v fun d1 c1 hv _ _ _ => ?_
    subst hv
    refine walk ?_
    refine finB [driveO b m] ?_ (hs := ?_)
    · exact ⟨rfl, rfl, rfl⟩
    · refine sub_fold (B := [dRow b mb m.Steps m.Armed (leftV m), dMap mb (l1 ++ ⟨n, pf, .slice d1 bs.length c1, bs, sy⟩ :: l2), bigL fA (l1 ++ ⟨n, pf, .slice d1 bs.length c1, bs, sy⟩ :: l2)]) ?_ fun h hb => ⟨mb, _, hb, ⟨hrel, hok⟩, hz, hrest⟩
      refine Sub.trans (zs_in (e := ⟨n, pf, .slice d1 bs.length c1, bs, sy⟩)) ?_
      (repeat (first | exact Sub.refl _ | exact Sub.nil _ | (apply sub_pick; (repeat (first | exact Has.here | apply Has.there)); skip) | apply Sub.drop))
  · rw [get_out hno, Option.getD_none, looseV_out hrel hno]
    refine walk ?_
    refine finB [driveO b m] ?_ (hs := ?_)
    · exact ⟨rfl, rfl, rfl⟩
    · exact sub_fold (B := [dRow b mb m.Steps m.Armed (leftV m), dMap mb zs, bigL fA zs]) (Sub.refl _) fun h hb => ⟨mb, zs, hb, ⟨hrel, hok⟩, hz, hrest⟩
/-- is no step left? -/
def deadD (m : Drive) : Prop := m.Armed = true ∧ m.Left = 0
instance {m : Drive} : Decidable (deadD m) := by unfold deadD; infer_instance
theorem dead_iff {m : Drive} (h1 : m.Armed = true → 0 ≤ m.Left) : deadV m.Armed (leftV m) ↔ deadD m := by
  unfold deadV deadD leftV
  cases h : m.Armed with
  | false => simp
  | true =>
    have := h1 h
    simp only [if_true, true_and]
    omega
theorem deadO_spec {W0 : World} {H : Heap} {b : Nat} {m : Drive} :
    Ct Try.prog 19 #[.pointer (some ⟨b, 0, none⟩)] W0 H [driveO b m] (fun r H' B => r = .bool (decide (deadD m)) ∧ B = [driveO b m] ∧ H' = H) := by
  refine Ct.go (vs := [.pointer (some ⟨b, 0, none⟩)]) fun R => ?_
  refine ex_open (A := driveO b m) (σ := Nat × List FE) (B := fun s => [dRow b s.1 m.Steps m.Armed (leftV m), dMap s.1 s.2, bigL fA s.2]) (p := fun s => DOk s.2 m) (by repeat (first | exact Has.here | apply Has.there)) (fun h ⟨mb, zs, hb, hk⟩ => ⟨(mb, zs), hk, hb⟩) fun ⟨mb, zs⟩ hk => ?_
  dsimp only at hk ⊢
  obtain ⟨⟨hrel, hok⟩, hz, hrest⟩ := hk
  have hd := dead_iff (m := m) fun h => (hrest.2.1 h).1
  have hshut : ∀ h, big [dRow b mb m.Steps m.Armed (leftV m), dMap mb zs, bigL fA zs] h → driveO b m h := fun h hb => ⟨mb, zs, hb, ⟨hrel, hok⟩, hz, hrest⟩
  generalize leftV m = lf at *
  generalize m.Steps = st at *
  cases ha : m.Armed with
  | false =>
    have hf : ¬ deadD m := fun e => by rw [e.1] at ha; cases ha
    rw [ha] at hshut
    refine walk ?_
    refine finB [driveO b m] ?_ (hs := sub_fold (B := [dRow b mb st false lf, dMap mb zs, bigL fA zs]) (Sub.refl _) hshut)
    exact ⟨by rw [decide_eq_false hf], rfl, rfl⟩
  | true =>
    have hd' : deadD m ↔ lf ≤ 0 := by rw [← hd]; simp [deadV, ha]
    rw [ha] at hshut
    refine walk ?_
    refine finB [driveO b m] ?_ (hs := sub_fold (B := [dRow b mb st true lf, dMap mb zs, bigL fA zs]) (Sub.refl _) hshut)
    exact ⟨congrArg Value.bool (decide_eq_decide.2 hd').symm, rfl, rfl⟩
end Go.Proofs.Ytjafnombaehcaaa
