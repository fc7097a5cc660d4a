/- Steps that change a drive: Arm, Steps, New. -/
import Derived.Test.YtjafnombaehcaaaDH
set_option linter.unusedVariables false
set_option linter.unusedSimpArgs false
namespace Go.Proofs.Ytjafnombaehcaaa
open Go Go.Sx Go.Proofs
def armC (m : Drive) (n : Int) : Int := if n < 0 then 1 else if deadD m then 6 else 0
def armM (m : Drive) (n : Int) : Drive := if armC m n = 0 then ⟨m.Files, m.Steps, true, n⟩ else m
set_option maxHeartbeats 4000000 in
theorem arm_spec {W0 : World} {H : Heap} {b : Nat} {m : Drive} {n : Int} (fn : fits n) :
    Ct Try.prog 38 #[.pointer (some ⟨b, 0, none⟩), I n] W0 H [driveO b m] (fun r H' B => r = I (armC m n) ∧ B = [driveO b (armM m n)] ∧ H' = H) := by
  refine Ct.go (vs := [.pointer (some ⟨b, 0, none⟩), I n]) fun R => ?_
  refine walk ?_
  refine ex_if rfl (fun hq => ?_) (fun hq => ?_)
  · have hc : armC m n = 1 := by unfold armC; rw [if_pos hq]
    have hm : armM m n = m := by unfold armM; rw [hc]; rfl
    rw [hc, hm]
    refine walk ?_
    refine finB [driveO b m] ?_
    exact ⟨rfl, rfl, rfl⟩
  refine walk ?_
  refine ops_pcall rfl rfl deadO_spec ?_
  refine walk ?_
  refine ex_if rfl (fun hd => ?_) (fun hd => ?_)
  · have hc : armC m n = 6 := by unfold armC; rw [if_neg hq, if_pos hd]
    have hm : armM m n = m := by unfold armM; rw [hc]; rfl
    rw [hc, hm]
    refine walk ?_
    refine finB [driveO b m] ?_
    exact ⟨rfl, rfl, rfl⟩
  have hc : armC m n = 0 := by unfold armC; rw [if_neg hq, if_neg hd]
  have hm : armM m n = ⟨m.Files, m.Steps, true, n⟩ := by unfold armM; rw [if_pos hc]
  rw [hc, hm]
  refine ex_open (A := driveO b m) (σ := Nat × List FE) (B := fun s => [dRow b s.1 m.Steps m.Armed (leftV m), dMap s.1 s.2, bigL fA s.2]) (p := fun s => DOk s.2 m) (by repeat (first | exact Has.here | apply Has.there)) (fun h ⟨mb, zs, hb, hk⟩ => ⟨(mb, zs), hk, hb⟩) fun ⟨mb, zs⟩ hk => ?_
  dsimp only at hk ⊢
  have hk' := hk
  obtain ⟨⟨hrel, hok⟩, hz, hst0, harm, hun⟩ := hk
  have hshut : ∀ h, big [dRow b mb m.Steps m.Armed (leftV m), dMap mb zs, bigL fA zs] h → driveO b m h := fun h hb => ⟨mb, zs, hb, hk'⟩
  refine walk ?_
  refine finB [driveO b ⟨m.Files, m.Steps, true, n⟩] ?_ (hs := ?_)
  · exact ⟨rfl, rfl, rfl⟩
  · refine sub_fold (B := [dRow b mb m.Steps true n, dMap mb zs, bigL fA zs]) (by (repeat (first | exact Sub.refl _ | exact Sub.nil _ | (apply sub_pick; (repeat (first | exact Has.here | apply Has.there)); skip) | apply Sub.drop))) fun h hb => ⟨mb, zs, by simp only [leftV, if_true]; exact hb, ⟨hrel, hok⟩, hz, hst0, fun _ => ⟨by simp only; omega, fn⟩, fun e => by cases e⟩
theorem steps_spec {W0 : World} {H : Heap} {b : Nat} {m : Drive} :
    Ct Try.prog 20 #[.pointer (some ⟨b, 0, none⟩)] W0 H [driveO b m] (fun r H' B => r = I m.Steps ∧ B = [driveO b m] ∧ H' = H) := by
  refine Ct.go (vs := [.pointer (some ⟨b, 0, none⟩)]) fun R => ?_
  refine ex_open (A := driveO b m) (σ := Nat × List FE) (B := fun s => [dRow b s.1 m.Steps m.Armed (leftV m), dMap s.1 s.2, bigL fA s.2]) (p := fun s => DOk s.2 m) (by repeat (first | exact Has.here | apply Has.there)) (fun h ⟨mb, zs, hb, hk⟩ => ⟨(mb, zs), hk, hb⟩) fun ⟨mb, zs⟩ hk => ?_
  dsimp only at hk ⊢
  have hk' := hk
  obtain ⟨⟨hrel, hok⟩, hz, hst0, harm, hun⟩ := hk
  have hshut : ∀ h, big [dRow b mb m.Steps m.Armed (leftV m), dMap mb zs, bigL fA zs] h → driveO b m h := fun h hb => ⟨mb, zs, hb, hk'⟩
  refine walk ?_
  refine finB [driveO b m] ?_ (hs := sub_fold (B := [dRow b mb m.Steps m.Armed (leftV m), dMap mb zs, bigL fA zs]) (Sub.refl _) hshut)
  exact ⟨rfl, rfl, rfl⟩
/-- a drive without files -/
def newM : Drive := ⟨[], 0, false, 0⟩
theorem new_spec {W0 : World} {H : Heap} :
    Ct Try.prog 9 #[] W0 H [] (fun r H' B => ∃ b, r = .pointer (some ⟨b, 0, none⟩) ∧ B = [driveO b newM] ∧ H' = H) := by
  refine Ct.go (vs := []) fun R => ?_
  refine walk ?_
  refine ops_makeMap Value.string rVal false rfl fun mb hmb => ?_
  refine walk ?_
  refine ops_box rfl rfl fun p _ => ?_
  refine walk ?_
  refine finB [driveO p newM] ?_ (hs := ?_)
  · exact ⟨p, rfl, rfl, rfl⟩
  · refine Sub.trans (Sub.cons (show Sub (mapO Value.string rVal false H mb [] :: ([] ++ R)) (dMap mb [] :: ([] ++ R)) from fun h ⟨h1, h2, a, r⟩ => ⟨h1, h2, mapO_flat a, r⟩)) ?_
    refine Sub.trans (bigL_nil (A := fA)) ?_
    refine sub_fold (B := [dRow p mb newM.Steps newM.Armed (leftV newM), dMap mb [], bigL fA []]) (by (repeat (first | exact Sub.refl _ | exact Sub.nil _ | (apply sub_pick; (repeat (first | exact Has.here | apply Has.there)); skip) | apply Sub.drop))) fun h hb => ⟨mb, [], hb, ⟨⟨.refl _, .nil⟩, fun e he => by cases he⟩, Nat.zero_le _, Int.le_refl _, (fun e => by cases e), (fun _ => rfl)⟩
end Go.Proofs.Ytjafnombaehcaaa
