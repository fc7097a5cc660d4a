/- The files of a drive, rising by name. No program in sight. -/
import Derived.Test.YtjafnombaehcaaaTy
import Derived.Test.YtjafnombaehcaaaE33
set_option linter.unusedVariables false
set_option linter.unusedSimpArgs false
namespace Go.Proofs.Ytjafnombaehcaaa
open Go Go.Sx Go.Proofs
abbrev I (x : Int) : Value := .int .i64 x
abbrev RF := Convoyref02File
/-- rising by name -/
def upF (fs : List RF) : Prop := fs.Pairwise fun a b => SLt a.Name b.Name
/-- one file of the loop in with -/
def stepW1 (f : RF) (s : Bool × List RF) (g : RF) : Bool × List RF := if s.1 = false ∧ (SLt f.Name g.Name ∨ f.Name = g.Name) then (true, s.2 ++ [f]) else s
def stepW2 (f : RF) (s : Bool × List RF) (g : RF) : Bool × List RF := if ¬ g.Name = f.Name then (s.1, s.2 ++ [g]) else s
def stepW (f : RF) (s : Bool × List RF) (g : RF) : Bool × List RF := stepW2 f (stepW1 f s g) g
def withF (fs : List RF) (f : RF) : List RF :=
  let s := fs.foldl (stepW f) (false, [])
  if s.1 = true then s.2 else s.2 ++ [f]
def outF (fs : List RF) (name : ByteArray) : List RF := fs.filter fun g => decide (g.Name ≠ name)
def atF (fs : List RF) (name : ByteArray) : Option RF := fs.find? fun g => decide (g.Name = name)
theorem step_true {f : RF} : ∀ {fs : List RF} {o : List RF}, fs.foldl (stepW f) (true, o) = (true, o ++ outF fs f.Name)
  | [], o => by simp [outF]
  | g :: fs, o => by
    have e1 : stepW1 f (true, o) g = (true, o) := if_neg fun h => by cases h.1
    rw [List.foldl_cons, stepW, e1]
    by_cases h : g.Name = f.Name
    · rw [show stepW2 f (true, o) g = (true, o) from if_neg fun h' => h' h, step_true]; simp [outF, h]
    · rw [show stepW2 f (true, o) g = (true, o ++ [g]) from if_pos h, step_true]; simp [outF, h]
/-- with, place by place -/
def insF (f : RF) : List RF → List RF
  | [] => [f]
  | g :: r => if SLt f.Name g.Name ∨ f.Name = g.Name then f :: outF (g :: r) f.Name else g :: insF f r
theorem step_false {f : RF} : ∀ {fs : List RF} {o : List RF}, (let s := fs.foldl (stepW f) (false, o); if s.1 = true then s.2 else s.2 ++ [f]) = o ++ insF f fs
  | [], o => by simp [insF]
  | g :: fs, o => by
    by_cases h : SLt f.Name g.Name ∨ f.Name = g.Name
    · have e : stepW f (false, o) g = (true, o ++ [f] ++ outF [g] f.Name) := by
        rw [stepW, show stepW1 f (false, o) g = (true, o ++ [f]) from if_pos ⟨rfl, h⟩]
        by_cases hn : g.Name = f.Name
        · rw [show stepW2 f (true, o ++ [f]) g = (true, o ++ [f]) from if_neg fun h' => h' hn]; simp [outF, hn]
        · rw [show stepW2 f (true, o ++ [f]) g = (true, o ++ [f] ++ [g]) from if_pos hn]; simp [outF, hn]
      rw [List.foldl_cons, e, step_true]
      simp only [insF]
      rw [if_pos h]
      have : outF (g :: fs) f.Name = outF [g] f.Name ++ outF fs f.Name := by simp only [outF]; rw [← List.filter_append]; rfl
      rw [this]
      simp
    · have hn : g.Name ≠ f.Name := fun e => h (.inr e.symm)
      have e : stepW f (false, o) g = (false, o ++ [g]) := by
        rw [stepW, show stepW1 f (false, o) g = (false, o) from if_neg fun e => h e.2]
        exact if_pos hn
      rw [List.foldl_cons, e, step_false]
      simp only [insF]
      rw [if_neg h]
      simp
theorem withF_ins {f : RF} {fs : List RF} : withF fs f = insF f fs := by
  have := step_false (f := f) (fs := fs) (o := [])
  simpa [withF] using this
theorem mem_outF {fs : List RF} {name : ByteArray} {g : RF} : g ∈ outF fs name ↔ g ∈ fs ∧ g.Name ≠ name := by simp [outF]
theorem outF_none {fs : List RF} {name : ByteArray} (h : ∀ g ∈ fs, g.Name ≠ name) : outF fs name = fs := by
  simp only [outF, List.filter_eq_self]; intro g hg; simpa using h g hg
theorem insF_perm {f : RF} : ∀ {fs : List RF}, upF fs → (insF f fs).Perm (f :: outF fs f.Name)
  | [], _ => by simp [insF, outF]
  | g :: r, h => by
    simp only [insF]
    split
    · exact .refl _
    · next hn =>
      have hn' : g.Name ≠ f.Name := fun e => hn (.inr e.symm)
      have ih := insF_perm (f := f) (fs := r) (List.pairwise_cons.1 h).2
      have e : outF (g :: r) f.Name = g :: outF r f.Name := by simp [outF, hn']
      rw [e]
      exact (ih.cons g).trans (List.Perm.swap f g _)
theorem up_out {fs : List RF} {name : ByteArray} (h : upF fs) : upF (outF fs name) := List.Pairwise.filter _ h
theorem insF_up {f : RF} : ∀ {fs : List RF}, upF fs → upF (insF f fs)
  | [], _ => by simp [insF, upF]
  | g :: r, h => by
    obtain ⟨h1, h2⟩ := List.pairwise_cons.1 h
    simp only [insF]
    split
    · next hl =>
      refine List.pairwise_cons.2 ⟨fun x hx => ?_, up_out h⟩
      obtain ⟨hx1, hx2⟩ := mem_outF.1 hx
      rcases List.mem_cons.1 hx1 with e | hx1
      · subst e
        rcases hl with hl | hl
        · exact hl
        · exact absurd hl.symm hx2
      · rcases hl with hl | hl
        · exact slt_trans hl (h1 x hx1)
        · rw [hl]; exact h1 x hx1
    · next hn =>
      refine List.pairwise_cons.2 ⟨fun x hx => ?_, insF_up h2⟩
      have hx' := (insF_perm h2).mem_iff.1 hx
      rcases List.mem_cons.1 hx' with e | hx'
      · subst e
        rcases slt_tri (s := x.Name) (t := g.Name) with e | e | e
        · exact absurd (.inl e) hn
        · exact absurd (.inr e) hn
        · exact e
      · exact h1 x (mem_outF.1 hx').1
theorem up_names {fs : List RF} (h : upF fs) : (fs.map (·.Name)).Nodup := by
  rw [List.nodup_iff_pairwise_ne, List.pairwise_map]
  exact h.imp fun e => slt_ne e
end Go.Proofs.Ytjafnombaehcaaa
