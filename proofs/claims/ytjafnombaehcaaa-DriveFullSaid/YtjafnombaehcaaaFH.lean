/- DriveFull: the walk. -/
import Derived.Test.YtjafnombaehcaaaFG
import Derived.Test.YtjafnombaehcaaaE28
import Derived.Test.YtjafnombaehcaaaE32
set_option linter.unusedVariables false
set_option linter.unusedSimpArgs false
namespace Go.Proofs.Ytjafnombaehcaaa
open Go Go.Sx Go.Proofs
def nG : ByteArray := ⟨#[103]⟩
def nFaa : ByteArray := ⟨#[102, 97, 97]⟩
def nFba : ByteArray := ⟨#[102, 98, 97]⟩
def nFca : ByteArray := ⟨#[102, 99, 97]⟩
theorem nFaa_eq : nFaa = nmF 0 := by decide +kernel
theorem nFba_eq : nFba = nmF 1 := by decide +kernel
theorem nFca_eq : nFca = nmF 2 := by decide +kernel
theorem nG_ne : ∀ j : Nat, nG ≠ nmF j := fun j e => by have := congrArg ByteArray.size e; simp [nmF, nG, sb_size] at this
theorem okNs : okN nG ∧ okN nFaa ∧ okN nFba ∧ okN nFca := by decide +kernel
theorem nss : nG.size ≤ cap47 ∧ nFaa.size ≤ cap47 ∧ nFba.size ≤ cap47 ∧ nFca.size ≤ cap47 := by decide
/-- what the law's calls answer -/
structure FullA (m m2 m3 m4 m5 m6 : Drive) (z1 z2 z3 : List Int) : Prop where
  a1 : appC m nG 0 = 5
  a2 : appC m nFaa z1.length = 0
  a3 : appC m2 nFaa z2.length = 5
  a4 : appC m2 nFaa z3.length = 0
  a5 : renC m3 nFba nG = 0
  a6 : appC m4 nFba 0 = 5
  a7 : lookM m4 nFca = 0
  a8 : appC m5 nFba 1 = 0
  a9 : sizeV m6 nFaa = 262144
  a10 : m6.Files.length = 256
theorem fullA {n : Nat} {z1 z2 z3 : List Int} (hn : n ≤ 8) (h1 : z1.length = 262144 - n) (h2 : z2.length = n + 1) (h3 : z3.length = n) {m : Drive} {k : Nat} (hk : k = 256) {g : ByteArray → Option RF} (h : Vw m k g) (hg1 : ∀ n, (∀ j < k, n ≠ nmF j) → g n = none) (hg2 : ∀ j < k, ∃ f, g (nmF j) = some f ∧ f.B.size = 0) : FullA m (appM m nFaa z1) (appM (appM m nFaa z1) nFaa z3) (renM (appM (appM m nFaa z1) nFaa z3) nFba nG) (delM (renM (appM (appM m nFaa z1) nFaa z3) nFba nG) nFca) (appM (delM (renM (appM (appM m nFaa z1) nFaa z3) nFba nG) nFca) nFba [1]) z1 z2 z3 := by
  obtain ⟨o1, o2, o3, o4⟩ := okNs
  have gG : g nG = none := hg1 _ fun j _ => nG_ne j
  obtain ⟨fa, ga, sa⟩ := hg2 0 (by omega)
  obtain ⟨fb, gb, sb1⟩ := hg2 1 (by omega)
  obtain ⟨fc, gc, sc⟩ := hg2 2 (by omega)
  rw [← nFaa_eq] at ga
  rw [← nFba_eq] at gb
  rw [← nFca_eq] at gc
  have d1 : nFaa ≠ nFba := by decide
  have d2 : nFaa ≠ nFca := by decide
  have d3 : nFba ≠ nFca := by decide
  have d4 : nG ≠ nFaa := by decide
  have d5 : nG ≠ nFba := by decide
  have d6 : nG ≠ nFca := by decide
  have a1 : appC m nG 0 = 5 := h.appC5 o1 (.inl ⟨by rw [gG]; rfl, by omega⟩)
  have s1 : sizeV m nFaa = 0 := by rw [h.size, ga]; simp [sa]
  have a2 : appC m nFaa z1.length = 0 := h.appC0 o2 (fun e => by rw [ga] at e; cases e.1) (by rw [s1, h1]; omega)
  obtain ⟨f2, n2, b2, v2⟩ := h.appM (n := nFaa) (ns := z1) a2
  rw [ga, if_neg (by simp)] at v2
  rw [s1, h1] at b2
  generalize appM m nFaa z1 = m2 at *
  have s2 : sizeV m2 nFaa = 262144 - n := by rw [v2.size]; simp only [if_true]; omega
  have a3 : appC m2 nFaa z2.length = 5 := v2.appC5 o2 (.inr (by rw [s2, h2]; omega))
  have a4 : appC m2 nFaa z3.length = 0 := v2.appC0 o2 (fun e => by simp at e) (by rw [s2, h3]; omega)
  obtain ⟨f3, n3, b3, v3⟩ := v2.appM (n := nFaa) (ns := z3) a4
  simp only [if_true] at v3
  rw [s2, h3] at b3
  rw [if_neg (by simp)] at v3
  generalize appM m2 nFaa z3 = m3 at *
  have g3b : (fun x => if x = nFaa then some f3 else if x = nFaa then some f2 else g x) nFba = some fb := by simp only [if_neg (Ne.symm d1)]; exact gb
  have g3g : (fun x => if x = nFaa then some f3 else if x = nFaa then some f2 else g x) nG = none := by simp only [if_neg d4]; exact gG
  obtain ⟨a5, f4, v4⟩ := v3.ren o3 o1 g3b g3g (by omega)
  generalize renM m3 nFba nG = m4 at *
  have a6 : appC m4 nFba 0 = 5 := v4.appC5 o3 (.inl ⟨by simp [Ne.symm d5], by omega⟩)
  have g4c : (fun x => if x = nG then some f4 else if x = nFba then none else if x = nFaa then some f3 else if x = nFaa then some f2 else g x) nFca = some fc := by simp only [if_neg (Ne.symm d6), if_neg (Ne.symm d3), if_neg (Ne.symm d2)]; exact gc
  have a7 : lookM m4 nFca = 0 := v4.look0 o4 g4c
  have v5 := v4.del o4 g4c
  generalize delM m4 nFca = m5 at *
  have s5 : sizeV m5 nFba = 0 := by rw [v5.size]; simp only [if_neg d3, if_neg (Ne.symm d5), if_true]
  have a8 : appC m5 nFba ([1] : List Int).length = 0 := v5.appC0 o3 (fun e => by have := e.2; omega) (by rw [s5]; decide)
  obtain ⟨f6, n6, b6, v6⟩ := v5.appM (n := nFba) (ns := [1]) a8
  simp only [if_neg d3, if_neg (Ne.symm d5), if_true] at v6
  refine ⟨a1, a2, a3, a4, a5, a6, a7, a8, ?_, by have := v6.len; omega⟩
  rw [v6.size]
  simp only [if_neg d1, if_neg d2, if_neg (Ne.symm d4), if_true]
  omega
end Go.Proofs.Ytjafnombaehcaaa
