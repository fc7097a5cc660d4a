/- A route with a list of its own; the fixed fact. -/
import Derived.Test.YtadahmihkbpglaaDoorRA
import Derived.Test.YtadahmihkbpglaaDoorBF
import Derived.Test.YtadahmihkbpglaaDoorBI
import Derived.Test.YtadahmihkbpglaaDoorKC
set_option linter.unusedVariables false
set_option linter.unusedSimpArgs false
namespace Go.Proofs.YtadahmihkbpglaaDoor
open Go Go.Sx Go.Proofs
def m0 : Map := ⟨4, 3, 2, [5]⟩
theorem slr_take {α : Type} {R : Rd α} {sz : Nat} [RdOk R sz] {H : Heap} {base : Option Addr} {m cap k : Nat} {xs : List α} (hr : SlR R sz H (.slice base m cap) xs) (h : k ≤ xs.length) : SlR R sz H (.slice base k cap) (xs.take k) := by
  obtain ⟨cs, ⟨base', cap', e, hc, hl, h1c, he⟩, b⟩ := hr
  cases e
  have hk : (xs.take k).length = k := by simp; omega
  have hmul : k * sz ≤ xs.length * sz := Nat.mul_le_mul_right _ h
  refine ⟨cs.take (k * sz), hk.symm ▸ ⟨_, _, rfl, by omega, by rw [List.length_take, hl]; omega, ?_, ?_⟩, b.take h⟩
  · simp only [List.all_eq_true] at h1c ⊢
    exact fun u hu => h1c u (List.mem_of_mem_take hu)
  · rcases he with he | ⟨b, off, rfl, hrow⟩
    · exact .inl (by omega)
    · exact .inr ⟨b, off, rfl, hrow.take⟩
/-- a route with a list of its own, not too long -/
def clipR (x : Route) : Route := ⟨x.Start, x.Cells.take 40⟩
theorem ints_lit {H : Heap} {p : Nat} {xs : List Int} (h : HRow H p 0 (xs.map I)) (hf : ∀ x ∈ xs, fits x) (hl : xs.length ≤ 1000) : SlB rInt 1 8 H (.slice (some ⟨p, 0, none⟩) xs.length xs.length) xs :=
  ⟨slr_of_hrow (xs := xs) h (RL.mk1 (R := rInt) (val := fun x => .int .i64 x) (ok := fits) (xs := xs) hf) (by omega) (by omega), by simp only [cap47]; omega⟩
theorem m0_reads {H : Heap} {p : Nat} (h : HRow H p 0 [I 5]) : rMap H [I 4, I 3, I 2, .slice (some ⟨p, 0, none⟩) 1 1] m0 :=
  ⟨_, rfl, by unfold fits m0; simp, by unfold fits m0; simp, by unfold fits m0; simp, ints_lit (xs := [5]) h (by intro x hx; simp at hx; subst hx; unfold fits; omega) (by simp)⟩
theorem rRoute_up {H H' : Heap} {c : List Value} {x : Route} (h : rRoute H c x) (hl : H.le H') : rRoute H' c x := RdOk.mono (R := rRoute) hl h
theorem strs_lit {H : Heap} {p : Nat} {xs : List ByteArray} (h : HRow H p 0 (xs.map fun x => Value.string x)) (hf : ∀ x ∈ xs, x.size ≤ cap47) (hl : xs.length ≤ 1000) : SlB rStr 1 16 H (.slice (some ⟨p, 0, none⟩) xs.length xs.length) xs :=
  ⟨slr_of_hrow (xs := xs) h (RL.mk1 (R := rStr) (val := fun x => .string x) (ok := fun x => x.size ≤ cap47) (xs := xs) hf) (by omega) (by omega), by simp only [cap47]; omega⟩
theorem r1_reads {H : Heap} {p : Nat} (h : HRow H p 0 [I 6, I 7, I 7]) : rRoute H [I 3, .slice (some ⟨p, 0, none⟩) 3 3] ⟨3, [6, 7, 7]⟩ :=
  ⟨_, rfl, by unfold fits; simp, ints_lit (xs := [6, 7, 7]) h (by intro x hx; simp at hx; rcases hx with rfl | rfl <;> (unfold fits; omega)) (by simp)⟩
theorem r2_reads {H : Heap} {p : Nat} (h : HRow H p 0 [I 7]) : rRoute H [I 4, .slice (some ⟨p, 0, none⟩) 1 1] ⟨4, [7]⟩ :=
  ⟨_, rfl, by unfold fits; simp, ints_lit (xs := [7]) h (by intro x hx; simp at hx; subst hx; unfold fits; omega) (by simp)⟩
theorem k1_keys : keysL ⟨3, [6, 7, 7]⟩ = [[99, 54, 64, 51], [112, 54, 45, 55, 64, 51], [99, 55, 64, 52], [99, 55, 64, 53]] := by
  have hp : plainR ⟨3, [6, 7, 7]⟩ := by decide
  have h3 : dgs 3 = [51] := by simp [dgs, nd]
  have h4 : dgs 4 = [52] := by simp [dgs, nd]
  have h5 : dgs 5 = [53] := by simp [dgs, nd]
  have h6 : dgs 6 = [54] := by simp [dgs, nd]
  have h7 : dgs 7 = [55] := by simp [dgs, nd]
  unfold keysL
  rw [if_pos hp]
  simp [keysFrom, slotL, passL, h3, h4, h5, show min (6 : Int) 7 = 6 by omega, show max (6 : Int) 7 = 7 by omega, h6, h7]
theorem m1_meet : meetB ⟨3, [6, 7, 7]⟩ ⟨4, [7]⟩ = true := meetB_true ⟨⟨by decide, by decide⟩, 4, 7, 7, rfl, rfl, .inl rfl⟩
end Go.Proofs.YtadahmihkbpglaaDoor
