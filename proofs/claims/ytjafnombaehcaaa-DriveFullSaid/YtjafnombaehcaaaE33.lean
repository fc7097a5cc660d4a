/- Texts in their order. No program in sight. -/
import Derived.Test.YtjafnombaehcaaaE32
set_option linter.unusedVariables false
set_option linter.unusedSimpArgs false
namespace Go.Sx
open Go Go.Sort
theorem less_iff : ∀ {a b : List UInt8}, Op.bytesLess a b = true ↔ a < b
  | [], [] => by simp [Op.bytesLess]
  | _ :: _, [] => by simp [Op.bytesLess]
  | [], _ :: _ => by simp [Op.bytesLess]
  | a :: x, b :: y => by
    have ih := less_iff (a := x) (b := y)
    simp only [Op.bytesLess, List.cons_lt_cons_iff, Bool.or_eq_true, Bool.and_eq_true, decide_eq_true_eq, beq_iff_eq, ih]
theorem slt_iff {s t : ByteArray} : SLt s t ↔ s.data.toList < t.data.toList := by
  unfold SLt sless
  rw [less_iff, bytes_toList, bytes_toList]
theorem text_ext {s t : ByteArray} (h : s.data.toList = t.data.toList) : s = t := by
  cases s; cases t; congr; exact Array.ext' h
theorem slt_irr {s : ByteArray} : ¬ SLt s s := by rw [slt_iff]; exact List.lt_irrefl _
theorem slt_trans {s t u : ByteArray} (h : SLt s t) (h' : SLt t u) : SLt s u := by rw [slt_iff] at *; exact List.lt_trans h h'
theorem slt_tri {s t : ByteArray} : SLt s t ∨ s = t ∨ SLt t s := by
  rw [slt_iff, slt_iff]
  by_cases h : s.data.toList < t.data.toList
  · exact .inl h
  · by_cases h' : t.data.toList < s.data.toList
    · exact .inr (.inr h')
    · exact .inr (.inl (text_ext (List.le_antisymm (List.not_lt.1 h') (List.not_lt.1 h))))
theorem slt_asymm {s t : ByteArray} (h : SLt s t) : ¬ SLt t s := fun h' => slt_irr (slt_trans h h')
theorem slt_ne {s t : ByteArray} (h : SLt s t) : s ≠ t := fun e => by subst e; exact slt_irr h
/-- what stands in order is what is sorted -/
theorem sortT_of {xs ys : List ByteArray} (hp : xs.Perm ys) (hs : ys.Pairwise SLt) : sortT xs = ys := by
  have h1 : (xs.map fun s => s.data.toList).mergeSort leB = (ys.map fun s => s.data.toList).mergeSort leB := mergeSort_of_perm (hp.map _)
  have h2 : (ys.map fun s => s.data.toList).Pairwise fun a b => leB a b = true := by
    rw [List.pairwise_map]
    exact hs.imp fun h => by
      rw [slt_iff] at h
      simp only [leB, decide_eq_true_eq]
      exact List.le_of_lt h
  unfold sortT
  rw [h1, List.mergeSort_of_pairwise h2, List.map_map]
  exact (List.map_congr_left fun s _ => (by simp [sb] : (sb ∘ fun s : ByteArray => s.data.toList) s = s)).trans (List.map_id' _)
end Go.Sx
