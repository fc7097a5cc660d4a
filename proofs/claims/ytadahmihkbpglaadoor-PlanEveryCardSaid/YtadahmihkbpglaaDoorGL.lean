/- Where one may be a tick later: the two lists are one. No program in sight. -/
import Derived.Test.YtadahmihkbpglaaDoorBF
set_option linter.unusedVariables false
set_option linter.unusedSimpArgs false
namespace Go.Proofs.YtadahmihkbpglaaDoor
open Go Go.Sx Go.Proofs
theorem lt_ext : ∀ {xs ys : List Int}, xs.Pairwise (· < ·) → ys.Pairwise (· < ·) → (∀ b, b ∈ xs ↔ b ∈ ys) → xs = ys
  | [], [], _, _, _ => rfl
  | [], y :: ys, _, _, h => by have := (h y).2 (by simp); cases this
  | x :: xs, [], _, _, h => by have := (h x).1 (by simp); cases this
  | x :: xs, y :: ys, hx, hy, h => by
    rw [List.pairwise_cons] at hx hy
    have e : x = y := by
      have h1 := (h x).1 (by simp)
      have h2 := (h y).2 (by simp)
      rcases List.mem_cons.1 h1 with h1 | h1
      · exact h1
      · rcases List.mem_cons.1 h2 with h2 | h2
        · exact h2.symm
        · have := hy.1 x h1; have := hx.1 y h2; omega
    subst e
    rw [lt_ext hx.2 hy.2 fun b => ?_]
    constructor
    · intro hb
      rcases List.mem_cons.1 ((h b).1 (List.mem_cons_of_mem _ hb)) with e | e
      · subst e; have := hx.1 b hb; omega
      · exact e
    · intro hb
      rcases List.mem_cons.1 ((h b).2 (List.mem_cons_of_mem _ hb)) with e | e
      · subst e; have := hy.1 b hb; omega
      · exact e
theorem compact_lt {zs : List Int} (h : zs.Pairwise (· ≤ ·)) : (Lib.compact zs).Pairwise (· < ·) := by
  unfold Lib.compact Lib.compactUpTo
  rw [List.pairwise_map, List.pairwise_filter]
  refine List.Pairwise.imp_of_mem (fun {i j} hi hj hij _ hk => ?_) List.pairwise_lt_range
  rw [List.mem_range] at hi hj
  have hle : ∀ {a b : Nat} (hb : b < zs.length), a ≤ b → zs.toArray[a]! ≤ zs.toArray[b]! := fun {a b} hb hab => by
    rw [getElem!_pos zs.toArray a (by simp; omega), getElem!_pos zs.toArray b (by simpa using hb)]
    simp only [List.getElem_toArray]
    rcases Nat.eq_or_lt_of_le hab with e | e
    · subst e; exact Int.le_refl _
    · exact List.pairwise_iff_getElem.1 h a b (by omega) hb e
  unfold Lib.keeps at hk
  have hk := of_decide_eq_true hk
  have h1 := hle (a := i) (b := j - 1) (by omega) (by omega)
  have h2 := hle (a := j - 1) (b := j) (by omega) (by omega)
  rcases hk with hk | hk
  · omega
  · omega
theorem nextL_lt {m : Map} {x : Int} : (nextL m x).Pairwise (· < ·) := by
  unfold nextL
  refine compact_lt ?_
  have h := List.pairwise_mergeSort (le := fun x y : Int => decide (x ≤ y)) (fun a b c h1 h2 => by simp at *; omega) (fun a b => by simp; omega) (nextC m x)
  exact h.imp fun h => of_decide_eq_true h
/-- the cells below k where one may be a tick later -/
def nextU (m : Map) (x : Int) (k : Nat) : List Int := ((List.range k).map fun i : Nat => (i : Int)).filter fun b => decide (freeC m x ∧ stepTo m x b)
theorem nextU_succ {m : Map} {x : Int} {k : Nat} : nextU m x (k + 1) = if freeC m x ∧ stepTo m x k then nextU m x k ++ [(k : Int)] else nextU m x k := by
  unfold nextU
  rw [List.range_succ, List.map_append, List.map_cons, List.map_nil, filter_snoc]
  simp only [decide_eq_true_eq]
theorem nextU_len {m : Map} {x : Int} {k : Nat} : (nextU m x k).length ≤ k :=
  Nat.le_trans (List.length_filter_le _ _) (by simp)
def nextR (m : Map) (x : Int) : List Int := nextU m x (m.W * m.H).toNat
theorem nextR_lt {m : Map} {x : Int} : (nextR m x).Pairwise (· < ·) := by
  unfold nextR nextU
  refine List.Pairwise.filter _ ?_
  rw [List.pairwise_map]
  exact List.pairwise_lt_range.imp fun h => by omega
theorem mem_nextR {m : Map} {x b : Int} : b ∈ nextR m x ↔ nearC m x b := by
  unfold nextR nextU
  rw [List.mem_filter, decide_eq_true_eq, List.mem_map]
  constructor
  · rintro ⟨⟨i, hi, rfl⟩, hx, hf, h⟩
    refine ⟨⟨hx, hf⟩, ?_⟩
    rcases h with h | h
    · exact .inl h.symm
    · exact .inr (beside_symm.1 h)
  · rintro ⟨⟨hx, hf⟩, h⟩
    have hc := hf.2
    simp only [isC] at hc
    refine ⟨⟨b.toNat, ?_, by omega⟩, hx, hf, ?_⟩
    · rw [List.mem_range]; omega
    · rcases h with h | h
      · exact .inl h.symm
      · exact .inr (beside_symm.1 h)
theorem next_eq {m : Map} (hs : sidesM m) {x : Int} (hx : freeC m x) : nextL m x = nextR m x :=
  lt_ext nextL_lt nextR_lt fun b => by rw [mem_nextL hs hx, mem_nextR]
theorem nextR_no {m : Map} {x : Int} (hx : ¬ freeC m x) : nextR m x = [] := by
  unfold nextR nextU
  rw [List.filter_eq_nil_iff]
  intro b _ h
  exact hx (of_decide_eq_true h).1
theorem near_symm {m : Map} {a b : Int} : nearC m a b ↔ nearC m b a := by
  constructor <;> rintro ⟨⟨h1, h2⟩, h3⟩ <;> refine ⟨⟨h2, h1⟩, ?_⟩ <;> rcases h3 with h3 | h3
  · exact .inl h3.symm
  · exact .inr (beside_symm.1 h3)
  · exact .inl h3.symm
  · exact .inr (beside_symm.1 h3)
end Go.Proofs.YtadahmihkbpglaaDoor
