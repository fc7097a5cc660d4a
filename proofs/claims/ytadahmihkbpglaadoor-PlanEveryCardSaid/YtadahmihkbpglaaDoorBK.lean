/- Keys of routes; do two routes have one in common? -/
import Derived.Test.YtadahmihkbpglaaDoorBJ
set_option linter.unusedVariables false
set_option linter.unusedSimpArgs false
namespace Go.Proofs.YtadahmihkbpglaaDoor
open Go Go.Sx Go.Proofs
def slotL (c t : Int) : List UInt8 := [99] ++ dgs c ++ [64] ++ dgs t
def passL (a b t : Int) : List UInt8 := [112] ++ dgs (min a b) ++ [45] ++ dgs (max a b) ++ [64] ++ dgs t
theorem slotL_len {c t : Int} (h1 : fits c) (h2 : fits t) : (slotL c t).length ≤ 42 := by
  have := dgs_len h1; have := dgs_len h2; simp [slotL]; omega
theorem passL_len {a b t : Int} (h1 : fits a) (h2 : fits b) (h3 : fits t) : (passL a b t).length ≤ 63 := by
  have := dgs_len (n := min a b) (by unfold fits at *; omega); have := dgs_len (n := max a b) (by unfold fits at *; omega); have := dgs_len h3; simp [passL]; omega
theorem slot_spec {W0 : World} {H : Heap} {c t : Int} (h1 : fits c) (h2 : fits t) :
    Ct Tryd.prog 12 #[I c, I t] W0 H [] (fun r H' B => r = .string (sb (slotL c t)) ∧ B = [] ∧ H' = H) := by
  refine Ct.go fun R => ?_
  haveI l1 : LenLe (dgs c) 20 := ⟨dgs_len h1⟩
  haveI l2 : LenLe (dgs t) 20 := ⟨dgs_len h2⟩
  refine walk ?_
  refine ops_pcall rfl rfl (digits_spec h1) ?_
  refine walk ?_
  refine ops_pcall rfl rfl (digits_spec h2) ?_
  refine walk ?_
  refine fin0 ?_
  exact ⟨rfl, rfl, rfl⟩
theorem pass_le {W0 : World} {H : Heap} {a b t : Int} (h1 : fits a) (h2 : fits b) (h3 : fits t) (hab : ¬ b < a) :
    Ct Tryd.prog 57 #[I a, I b, I t] W0 H [] (fun r H' B => r = .string (sb (passL a b t)) ∧ B = [] ∧ H' = H) := by
  refine Ct.go fun R => ?_
  haveI l1 : LenLe (dgs a) 20 := ⟨dgs_len h1⟩
  haveI l2 : LenLe (dgs b) 20 := ⟨dgs_len h2⟩
  haveI l3 : LenLe (dgs t) 20 := ⟨dgs_len h3⟩
  refine walk ?_
  refine ops_pcall rfl rfl (digits_spec h1) ?_
  refine walk ?_
  refine ops_pcall rfl rfl (digits_spec h2) ?_
  refine walk ?_
  refine ops_pcall rfl rfl (digits_spec h3) ?_
  refine walk ?_
  refine fin0 ?_
  refine ⟨?_, rfl, rfl⟩
  unfold passL
  rw [show min a b = a by omega, show max a b = b by omega]
theorem pass_spec {W0 : World} {H : Heap} {a b t : Int} (h1 : fits a) (h2 : fits b) (h3 : fits t) :
    Ct Tryd.prog 57 #[I a, I b, I t] W0 H [] (fun r H' B => r = .string (sb (passL a b t)) ∧ B = [] ∧ H' = H) := by
  by_cases hab : b < a
  · refine Ct.go fun R => ?_
    refine walk ?_
    refine ops_pcall rfl rfl (pass_le (a := b) (b := a) h2 h1 h3 (by omega)) ?_
    refine walk ?_
    refine fin0 ?_
    refine ⟨?_, rfl, rfl⟩
    unfold passL
    rw [Int.min_comm, Int.max_comm]
  · exact pass_le h1 h2 h3 hab
def keysFrom (s : Int) : List Int → List (List UInt8)
  | [] => []
  | [c] => [slotL c s]
  | c :: d :: r => (slotL c s :: if d = c then [] else [passL c d s]) ++ keysFrom (s + 1) (d :: r)
/-- the keys that a route needs -/
def keysL (x : Route) : List (List UInt8) := if plainR x then keysFrom x.Start x.Cells else []
instance : LawfulBEq ByteArray where
  eq_of_beq h := by rw [ba_beq] at h; simpa using h
  rfl := fun {a} => by rw [ba_beq]; simp
instance decEx {l m : List ByteArray} : Decidable (∃ s ∈ l, s ∈ m) := List.decidableBEx (fun s => s ∈ m) l
end Go.Proofs.YtadahmihkbpglaaDoor
