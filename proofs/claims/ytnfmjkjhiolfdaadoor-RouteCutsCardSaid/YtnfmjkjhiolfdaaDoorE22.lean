/- Arrays of numbers among the arguments. No program in sight. -/
import Derived.Test.YtnfmjkjhiolfdaaDoorE21
import Derived.OpenShut
set_option linter.unusedVariables false
set_option linter.unusedSimpArgs false
namespace Go.Sx
open Go
/-- an array of n numbers -/
def rArrI (n : Nat) : Rd (List Int) := fun _ cs xs => cs = xs.map (fun x => Value.int .i64 x) ∧ xs.length = n ∧ ∀ x ∈ xs, fits x
instance {n : Nat} : RdOk (rArrI n) n := ⟨fun ⟨e, h, _⟩ => by rw [e]; simpa using h, fun ⟨e, h, _⟩ => by rw [e]; simp [List.all_map, Value.oneCell'], fun _ h => h⟩
theorem rds_arrI {P : Program} {t e : TypeId} {n : Nat} (ht : P.underlying t = some (.array n e)) (he : P.underlying e = some (.int .i64)) (hct : P.cellsOf t = n) (hce : P.cellsOf e = 1) : Rds P t (rArrI n) := by
  intro H enc W fuel cs d ps h _
  obtain ⟨xs, m, -, -, hlen, hn, hel⟩ := DataW.trod_array ht h
  rw [hct] at hlen
  have hk : ∀ i, i < n → ∃ k, cs[i]? = some (.int .i64 k) ∧ fits k := fun i hi => by
    have h1 := hel i hi
    rw [List.getElem?_eq_getElem (by omega), hce, Nat.mul_one] at h1
    obtain ⟨k, hk, hf⟩ := rds_int he (d := xs[i].1) (ps := xs[i].2) h1 (fun x hx => by
      obtain ⟨k, e1, e2, _⟩ := DataW.trod_int he (show DataW.trod _ P W 0 _ true m e _ = some (xs[i].1, xs[i].2) from h1)
      have e3 : xs[i].1 = .lit (.int .i64 k) := by simpa using congrArg Prod.fst e2
      rw [e3] at hx; simp [DataW.weights] at hx)
    refine ⟨k, ?_, hf⟩
    have := congrArg (·[0]?) hk
    simpa using this
  refine ⟨cs.map fun v => match v with | .int _ k => k | _ => 0, ?_, by simpa using hlen, ?_⟩
  · apply List.ext_getElem?
    intro i
    by_cases hi : i < n
    · obtain ⟨k, h1, _⟩ := hk i hi
      simp [h1]
    · rw [List.getElem?_eq_none (by omega), List.getElem?_eq_none (by simp; omega)]
  · intro x hx
    obtain ⟨v, hv, rfl⟩ := List.mem_map.1 hx
    obtain ⟨i, hi, rfl⟩ := List.mem_iff_getElem.1 hv
    obtain ⟨k, h1, h2⟩ := hk i (by omega)
    rw [List.getElem?_eq_getElem hi] at h1
    rw [Option.some.inj h1]; exact h2
end Go.Sx
