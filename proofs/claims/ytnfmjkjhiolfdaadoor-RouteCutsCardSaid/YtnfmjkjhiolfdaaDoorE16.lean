/- A field of a struct by value. No program in sight. -/
import Derived.Test.YtnfmjkjhiolfdaaDoorE15
set_option linter.unusedVariables false
set_option linter.unusedSimpArgs false
namespace Go.Sx
open Go
class Get1 (cs : List Value) (i : Nat) (v : outParam Value) : Prop where
  h : cs[i]? = some v
instance {v : Value} {cs : List Value} : Get1 (v :: cs) 0 v := ⟨rfl⟩
instance {u v : Value} {cs : List Value} {i : Nat} [h : Get1 cs i v] : Get1 (u :: cs) (i + 1) v := ⟨by rw [List.getElem?_cons_succ]; exact h.h⟩
instance {P : Program} {x : Operand} {s ft f off : Nat} {cs : List Value} {v : Value} [hf : TFd P s f off ft] [ha : TAgg P ft false] [hg : Get1 cs off v] : POp P (.field s x f) [.agg cs.toArray] True v := ⟨fun _ h => .mk fun a w hF _ => by
  obtain ⟨fs, fd, hu, hi, ho, ht, _⟩ := hf.ex
  have hu' := run_underlying hu (w := w)
  have hag := ha.run w
  rw [← ht] at hag
  have hc := hg.h
  rw [← ho] at hc
  simp only [execOp]
  simp [Instr.field, hF.opv (opvs1 h), hu', hi, part, asAgg, hag, hc]⟩
end Go.Sx
