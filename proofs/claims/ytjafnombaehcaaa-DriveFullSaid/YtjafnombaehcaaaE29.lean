/- Maps whose keys are structs of three numbers. No program in sight. -/
import Derived.Test.YtjafnombaehcaaaE28
set_option linter.unusedVariables false
set_option linter.unusedSimpArgs false
namespace Go.Sx
open Go
/-- a struct of three numbers, as a key -/
def ek3 (k : Int × Int × Int) : Value := .agg #[.int .i64 k.1, .int .i64 k.2.1, .int .i64 k.2.2]
class TKey3 (P : Program) (t : TypeId) : Prop extends TEq3 P t where
  und : ∃ fs, P.underlying t = some (.struct fs)
  chk : ∀ (e : Bool) (a b c : Int) (w : World), (Instr.checkKey e 10000 t (.agg #[.int .i64 a, .int .i64 b, .int .i64 c])).run P w = .ok () w
theorem ek3_inj {a b : Int × Int × Int} (h : ek3 a = ek3 b) : a = b := by
  obtain ⟨a1, a2, a3⟩ := a
  obtain ⟨b1, b2, b3⟩ := b
  simp only [ek3, Value.agg.injEq] at h
  have h := congrArg Array.toList h
  simp at h
  obtain ⟨rfl, rfl, rfl⟩ := h
  rfl
section
variable {P : Program} {t : TypeId} [h : TKey3 P t]
theorem asking3 (k : Int × Int × Int) (w : World) : ∀ (es : List MapEntry) (i : Nat), (∀ e ∈ es, ∃ k', e.key = ek3 k') → ∃ r, (Instr.findAsking t (ek3 k) es i).run P w = .ok r w ∧ (match r with
    | none => ∀ e ∈ es, e.key ≠ ek3 k
    | some (j, v) => i ≤ j ∧ ∃ e, es[j - i]? = some e ∧ v = e.val ∧ e.key = ek3 k ∧ ∀ l, l < j - i → ∀ e', es[l]? = some e' → e'.key ≠ ek3 k)
  | [], i, _ => ⟨none, by simp [Instr.findAsking], by simp⟩
  | e :: es, i, hk => by
    obtain ⟨k', hk'⟩ := hk e (by simp)
    have heq : (Op.equal t (ek3 k) e.key).run P w = .ok (decide (k.1 = k'.1 ∧ k.2.1 = k'.2.1 ∧ k.2.2 = k'.2.2)) w := by
      rw [hk']
      exact h.eq k.1 k.2.1 k.2.2 k'.1 k'.2.1 k'.2.2 w
    by_cases hx : k = k'
    · subst hx
      refine ⟨some (i, e.val), ?_, by omega, e, by simp, rfl, hk', fun l hl => by omega⟩
      simp [Instr.findAsking, heq]
    · have hd : ¬ (k.1 = k'.1 ∧ k.2.1 = k'.2.1 ∧ k.2.2 = k'.2.2) := fun ⟨a, b, c⟩ => hx (by ext <;> assumption)
      obtain ⟨r, h1, h2⟩ := asking3 k w es (i + 1) fun e he => hk e (by simp [he])
      have hne : e.key ≠ ek3 k := by rw [hk']; exact fun e => hx (ek3_inj e).symm
      refine ⟨r, ?_, ?_⟩
      · simp only [Instr.findAsking, Sem.run_bind, heq, Result.andThen_ok, decide_eq_false hd]
        simpa using h1
      · cases r with
        | none => intro e' he'; rcases List.mem_cons.1 he' with rfl | he'; exact hne; exact h2 e' he'
        | some jv =>
          obtain ⟨j, v⟩ := jv
          obtain ⟨h3, e1, h4, h5, h6, h7⟩ := h2
          refine ⟨by omega, e1, ?_, h5, h6, fun l hl e' he' => ?_⟩
          · rw [show j - i = (j - (i + 1)) + 1 from by omega]; simpa using h4
          · cases l with
            | zero => simp at he'; subst he'; exact hne
            | succ l => exact h7 l (by omega) e' (by simpa using he')
instance : TKey P t ek3 where
  chk e k w := h.chk e k.1 k.2.1 k.2.2 w
  eq k es w hk := by
    obtain ⟨fs, hu⟩ := h.und
    have hu' := run_underlying hu (w := w)
    cases es with
    | nil => exact ⟨none, by simp [Instr.findKey, hu', Instr.findNow], by simp⟩
    | cons e es =>
      obtain ⟨r, h1, h2⟩ := asking3 (P := P) (t := t) k w (e :: es) 0 hk
      refine ⟨r, ?_, ?_⟩
      · obtain ⟨k', hk'⟩ := hk e (by simp)
        have hn : Instr.findNow (.struct fs) (ek3 k) (e :: es) 0 = none := by simp [Instr.findNow, Instr.sameNow, hk', ek3]
        simp [Instr.findKey, hu', hn, h1]
      · cases r with
        | none => exact h2
        | some jv => exact h2.2
  stays k w := by simp [Instr.keyThatStays, Instr.sameBits, ek3]
  inj a b e := ek3_inj e
end
instance {a b c : Int} : KeyV ek3 (.agg #[.int .i64 a, .int .i64 b, .int .i64 c]) (a, b, c) := ⟨rfl⟩
end Go.Sx
