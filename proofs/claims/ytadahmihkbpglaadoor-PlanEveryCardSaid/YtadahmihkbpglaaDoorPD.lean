/- More taken; and every plan. No program in sight. -/
import Derived.Test.YtadahmihkbpglaaDoorPC
set_option linter.unusedVariables false
set_option linter.unusedSimpArgs false
namespace Go.Proofs.YtadahmihkbpglaaDoor
open Go Go.Sx Go.Proofs
/-- with more taken: none stays none; a plan that needs none of it stays; none gets better -/
theorem plan_moreM {m : Map} {tk more : List ByteArray} {goal : Int} {k : Nat} {t c : Int} (hb : t + k + 1 ≤ bigT) :
    (planT m tk goal k t c = none → planT m (tk ++ more) goal k t c = none) ∧
    ((planT m tk goal k t c).isSome = true → (∀ q ∈ keysFrom t (planP m tk goal k t c), sb q ∉ tk ++ more) → (planT m (tk ++ more) goal k t c).isSome = true ∧ planP m (tk ++ more) goal k t c = planP m tk goal k t c) ∧
    ((planT m (tk ++ more) goal k t c).isSome = true → ¬ bltP goal (distM m goal) t (planP m (tk ++ more) goal k t c) (planP m tk goal k t c)) := by
  obtain ⟨h1, h2, h3⟩ := plan_more (nx := nextR m) (av := avM m tk) (av' := avM m (tk ++ more)) (pk := pkM tk) (pk' := pkM (tk ++ more)) (goal := goal) (dist := distM m goal) (k := k) (t := t) (c := c) hb (fun _ _ => av_less) (fun _ _ _ => pk_less)
  refine ⟨h1, fun hs hn => h2 ?_, h3⟩
  have ho := (ok_keys.1 (plan_good hb hs).1).1
  exact ok_keys.2 ⟨ho, hn⟩
theorem plan_waitsM {m : Map} {tk : List ByteArray} {goal : Int} {k : Nat} {t c : Int} (hf : freeC m c) (h : ∀ i : Nat, i ≤ k → sb (slotL c (t + i)) ∉ tk) : (planT m tk goal k t c).isSome = true :=
  plan_waits (fun _ _ => av_self) (fun i hi => av_iff.2 ⟨hf, h i hi⟩)
/-- a step further is a step of its own -/
theorem ok_app {m : Map} {tk : List ByteArray} : ∀ {p l : List Int} {t c : Int}, okM m tk t (p ++ c :: l) ↔ okM m tk t (p ++ [c]) ∧ okM m tk (t + p.length) (c :: l)
  | [], l, t, c => by
    simp only [List.nil_append, List.length_nil, Int.ofNat_zero, Int.add_zero]
    constructor
    · intro h
      refine ⟨?_, by simpa using h⟩
      cases l with
      | nil => exact h
      | cons d l => exact h.1
    · intro h
      simpa using h.2
  | [a], l, t, c => by
    have e1 : okM m tk t (a :: c :: l) ↔ avM m tk t a = true ∧ c ∈ nextR m a ∧ (c = a ∨ pkM tk t a c = true) ∧ okM m tk (t + 1) (c :: l) := Iff.rfl
    have e2 : okM m tk t (a :: [c]) ↔ avM m tk t a = true ∧ c ∈ nextR m a ∧ (c = a ∨ pkM tk t a c = true) ∧ okM m tk (t + 1) [c] := Iff.rfl
    show okM m tk t (a :: c :: l) ↔ okM m tk t (a :: [c]) ∧ okM m tk (t + ([a].length : Nat)) (c :: l)
    rw [e1, e2]
    have e3 : t + (([a].length : Nat) : Int) = t + 1 := by simp
    rw [e3]
    have e4 : okM m tk (t + 1) (c :: l) → okM m tk (t + 1) [c] := fun h => by
      cases l with
      | nil => exact h
      | cons d l => exact h.1
    constructor
    · rintro ⟨h1, h2, h3, h4⟩; exact ⟨⟨h1, h2, h3, e4 h4⟩, h4⟩
    · rintro ⟨⟨h1, h2, h3, _⟩, h4⟩; exact ⟨h1, h2, h3, h4⟩
  | a :: b :: p, l, t, c => by
    have ih := ok_app (m := m) (tk := tk) (p := b :: p) (l := l) (t := t + 1) (c := c)
    have e1 : okM m tk t (a :: b :: (p ++ c :: l)) ↔ avM m tk t a = true ∧ b ∈ nextR m a ∧ (b = a ∨ pkM tk t a b = true) ∧ okM m tk (t + 1) (b :: (p ++ c :: l)) := Iff.rfl
    have e2 : okM m tk t (a :: b :: (p ++ [c])) ↔ avM m tk t a = true ∧ b ∈ nextR m a ∧ (b = a ∨ pkM tk t a b = true) ∧ okM m tk (t + 1) (b :: (p ++ [c])) := Iff.rfl
    simp only [List.cons_append] at ih ⊢
    rw [e1, e2, ih]
    have e3 : t + 1 + ((b :: p).length : Int) = t + ((a :: b :: p).length : Int) := by simp only [List.length_cons]; omega
    rw [e3]
    constructor
    · rintro ⟨h1, h2, h3, h4, h5⟩; exact ⟨⟨h1, h2, h3, h4⟩, h5⟩
    · rintro ⟨⟨h1, h2, h3, h4⟩, h5⟩; exact ⟨h1, h2, h3, h4, h5⟩
/-- one step more -/
theorem ok_snoc {m : Map} {tk : List ByteArray} {p : List Int} {t c d : Int} : okM m tk t (p ++ [c] ++ [d]) ↔ okM m tk t (p ++ [c]) ∧ nearC m c d ∧ sb (slotL d (t + p.length + 1)) ∉ tk ∧ (d = c ∨ sb (passL c d (t + p.length)) ∉ tk) := by
  rw [List.append_assoc, List.singleton_append, ok_app]
  have e : okM m tk (t + p.length) (c :: [d]) ↔ avM m tk (t + p.length) c = true ∧ d ∈ nextR m c ∧ (d = c ∨ pkM tk (t + p.length) c d = true) ∧ avM m tk (t + p.length + 1) d = true := Iff.rfl
  rw [e, mem_nextR, pk_iff, av_iff, av_iff]
  constructor
  · rintro ⟨h, _, h2, h3, h4⟩; exact ⟨h, h2, h4.2, h3⟩
  · rintro ⟨h, h2, h4, h3⟩
    refine ⟨h, ?_, h2, h3, h2.1.2, h4⟩
    have := (ok_app (l := []).1 h).2
    exact av_iff.1 this
/-- what Every answers behind a beginning -/
def EveryP (m : Map) (tk : List ByteArray) (t : Int) (n : Nat) (sofar r : List Int) : Prop :=
  (r = [] ∧ ∀ l, (sofar ++ l).length = n → ¬ okM m tk t (sofar ++ l)) ∨ (okM m tk t r ∧ r.length = n ∧ ∃ l, r = sofar ++ l)
theorem every_end {m : Map} {tk : List ByteArray} {t : Int} {n : Nat} {sofar : List Int} (h : okM m tk t sofar) (hn : sofar.length = n) : EveryP m tk t n sofar sofar := .inr ⟨h, hn, [], by simp⟩
/-- the loop over where one may go: none of those before k leads on, or one does -/
def EveryL (m : Map) (tk : List ByteArray) (t : Int) (n : Nat) (sofar : List Int) (nx : List Int) (best : List Int) : Prop :=
  (best = [] ∧ ∀ d ∈ nx, ∀ l, (sofar ++ d :: l).length = n → ¬ okM m tk t (sofar ++ d :: l)) ∨ (okM m tk t best ∧ best.length = n ∧ ∃ l, best = sofar ++ l)
theorem everyL_nil {m : Map} {tk : List ByteArray} {t : Int} {n : Nat} {sofar : List Int} : EveryL m tk t n sofar [] [] := .inl ⟨rfl, by simp⟩
theorem ok_prefix {m : Map} {tk : List ByteArray} {t d : Int} {sofar l : List Int} (h : okM m tk t (sofar ++ d :: l)) : okM m tk t (sofar ++ [d]) := (ok_app.1 h).1
/-- a cell that one may not go to -/
theorem everyL_skip {m : Map} {tk : List ByteArray} {t d : Int} {n : Nat} {sofar nx best : List Int} (h : EveryL m tk t n sofar nx best) (hd : ¬ okM m tk t (sofar ++ [d])) : EveryL m tk t n sofar (nx ++ [d]) best := by
  rcases h with ⟨h1, h2⟩ | h
  · refine .inl ⟨h1, fun x hx l hl ho => ?_⟩
    rcases List.mem_append.1 hx with hx | hx
    · exact h2 x hx l hl ho
    · rw [List.mem_singleton.1 hx] at ho; exact hd (ok_prefix ho)
  · exact .inr h
/-- one that leads on, or not -/
theorem everyL_step {m : Map} {tk : List ByteArray} {t d : Int} {n : Nat} {sofar nx best r : List Int} (h : EveryL m tk t n sofar nx best) (hr : EveryP m tk t n (sofar ++ [d]) r) :
    (r = [] → EveryL m tk t n sofar (nx ++ [d]) best) ∧ (r ≠ [] → EveryL m tk t n sofar (nx ++ [d]) r) := by
  constructor
  · intro e
    rcases hr with ⟨_, h2⟩ | ⟨h2, _, l, hl⟩
    · rcases h with ⟨h1, h3⟩ | h
      · refine .inl ⟨h1, fun x hx l hl ho => ?_⟩
        rcases List.mem_append.1 hx with hx | hx
        · exact h3 x hx l hl ho
        · rw [List.mem_singleton.1 hx] at ho hl
          have e2 : sofar ++ [d] ++ l = sofar ++ d :: l := by simp
          exact h2 l (by rw [e2]; exact hl) (by rw [e2]; exact ho)
      · exact .inr h
    · rw [e] at hl; simp at hl
  · intro e
    rcases hr with ⟨h1, _⟩ | ⟨h2, h3, l, hl⟩
    · exact absurd h1 e
    · exact .inr ⟨h2, h3, d :: l, by rw [hl]; simp⟩
/-- .. and keeping the best so far is as good -/
theorem everyL_keep {m : Map} {tk : List ByteArray} {t d : Int} {n : Nat} {sofar nx best r : List Int} (h : EveryL m tk t n sofar nx best) (hr : EveryP m tk t n (sofar ++ [d]) r) (hb : best ≠ []) : EveryL m tk t n sofar (nx ++ [d]) best := by
  rcases h with ⟨h1, _⟩ | h
  · exact absurd h1 hb
  · exact .inr h
theorem everyL_done {m : Map} {tk : List ByteArray} {t c : Int} {n : Nat} {p best : List Int} (hn : (p ++ [c]).length < n) (h : EveryL m tk t n (p ++ [c]) (nextR m c) best) : EveryP m tk t n (p ++ [c]) best := by
  rcases h with ⟨h1, h2⟩ | h
  · refine .inl ⟨h1, fun l hl ho => ?_⟩
    cases l with
    | nil => rw [List.append_nil] at hl; omega
    | cons d l =>
      refine h2 d ?_ l hl ho
      exact mem_nextR.2 (ok_snoc.1 (ok_prefix ho)).2.1
  · exact .inr h
end Go.Proofs.YtadahmihkbpglaaDoor
