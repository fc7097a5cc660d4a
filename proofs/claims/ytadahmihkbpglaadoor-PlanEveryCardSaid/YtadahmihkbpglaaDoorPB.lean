/- Better, as the document has it. No program in sight. -/
import Derived.Test.YtadahmihkbpglaaDoorPA
set_option linter.unusedVariables false
set_option linter.unusedSimpArgs false
namespace Go.Proofs.YtadahmihkbpglaaDoor
open Go Go.Sx Go.Proofs
section
variable (nx : Int → List Int) (av : Int → Int → Bool) (pk : Int → Int → Int → Bool) (goal : Int) (dist : Int → Int)
/-- from which place on the cells are the goal to the last -/
def comesN : List Int → Nat
  | [] => 0
  | c :: l => if comesN l = 0 ∧ c = goal then 0 else comesN l + 1
theorem comesN_le : ∀ {l : List Int}, comesN goal l ≤ l.length
  | [] => Nat.le_refl _
  | c :: l => by
    have := comesN_le (l := l)
    simp only [comesN, List.length_cons]; split <;> omega
theorem comesN_cons {c : Int} {l : List Int} : comesN goal (c :: l) = if comesN goal l = 0 ∧ c = goal then 0 else comesN goal l + 1 := rfl
theorem comes_rel : ∀ {l : List Int} {t : Int}, l ≠ [] → t + l.length ≤ bigT → comesA goal t l = if comesN goal l = l.length then bigT else t + comesN goal l
  | [], t, h, _ => absurd rfl h
  | [c], t, _, hb => by
    by_cases hc : c = goal
    · have e : comesN goal [c] = 0 := by rw [comesN_cons]; exact if_pos ⟨rfl, hc⟩
      have e2 : comesA goal t [c] = t := by simp only [comesA]; exact if_pos hc
      rw [e, e2, if_neg (by simp)]; omega
    · have e : comesN goal [c] = 1 := by rw [comesN_cons]; exact if_neg fun h => hc h.2
      have e2 : comesA goal t [c] = bigT := by simp only [comesA]; exact if_neg hc
      rw [e, e2, if_pos (by simp)]
  | c :: d :: l, t, _, hb => by
    have ih := comes_rel (l := d :: l) (t := t + 1) (by simp) (by simp only [List.length_cons] at *; omega)
    have hle := comesN_le goal (l := d :: l)
    rw [comesN_cons goal (c := c) (l := d :: l)]
    show (if c = goal ∧ comesA goal (t + 1) (d :: l) = t + 1 then t else comesA goal (t + 1) (d :: l)) = _
    rw [ih]
    generalize comesN goal (d :: l) = q at *
    simp only [List.length_cons] at *
    by_cases h1 : q = l.length + 1
    · rw [if_pos h1, if_neg (show ¬ (c = goal ∧ bigT = t + 1) by omega), if_neg (show ¬ (q = 0 ∧ c = goal) by omega), if_pos (by omega)]
    · rw [if_neg h1]
      by_cases h2 : q = 0 ∧ c = goal
      · rw [if_pos (show c = goal ∧ t + 1 + (q : Int) = t + 1 by omega), if_pos h2, if_neg (by omega)]; omega
      · rw [if_neg (show ¬ (c = goal ∧ t + 1 + (q : Int) = t + 1) by omega), if_neg h2, if_neg (by omega)]; omega
/-- is a better than b? -/
def betN (a b : List Int) : Prop := tlt3 (comesN goal a) (dist (lastA a)) (passA a) (comesN goal b) (dist (lastA b)) (passA b) ∨ (comesN goal a = comesN goal b ∧ dist (lastA a) = dist (lastA b) ∧ passA a = passA b) ∧ lexL a b
theorem bet_iff {t : Int} {a b : List Int} (ha : a ≠ []) (hl : a.length = b.length) (hb : t + a.length ≤ bigT) : betN goal dist a b ↔ bltP goal dist t a b := by
  have hb' : b ≠ [] := by intro e; subst e; exact ha (List.length_eq_zero_iff.1 hl)
  have c1 := comes_rel goal ha hb
  have c2 := comes_rel goal hb' (t := t) (by rw [← hl]; exact hb)
  have l1 := comesN_le goal (l := a)
  have l2 := comesN_le goal (l := b)
  unfold betN bltP tlt3
  rw [c1, c2]
  have key : (((comesN goal a : Nat) : Int) < ((comesN goal b : Nat) : Int) ↔ (if comesN goal a = a.length then bigT else t + comesN goal a) < (if comesN goal b = b.length then bigT else t + comesN goal b)) ∧ (((comesN goal a : Nat) : Int) = ((comesN goal b : Nat) : Int) ↔ (if comesN goal a = a.length then bigT else t + comesN goal a) = (if comesN goal b = b.length then bigT else t + comesN goal b)) := by
    constructor <;> split <;> split <;> omega
  have k3 : comesN goal a = comesN goal b ↔ ((comesN goal a : Nat) : Int) = ((comesN goal b : Nat) : Int) := by omega
  rw [k3, key.1, key.2]
theorem lexL_irr : ∀ {a b : List Int}, lexL a b → lexL b a → False
  | [], _, h, _ => h
  | a :: l, [], h, _ => h
  | a :: l, b :: m, h, h' => by
    simp only [lexL] at h h'
    rcases h with h | ⟨h, h1⟩
    · rcases h' with h' | ⟨h', _⟩ <;> omega
    · rcases h' with h' | ⟨_, h2⟩
      · omega
      · exact lexL_irr h1 h2
theorem blt_irr {t : Int} {a b : List Int} (h : bltP goal dist t a b) (h' : bltP goal dist t b a) : False := by
  unfold bltP tlt3 at *
  rcases h with h | ⟨⟨h1, h2, h3⟩, h4⟩
  · rcases h' with h' | ⟨⟨h1', h2', h3'⟩, _⟩ <;> omega
  · rcases h' with h' | ⟨_, h4'⟩
    · omega
    · exact lexL_irr h4 h4'
theorem blt_self {t : Int} {a : List Int} (h : bltP goal dist t a a) : False := blt_irr goal dist h h
end
section
variable {nx : Int → List Int} {av av' : Int → Int → Bool} {pk pk' : Int → Int → Int → Bool} {goal : Int} {dist : Int → Int}
/-- less is free: a plan there is a plan here -/
theorem okP_mono (h1 : ∀ t c, av' t c = true → av t c = true) (h2 : ∀ t c d, pk' t c d = true → pk t c d = true) : ∀ {l : List Int} {t : Int}, okP nx av' pk' t l → okP nx av pk t l
  | [], _, h => h
  | [c], t, h => h1 t c h
  | c :: d :: l, t, ⟨a, b, e, f⟩ => ⟨h1 t c a, b, e.imp_right (h2 t c d), okP_mono h1 h2 f⟩
/-- more is taken: the plan that needs none of it stays, and no plan gets better -/
theorem plan_more {k : Nat} {t c : Int} (hb : t + k + 1 ≤ bigT) (h1 : ∀ t c, av' t c = true → av t c = true) (h2 : ∀ t c d, pk' t c d = true → pk t c d = true) :
    (tabP nx av pk goal dist k t c = none → tabP nx av' pk' goal dist k t c = none) ∧
    (okP nx av' pk' t (pathP nx av pk goal dist k t c) → (tabP nx av' pk' goal dist k t c).isSome = true ∧ pathP nx av' pk' goal dist k t c = pathP nx av pk goal dist k t c) ∧
    ((tabP nx av' pk' goal dist k t c).isSome = true → ¬ bltP goal dist t (pathP nx av' pk' goal dist k t c) (pathP nx av pk goal dist k t c)) := by
  obtain ⟨l, e, hl⟩ := path_head nx av pk goal dist (k := k) (t := t) (c := c)
  obtain ⟨l', e', hl'⟩ := path_head nx av' pk' goal dist (k := k) (t := t) (c := c)
  rcases tab_spec nx av pk goal dist (k := k) (t := t) (c := c) hb with ⟨g1, g2⟩ | ⟨x, g1, g2, _, g3⟩
  · refine ⟨fun _ => ?_, fun ho => ?_, fun hs => ?_⟩
    · rcases tab_spec nx av' pk' goal dist (k := k) (t := t) (c := c) hb with ⟨q1, _⟩ | ⟨x, q1, q2, _⟩
      · exact q1
      · rw [e'] at q2; exact absurd (okP_mono h1 h2 q2) (g2 l' hl')
    · rw [e] at ho; exact absurd (okP_mono h1 h2 ho) (g2 l hl)
    · rcases tab_spec nx av' pk' goal dist (k := k) (t := t) (c := c) hb with ⟨q1, _⟩ | ⟨x, q1, q2, _⟩
      · rw [q1] at hs; cases hs
      · rw [e'] at q2; exact absurd (okP_mono h1 h2 q2) (g2 l' hl')
  · refine ⟨fun h => absurd (g1.symm.trans h) (by simp), fun ho => ?_, fun hs => ?_⟩
    · rcases tab_spec nx av' pk' goal dist (k := k) (t := t) (c := c) hb with ⟨q1, q2⟩ | ⟨y, q1, q2, _, q3⟩
      · rw [e] at ho; exact absurd ho (q2 l hl)
      · refine ⟨by rw [q1]; rfl, ?_⟩
        rw [e] at ho
        rcases q3 l hl ho with h | h
        · rw [e]; exact h.symm
        · rw [e'] at q2
          rcases g3 l' hl' (okP_mono h1 h2 q2) with h' | h'
          · rw [e', h']
          · rw [e] at h'; rw [e'] at h
            exact (blt_irr goal dist h h').elim
    · rcases tab_spec nx av' pk' goal dist (k := k) (t := t) (c := c) hb with ⟨q1, q2⟩ | ⟨y, q1, q2, _, q3⟩
      · rw [q1] at hs; cases hs
      · intro hlt
        rw [e'] at q2 hlt
        rcases g3 l' hl' (okP_mono h1 h2 q2) with h' | h'
        · rw [h'] at hlt; exact blt_self goal dist hlt
        · exact blt_irr goal dist hlt h'
/-- who may stay has a plan -/
theorem plan_waits {k : Nat} : ∀ {t c : Int}, (∀ t c, av t c = true → c ∈ nx c) → (∀ i : Nat, i ≤ k → av (t + i) c = true) → (tabP nx av pk goal dist k t c).isSome = true := by
  induction k with
  | zero =>
    intro t c hn h
    have h := h 0 (Nat.le_refl _)
    simp only [tabP]
    rw [if_pos (by simpa using h)]; rfl
  | succ k ih =>
    intro t c hn h
    have ha := h 0 (Nat.zero_le _)
    have i1 := ih (t := t + 1) (c := c) hn (fun i hi => by have := h (i + 1) (by omega); rw [show t + 1 + (i : Int) = t + ((i + 1 : Nat) : Int) by omega]; exact this)
    simp only [tabP]
    rw [if_pos (by simpa using ha)]
    rcases bestOf_spec (f := candP pk goal (tabP nx av pk goal dist k (t + 1)) t c) (l := nx c) _ rfl with ⟨h1, h2⟩ | ⟨x, h1, _⟩
    · have := h2 c (hn _ _ ha)
      cases hT : tabP nx av pk goal dist k (t + 1) c with
      | none => rw [hT] at i1; cases i1
      | some y => simp [candP, hT] at this
    · rw [h1]; rfl
end
end Go.Proofs.YtadahmihkbpglaaDoor
