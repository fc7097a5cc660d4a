/- Plans on a map: what they need, and that they are good routes. No program in sight. -/
import Derived.Test.YtadahmihkbpglaaDoorPB
import Derived.Test.YtadahmihkbpglaaDoorGL
import Derived.Test.YtadahmihkbpglaaDoorBK
set_option linter.unusedVariables false
set_option linter.unusedSimpArgs false
namespace Go.Proofs.YtadahmihkbpglaaDoor
open Go Go.Sx Go.Proofs
/-- a cell that may be stood on at a tick -/
def avM (m : Map) (tk : List ByteArray) (t c : Int) : Bool := decide (freeC m c ∧ sb (slotL c t) ∉ tk)
/-- a passage that may be used at a tick -/
def pkM (tk : List ByteArray) (t c d : Int) : Bool := decide (sb (passL c d t) ∉ tk)
/-- columns and rows between -/
def distM (m : Map) (goal c : Int) : Int := max (c.tmod m.W - goal.tmod m.W) (goal.tmod m.W - c.tmod m.W) + max (c.tdiv m.W - goal.tdiv m.W) (goal.tdiv m.W - c.tdiv m.W)
def planT (m : Map) (tk : List ByteArray) (goal : Int) (k : Nat) (t c : Int) : Option PRest := tabP (nextR m) (avM m tk) (pkM tk) goal (distM m goal) k t c
def planP (m : Map) (tk : List ByteArray) (goal : Int) (k : Nat) (t c : Int) : List Int := pathP (nextR m) (avM m tk) (pkM tk) goal (distM m goal) k t c
def okM (m : Map) (tk : List ByteArray) (t : Int) (l : List Int) : Prop := okP (nextR m) (avM m tk) (pkM tk) t l
theorem av_iff {m : Map} {tk : List ByteArray} {t c : Int} : avM m tk t c = true ↔ freeC m c ∧ sb (slotL c t) ∉ tk := by unfold avM; rw [decide_eq_true_eq]
theorem pk_iff {tk : List ByteArray} {t c d : Int} : pkM tk t c d = true ↔ sb (passL c d t) ∉ tk := by unfold pkM; rw [decide_eq_true_eq]
/-- a plan is one that nothing of it is taken -/
theorem ok_keys {m : Map} {tk : List ByteArray} : ∀ {l : List Int} {t : Int}, okM m tk t l ↔ okM m [] t l ∧ ∀ k ∈ keysFrom t l, sb k ∉ tk
  | [], t => by simp [okM, okP]
  | [c], t => by
    simp only [okM, okP, av_iff, keysFrom, List.mem_singleton, forall_eq, List.not_mem_nil, not_false_eq_true, and_true]
  | c :: d :: l, t => by
    have ih := ok_keys (m := m) (tk := tk) (l := d :: l) (t := t + 1)
    unfold okM at ih ⊢
    have e1 : okP (nextR m) (avM m tk) (pkM tk) t (c :: d :: l) ↔ avM m tk t c = true ∧ d ∈ nextR m c ∧ (d = c ∨ pkM tk t c d = true) ∧ okP (nextR m) (avM m tk) (pkM tk) (t + 1) (d :: l) := Iff.rfl
    have e2 : okP (nextR m) (avM m []) (pkM []) t (c :: d :: l) ↔ avM m [] t c = true ∧ d ∈ nextR m c ∧ (d = c ∨ pkM [] t c d = true) ∧ okP (nextR m) (avM m []) (pkM []) (t + 1) (d :: l) := Iff.rfl
    rw [e1, e2, ih, av_iff, av_iff, pk_iff, pk_iff]
    have hk : ∀ P : List UInt8 → Prop, (∀ k ∈ keysFrom t (c :: d :: l), P k) ↔ P (slotL c t) ∧ (d = c ∨ P (passL c d t)) ∧ ∀ k ∈ keysFrom (t + 1) (d :: l), P k := by
      intro P
      rw [keysFrom]
      by_cases e : d = c
      · rw [if_pos e]
        constructor
        · intro h
          exact ⟨h _ (by simp), .inl e, fun k hk => h k (by simp [hk])⟩
        · rintro ⟨h1, _, h3⟩ k hk
          simp only [List.cons_append, List.nil_append, List.mem_cons] at hk
          rcases hk with hk | hk
          · rw [hk]; exact h1
          · exact h3 k hk
      · rw [if_neg e]
        constructor
        · intro h
          exact ⟨h _ (by simp), .inr (h _ (by simp)), fun k hk => h k (by simp [hk])⟩
        · rintro ⟨h1, h2, h3⟩ k hk
          simp only [List.cons_append, List.nil_append, List.mem_cons] at hk
          rcases hk with hk | hk | hk
          · rw [hk]; exact h1
          · rw [hk]; exact h2.resolve_left e
          · exact h3 k hk
    rw [hk]
    simp only [List.not_mem_nil, not_false_eq_true, and_true, or_true, true_and]
    constructor
    · rintro ⟨⟨a, b⟩, h1, h2, h3, h4⟩
      exact ⟨⟨a, h1, h3⟩, b, h2, h4⟩
    · rintro ⟨⟨a, h1, h3⟩, b, h2, h4⟩
      exact ⟨⟨a, b⟩, h1, h2, h3, h4⟩
theorem ok_free {m : Map} {tk : List ByteArray} : ∀ {l : List Int} {t : Int}, okM m tk t l → ∀ c ∈ l, freeC m c
  | [], _, h, _, hc => by cases hc
  | [c], t, h, x, hx => by rw [List.mem_singleton.1 hx]; exact (av_iff.1 h).1
  | c :: d :: l, t, h, x, hx => by
    rcases List.mem_cons.1 hx with e | e
    · rw [e]; exact (av_iff.1 h.1).1
    · exact ok_free (t := t + 1) (l := d :: l) h.2.2.2 x e
theorem cell_ok {m : Map} : ∀ {l : List Int}, (∀ c ∈ l, freeC m c) → cellCode m l = 0
  | [], _ => rfl
  | c :: l, h => by
    have h1 := h c (by simp)
    simp only [cellCode]
    rw [if_neg (fun e => e h1.2), if_neg h1.1]
    exact cell_ok fun x hx => h x (by simp [hx])
theorem step_ok {m : Map} {tk : List ByteArray} : ∀ {l : List Int} {t : Int}, okM m tk t l → stepCode m l = 0
  | [], _, _ => by simp [stepCode]
  | [c], _, _ => stepCode_one
  | c :: d :: l, t, h => by
    simp only [stepCode]
    rw [if_pos (mem_nextR.1 h.2.1)]
    exact step_ok (t := t + 1) (l := d :: l) h.2.2.2
/-- a plan is a good route -/
theorem ok_check {m : Map} {tk : List ByteArray} {l : List Int} {t : Int} (h : okM m tk t l) (h1 : l.length ≤ 24) (h2 : tickI t) (h3 : tickI (t + l.length - 1)) : checkR m ⟨t, l⟩ = 0 := by
  have h0 : l ≠ [] := by intro e; subst e; exact h
  have h4 : 0 < l.length := List.length_pos_iff.2 h0
  unfold checkR
  rw [if_neg (by simp only; omega), if_neg (fun e => e ⟨h2, h3⟩), if_neg (fun e => e (cell_ok (ok_free h))), step_ok h]
theorem av_self {m : Map} {tk : List ByteArray} {t c : Int} (h : avM m tk t c = true) : c ∈ nextR m c :=
  mem_nextR.2 ⟨⟨(av_iff.1 h).1, (av_iff.1 h).1⟩, .inl rfl⟩
/-- what is taken further takes away -/
theorem av_less {m : Map} {tk more : List ByteArray} {t c : Int} (h : avM m (tk ++ more) t c = true) : avM m tk t c = true := by
  rw [av_iff] at h ⊢
  exact ⟨h.1, fun e => h.2 (List.mem_append_left _ e)⟩
theorem pk_less {tk more : List ByteArray} {t c d : Int} (h : pkM (tk ++ more) t c d = true) : pkM tk t c d = true := by
  rw [pk_iff] at h ⊢
  exact fun e => h (List.mem_append_left _ e)
theorem planP_head {m : Map} {tk : List ByteArray} {goal : Int} {k : Nat} {t c : Int} : ∃ l, planP m tk goal k t c = c :: l ∧ l.length = k := path_head _ _ _ _ _
/-- the plan that is answered: good, of nothing taken, and the best one -/
theorem plan_good {m : Map} {tk : List ByteArray} {goal : Int} {k : Nat} {t c : Int} (hb : t + k + 1 ≤ bigT) (h : (planT m tk goal k t c).isSome = true) :
    okM m tk t (planP m tk goal k t c) ∧ ∀ l, l.length = k → okM m tk t (c :: l) → c :: l = planP m tk goal k t c ∨ bltP goal (distM m goal) t (planP m tk goal k t c) (c :: l) := by
  rcases tab_spec (nextR m) (avM m tk) (pkM tk) goal (distM m goal) (k := k) (t := t) (c := c) hb with ⟨h1, _⟩ | ⟨x, h1, h2, _, h3⟩
  · unfold planT at h; rw [h1] at h; cases h
  · exact ⟨h2, h3⟩
theorem plan_none {m : Map} {tk : List ByteArray} {goal : Int} {k : Nat} {t c : Int} (hb : t + k + 1 ≤ bigT) (h : planT m tk goal k t c = none) : ∀ l, l.length = k → ¬ okM m tk t (c :: l) := by
  rcases tab_spec (nextR m) (avM m tk) (pkM tk) goal (distM m goal) (k := k) (t := t) (c := c) hb with ⟨_, h2⟩ | ⟨x, h1, _⟩
  · exact h2
  · unfold planT at h; rw [h1] at h; cases h
end Go.Proofs.YtadahmihkbpglaaDoor
