/- The best plan, from the last tick back. No program in sight. -/
import Derived.Test.YtadahmihkbpglaaDoorBA
set_option linter.unusedVariables false
set_option linter.unusedSimpArgs false
namespace Go.Proofs.YtadahmihkbpglaaDoor
open Go Go.Sx Go.Proofs
abbrev bigT : Int := 9223372036854775807
/-- the best that one can still do -/
structure PRest where
  comes : Int
  far : Int
  passes : Int
  next : Int
def rlt (a b : PRest) : Prop := a.comes < b.comes ∨ a.comes = b.comes ∧ (a.far < b.far ∨ a.far = b.far ∧ (a.passes < b.passes ∨ a.passes = b.passes ∧ a.next < b.next))
instance {a b : PRest} : Decidable (rlt a b) := by unfold rlt; infer_instance
theorem rlt_tot {a b : PRest} (h : ¬ rlt a b) : a = b ∨ rlt b a := by
  obtain ⟨a1, a2, a3, a4⟩ := a
  obtain ⟨b1, b2, b3, b4⟩ := b
  simp only [rlt, PRest.mk.injEq] at *
  omega
theorem rlt_trans {a b c : PRest} (h : rlt a b) (h' : rlt b c) : rlt a c := by
  simp only [rlt] at *
  omega
def relax (goal t c to : Int) (y : PRest) : PRest := ⟨if c = goal ∧ y.comes = t + 1 then t else y.comes, y.far, y.passes + (if to = c then 0 else 1), to⟩
def pickB (cur x : Option PRest) : Option PRest := match x with
  | none => cur
  | some x => match cur with
    | none => some x
    | some b => if rlt x b then some x else some b
def bestOf (f : Int → Option PRest) (l : List Int) : Option PRest := l.foldl (fun cur to => pickB cur (f to)) none
theorem bestOf_snoc {f : Int → Option PRest} {l : List Int} {to : Int} : bestOf f (l ++ [to]) = pickB (bestOf f l) (f to) := by
  unfold bestOf; rw [List.foldl_append]; rfl
theorem bestOf_spec {f : Int → Option PRest} : ∀ {l : List Int} (n : Nat), l.length = n → (bestOf f l = none ∧ ∀ to ∈ l, f to = none) ∨ ∃ x, bestOf f l = some x ∧ (∃ to ∈ l, f to = some x) ∧ ∀ to ∈ l, ∀ y, f to = some y → x = y ∨ rlt x y
  | l, 0, h => by
    have : l = [] := List.length_eq_zero_iff.1 h
    subst this; exact .inl ⟨rfl, by simp⟩
  | l, n + 1, h => by
    obtain ⟨m, a, rfl⟩ : ∃ m a, l = m ++ [a] := ⟨l.dropLast, l.getLast (by intro e; subst e; cases h), (List.dropLast_concat_getLast _).symm⟩
    have hm : m.length = n := by simpa using h
    rw [bestOf_snoc]
    have ih := bestOf_spec (f := f) (l := m) n hm
    cases hf : f a with
    | none =>
      unfold pickB
      rcases ih with ⟨h1, h2⟩ | ⟨x, h1, ⟨to, h2, h3⟩, h4⟩
      · refine .inl ⟨h1, fun to ht => ?_⟩
        rcases List.mem_append.1 ht with ht | ht
        · exact h2 to ht
        · rw [List.mem_singleton.1 ht]; exact hf
      · refine .inr ⟨x, h1, ⟨to, List.mem_append_left _ h2, h3⟩, fun to' ht y hy => ?_⟩
        rcases List.mem_append.1 ht with ht | ht
        · exact h4 to' ht y hy
        · rw [List.mem_singleton.1 ht, hf] at hy; cases hy
    | some z =>
      rcases ih with ⟨h1, h2⟩ | ⟨x, h1, ⟨to, h2, h3⟩, h4⟩
      · rw [h1]
        refine .inr ⟨z, rfl, ⟨a, by simp, hf⟩, fun to' ht y hy => ?_⟩
        rcases List.mem_append.1 ht with ht | ht
        · rw [h2 to' ht] at hy; cases hy
        · rw [List.mem_singleton.1 ht, hf] at hy; cases hy; exact .inl rfl
      · rw [h1]
        simp only [pickB]
        by_cases hz : rlt z x
        · rw [if_pos hz]
          refine .inr ⟨z, rfl, ⟨a, by simp, hf⟩, fun to' ht y hy => ?_⟩
          rcases List.mem_append.1 ht with ht | ht
          · rcases h4 to' ht y hy with e | e
            · subst e; exact .inr hz
            · exact .inr (rlt_trans hz e)
          · rw [List.mem_singleton.1 ht, hf] at hy; cases hy; exact .inl rfl
        · rw [if_neg hz]
          refine .inr ⟨x, rfl, ⟨to, List.mem_append_left _ h2, h3⟩, fun to' ht y hy => ?_⟩
          rcases List.mem_append.1 ht with ht | ht
          · exact h4 to' ht y hy
          · rw [List.mem_singleton.1 ht, hf] at hy; cases hy
            rcases rlt_tot hz with e | e
            · exact .inl e.symm
            · exact .inr e
section
variable (nx : Int → List Int) (av : Int → Int → Bool) (pk : Int → Int → Int → Bool) (goal : Int) (dist : Int → Int)
def candP (T' : Int → Option PRest) (t c to : Int) : Option PRest := match T' to with
  | none => none
  | some y => if to = c ∨ pk t c to = true then some (relax goal t c to y) else none
def tabP : Nat → Int → Int → Option PRest
  | 0, t, c => if av t c = true then some ⟨if c = goal then t else bigT, dist c, 0, 0⟩ else none
  | k + 1, t, c => if av t c = true then bestOf (candP pk goal (tabP k (t + 1)) t c) (nx c) else none
def nextO (o : Option PRest) : Int := match o with | some x => x.next | none => 0
def pathP : Nat → Int → Int → List Int
  | 0, _, c => [c]
  | k + 1, t, c => c :: pathP k (t + 1) (nextO (tabP nx av pk goal dist (k + 1) t c))
def okP : Int → List Int → Prop
  | _, [] => False
  | t, [c] => av t c = true
  | t, c :: d :: l => av t c = true ∧ d ∈ nx c ∧ (d = c ∨ pk t c d = true) ∧ okP (t + 1) (d :: l)
def comesA : Int → List Int → Int
  | _, [] => bigT
  | t, [c] => if c = goal then t else bigT
  | t, c :: d :: l => if c = goal ∧ comesA (t + 1) (d :: l) = t + 1 then t else comesA (t + 1) (d :: l)
def lastA : List Int → Int
  | [] => 0
  | [c] => c
  | _ :: d :: l => lastA (d :: l)
def passA : List Int → Int
  | c :: d :: l => passA (d :: l) + if d = c then 0 else 1
  | _ => 0
def lexL : List Int → List Int → Prop
  | a :: l, b :: m => a < b ∨ a = b ∧ lexL l m
  | _, _ => False
def tlt3 (x1 x2 x3 y1 y2 y3 : Int) : Prop := x1 < y1 ∨ x1 = y1 ∧ (x2 < y2 ∨ x2 = y2 ∧ x3 < y3)
/-- is a better than b? -/
def bltP (t : Int) (a b : List Int) : Prop := tlt3 (comesA goal t a) (dist (lastA a)) (passA a) (comesA goal t b) (dist (lastA b)) (passA b) ∨ (comesA goal t a = comesA goal t b ∧ dist (lastA a) = dist (lastA b) ∧ passA a = passA b) ∧ lexL a b
theorem comes_ge : ∀ {l : List Int} {t : Int}, t + l.length ≤ bigT → t ≤ comesA goal t l
  | [], t, h => by simpa [comesA] using h
  | [c], t, h => by
    simp only [List.length_cons, List.length_nil] at h
    simp only [comesA]; split
    · exact Int.le_refl _
    · omega
  | c :: d :: l, t, h => by
    have := comes_ge (l := d :: l) (t := t + 1) (by simp only [List.length_cons] at *; omega)
    simp only [comesA]; split <;> omega
theorem path_head {k : Nat} {t c : Int} : ∃ l, pathP nx av pk goal dist k t c = c :: l ∧ l.length = k := by
  induction k generalizing t c with
  | zero => exact ⟨[], rfl, rfl⟩
  | succ k ih =>
    obtain ⟨l, e, hl⟩ := ih (t := t + 1) (c := nextO (tabP nx av pk goal dist (k + 1) t c))
    exact ⟨_, rfl, by rw [e]; simp [hl]⟩
theorem blt_cons {t c d : Int} {l m : List Int} (hl : t + 1 + (d :: l).length ≤ bigT) (hm : m.length = l.length) (h : bltP goal dist (t + 1) (d :: l) (d :: m)) : bltP goal dist t (c :: d :: l) (c :: d :: m) := by
  have g1 := comes_ge goal (l := d :: l) (t := t + 1) hl
  have g2 := comes_ge goal (l := d :: m) (t := t + 1) (by simp only [List.length_cons, hm] at *; omega)
  unfold bltP at *
  simp only [comesA, lastA, passA, lexL] at *
  rcases h with h | ⟨⟨h1, h2, h3⟩, h4⟩
  · left
    simp only [tlt3] at *
    by_cases hc : c = goal
    · simp only [hc, true_and] at *
      split <;> split <;> omega
    · simp only [hc, false_and, if_false] at *
      omega
  · right
    rw [h1, h3]
    exact ⟨⟨rfl, h2, rfl⟩, .inr ⟨trivial, h4⟩⟩
/-- what the table tells -/
theorem tab_spec : ∀ {k : Nat} {t c : Int}, t + k + 1 ≤ bigT →
    (tabP nx av pk goal dist k t c = none ∧ ∀ l, l.length = k → ¬ okP nx av pk t (c :: l)) ∨
    ∃ x, tabP nx av pk goal dist k t c = some x ∧ okP nx av pk t (pathP nx av pk goal dist k t c) ∧ (x.comes = comesA goal t (pathP nx av pk goal dist k t c) ∧ x.far = dist (lastA (pathP nx av pk goal dist k t c)) ∧ x.passes = passA (pathP nx av pk goal dist k t c)) ∧
      ∀ l, l.length = k → okP nx av pk t (c :: l) → c :: l = pathP nx av pk goal dist k t c ∨ bltP goal dist t (pathP nx av pk goal dist k t c) (c :: l)
  | 0, t, c, hb => by
    by_cases ha : av t c = true
    · refine .inr ⟨_, by simp only [tabP]; rw [if_pos ha], ha, ⟨rfl, rfl, rfl⟩, fun l hl ho => .inl ?_⟩
      rw [List.length_eq_zero_iff.1 hl]; rfl
    · refine .inl ⟨by simp only [tabP]; rw [if_neg ha], fun l hl ho => ha ?_⟩
      rw [List.length_eq_zero_iff.1 hl] at ho; exact ho
  | k + 1, t, c, hb => by
    by_cases ha : av t c = true
    rotate_left
    · refine .inl ⟨by simp only [tabP]; rw [if_neg ha], fun l hl ho => ha ?_⟩
      match l, hl, ho with
      | d :: l, _, ho => exact ho.1
    have ih : ∀ d, _ := fun d => tab_spec (k := k) (t := t + 1) (c := d) (by omega)
    have hT : tabP nx av pk goal dist (k + 1) t c = bestOf (candP pk goal (tabP nx av pk goal dist k (t + 1)) t c) (nx c) := by
      simp only [tabP]; rw [if_pos ha]
    have hP : pathP nx av pk goal dist (k + 1) t c = c :: pathP nx av pk goal dist k (t + 1) (nextO (tabP nx av pk goal dist (k + 1) t c)) := rfl
    -- the candidate that a plan begins with
    have hcand : ∀ d m, (d :: m).length = k + 1 → okP nx av pk t (c :: d :: m) → d ∈ nx c ∧ okP nx av pk (t + 1) (d :: m) ∧ ∃ y, tabP nx av pk goal dist k (t + 1) d = some y ∧ candP pk goal (tabP nx av pk goal dist k (t + 1)) t c d = some (relax goal t c d y) := by
      intro d m hl ho
      obtain ⟨_, h2, h3, h4⟩ := ho
      rcases ih d with ⟨_, h⟩ | ⟨y, h, _⟩
      · exact absurd h4 (h m (by simpa using hl))
      · refine ⟨h2, h4, y, h, ?_⟩
        simp only [candP, h]; rw [if_pos h3]
    rcases bestOf_spec (f := candP pk goal (tabP nx av pk goal dist k (t + 1)) t c) (l := nx c) _ rfl with ⟨h1, h2⟩ | ⟨x, h1, ⟨to, hto, hx⟩, h4⟩
    · refine .inl ⟨hT.trans h1, fun l hl ho => ?_⟩
      match l, hl, ho with
      | d :: m, hl, ho =>
        obtain ⟨q1, _, y, _, q2⟩ := hcand d m hl ho
        rw [h2 d q1] at q2; cases q2
    · have hTx := hT.trans h1
      rcases ih to with ⟨h, _⟩ | ⟨y, hy, hok, ⟨y1, y2, y3⟩, hmin⟩
      · simp only [candP, h] at hx; cases hx
      simp only [candP, hy] at hx
      by_cases hg : to = c ∨ pk t c to = true
      rotate_left
      · rw [if_neg hg] at hx; cases hx
      rw [if_pos hg] at hx
      have hx := Option.some.inj hx
      have hn : nextO (tabP nx av pk goal dist (k + 1) t c) = to := by rw [hTx, ← hx]; rfl
      rw [hn] at hP
      obtain ⟨pl, pe, pn⟩ := path_head nx av pk goal dist (k := k) (t := t + 1) (c := to)
      rw [hP]
      have x1 : x.comes = comesA goal t (c :: pathP nx av pk goal dist k (t + 1) to) := by
        rw [← hx]; simp only [relax]; rw [y1, pe]; rfl
      have x2 : x.far = dist (lastA (c :: pathP nx av pk goal dist k (t + 1) to)) := by
        rw [← hx]; simp only [relax]; rw [y2, pe]; rfl
      have x3 : x.passes = passA (c :: pathP nx av pk goal dist k (t + 1) to) := by
        rw [← hx]; simp only [relax]; rw [y3, pe]; rfl
      have x4 : x.next = to := by rw [← hx]; rfl
      refine .inr ⟨x, hTx, ?_, ⟨x1, x2, x3⟩, fun l hl ho => ?_⟩
      · rw [pe]; rw [pe] at hok; exact ⟨ha, hto, hg, hok⟩
      match l, hl, ho with
      | d :: m, hl, ho =>
        obtain ⟨q1, q2, yd, q3, q4⟩ := hcand d m hl ho
        have hm : m.length = k := by simpa using hl
        by_cases hd : d = to
        · subst hd
          rcases hmin m hm q2 with e | e
          · exact .inl (by rw [e])
          · right
            rw [pe] at e ⊢
            exact blt_cons goal dist (by simp only [List.length_cons]; omega) (by omega) e
        · right
          have hlt : rlt x (relax goal t c d yd) := by
            rcases h4 d q1 _ q4 with e | e
            · exfalso; apply hd; rw [← x4, e]; rfl
            · exact e
          rcases ih d with ⟨h, _⟩ | ⟨yd', hyd, _, ⟨z1, z2, z3⟩, hmind⟩
          · rw [h] at q3; cases q3
          rw [q3] at hyd
          obtain rfl := Option.some.inj hyd
          obtain ⟨dl, de, dn⟩ := path_head nx av pk goal dist (k := k) (t := t + 1) (c := d)
          have w1 : (relax goal t c d yd).comes = comesA goal t (c :: d :: dl) := by simp only [relax]; rw [z1, de]; rfl
          have w2 : (relax goal t c d yd).far = dist (lastA (c :: d :: dl)) := by simp only [relax]; rw [z2, de]; rfl
          have w3 : (relax goal t c d yd).passes = passA (c :: d :: dl) := by simp only [relax]; rw [z3, de]; rfl
          have w4 : (relax goal t c d yd).next = d := rfl
          have hle : c :: d :: m = c :: d :: dl ∨ bltP goal dist t (c :: d :: dl) (c :: d :: m) := by
            rcases hmind m hm q2 with e | e
            · rw [de] at e; exact .inl (by rw [e])
            · rw [de] at e
              exact .inr (blt_cons goal dist (by simp only [List.length_cons]; omega) (by omega) e)
          unfold rlt at hlt
          rw [x1, x2, x3, x4, w1, w2, w3, w4] at hlt
          have hlex : to < d → lexL (c :: pathP nx av pk goal dist k (t + 1) to) (c :: d :: m) := fun h => by
            rw [pe]; exact .inr ⟨rfl, .inl h⟩
          rcases hle with e | e
          · unfold bltP tlt3
            rw [e]
            by_cases h5 : to < d
            · have h6 := hlex h5
              rw [e] at h6
              rcases hlt with h | ⟨ha1, h | ⟨hb1, h | ⟨hc1, h⟩⟩⟩
              · left; omega
              · left; omega
              · left; omega
              · exact .inr ⟨⟨ha1, hb1, hc1⟩, h6⟩
            · left; omega
          · unfold bltP tlt3 at e ⊢
            by_cases h5 : to < d
            · have h6 := hlex h5
              rcases e with e | ⟨⟨e1, e2, e3⟩, _⟩
              · left; omega
              · rcases hlt with h | ⟨ha1, h | ⟨hb1, h | ⟨hc1, h⟩⟩⟩
                · left; omega
                · left; omega
                · left; omega
                · right; exact ⟨⟨by omega, by omega, by omega⟩, h6⟩
            · left
              rcases e with e | ⟨⟨e1, e2, e3⟩, _⟩ <;> omega
end
end Go.Proofs.YtadahmihkbpglaaDoor
