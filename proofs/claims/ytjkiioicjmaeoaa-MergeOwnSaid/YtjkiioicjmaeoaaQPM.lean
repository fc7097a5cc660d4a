/- Merging, plain: by the least fronts, and by putting in. No program in sight. -/
import Derived.Test.YtjkiioicjmaeoaaQCB
set_option linter.unusedVariables false
set_option linter.unusedSimpArgs false
namespace Go.Proofs.Ytjkiioicjmaeoaa
open Go Go.Sx Go.X Go.Proofs
def Eqv (a b : Entry) : Prop := a.Key = b.Key ∧ a.Seq = b.Seq
instance {a b : Entry} : Decidable (Eqv a b) := inferInstanceAs (Decidable (_ ∧ _))
theorem Eqv.symm {a b : Entry} (h : Eqv a b) : Eqv b a := ⟨h.1.symm, h.2.symm⟩
theorem Eqv.trans {a b c : Entry} (h : Eqv a b) (h' : Eqv b c) : Eqv a c := ⟨h.1.trans h'.1, h.2.trans h'.2⟩
theorem Eqv.refl (a : Entry) : Eqv a a := ⟨rfl, rfl⟩
theorem bef_asymm {a b : Entry} (h : Bef a b) : ¬ Bef b a := fun h' => bef_irr (bef_trans h h')
theorem bef_ne {a b : Entry} (h : Bef a b) : ¬ Eqv a b := fun e => by
  unfold Bef at h; rw [e.1, e.2] at h; exact bef_irr (a := b) h
theorem bef_of {a b : Entry} (h : ¬ Eqv a b) (h' : ¬ Bef b a) : Bef a b := by
  rcases bef_tri a b with h1 | h1 | h1
  · exact h1
  · exact absurd h1 h
  · exact absurd h1 h'
abbrev PW (l : List Entry) : Prop := l.Pairwise Bef
theorem ordd_pw : ∀ {l : List Entry}, Ordd l → PW l
  | [], _ => .nil
  | [a], _ => .cons (fun _ h => by cases h) .nil
  | a :: b :: t, h => by
    have hb : PW (b :: t) := ordd_pw fun i hi => by have := h (i + 1) (by simpa using hi); simpa using this
    have hab : Bef a b := by have := h 0 (by simp); simpa using this
    refine .cons (fun x hx => ?_) hb
    rcases List.mem_cons.1 hx with rfl | hx
    · exact hab
    · exact bef_trans hab (List.rel_of_pairwise_cons hb hx)
theorem pw_ordd {l : List Entry} (h : PW l) : Ordd l := fun i hi => List.pairwise_iff_getElem.1 h i (i + 1) (by omega) hi (by omega)
def fst? (xs : List Entry) (x : Entry) : Option Entry := xs.find? fun y => decide (Eqv y x)
theorem fst_app {xs ys : List Entry} {x : Entry} : fst? (xs ++ ys) x = (fst? xs x).or (fst? ys x) := List.find?_append
theorem fst_eqv {xs : List Entry} {x y : Entry} (h : Eqv x y) : fst? xs x = fst? xs y := by
  unfold fst?
  congr 1
  funext z
  exact decide_eq_decide.2 ⟨fun h' => h'.trans h, fun h' => h'.trans h.symm⟩
theorem fst_some {xs : List Entry} {x y : Entry} (h : fst? xs x = some y) : Eqv y x ∧ y ∈ xs := by
  unfold fst? at h
  exact ⟨by simpa using List.find?_some h, List.mem_of_find?_eq_some h⟩
theorem fst_none {xs : List Entry} {x : Entry} : fst? xs x = none ↔ ∀ y ∈ xs, ¬ Eqv y x := by
  unfold fst?; simp
theorem pw_fst {xs : List Entry} (h : PW xs) {x : Entry} (hx : x ∈ xs) : fst? xs x = some x := by
  induction xs with
  | nil => cases hx
  | cons a t ih =>
    unfold fst?
    rw [List.find?_cons]
    rcases List.mem_cons.1 hx with rfl | hx
    · simp [Eqv.refl]
    · have : ¬ Eqv a x := bef_ne (List.rel_of_pairwise_cons h hx)
      simp only [this, decide_false]
      exact ih (List.Pairwise.of_cons h) hx
def IsM (xs res : List Entry) : Prop := PW res ∧ ∀ x, x ∈ res ↔ fst? xs x = some x
theorem pw_ext : ∀ {xs ys : List Entry}, PW xs → PW ys → (∀ x, x ∈ xs ↔ x ∈ ys) → xs = ys
  | [], [], _, _, _ => rfl
  | [], y :: ys, _, _, h => by have := (h y).2 (List.mem_cons_self ..); cases this
  | x :: xs, [], _, _, h => by have := (h x).1 (List.mem_cons_self ..); cases this
  | x :: xs, y :: ys, hx, hy, h => by
    have e : x = y := by
      rcases List.mem_cons.1 ((h x).1 (List.mem_cons_self ..)) with e | h1
      · exact e
      · rcases List.mem_cons.1 ((h y).2 (List.mem_cons_self ..)) with e | h2
        · exact e.symm
        · exact absurd (List.rel_of_pairwise_cons hx h2) (bef_asymm (List.rel_of_pairwise_cons hy h1))
    subst e
    rw [pw_ext (List.Pairwise.of_cons hx) (List.Pairwise.of_cons hy) fun z => ?_]
    constructor
    · intro hz
      rcases List.mem_cons.1 ((h z).1 (List.mem_cons_of_mem _ hz)) with e | h1
      · subst e; exact absurd (List.rel_of_pairwise_cons hx hz) bef_irr
      · exact h1
    · intro hz
      rcases List.mem_cons.1 ((h z).2 (List.mem_cons_of_mem _ hz)) with e | h1
      · subst e; exact absurd (List.rel_of_pairwise_cons hy hz) bef_irr
      · exact h1
theorem IsM.uniq {xs r r' : List Entry} (h : IsM xs r) (h' : IsM xs r') : r = r' := pw_ext h.1 h'.1 fun x => (h.2 x).trans (h'.2 x).symm
theorem IsM.congr {xs ys r : List Entry} (h : IsM xs r) (he : ∀ x, fst? xs x = fst? ys x) : IsM ys r := ⟨h.1, fun x => by rw [h.2, he]⟩
theorem isM_pw {xs : List Entry} (h : PW xs) : IsM xs xs := ⟨h, fun x => ⟨pw_fst h, fun hx => (fst_some hx).2⟩⟩
def ins (out : List Entry) (e : Entry) : List Entry := if out.any (fun y => decide (Eqv y e)) then out else out.takeWhile (fun y => decide (Bef y e)) ++ e :: out.dropWhile (fun y => decide (Bef y e))
def refM (xs : List Entry) : List Entry := xs.foldl ins []
theorem isM_any {xs out : List Entry} (h : IsM xs out) (e : Entry) : out.any (fun y => decide (Eqv y e)) = true ↔ fst? xs e ≠ none := by
  rw [List.any_eq_true]
  constructor
  · rintro ⟨y, hy, he⟩
    have he : Eqv y e := by simpa using he
    rw [← fst_eqv he, (h.2 y).1 hy]; simp
  · intro hn
    cases hf : fst? xs e with
    | none => exact absurd hf hn
    | some f =>
      obtain ⟨h1, _⟩ := fst_some hf
      exact ⟨f, (h.2 f).2 (by rw [fst_eqv h1, hf]), by simpa using h1⟩
theorem isM_ins {xs out : List Entry} (h : IsM xs out) (e : Entry) : IsM (xs ++ [e]) (ins out e) := by
  have hany := isM_any h e
  have hone : ∀ x, fst? [e] x = if Eqv e x then some e else none := fun x => by
    unfold fst?; simp only [List.find?_cons, List.find?_nil]
    by_cases he : Eqv e x <;> simp [he]
  unfold ins
  split
  · rename_i ha
    refine h.congr fun x => ?_
    rw [fst_app]
    cases hx : fst? xs x with
    | some y => rfl
    | none =>
      have : ¬ Eqv e x := fun he => hany.1 ha (by rw [fst_eqv he, hx])
      rw [hone, if_neg this]; rfl
  · rename_i ha
    have hn : fst? xs e = none := by
      cases hf : fst? xs e with
      | none => rfl
      | some f => exact absurd (hany.2 (by rw [hf]; simp)) ha
    have hno : ∀ y ∈ out, ¬ Eqv y e := fun y hy he => ha (List.any_eq_true.2 ⟨y, hy, by simpa using he⟩)
    have hsplit := List.takeWhile_append_dropWhile (p := fun y => decide (Bef y e)) (l := out)
    have hpw := h.1
    have hd : ∀ z ∈ out.dropWhile (fun y => decide (Bef y e)), Bef e z := by
      have hpd : PW (out.dropWhile (fun y => decide (Bef y e))) := hpw.sublist (List.dropWhile_sublist _)
      cases hdw : out.dropWhile (fun y => decide (Bef y e)) with
      | nil => intro z hz; cases hz
      | cons a t =>
        have hmem : a ∈ out := (List.dropWhile_sublist _).mem (by rw [hdw]; exact List.mem_cons_self ..)
        have hna : ¬ Bef a e := by
          have := List.head_dropWhile_not (p := fun y => decide (Bef y e)) (l := out) (by rw [hdw]; simp)
          simp only [hdw, List.head_cons, decide_eq_false_iff_not] at this
          exact this
        have hea : Bef e a := bef_of (fun he => hno a hmem he.symm) hna
        intro z hz
        rcases List.mem_cons.1 hz with rfl | hz
        · exact hea
        · rw [hdw] at hpd; exact bef_trans hea (List.rel_of_pairwise_cons hpd hz)
    have ht : ∀ z ∈ out.takeWhile (fun y => decide (Bef y e)), Bef z e := fun z hz => by
      have := List.all_takeWhile (l := out) (p := fun y => decide (Bef y e))
      simpa using List.all_eq_true.1 this z hz
    constructor
    · refine List.pairwise_append.2 ⟨hpw.sublist (List.takeWhile_sublist _), List.pairwise_cons.2 ⟨hd, hpw.sublist (List.dropWhile_sublist _)⟩, fun a ha' b hb => ?_⟩
      rcases List.mem_cons.1 hb with rfl | hb
      · exact ht a ha'
      · exact bef_trans (ht a ha') (hd b hb)
    · intro x
      have hm : x ∈ out.takeWhile (fun y => decide (Bef y e)) ++ e :: out.dropWhile (fun y => decide (Bef y e)) ↔ x = e ∨ x ∈ out := by
        rw [List.mem_append, List.mem_cons]
        conv => rhs; rw [← hsplit, List.mem_append]
        constructor
        · rintro (h | h | h)
          · exact .inr (.inl h)
          · exact .inl h
          · exact .inr (.inr h)
        · rintro (h | h | h)
          · exact .inr (.inl h)
          · exact .inl h
          · exact .inr (.inr h)
      rw [hm, fst_app, hone, h.2]
      constructor
      · rintro (rfl | hx)
        · rw [hn]; simp [Eqv.refl]
        · rw [hx]; rfl
      · intro hx
        cases hf : fst? xs x with
        | some y => rw [hf] at hx; right; simpa using hx
        | none =>
          rw [hf] at hx
          left
          by_cases he : Eqv e x
          · simp only [he, if_true, Option.none_or, Option.some.injEq] at hx; exact hx.symm
          · simp [he] at hx
theorem isM_refM (xs : List Entry) : IsM xs (refM xs) := by
  have key : ∀ (ys xs out : List Entry), IsM xs out → IsM (xs ++ ys) (ys.foldl ins out) := by
    intro ys
    induction ys with
    | nil => intro xs out h; simpa using h
    | cons y ys ih =>
      intro xs out h
      have := ih (xs ++ [y]) (ins out y) (isM_ins h y)
      simpa using this
  exact key xs [] [] ⟨.nil, fun x => by simp [fst?]⟩
theorem isM_pre {out R M : List Entry} (ho : PW out) (hle : ∀ x ∈ out, ∀ y ∈ R, ¬ Bef y x) (hM : IsM (out ++ R) M) : ∃ r, M = out ++ r := by
  have h2 := isM_refM R
  refine ⟨(refM R).filter fun y => !out.any fun z => decide (Eqv z y), hM.uniq ⟨?_, fun x => ?_⟩⟩
  · refine List.pairwise_append.2 ⟨ho, h2.1.sublist List.filter_sublist, fun a ha b hb => ?_⟩
    obtain ⟨hb1, hb2⟩ := List.mem_filter.1 hb
    have hn : ¬ Eqv a b := fun he => by
      have : out.any (fun z => decide (Eqv z b)) = true := List.any_eq_true.2 ⟨a, ha, by simpa using he⟩
      rw [this] at hb2; cases hb2
    exact bef_of hn (hle a ha b (fst_some ((h2.2 b).1 hb1)).2)
  · rw [List.mem_append, List.mem_filter, fst_app, h2.2]
    constructor
    · rintro (h | ⟨h, h'⟩)
      · rw [pw_fst ho h]; rfl
      · have : fst? out x = none := fst_none.2 fun y hy he => by
          have : out.any (fun z => decide (Eqv z x)) = true := List.any_eq_true.2 ⟨y, hy, by simpa using he⟩
          rw [this] at h'; cases h'
        rw [this, h]; rfl
    · intro h
      cases hf : fst? out x with
      | some y => rw [hf] at h; left; have : y = x := by simpa using h
                  subst this; exact (fst_some hf).2
      | none =>
        rw [hf] at h
        refine .inr ⟨by simpa using h, ?_⟩
        have := fst_none.1 hf
        cases ha : out.any (fun z => decide (Eqv z x)) with
        | false => rfl
        | true =>
          obtain ⟨y, hy, he⟩ := List.any_eq_true.1 ha
          exact absurd (by simpa using he) (this y hy)
theorem fst_mid {A B : List Entry} {e x : Entry} (h : ¬ Eqv e x) : fst? (A ++ e :: B) x = fst? (A ++ B) x := by
  rw [fst_app, fst_app]
  congr 1
  unfold fst?
  rw [List.find?_cons]
  simp [h]
theorem same_last {out : List Entry} {e x : Entry} (ho : PW out) (hle : ∀ x ∈ out, ¬ Bef e x) (hx : x ∈ out) (hq : Eqv x e) : SameLast out e := by
  obtain ⟨i, hi, rfl⟩ := List.getElem_of_mem hx
  have hl : out.getLast? = some (out[out.length - 1]'(by omega)) := by rw [List.getLast?_eq_getElem?, List.getElem?_eq_getElem]
  by_cases e1 : i = out.length - 1
  · subst e1; exact ⟨_, hl, hq.1, hq.2⟩
  · exfalso
    have h1 := List.pairwise_iff_getElem.1 ho i (out.length - 1) hi (by omega) (by omega)
    have h2 : Bef e (out[out.length - 1]'(by omega)) := by unfold Bef at h1 ⊢; rw [← hq.1, ← hq.2]; exact h1
    exact hle _ (List.getElem_mem _) h2
theorem mrg_take {n : Int} {ls : List (List Entry)} {out res : List Entry} (h : Mrg n ls out res) : (∀ l ∈ ls, PW l) → PW out → (∀ x ∈ out, ∀ y ∈ ls.flatten, ¬ Bef y x) → ∀ M, IsM (out ++ ls.flatten) M → res = M.take (max n.toNat out.length) := by
  induction h with
  | @full ls out hn =>
    intro hs ho hle M hM
    obtain ⟨r, rfl⟩ := isM_pre ho hle hM
    rw [Nat.max_eq_right (by omega), List.take_left]
  | @done ls out hL =>
    intro hs ho hle M hM
    have : ls.flatten = [] := List.flatten_eq_nil_iff.2 fun l hl => by
      obtain ⟨j, hj, rfl⟩ := List.getElem_of_mem hl
      exact hL j hj
    rw [this, List.append_nil] at hM
    rw [hM.uniq (isM_pw ho), List.take_of_length_le (Nat.le_max_right ..)]
  | @skip ls out res k e t hn hL hg hsame _ ih =>
    intro hs ho hle M hM
    have hk : k < ls.length := (List.getElem?_eq_some_iff.1 hg).1
    have e1 : ls = ls.take k ++ (e :: t) :: ls.drop (k + 1) := by
      rw [List.getElem?_eq_getElem hk] at hg
      have : ls[k] = e :: t := by simpa using hg
      rw [← this, List.getElem_cons_drop, List.take_append_drop]
    have e2 : ls.set k t = ls.take k ++ t :: ls.drop (k + 1) := by rw [List.set_eq_take_append_cons_drop, if_pos hk]
    have f1 : ls.flatten = (ls.take k).flatten ++ e :: (t ++ (ls.drop (k + 1)).flatten) := by
      conv => lhs; rw [e1]
      simp
    have f2 : (ls.set k t).flatten = (ls.take k).flatten ++ (t ++ (ls.drop (k + 1)).flatten) := by rw [e2]; simp
    refine ih (fun l hl => ?_) ho (fun x hx y hy => hle x hx y ?_) M (hM.congr fun x => ?_)
    · rcases List.mem_or_eq_of_mem_set hl with h | rfl
      · exact hs l h
      · exact List.Pairwise.of_cons (hs _ (List.mem_of_getElem? hg))
    · rw [f2] at hy; rw [f1]
      rcases List.mem_append.1 hy with h | h
      · exact List.mem_append.2 (.inl h)
      · exact List.mem_append.2 (.inr (List.mem_cons_of_mem _ h))
    · rw [f1, f2]
      by_cases hq : Eqv e x
      · obtain ⟨y, hy, y1, y2⟩ := hsame
        have ea : ∀ ys, fst? (out ++ ys) x = (fst? out x).or (fst? ys x) := fun ys => fst_app
        rw [ea, ea]
        have hym : y ∈ out := List.mem_of_getLast? hy
        cases hf : fst? out x with
        | some z => rfl
        | none => exact absurd (Eqv.trans ⟨y1, y2⟩ hq) (fst_none.1 hf y hym)
      · rw [← List.append_assoc, ← List.append_assoc, fst_mid hq]
  | @take ls out res k e t hn hL hg hsame _ ih =>
    intro hs ho hle M hM
    have hk : k < ls.length := (List.getElem?_eq_some_iff.1 hg).1
    have hgk : ls[k] = e :: t := by rw [List.getElem?_eq_getElem hk] at hg; simpa using hg
    have e1 : ls = ls.take k ++ (e :: t) :: ls.drop (k + 1) := by rw [← hgk, List.getElem_cons_drop, List.take_append_drop]
    have e2 : ls.set k t = ls.take k ++ t :: ls.drop (k + 1) := by rw [List.set_eq_take_append_cons_drop, if_pos hk]
    have f1 : ls.flatten = (ls.take k).flatten ++ e :: (t ++ (ls.drop (k + 1)).flatten) := by
      conv => lhs; rw [e1]
      simp
    have f2 : (ls.set k t).flatten = (ls.take k).flatten ++ (t ++ (ls.drop (k + 1)).flatten) := by rw [e2]; simp
    have hpk : PW (e :: t) := hs _ (List.mem_of_getElem? hg)
    obtain ⟨hk', e', t', he', l1, l2⟩ := hL
    rw [hgk] at he'
    obtain ⟨rfl, rfl⟩ : e = e' ∧ t = t' := by simpa using he'
    have hef : e ∈ ls.flatten := by rw [f1]; simp
    have hno : ∀ x ∈ out, ¬ Eqv x e := fun x hx hq => hsame (same_last ho (fun x hx => hle x hx e hef) hx hq)
    have hfirst : ∀ y ∈ ls.flatten, ¬ Bef y e := fun y hy hb => by
      obtain ⟨l, hl, hyl⟩ := List.mem_flatten.1 hy
      obtain ⟨j, hj, rfl⟩ := List.getElem_of_mem hl
      have hpj := hs _ hl
      cases hlj : ls[j] with
      | nil => rw [hlj] at hyl; cases hyl
      | cons a u =>
        rw [hlj] at hyl hpj
        have hna := l2 j hj a u hlj
        rcases List.mem_cons.1 hyl with rfl | h
        · exact hna hb
        · exact hna (bef_trans (List.rel_of_pairwise_cons hpj h) hb)
    have hahead : ∀ y ∈ (ls.take k).flatten, ¬ Eqv y e := fun y hy hq => by
      obtain ⟨l, hl, hyl⟩ := List.mem_flatten.1 hy
      obtain ⟨j, hj, rfl⟩ := List.getElem_of_mem hl
      have hjk : j < k := by simp at hj; omega
      have hj' : j < ls.length := by omega
      rw [List.getElem_take] at hyl
      have hpj := hs _ (List.getElem_mem hj')
      cases hlj : ls[j] with
      | nil => rw [hlj] at hyl; cases hyl
      | cons a u =>
        rw [hlj] at hyl hpj
        have hba := l1 j hj' a u hjk hlj
        rcases List.mem_cons.1 hyl with rfl | h
        · exact bef_ne hba hq.symm
        · exact bef_ne (bef_trans hba (List.rel_of_pairwise_cons hpj h)) hq.symm
    have hres := ih (fun l hl => ?_) ?_ ?_ M (hM.congr fun x => ?_)
    · rw [hres, List.length_append, List.length_singleton]
      congr 1
      omega
    · rcases List.mem_or_eq_of_mem_set hl with h | rfl
      · exact hs l h
      · exact List.Pairwise.of_cons hpk
    · refine List.pairwise_append.2 ⟨ho, .cons (fun _ h => by cases h) .nil, fun a ha b hb => ?_⟩
      rw [List.mem_singleton.1 hb]
      exact bef_of (hno a ha) (hle a ha e hef)
    · intro x hx y hy
      have hy' : y ∈ ls.flatten := by
        rw [f2] at hy; rw [f1]
        rcases List.mem_append.1 hy with h | h
        · exact List.mem_append.2 (.inl h)
        · exact List.mem_append.2 (.inr (List.mem_cons_of_mem _ h))
      rcases List.mem_append.1 hx with h | h
      · exact hle x h y hy'
      · rw [List.mem_singleton.1 h]; exact hfirst y hy'
    · rw [f1, f2]
      by_cases hq : Eqv e x
      · rw [fst_app, fst_app, fst_app, fst_app (xs := out) (ys := [e])]
        have n1 : fst? out x = none := fst_none.2 fun y hy he => hno y hy (he.trans hq.symm)
        have n2 : fst? (ls.take k).flatten x = none := fst_none.2 fun y hy he => hahead y hy (he.trans hq.symm)
        rw [n1, n2]
        unfold fst?
        simp [hq]
      · rw [← List.append_assoc, fst_mid hq, List.append_assoc out [e], List.singleton_append, fst_mid hq, List.append_assoc]
theorem mrg_ref {n : Int} {ls : List (List Entry)} {res : List Entry} (h : Mrg n ls [] res) (hs : ∀ l ∈ ls, Ordd l) : res = (refM ls.flatten).take n.toNat := by
  have := mrg_take h (fun l hl => ordd_pw (hs l hl)) .nil (fun x hx => by cases hx) (refM ls.flatten) (isM_refM _)
  simpa using this
end Go.Proofs.Ytjkiioicjmaeoaa
