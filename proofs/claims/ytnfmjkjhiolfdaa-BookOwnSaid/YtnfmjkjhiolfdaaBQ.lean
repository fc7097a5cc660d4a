/- The book's plain law: no program in sight. -/
import Derived.Test.YtnfmjkjhiolfdaaBN
set_option linter.unusedVariables false
set_option linter.unusedSimpArgs false
namespace Go.Proofs.Ytnfmjkjhiolfdaa
open Go Go.Sx Go.Proofs
/-- a good route -/
structure GoodR (m : Map) (x : Route) : Prop where
  n0 : x.Cells ≠ []
  n24 : x.Cells.length ≤ 24
  s0 : 0 ≤ x.Start
  s1 : x.Start + x.Cells.length - 1 ≤ 1073741824
  cells : ∀ c ∈ x.Cells, freeC m c
  step : stepCode m x.Cells = 0
theorem cellCode_ok {m : Map} : ∀ {l : List Int}, cellCode m l = 0 ↔ ∀ c ∈ l, freeC m c
  | [] => by simp [cellCode]
  | c :: r => by
    have ih := cellCode_ok (m := m) (l := r)
    unfold cellCode
    split
    · next h => exact ⟨fun e => (by cases e), fun e => absurd (e c (by simp)).2 h⟩
    · next h =>
      split
      · next h2 => exact ⟨fun e => (by cases e), fun e => absurd h2 (e c (by simp)).1⟩
      · next h2 =>
        rw [ih]
        exact ⟨fun e d hd => by rcases List.mem_cons.1 hd with rfl | hd; exact ⟨h2, Classical.not_not.1 h⟩; exact e d hd, fun e d hd => e d (by simp [hd])⟩
theorem checkR_ok {m : Map} {x : Route} : checkR m x = 0 ↔ GoodR m x := by
  unfold checkR
  constructor
  · intro h
    split at h
    · cases h
    · next h1 =>
      split at h
      · cases h
      · next h2 =>
        split at h
        · next h3 => exact absurd h h3
        · next h3 =>
          have h2 := Classical.not_not.1 h2
          have h3 := cellCode_ok.1 (Classical.not_not.1 h3)
          simp only [tickI] at h2
          exact ⟨fun e => h1 (.inl (by rw [e]; rfl)), by omega, by omega, by omega, h3, h⟩
  · intro h
    have hn : x.Cells.length ≠ 0 := fun e => h.n0 (List.eq_nil_of_length_eq_zero e)
    have h1 := h.n24
    have h2 := h.s0
    have h3 := h.s1
    rw [if_neg (by omega), if_neg (by simp only [tickI]; omega), if_neg (by rw [Classical.not_not]; exact cellCode_ok.2 h.cells)]
    exact h.step
theorem step_tail {m : Map} {a : Int} {r : List Int} (h : stepCode m (a :: r) = 0) : stepCode m r = 0 := by
  cases r with
  | nil => rfl
  | cons b r =>
    unfold stepCode at h
    split at h
    · exact h
    · cases h
theorem step_drop {m : Map} : ∀ {k : Nat} {l : List Int}, stepCode m l = 0 → stepCode m (l.drop k) = 0
  | 0, _, h => h
  | k + 1, [], h => h
  | k + 1, a :: r, h => step_drop (k := k) (step_tail h)
/-- none or a good one -/
def okR (m : Map) (x : Route) : Prop := x = zRoute ∨ GoodR m x
theorem GoodR.plain {m : Map} {x : Route} (h : GoodR m x) : plainR x := by
  have hn : x.Cells.length ≠ 0 := fun e => h.n0 (List.eq_nil_of_length_eq_zero e)
  have h1 := h.n24; have h2 := h.s0; have h3 := h.s1
  simp only [plainR]; omega
theorem cutR_z {t : Int} : cutR zRoute t = zRoute := by unfold cutR; rw [if_neg]; rintro ⟨_, h⟩; simp [zRoute] at h
theorem okR.cut {m : Map} {x : Route} {t : Int} (h : okR m x) : okR m (cutR x t) := by
  rcases h with rfl | h
  · exact .inl cutR_z
  · unfold cutR
    split
    · next hc =>
      have h1 := h.n24; have h2 := h.s0; have h3 := h.s1
      exact .inr ⟨fun e => by have := congrArg List.length e; simp at this; omega, by simp; omega, by simp only; omega, by simp only [List.length_drop]; omega, fun c hc => h.cells c (List.mem_of_mem_drop hc), step_drop h.step⟩
    · exact .inl rfl
theorem atR_zR {t : Int} : atR zRoute t = none := by unfold atR; split <;> simp [zRoute]
theorem at_cut {m : Map} {x : Route} {n t : Int} (h : okR m x) : atR (cutR x n) t = if n ≤ t then atR x t else none := by
  rcases h with rfl | h
  · rw [cutR_z, atR_zR]; split <;> rfl
  · have hp := h.plain
    have h1 := h.n24; have h2 := h.s0; have h3 := h.s1
    by_cases hc : (n - x.Start).toNat < x.Cells.length
    · have e : cutR x n = ⟨x.Start + (n - x.Start).toNat, x.Cells.drop (n - x.Start).toNat⟩ := by unfold cutR; rw [if_pos ⟨hp, hc⟩]
      have hp' : plainR (cutR x n) := by
        rw [e]; simp only [plainR, List.length_drop]; omega
      unfold atR
      by_cases hn : n ≤ t
      · rw [if_pos hn]
        by_cases hs : x.Start ≤ t
        · rw [if_pos ⟨hp', by rw [e]; simp only; omega⟩, if_pos ⟨hp, hs⟩, e]
          simp only [List.getElem?_drop]
          congr 1
          omega
        · rw [if_neg (by rw [e]; simp only; omega), if_neg (by omega)]
      · rw [if_neg hn]
        by_cases hs : n ≤ x.Start
        · have hz : (n - x.Start).toNat = 0 := by omega
          rw [if_neg (by rw [e]; simp only; omega)]
        · rw [if_neg (by rw [e]; simp only; omega)]
    · have e : cutR x n = zRoute := by unfold cutR; rw [if_neg (fun h => hc h.2)]
      rw [e, atR_zR]
      split
      · next hn =>
        unfold atR
        split
        · rw [List.getElem?_eq_none (by omega)]
        · rfl
      · rfl
theorem meetR_iff {x y : Route} : meetR x y ↔ ∃ t, meetAt x y t := ⟨fun h => h.2, fun ⟨t, h⟩ => ⟨by obtain ⟨p, q, e1, e2, _⟩ := h; exact ⟨(atR_some.1 e1).1, (atR_some.1 e2).1⟩, t, h⟩⟩
theorem meetAt_symm {x y : Route} {t : Int} (h : meetAt x y t) : meetAt y x t := by
  obtain ⟨p, q, e1, e2, h⟩ := h
  refine ⟨q, p, e2, e1, ?_⟩
  rcases h with h | ⟨u, v, a, b, c, d, e⟩
  · exact .inl h.symm
  · exact .inr ⟨v, u, b, a, by rw [e, ← d]; exact c.symm, e, d⟩
theorem meet_cut {m : Map} {x y : Route} {n t : Int} (hy : okR m y) : meetAt x (cutR y n) t ↔ n ≤ t ∧ meetAt x y t := by
  unfold meetAt
  rw [at_cut hy, at_cut hy]
  by_cases hn : n ≤ t
  · rw [if_pos hn, if_pos (by omega)]; exact ⟨fun h => ⟨hn, h⟩, fun h => h.2⟩
  · rw [if_neg hn]; exact ⟨fun ⟨p, q, _, e, _⟩ => (by cases e), fun h => absurd h.1 hn⟩
theorem meet_cut2 {m : Map} {x y : Route} {n t : Int} (hx : okR m x) (hy : okR m y) : meetAt (cutR x n) (cutR y n) t ↔ n ≤ t ∧ meetAt x y t := by
  rw [meet_cut hy]
  constructor
  · rintro ⟨h1, h2⟩; exact ⟨h1, meetAt_symm ((meet_cut hx).1 (meetAt_symm h2)).2⟩
  · rintro ⟨h1, h2⟩; exact ⟨h1, meetAt_symm ((meet_cut hx).2 ⟨h1, meetAt_symm h2⟩)⟩
/-- what a call can do -/
inductive Step (conf : Conf) (m : Map) (es : List Int) (rs : List Route) (r : Int) (t : Int) : List Int → List Route → Prop
  | none : Step conf m es rs r t es rs
  | epoch : robI r → Step conf m es rs r t (es.set r.toNat (es.getD r.toNat 0 + 1)) rs
  | drop : robI r → es.getD r.toNat 0 ≠ 0 → Step conf m es rs r t es (rs.set r.toNat zRoute)
  | take {x : Route} : robI r → es.getD r.toNat 0 ≠ 0 → checkR m x = 0 → ¬ conf rs r.toNat x t → Step conf m es rs r t es (rs.set r.toNat x)
/-- what a reply can be -/
structure Rep (es : List Int) (rs : List Route) (r : Int) (c : Call) (es' : List Int) (rs' : List Route) (y : Reply) : Prop where
  no : y.Code ≠ 0 → y.Epoch = 0 ∧ y.Route = zRoute
  same : y.Code ≠ 0 ∨ c.Verb = 6 ∨ c.Verb = 2 → es' = es ∧ rs' = rs
  ok : y.Code = 0 → robI r ∧ (0 ≤ es.getD r.toNat 0 → 0 < y.Epoch) ∧ (r.toNat < es.length → es'.getD r.toNat 0 = y.Epoch)
theorem set_getD {es : List Int} {j : Nat} {e : Int} (h : j < es.length) : (es.set j e).getD j 0 = e := by simp [List.getD, h]
theorem take_step {conf : Conf} {m : Map} {es : List Int} {rs : List Route} {r : Int} {x : Route} {t : Int} (hr : robI r) (he : es.getD r.toNat 0 ≠ 0) :
    Step conf m es rs r t es (takeC conf m es rs r.toNat x t).1 := by
  unfold takeC
  split
  · exact .none
  · next h1 =>
    split
    · exact .none
    · next h2 => exact .take hr he (Classical.not_not.1 h1) h2
theorem take_rep {conf : Conf} {m : Map} {es : List Int} {rs : List Route} {r : Int} {c : Call} {x : Route} {t : Int} (hr : robI r) (he : es.getD r.toNat 0 ≠ 0) (hv : c.Verb ≠ 6 ∧ c.Verb ≠ 2) :
    Rep es rs r c es (takeC conf m es rs r.toNat x t).1 (takeC conf m es rs r.toNat x t).2 := by
  unfold takeC
  split
  · next h => exact ⟨fun _ => ⟨rfl, rfl⟩, fun _ => ⟨rfl, rfl⟩, fun e => absurd e h⟩
  · split
    · exact ⟨fun _ => ⟨rfl, rfl⟩, fun _ => ⟨rfl, rfl⟩, fun e => by cases e⟩
    · exact ⟨fun e => absurd rfl e, fun e => by rcases e with e | e | e; exact absurd rfl e; exact absurd e hv.1; exact absurd e hv.2, fun _ => ⟨hr, fun h => by simp only; omega, fun _ => rfl⟩⟩
theorem no_rep {es : List Int} {rs : List Route} {r : Int} {c : Call} {k : Int} (hk : k ≠ 0) : Rep es rs r c es rs ⟨k, 0, zRoute⟩ := ⟨fun _ => ⟨rfl, rfl⟩, fun _ => ⟨rfl, rfl⟩, fun e => absurd e hk⟩
theorem apply_step {conf : Conf} {m : Map} {es : List Int} {rs : List Route} {r : Int} {c : Call} {t : Int} :
    Step conf m es rs r t (applyC conf m es rs r c t).1 (applyC conf m es rs r c t).2.1 ∧ Rep es rs r c (applyC conf m es rs r c t).1 (applyC conf m es rs r c t).2.1 (applyC conf m es rs r c t).2.2 := by
  unfold applyC
  split
  · exact ⟨.none, no_rep (by decide)⟩
  next h0 =>
  have hr : robI r := Classical.not_not.1 fun e => h0 (.inl e)
  unfold applyIn
  split
  · next h => exact ⟨.epoch hr, fun e => absurd rfl e, fun e => by rcases e with e | e | e; exact absurd rfl e; omega; omega, fun _ => ⟨hr, fun h => by simp only; omega, fun h => set_getD h⟩⟩
  split
  · exact ⟨.none, no_rep (by decide)⟩
  next he =>
  split
  · exact ⟨.none, fun e => absurd rfl e, fun _ => ⟨rfl, rfl⟩, fun _ => ⟨hr, fun h => by simp only; omega, fun _ => rfl⟩⟩
  next h6 =>
  split
  · exact ⟨.none, no_rep (by decide)⟩
  split
  · exact ⟨.none, fun e => absurd rfl e, fun _ => ⟨rfl, rfl⟩, fun _ => ⟨hr, fun h => by simp only; omega, fun _ => rfl⟩⟩
  next h2 =>
  split
  · unfold resC
    split
    · next h => exact ⟨.none, no_rep h⟩
    split
    · exact ⟨.none, no_rep (by decide)⟩
    split
    · exact ⟨.none, no_rep (by decide)⟩
    exact ⟨take_step hr he, take_rep hr he ⟨h6, h2⟩⟩
  split
  · exact ⟨.none, no_rep (by decide)⟩
  split
  · next h5 => exact ⟨.drop hr he, fun e => absurd rfl e, fun e => by rcases e with e | e | e; exact absurd rfl e; exact absurd e h6; exact absurd e h2, fun _ => ⟨hr, fun h => by simp only; omega, fun _ => rfl⟩⟩
  exact ⟨take_step hr he, take_rep hr he ⟨h6, h2⟩⟩
/-- what a book keeps -/
structure Inv (m : Map) (es : List Int) (rs : List Route) (k : Int) : Prop where
  el : es.length = 16
  rl : rs.length = 16
  e : ∀ e ∈ es, 0 ≤ e ∧ e ≤ k
  ok : ∀ j, j < 16 → rs.getD j zRoute = zRoute ∨ (GoodR m (rs.getD j zRoute) ∧ es.getD j 0 ≠ 0)
theorem Inv.okR {m : Map} {es : List Int} {rs : List Route} {k : Int} (h : Inv m es rs k) {j : Nat} (hj : j < 16) : okR m (rs.getD j zRoute) := by
  rcases h.ok j hj with e | e
  · exact .inl e
  · exact .inr e.1
theorem Inv.ge {m : Map} {es : List Int} {rs : List Route} {k : Int} (h : Inv m es rs k) {j : Nat} : 0 ≤ es.getD j 0 ∧ (j < 16 → es.getD j 0 ≤ k) := by
  by_cases hj : j < es.length
  · have : es.getD j 0 = es[j] := by simp [List.getD, hj]
    rw [this]
    have := h.e _ (List.getElem_mem hj)
    exact ⟨this.1, fun _ => this.2⟩
  · have : es.getD j 0 = 0 := by simp [List.getD, List.getElem?_eq_none (Nat.le_of_not_lt hj)]
    rw [this]
    exact ⟨by omega, fun e => absurd e (by rw [h.el] at hj; exact hj)⟩
theorem Inv.len {m : Map} {es : List Int} {rs : List Route} {k : Int} (h : Inv m es rs k) : ∀ x ∈ rs, x.Cells.length ≤ 24 := fun x hx => by
  obtain ⟨j, hj, rfl⟩ := List.mem_iff_getElem.1 hx
  have e : rs.getD j zRoute = rs[j] := by simp [List.getD, hj]
  rcases h.okR (j := j) (by rw [← h.rl]; exact hj) with h | h
  · rw [← e, h]; simp [zRoute]
  · rw [← e]; exact h.n24
theorem getD_set {α : Type} {l : List α} {i j : Nat} {x d : α} (hj : j < l.length) : (l.set j x).getD i d = if i = j then x else l.getD i d := by
  simp only [List.getD, List.getElem?_set]
  by_cases e : j = i
  · subst e; simp [hj]
  · rw [if_neg e, if_neg (fun h => e h.symm)]
theorem Inv.step {conf : Conf} {m : Map} {es es' : List Int} {rs rs' : List Route} {r t k : Int} (h : Inv m es rs k) (hs : Step conf m es rs r t es' rs') (hk : 0 ≤ k) : Inv m es' rs' (k + 1) := by
  have hr : robI r → r.toNat < 16 := fun h => by simp only [robI] at h; omega
  have he : ∀ e ∈ es, 0 ≤ e ∧ e ≤ k + 1 := fun e h1 => by have := h.e e h1; omega
  cases hs with
  | none => exact ⟨h.el, h.rl, he, h.ok⟩
  | epoch h1 =>
    refine ⟨by simp [h.el], h.rl, fun e hx => ?_, fun j hj => ?_⟩
    · have := h.ge (j := r.toNat)
      have := this.2 (hr h1)
      rcases List.mem_or_eq_of_mem_set hx with hx | rfl
      · exact he e hx
      · omega
    · rcases h.ok j hj with e | e
      · exact .inl e
      · refine .inr ⟨e.1, ?_⟩
        rw [getD_set (by rw [h.el]; exact hr h1)]
        have := h.ge (j := r.toNat)
        split
        · omega
        · exact e.2
  | drop h1 h2 =>
    refine ⟨h.el, by simp [h.rl], he, fun j hj => ?_⟩
    rw [getD_set (by rw [h.rl]; exact hr h1)]
    split
    · exact .inl rfl
    · exact h.ok j hj
  | take h1 h2 h3 h4 =>
    refine ⟨h.el, by simp [h.rl], he, fun j hj => ?_⟩
    rw [getD_set (by rw [h.rl]; exact hr h1)]
    split
    · next e => exact .inr ⟨checkR_ok.1 h3, by rw [e]; exact h2⟩
    · exact h.ok j hj
/-- no two routes meet from now on -/
def Apart (rs : List Route) (n : Int) : Prop := ∀ i j, i < 16 → j < 16 → i ≠ j → ∀ t, n ≤ t → ¬ meetAt (rs.getD i zRoute) (rs.getD j zRoute) t
theorem meetAt_z {x : Route} {t : Int} : ¬ meetAt zRoute x t := by rintro ⟨p, q, e, _⟩; rw [atR_zR] at e; cases e
theorem Apart.step {m : Map} {es es' : List Int} {rs rs' : List Route} {r n t k : Int} (hi : Inv m es rs k) (h : Apart rs n) (hn : n ≤ t) (hs : Step confM m es rs r t es' rs') : Apart rs' t := by
  have hr : robI r → r.toNat < 16 := fun h => by simp only [robI] at h; omega
  cases hs with
  | none => exact fun i j hi hj hij u hu => h i j hi hj hij u (by omega)
  | epoch h1 => exact fun i j hi hj hij u hu => h i j hi hj hij u (by omega)
  | drop h1 h2 =>
    intro i j h3 h4 hij u hu
    rw [getD_set (by rw [hi.rl]; exact hr h1), getD_set (by rw [hi.rl]; exact hr h1)]
    split
    · exact meetAt_z
    · split
      · exact fun e => meetAt_z (meetAt_symm e)
      · exact h i j h3 h4 hij u (by omega)
  | take h1 h2 h3 h4 =>
    next x =>
    have hx : ∀ i, i < 16 → i ≠ r.toNat → ∀ u, t ≤ u → ¬ meetAt x (rs.getD i zRoute) u := fun i h5 h6 u hu e =>
      h4 ⟨i, h5, h6, meetR_iff.2 ⟨u, (meet_cut (hi.okR h5)).2 ⟨hu, e⟩⟩⟩
    intro i j h5 h6 hij u hu
    rw [getD_set (by rw [hi.rl]; exact hr h1), getD_set (by rw [hi.rl]; exact hr h1)]
    split
    · next e1 => rw [if_neg (by omega)]; exact hx j h6 (by omega) u hu
    · split
      · next e1 e2 => exact fun e => hx i h5 (by omega) u hu (meetAt_symm e)
      · exact h i j h5 h6 hij u (by omega)
theorem Apart.meet {m : Map} {es : List Int} {rs : List Route} {n k : Int} (hi : Inv m es rs k) (h : Apart rs n) {i j : Nat} (h1 : i < 16) (h2 : j < 16) (hij : i ≠ j) : ¬ meetR (cutR (rs.getD i zRoute) n) (cutR (rs.getD j zRoute) n) := fun e => by
  obtain ⟨t, e⟩ := meetR_iff.1 e
  obtain ⟨h3, h4⟩ := (meet_cut2 (hi.okR h1) (hi.okR h2)).1 e
  exact h i j h1 h2 hij t h3 h4
theorem zR_get {i : Nat} : zRoutes.getD i zRoute = zRoute := by
  rw [List.getD]
  cases e : zRoutes[i]? with
  | none => rfl
  | some x => exact List.eq_of_mem_replicate (List.mem_of_getElem? e)
theorem inv0 {m : Map} : Inv m zEpochs zRoutes 0 := ⟨rfl, rfl, fun e he => by rw [List.eq_of_mem_replicate he]; omega, fun j _ => .inl zR_get⟩
theorem apart0 {n : Int} : Apart zRoutes n := fun i j _ _ _ t _ => by rw [zR_get]; exact meetAt_z
end Go.Proofs.Ytnfmjkjhiolfdaa
