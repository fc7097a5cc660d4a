/- What is closed to writing: an operation that runs well where some rows are frozen runs alike where they are not, and writes none of them. No program in sight. -/
import Derived.Test.YtafhinjggdknjaaDoorPXA
set_option linter.unusedVariables false
set_option linter.unusedSimpArgs false
namespace Go.X
open Go
def protO : Obj → Obj
  | .cells c T _ => .cells c T (0, c.size)
  | o => o
def protW (S : Nat → Bool) (w : World) : World := { w with heap := w.heap.mapIdx fun b o => if S b then protO o else o }
def Rows (S : Nat → Bool) (w : World) : Prop := ∀ b, S b = true → ∃ c T fz, w.heap[b]? = some (.cells c T fz)
section
variable {S : Nat → Bool} {w : World}
theorem prot_get (b : Nat) : (protW S w).heap[b]? = (w.heap[b]?).map fun o => if S b then protO o else o := by
  simp only [protW, Array.getElem?_mapIdx]
theorem prot_size : (protW S w).heap.size = w.heap.size := by simp [protW]
theorem prot_off {b : Nat} (h : S b = false) : (protW S w).heap[b]? = w.heap[b]? := by
  rw [prot_get]; cases w.heap[b]? <;> simp [h]
theorem Rows.lt (hR : Rows S w) {b : Nat} (h : S b = true) : b < w.heap.size := by
  obtain ⟨c, T, fz, e⟩ := hR b h
  exact (Array.getElem?_eq_some_iff.1 e).1
theorem Rows.high (hR : Rows S w) {b : Nat} (h : w.heap.size ≤ b) : S b = false := by
  cases hs : S b with
  | false => rfl
  | true => have := hR.lt hs; omega
theorem protW_eq {w' : World} (h : ∀ b : Nat, w'.heap[b]? = (w.heap[b]?).map fun o => if S b then protO o else o) (h2 : { w' with heap := w.heap } = w) : w' = protW S w := by
  have e : w'.heap = (protW S w).heap := Array.ext_getElem? fun b => by rw [h, prot_get]
  cases w'
  cases w
  simp only [World.mk.injEq] at h2
  simp only at e
  obtain ⟨_, h3, h4, h5, h6⟩ := h2
  subst h3 h4 h5 h6 e
  rfl
theorem prot_cell (a : Addr) : (protW S w).cell? a = w.cell? a := by
  simp only [World.cell?, prot_get]
  cases w.heap[a.block]? with
  | none => rfl
  | some o => cases hs : S a.block <;> cases o <;> simp [protO]
theorem prot_frozen {a : Addr} {v : Value} (hs : S a.block = true) (h : w.cell? a = some v) : (protW S w).frozen? a = true := by
  simp only [World.cell?] at h
  simp only [World.frozen?, prot_get]
  cases ho : w.heap[a.block]? with
  | none => rw [ho] at h; cases h
  | some o =>
    rw [ho] at h
    cases o with
    | cells c T fz =>
      simp only at h
      split at h
      · cases h
      · have := (Array.getElem?_eq_some_iff.1 h).1
        simp [hs, protO, this]
    | _ => cases h
theorem prot_frozen_off {a : Addr} (hs : S a.block = false) : (protW S w).frozen? a = w.frozen? a := by
  simp only [World.frozen?, prot_off hs]
theorem prot_modify {x : Nat} {f : Obj → Obj} (hs : S x = false) : ({ protW S w with heap := (protW S w).heap.modify x f } : World) = protW S { w with heap := w.heap.modify x f } := by
  refine protW_eq (fun b => ?_) rfl
  simp only [Array.getElem?_modify, prot_get]
  by_cases h : x = b
  · subst h; rw [if_pos rfl, if_pos rfl]; cases w.heap[x]? <;> simp [hs]
  · rw [if_neg h, if_neg h]
theorem prot_set {x : Nat} {o : Obj} (hs : S x = false) : ({ protW S w with heap := (protW S w).heap.setIfInBounds x o } : World) = protW S { w with heap := w.heap.setIfInBounds x o } := by
  refine protW_eq (fun b => ?_) rfl
  simp only [Array.getElem?_setIfInBounds, prot_get, prot_size]
  by_cases h : x = b
  · subst h
    rw [if_pos rfl, if_pos rfl]
    by_cases hl : x < w.heap.size
    · simp [hl, hs]
    · simp [hl]
  · rw [if_neg h, if_neg h]
theorem prot_push {o : Obj} (hR : Rows S w) : ({ protW S w with heap := (protW S w).heap.push o } : World) = protW S { w with heap := w.heap.push o } := by
  refine protW_eq (fun b => ?_) rfl
  simp only [Array.getElem?_push, prot_get, prot_size]
  by_cases h : b = w.heap.size
  · subst h; rw [if_pos rfl, if_pos rfl]; simp [hR.high (Nat.le_refl _)]
  · rw [if_neg h, if_neg h]
theorem prot_setCell {a : Addr} {v : Value} (hs : S a.block = false) : (protW S w).setCell a v = protW S (w.setCell a v) := by
  unfold World.setCell; exact prot_modify hs
theorem Rows.of {w' : World} (hR : Rows S w) (h : ∀ b, S b = true → w'.heap[b]? = w.heap[b]?) : Rows S w' := fun b hb => by
  rw [h b hb]; exact hR b hb
end
def EvP (S : Nat → Bool) (e : Event) : Prop := match e.loc with
  | .cell a => S a.block = true → e.write = false
  | .obj r => S r = false
  | _ => True
section
variable {p : Program} {S : Nat → Bool} {w : World}
theorem seen_prot {at_ : Addr} {u : TypeId} {k : Addr} {t : Bool} (hs : S at_.block = true) (hR : Rows S w) : ∃ c T fz, w.heap[at_.block]? = some (.cells c T fz) ∧
    ((∃ s, (protW S w).seen p at_ u k t = .error s ∧ w.seen p at_ u k t = .error s) ∨ ∃ f l cells, (protW S w).seen p at_ u k t = .ok (c, T, (0, c.size), f, l, cells) ∧ w.seen p at_ u k t = .ok (c, T, fz, f, l, cells)) := by
  obtain ⟨c, T, fz, ho⟩ := hR _ hs
  refine ⟨c, T, fz, ho, ?_⟩
  have hp : (protW S w).heap[at_.block]? = some (.cells c T (0, c.size)) := by rw [prot_get, ho]; simp [hs, protO]
  simp only [World.seen, hp, ho, bind, Except.bind, pure, Except.pure]
  repeat' split
  all_goals first | exact .inl ⟨_, rfl, rfl⟩ | exact .inr ⟨_, _, _, rfl, rfl⟩ | simp_all
theorem seen_prot_off {at_ : Addr} {u : TypeId} {k : Addr} {t : Bool} (hs : S at_.block = false) : (protW S w).seen p at_ u k t = w.seen p at_ u k t := seen_eq (prot_off hs)
theorem viewLoad_prot {at_ : Addr} {u : TypeId} {k : Addr} {t : Bool} (hR : Rows S w) : (protW S w).viewLoad p at_ u k t = w.viewLoad p at_ u k t := by
  simp only [World.viewLoad]
  cases hs : S at_.block with
  | false => rw [seen_prot_off hs]
  | true =>
    obtain ⟨c, T, fz, ho, ⟨s, h1, h2⟩ | ⟨f, l, cells, h1, h2⟩⟩ := seen_prot (p := p) (u := u) (k := k) (t := t) hs hR
    · rw [h1, h2]
    · rw [h1, h2]; rfl
theorem farLoad_prot {a : Addr} {t : Bool} {r : Value × List Addr} (hR : Rows S w) (h : (protW S w).farLoad p a t = .ok r) : w.farLoad p a t = .ok r := by
  simp only [World.farLoad, prot_get] at h ⊢
  cases ho : w.heap[a.block]? with
  | none => rw [ho] at h; simp at h
  | some o =>
    rw [ho] at h
    cases o with
    | view at_ u =>
      have e : (if S a.block = true then protO (.view at_ u) else .view at_ u) = Obj.view at_ u := by split <;> rfl
      simp only [Option.map_some, e] at h ⊢
      rw [viewLoad_prot hR] at h
      exact h
    | cells c T fz =>
      exfalso
      simp only [Option.map_some, protO] at h
      split at h
      · rename_i hh; split at hh <;> simp at hh
      · cases h
    | _ =>
      exfalso
      simp only [Option.map_some, protO, ite_self] at h
      cases h
theorem viewStore_prot {at_ : Addr} {u : TypeId} {k : Addr} {v : Value} {t : Bool} {r : World × List Addr} (hR : Rows S w) (h : (protW S w).viewStore p at_ u k v t = .ok r) :
    ∃ w', w.viewStore p at_ u k v t = .ok (w', r.2) ∧ r.1 = protW S w' ∧ (∀ b, S b = true → w'.heap[b]? = w.heap[b]?) ∧ w'.heap.size = w.heap.size ∧ ∀ a ∈ r.2, S a.block = false := by
  cases hs : S at_.block with
  | false =>
    simp only [World.viewStore, bind, Except.bind, pure, Except.pure] at h ⊢
    rw [seen_prot_off hs] at h
    repeat' (split at h)
    all_goals first | (cases h; done) | skip
    all_goals
      cases h
      simp_all
    refine ⟨prot_set hs, fun b hb => ?_, fun a x y z _ hh => by subst hh; exact hs⟩
    have : at_.block ≠ b := by rintro rfl; rw [hs] at hb; cases hb
    simp [this]
  | true =>
    obtain ⟨c, T, fz, ho, ⟨s, h1, h2⟩ | ⟨f, l, cells, h1, h2⟩⟩ := seen_prot (p := p) (u := u) (k := k) (t := t) hs hR
    · exfalso
      simp only [World.viewStore, bind, Except.bind, pure, Except.pure, h1] at h
      repeat' (split at h)
      all_goals (cases h; done)
    · simp only [World.viewStore, bind, Except.bind, pure, Except.pure, h1, h2] at h ⊢
      cases cells with
      | nil =>
        simp only [List.foldlM_nil, pure, Except.pure, List.map_nil] at h ⊢
        repeat' (split at h)
        all_goals first | (cases h; done) | skip
        all_goals
          cases h
          simp_all
        · refine ⟨?_, fun b hb => ?_⟩
          · refine protW_eq (fun b => ?_) rfl
            simp only [Array.getElem?_setIfInBounds, prot_get, prot_size]
            by_cases hb : at_.block = b
            · subst hb
              have hl := hR.lt hs
              simp [hl, hs, protO]
            · simp [hb]
          · by_cases hb' : at_.block = b
            · subst hb'
              have hl := hR.lt hs
              have := (Array.getElem?_eq_some_iff.1 ho).2
              simp [hl, this]
            · simp [hb']
      | cons x xs =>
        exfalso
        obtain ⟨i, s, bs⟩ := x
        have hi : i < c.size ∨ c[i]? = none := by
          by_cases hi : i < c.size
          · exact .inl hi
          · exact .inr (Array.getElem?_eq_none (by omega))
        cases ht : tight p p.depth u with
        | false => rw [ht] at h; cases h
        | true =>
          cases hb : v.bytes? with
          | none => rw [ht, hb] at h; cases h
          | some bytes =>
            rw [ht, hb] at h
            simp only [Bool.not_true, Bool.false_eq_true, if_false] at h
            split at h
            · cases h
            · rename_i h0
              clear h0
              simp only [List.foldlM_cons, bind, Except.bind, Nat.zero_le, decide_true, Bool.true_and] at h
              by_cases hA : (decide (s < f) || decide (s + bs.length > f + bytes.length)) = true
              · simp only [hA, if_true] at h; cases h
              · simp only [hA] at h
                rcases hi with hi | hi
                · simp only [hi, decide_true, if_true] at h; cases h
                · by_cases hi2 : i < c.size
                  · simp only [hi2, decide_true, if_true] at h; cases h
                  · simp only [hi, hi2, decide_false] at h; cases h
theorem farStore_prot {x : Addr} {v : Value} {t : Bool} {r : World × List Addr} (hR : Rows S w) (h : (protW S w).farStore p x v t = .ok r) :
    ∃ w', w.farStore p x v t = .ok (w', r.2) ∧ r.1 = protW S w' ∧ (∀ b, S b = true → w'.heap[b]? = w.heap[b]?) ∧ w'.heap.size = w.heap.size ∧ ∀ a ∈ r.2, S a.block = false := by
  simp only [World.farStore, prot_get] at h ⊢
  cases ho : w.heap[x.block]? with
  | none => rw [ho] at h; simp at h
  | some o =>
    rw [ho] at h
    cases o with
    | view at_ u =>
      have e : (if S x.block = true then protO (.view at_ u) else .view at_ u) = Obj.view at_ u := by split <;> rfl
      simp only [Option.map_some, e] at h ⊢
      cases hv : (protW S w).viewStore p at_ u x v t with
      | error s => rw [hv] at h; cases h
      | ok r' =>
        rw [hv] at h
        cases h
        obtain ⟨w', h1, h2⟩ := viewStore_prot hR hv
        rw [h1]
        exact ⟨w', rfl, h2⟩
    | cells c T fz =>
      exfalso
      simp only [Option.map_some, protO] at h
      split at h
      · rename_i hh; split at hh <;> simp at hh
      · cases h
    | _ =>
      exfalso
      simp only [Option.map_some, protO, ite_self] at h
      cases h
end
theorem prot_runT {α : Type} {P : Program} {S : Nat → Bool} (e : Sem α) (hc : e.Calm P) : ∀ (w : World) (es es' : Array Event) (a : α) (v' : World), Rows S w → (e.runT P (protW S w) es').1 = .ok a v' →
    ∃ v, (e.runT P w es).1 = .ok a v ∧ v' = protW S v ∧ (∀ b, S b = true → v.heap[b]? = w.heap[b]?) ∧ w.heap.size ≤ v.heap.size ∧ ∀ ev ∈ (e.runT P w es).2, ev ∈ es ∨ EvP S ev := by
  induction e with
  | pure a =>
    intro w es es' a v' hR h
    simp only [Sem.runT] at h ⊢
    cases h
    exact ⟨w, rfl, rfl, fun _ _ => rfl, Nat.le_refl _, fun _ h => .inl h⟩
  | load m x k ih =>
    intro w es es' a v' hR h
    simp only [Sem.runT] at h ⊢
    rw [prot_cell] at h
    cases hcell : w.cell? x with
    | some v =>
      rw [hcell] at h
      obtain ⟨u, h1, h2, h3, h4, h5⟩ := ih v (hc v) w (es.push ⟨.cell x, false, m == .atomic⟩) _ a v' hR h
      refine ⟨u, h1, h2, h3, h4, fun ev hev => ?_⟩
      rcases h5 ev hev with h | h
      · rcases Array.mem_push.1 h with h | rfl
        · exact .inl h
        · exact .inr fun _ => rfl
      · exact .inr h
    | none =>
      rw [hcell] at h
      simp only at h ⊢
      cases hf : (protW S w).farLoad P x (m == .atomic) with
      | error s => rw [hf] at h; cases h
      | ok r =>
        obtain ⟨v, touched⟩ := r
        rw [hf] at h
        rw [farLoad_prot hR hf]
        obtain ⟨u, h1, h2, h3, h4, h5⟩ := ih v (hc v) w (es ++ touched.toArray.map (⟨.cell ·, false, m == .atomic⟩)) _ a v' hR h
        refine ⟨u, h1, h2, h3, h4, fun ev hev => ?_⟩
        rcases h5 ev hev with h | h
        · rcases Array.mem_append.1 h with h | h
          · exact .inl h
          · obtain ⟨y, hy, rfl⟩ := Array.mem_map.1 h
            exact .inr fun _ => rfl
        · exact .inr h
  | store m x v k ih =>
    intro w es es' a v' hR h
    by_cases hv : v.oneCell' = true
    · have e1 : ∀ (w : World) (es : Array Event), (Sem.store m x v k).runT P w es = match w.cell? x with
        | some _ =>
          if w.frozen? x then (.halt (.unsupported (.unsafePointer "a write to bytes that a string shares")) w, es)
          else k.runT P (w.setCell x v) (es.push ⟨.cell x, true, m == .atomic⟩)
        | none => match w.farStore P x v (m == .atomic) with
          | .ok (w, touched) => k.runT P w (es ++ touched.toArray.map (⟨.cell ·, true, m == .atomic⟩))
          | .error h => (.halt h w, es) := by
        intro w es
        cases v <;> first | (simp [Value.oneCell'] at hv; done) | rfl
      rw [e1] at h
      rw [e1]
      rw [prot_cell] at h
      cases hcell : w.cell? x with
      | some u0 =>
        rw [hcell] at h
        simp only at h ⊢
        cases hs : S x.block with
        | true => rw [prot_frozen hs hcell] at h; cases h
        | false =>
          rw [prot_frozen_off hs] at h
          split at h
          · cases h
          · rename_i hfr
            rw [if_neg hfr]
            rw [prot_setCell hs] at h
            have hsz : (w.setCell x v).heap.size = w.heap.size := by simp [World.setCell]
            have hk : ∀ b, S b = true → (w.setCell x v).heap[b]? = w.heap[b]? := fun b hb => by
              have : x.block ≠ b := by rintro rfl; rw [hs] at hb; cases hb
              simp [World.setCell, Array.getElem?_modify, this]
            obtain ⟨u, h1, h2, h3, h4, h5⟩ := ih hc (w.setCell x v) (es.push ⟨.cell x, true, m == .atomic⟩) _ a v' (hR.of hk) h
            refine ⟨u, h1, h2, fun b hb => (h3 b hb).trans (hk b hb), by omega, fun ev hev => ?_⟩
            rcases h5 ev hev with h | h
            · rcases Array.mem_push.1 h with h | rfl
              · exact .inl h
              · exact .inr fun hh => by rw [hs] at hh; cases hh
            · exact .inr h
      | none =>
        rw [hcell] at h
        simp only at h ⊢
        cases hf : (protW S w).farStore P x v (m == .atomic) with
        | error s => rw [hf] at h; cases h
        | ok r =>
          obtain ⟨w1, touched⟩ := r
          rw [hf] at h
          obtain ⟨w2, hf1, rfl, hf3, hf4, hf5⟩ := farStore_prot hR hf
          rw [hf1]
          obtain ⟨u, h1, h2, h3, h4, h5⟩ := ih hc w2 (es ++ touched.toArray.map (⟨.cell ·, true, m == .atomic⟩)) _ a v' (hR.of hf3) h
          refine ⟨u, h1, h2, fun b hb => (h3 b hb).trans (hf3 b hb), by omega, fun ev hev => ?_⟩
          rcases h5 ev hev with h | h
          · rcases Array.mem_append.1 h with h | h
            · exact .inl h
            · obtain ⟨y, hy, rfl⟩ := Array.mem_map.1 h
              exact .inr fun hh => by rw [hf5 y (by simpa using hy)] at hh; cases hh
          · exact .inr h
    · exfalso
      cases v <;> first | (simp [Value.oneCell'] at hv; done) | (simp only [Sem.runT] at h; cases h)
  | new o k ih =>
    intro w es es' a v' hR h
    simp only [Sem.runT] at h ⊢
    rw [prot_push hR, prot_size] at h
    have hk : ∀ b, S b = true → ({ w with heap := w.heap.push o } : World).heap[b]? = w.heap[b]? := fun b hb => by
      have := hR.lt hb
      simp only [Array.getElem?_push]; rw [if_neg (by omega)]
    obtain ⟨u, h1, h2, h3, h4, h5⟩ := ih w.heap.size (hc _) { w with heap := w.heap.push o } es _ a v' (hR.of hk) h
    exact ⟨u, h1, h2, fun b hb => (h3 b hb).trans (hk b hb), by simp at h4; omega, h5⟩
  | shape r k ih => intro w es es' a v' hR h; rw [Sem.runT_fst] at h; exact absurd h ((hc _).run _ _ _)
  | freeze x n k ih => exact hc.elim
  | frozen x k ih => intro w es es' a v' hR h; rw [Sem.runT_fst] at h; exact absurd h ((hc _).run _ _ _)
  | getObj r k ih =>
    intro w es es' a v' hR h
    simp only [Sem.runT] at h ⊢
    cases hs : S r with
    | true =>
      obtain ⟨c, T, fz, ho⟩ := hR r hs
      rw [prot_get, ho] at h
      simp only [Option.map_some, hs, if_true, protO] at h
      cases h
    | false =>
      rw [prot_off hs] at h
      cases ho : w.heap[r]? with
      | none => rw [ho] at h; cases h
      | some o =>
        rw [ho] at h
        cases o <;> simp only at h ⊢ <;> first
          | (cases h; done)
          | (obtain ⟨u, h1, h2, h3, h4, h5⟩ := ih _ (hc _) w _ _ a v' hR h
             refine ⟨u, h1, h2, h3, h4, fun ev hev => ?_⟩
             rcases h5 ev hev with h | h
             · rcases Array.mem_push.1 h with h | rfl
               · exact .inl h
               · exact .inr hs
             · exact .inr h)
  | setObj r o k ih =>
    intro w es es' a v' hR h
    simp only [Sem.runT] at h ⊢
    cases hs : S r with
    | true =>
      obtain ⟨c, T, fz, ho⟩ := hR r hs
      rw [prot_get, ho] at h
      simp only [Option.map_some, hs, if_true, protO] at h
      cases h
    | false =>
      rw [prot_off hs] at h
      have hsz : ({ w with heap := w.heap.setIfInBounds r o } : World).heap.size = w.heap.size := by simp
      have hk : ∀ b, S b = true → ({ w with heap := w.heap.setIfInBounds r o } : World).heap[b]? = w.heap[b]? := fun b hb => by
        have : r ≠ b := by rintro rfl; rw [hs] at hb; cases hb
        simp [this]
      cases ho : w.heap[r]? with
      | none => rw [ho] at h; cases h
      | some o' =>
        rw [ho] at h
        cases o' <;> simp only at h ⊢ <;> first
          | (cases h; done)
          | (rw [prot_set hs] at h
             obtain ⟨u, h1, h2, h3, h4, h5⟩ := ih hc { w with heap := w.heap.setIfInBounds r o } _ _ a v' (hR.of hk) h
             refine ⟨u, h1, h2, fun b hb => (h3 b hb).trans (hk b hb), by omega, fun ev hev => ?_⟩
             rcases h5 ev hev with h | h
             · rcases Array.mem_push.1 h with h | rfl
               · exact .inl h
               · exact .inr hs
             · exact .inr h)
  | choose q k ih =>
    intro w es es' a v' hR h
    simp only [Sem.runT] at h ⊢
    split at h
    · rename_i hq; rw [if_pos hq]; exact ih _ (hc _) w es _ a v' hR h
    · rename_i hq; rw [if_neg hq]; exact ih _ (hc _) { w with drawn := w.drawn + 1 } es _ a v' hR h
  | sys c k ih => exact hc.elim
  | program k ih =>
    intro w es es' a v' hR h
    simp only [Sem.runT] at h ⊢
    exact ih _ hc w es _ a v' hR h
  | mark m k ih =>
    intro w es es' a v' hR h
    simp only [Sem.runT] at h ⊢
    obtain ⟨u, h1, h2, h3, h4, h5⟩ := ih hc.2 w (es.push ⟨.mark m, false, true⟩) _ a v' hR h
    refine ⟨u, h1, h2, h3, h4, fun ev hev => ?_⟩
    rcases h5 ev hev with h | h
    · rcases Array.mem_push.1 h with h | rfl
      · exact .inl h
      · exact .inr trivial
    · exact .inr h
  | halt x => intro w es es' a v' hR h; simp only [Sem.runT] at h; cases h
end Go.X
