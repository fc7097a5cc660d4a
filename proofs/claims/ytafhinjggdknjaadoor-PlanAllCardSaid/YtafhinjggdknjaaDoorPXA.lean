/- Locality: what an operation does not own it neither reads nor changes. No program in sight. -/
import Derived.Conc.Events
set_option linter.unusedVariables false
set_option linter.unusedSimpArgs false
namespace Go
open Go
def Sem.Dead {α : Type} : Sem α → Prop
  | .pure _ => False
  | .load _ _ k => ∀ v, (k v).Dead
  | .store _ _ _ k => k.Dead
  | .new _ k => ∀ r, (k r).Dead
  | .shape _ k => ∀ r, (k r).Dead
  | .freeze _ _ k => k.Dead
  | .frozen _ k => ∀ r, (k r).Dead
  | .getObj _ k => ∀ o, (k o).Dead
  | .setObj _ _ k => k.Dead
  | .choose _ k => ∀ n, (k n).Dead
  | .sys _ k => ∀ r, (k r).Dead
  | .program k => ∀ p, (k p).Dead
  | .mark _ k => k.Dead
  | .halt _ => True
theorem Sem.Dead.bind {α β : Type} {e : Sem α} {f : α → Sem β} (h : e.Dead) : (e.bind f).Dead := by
  induction e with
  | pure a => exact h.elim
  | load m a k ih => exact fun v => ih v (h v)
  | store m a v k ih => exact ih h
  | new o k ih => exact fun r => ih r (h r)
  | shape r k ih => exact fun r => ih r (h r)
  | freeze a n k ih => exact ih h
  | frozen a k ih => exact fun r => ih r (h r)
  | getObj r k ih => exact fun o => ih o (h o)
  | setObj r o k ih => exact ih h
  | choose q k ih => exact fun n => ih n (h n)
  | sys c k ih => exact fun r => ih r (h r)
  | program k ih => exact fun p => ih p (h p)
  | mark m k ih => exact ih h
  | halt h => trivial
theorem Sem.Dead.run {α : Type} {P : Program} {e : Sem α} (h : e.Dead) : ∀ (w : World) (a : α) (v : World), e.run P w ≠ .ok a v := by
  induction e with
  | pure a => exact h.elim
  | load m x k ih =>
    intro w a v hr; simp only [Sem.run] at hr
    split at hr
    · exact ih _ (h _) _ _ _ hr
    · split at hr
      · exact ih _ (h _) _ _ _ hr
      · cases hr
  | store m x y k ih =>
    intro w a v hr
    cases y <;> simp only [Sem.run] at hr <;> first
      | (cases hr; done)
      | (split at hr
         · split at hr
           · cases hr
           · exact ih h _ _ _ hr
         · split at hr
           · exact ih h _ _ _ hr
           · cases hr)
  | new o k ih => intro w a v hr; exact ih _ (h _) _ _ _ hr
  | shape r k ih => intro w a v hr; exact ih _ (h _) _ _ _ hr
  | freeze x n k ih => intro w a v hr; exact ih h _ _ _ hr
  | frozen x k ih => intro w a v hr; exact ih _ (h _) _ _ _ hr
  | getObj r k ih =>
    intro w a v hr; simp only [Sem.run] at hr
    split at hr
    · cases hr
    · exact ih _ (h _) _ _ _ hr
    · cases hr
  | setObj r o k ih =>
    intro w a v hr; simp only [Sem.run] at hr
    split at hr
    · cases hr
    · exact ih h _ _ _ hr
    · cases hr
  | choose q k ih =>
    intro w a v hr; simp only [Sem.run] at hr
    split at hr
    · exact ih _ (h _) _ _ _ hr
    · exact ih _ (h _) _ _ _ hr
  | sys c k ih => intro w a v hr; exact ih _ (h _) _ _ _ hr
  | program k ih => intro w a v hr; exact ih _ (h _) _ _ _ hr
  | mark m k ih => intro w a v hr; exact ih h _ _ _ hr
  | halt x => intro w a v hr; cases hr
def Sem.Calm {α : Type} (P : Program) : Sem α → Prop
  | .pure _ => True
  | .load _ _ k => ∀ v, (k v).Calm P
  | .store _ _ _ k => k.Calm P
  | .new _ k => ∀ r, (k r).Calm P
  | .shape _ k => ∀ r, (k r).Dead
  | .freeze _ _ _ => False
  | .frozen _ k => ∀ r, (k r).Dead
  | .getObj _ k => ∀ o, (k o).Calm P
  | .setObj _ _ k => k.Calm P
  | .choose _ k => ∀ n, (k n).Calm P
  | .sys _ _ => False
  | .program k => (k P).Calm P
  | .mark m k => m = .noRoom ∧ k.Calm P
  | .halt _ => True
theorem Sem.Calm.bind {α β : Type} {P : Program} {e : Sem α} {f : α → Sem β} (h : e.Calm P) (hf : ∀ a, (f a).Calm P) : (e.bind f).Calm P := by
  induction e with
  | pure a => exact hf a
  | load m a k ih => exact fun v => ih v (h v)
  | store m a v k ih => exact ih h
  | new o k ih => exact fun r => ih r (h r)
  | shape r k ih => exact fun r => (h r).bind
  | freeze a n k ih => exact h.elim
  | frozen a k ih => exact fun r => (h r).bind
  | getObj r k ih => exact fun o => ih o (h o)
  | setObj r o k ih => exact ih h
  | choose q k ih => exact fun n => ih n (h n)
  | sys c k ih => exact h.elim
  | program k ih => exact ih P h
  | mark m k ih => exact ⟨h.1, ih h.2⟩
  | halt h => trivial
namespace X
def junkO : Obj := .cells #[] 0 (0, 0)
def _root_.Go.World.junk (w : World) (b : Nat) : World := { w with heap := w.heap.setIfInBounds b junkO }
theorem junk_at {w : World} {b : Nat} (hb : b < w.heap.size) : (w.junk b).heap[b]? = some junkO := by simp [World.junk, hb]
theorem junk_ne {w : World} {b x : Nat} (h : x ≠ b) : (w.junk b).heap[x]? = w.heap[x]? := by simp [World.junk, Ne.symm h]
theorem junk_size (w : World) (b : Nat) : (w.junk b).heap.size = w.heap.size := by simp [World.junk]
def EvOff (b : Nat) (e : Event) : Prop := match e.loc with
  | .cell a => a.block ≠ b
  | .obj r => r ≠ b
  | .mark m => m = .noRoom
  | _ => False
theorem cell_junk {w : World} {b : Nat} {a : Addr} (h : a.block ≠ b) : (w.junk b).cell? a = w.cell? a := by simp only [World.cell?, junk_ne h]
theorem cell_junk0 {w : World} {b : Nat} {a : Addr} (hb : b < w.heap.size) (h : a.block = b) : (w.junk b).cell? a = none := by
  subst h; simp [World.cell?, junk_at hb, junkO]
theorem frozen_junk {w : World} {b : Nat} {a : Addr} (h : a.block ≠ b) : (w.junk b).frozen? a = w.frozen? a := by simp only [World.frozen?, junk_ne h]
theorem modify_junk {w : World} {b x : Nat} {f : Obj → Obj} (h : x ≠ b) : ({ w.junk b with heap := (w.junk b).heap.modify x f } : World) = World.junk { w with heap := w.heap.modify x f } b := by
  simp only [World.junk, World.mk.injEq, and_true]
  apply Array.ext'
  apply List.ext_getElem?
  intro i
  simp only [Array.getElem?_toList, Array.getElem?_modify, Array.getElem?_setIfInBounds, Array.size_modify]
  by_cases h1 : x = i <;> by_cases h2 : b = i <;> simp_all
theorem set_junk {w : World} {b x : Nat} {o : Obj} (h : x ≠ b) : ({ w.junk b with heap := (w.junk b).heap.setIfInBounds x o } : World) = World.junk { w with heap := w.heap.setIfInBounds x o } b := by
  simp only [World.junk, World.mk.injEq, and_true]
  apply Array.ext'
  apply List.ext_getElem?
  intro i
  simp only [Array.getElem?_toList, Array.getElem?_setIfInBounds, Array.size_setIfInBounds]
  by_cases h1 : x = i <;> by_cases h2 : b = i <;> simp_all
theorem push_junk {w : World} {b : Nat} {o : Obj} (hb : b < w.heap.size) : ({ w.junk b with heap := (w.junk b).heap.push o } : World) = World.junk { w with heap := w.heap.push o } b := by
  simp only [World.junk, World.mk.injEq, and_true]
  apply Array.ext'
  apply List.ext_getElem?
  intro i
  simp only [Array.getElem?_toList, Array.getElem?_setIfInBounds, Array.getElem?_push, Array.size_setIfInBounds, Array.size_push]
  by_cases h2 : b = i
  · subst h2
    rw [if_neg (by omega), if_pos rfl, if_pos rfl, if_pos hb, if_pos (by omega)]
  · simp [h2]
theorem setCell_junk {w : World} {b : Nat} {a : Addr} {v : Value} (h : a.block ≠ b) : (w.junk b).setCell a v = (w.setCell a v).junk b := by
  unfold World.setCell; exact modify_junk h
theorem leBytes_len (s n : Nat) : (leBytes s n).length = s := by
  induction s generalizing n with
  | zero => rfl
  | succ s ih => simp [leBytes, ih]
theorem bytes_plain (p : Program) : ∀ (d : Nat) (t : TypeId) (off : Nat) (v : Value), plainCell p d t off = some v → ∀ bs, v.bytes? = some bs → 0 < bs.length := by
  intro d
  induction d with
  | zero => intro t off v h; simp [plainCell] at h
  | succ d ih =>
    intro t off v h bs hb
    simp only [plainCell] at h
    split at h
    · obtain ⟨f, hf, h1⟩ := Array.exists_of_findSome?_eq_some h
      split at h1
      · exact ih _ _ _ h1 _ hb
      · cases h1
    · split at h
      · cases h
      · exact ih _ _ _ h _ hb
    · split at h
      · cases h; simp [Value.bytes?] at hb; subst hb; simp
      · cases h
    · rename_i k _
      split at h
      · cases h; simp only [Value.bytes?, Option.some.injEq] at hb; subst hb; rw [leBytes_len]; cases k <;> decide
      · cases h
    · rename_i k _
      split at h
      · cases h; simp only [Value.bytes?, Option.some.injEq] at hb; subst hb; rw [leBytes_len]; cases k <;> decide
      · cases h
    · rename_i k _
      split at h
      · cases h; simp only [Value.bytes?, Option.some.injEq] at hb; subst hb; rw [List.length_append, leBytes_len]; cases k <;> decide
      · cases h
    · cases h
theorem seen_eq {p : Program} {w w' : World} {at_ : Addr} {u : TypeId} {k : Addr} {at1 : Bool} (h : w'.heap[at_.block]? = w.heap[at_.block]?) : w'.seen p at_ u k at1 = w.seen p at_ u k at1 := by
  simp only [World.seen, h]
theorem seenCells_none {p : Program} {e : TypeId} {f x n : Nat} (hn : 0 < n) : ∀ l, seenCells p #[] e (f + 1) x (x + n) ≠ .ok l := by
  intro l h
  simp only [seenCells] at h
  rw [if_neg (by omega)] at h
  split at h
  · cases h
  · split at h <;> simp at h
theorem seen_junk {p : Program} {w : World} {b : Nat} {at_ : Addr} {u : TypeId} {k : Addr} {at1 : Bool} (hb : b < w.heap.size) (h : at_.block = b) : ∀ r, (w.junk b).seen p at_ u k at1 ≠ .ok r := by
  have key : ∀ like n x l, plainCell p p.depth u k.off = some like → like.bytes?.map (·.length) = some n → seenCells p #[] 0 (n + 1) x (x + n) ≠ .ok l := by
    intro like n x l h1 h2
    obtain ⟨bs, h3, rfl⟩ := Option.map_eq_some_iff.1 h2
    exact seenCells_none (bytes_plain p _ _ _ _ h1 _ h3) l
  intro r hr
  subst h
  simp only [World.seen, junk_at hb, junkO] at hr
  simp only [bind, Except.bind, pure, Except.pure] at hr
  repeat' (split at hr)
  all_goals first | (cases hr; done) | exact key _ _ _ _ (by assumption) (by assumption) (by assumption)
theorem viewLoad_junk {p : Program} {w : World} {b : Nat} {at_ : Addr} {u : TypeId} {k : Addr} {at1 : Bool} {r : Value × List Addr} (hb : b < w.heap.size) (h : (w.junk b).viewLoad p at_ u k at1 = .ok r) :
    w.viewLoad p at_ u k at1 = .ok r ∧ ∀ a ∈ r.2, a.block ≠ b := by
  by_cases e : at_.block = b
  · exfalso
    simp only [World.viewLoad, bind, Except.bind] at h
    split at h
    · cases h
    · exact seen_junk hb e _ (by assumption)
  · have hs : ∀ w' : World, w'.viewLoad p at_ u k at1 = .ok r → ∀ a ∈ r.2, a.block ≠ b := by
      intro w' h a ha
      simp only [World.viewLoad, bind, Except.bind, pure, Except.pure] at h
      repeat' (split at h)
      all_goals first | (cases h; done) | skip
      all_goals
        cases h
        obtain ⟨y, _, rfl⟩ := List.mem_map.1 ha
        exact e
    have h1 : w.viewLoad p at_ u k at1 = .ok r := by
      rw [← h]; simp only [World.viewLoad]; rw [seen_eq (junk_ne e)]
    exact ⟨h1, hs _ h1⟩
theorem viewStore_junk {p : Program} {w : World} {b : Nat} {at_ : Addr} {u : TypeId} {k : Addr} {v : Value} {at1 : Bool} {r : World × List Addr} (hb : b < w.heap.size) (h : (w.junk b).viewStore p at_ u k v at1 = .ok r) :
    ∃ w', w.viewStore p at_ u k v at1 = .ok (w', r.2) ∧ r.1 = w'.junk b ∧ w'.heap[b]? = w.heap[b]? ∧ w'.heap.size = w.heap.size ∧ ∀ a ∈ r.2, a.block ≠ b := by
  by_cases e : at_.block = b
  · exfalso
    simp only [World.viewStore, bind, Except.bind] at h
    repeat' (split at h)
    all_goals first | (cases h; done) | skip
    all_goals exact seen_junk hb e _ (by assumption)
  · simp only [World.viewStore, bind, Except.bind, pure, Except.pure] at h ⊢
    rw [seen_eq (junk_ne e)] at h
    repeat' (split at h)
    all_goals first | (cases h; done) | skip
    all_goals
      cases h
      simp_all
    exact ⟨set_junk e, fun a x y z _ hh => by subst hh; exact e⟩
theorem farLoad_junk {p : Program} {w : World} {b : Nat} {a : Addr} {at1 : Bool} {r : Value × List Addr} (hb : b < w.heap.size) (ha : a.block ≠ b) (h : (w.junk b).farLoad p a at1 = .ok r) :
    w.farLoad p a at1 = .ok r ∧ ∀ x ∈ r.2, x.block ≠ b := by
  simp only [World.farLoad, junk_ne ha] at h ⊢
  split at h
  · rename_i at_ u _
    split at h
    · rename_i r' hr
      cases h
      obtain ⟨h1, h2⟩ := viewLoad_junk hb hr
      simp only [h1]
      exact ⟨trivial, h2⟩
    · cases h
  · cases h
theorem farStore_junk {p : Program} {w : World} {b : Nat} {a : Addr} {v : Value} {at1 : Bool} {r : World × List Addr} (hb : b < w.heap.size) (ha : a.block ≠ b) (h : (w.junk b).farStore p a v at1 = .ok r) :
    ∃ w', w.farStore p a v at1 = .ok (w', r.2) ∧ r.1 = w'.junk b ∧ w'.heap[b]? = w.heap[b]? ∧ w'.heap.size = w.heap.size ∧ ∀ x ∈ r.2, x.block ≠ b := by
  simp only [World.farStore, junk_ne ha] at h ⊢
  split at h
  · rename_i at_ u _
    split at h
    · rename_i r' hr
      cases h
      obtain ⟨w', h1, h2⟩ := viewStore_junk hb hr
      simp only [h1]
      exact ⟨w', rfl, h2⟩
    · cases h
  · cases h
theorem farLoad_junk0 {p : Program} {w : World} {b : Nat} {a : Addr} {at1 : Bool} {r : Value × List Addr} (hb : b < w.heap.size) (ha : a.block = b) : (w.junk b).farLoad p a at1 ≠ .ok r := by
  intro h; subst ha; simp [World.farLoad, junk_at hb, junkO] at h
theorem farStore_junk0 {p : Program} {w : World} {b : Nat} {a : Addr} {v : Value} {at1 : Bool} {r : World × List Addr} (hb : b < w.heap.size) (ha : a.block = b) : (w.junk b).farStore p a v at1 ≠ .ok r := by
  intro h; subst ha; simp [World.farStore, junk_at hb, junkO] at h
theorem local_runT {α : Type} {P : Program} {b : Nat} (e : Sem α) (hc : e.Calm P) : ∀ (w : World) (es es' : Array Event) (a : α) (v' : World), b < w.heap.size → (e.runT P (w.junk b) es').1 = .ok a v' →
    ∃ v, (e.runT P w es).1 = .ok a v ∧ v' = v.junk b ∧ v.heap[b]? = w.heap[b]? ∧ w.heap.size ≤ v.heap.size ∧ ∀ ev ∈ (e.runT P w es).2, ev ∈ es ∨ EvOff b ev := by
  induction e with
  | pure a =>
    intro w es es' a v' hb h
    simp only [Sem.runT] at h ⊢
    cases h
    exact ⟨w, rfl, rfl, rfl, Nat.le_refl _, fun _ h => .inl h⟩
  | load m x k ih =>
    intro w es es' a v' hb h
    simp only [Sem.runT] at h ⊢
    by_cases hx : x.block = b
    · rw [cell_junk0 hb hx] at h
      split at h
      · rename_i hh; cases hh
      · split at h
        · rename_i hf; exact absurd hf (farLoad_junk0 hb hx)
        · cases h
    · rw [cell_junk hx] at h
      cases hcell : w.cell? x with
      | some v =>
        rw [hcell] at h
        obtain ⟨u, h1, h2, h3, h4, h5⟩ := ih v (hc v) w (es.push ⟨.cell x, false, m == .atomic⟩) _ a v' hb h
        refine ⟨u, h1, h2, h3, h4, fun ev hev => ?_⟩
        rcases h5 ev hev with h | h
        · rcases Array.mem_push.1 h with h | rfl
          · exact .inl h
          · exact .inr hx
        · exact .inr h
      | none =>
        rw [hcell] at h
        simp only at h ⊢
        split at h
        · rename_i v touched hf
          obtain ⟨hf1, hf2⟩ := farLoad_junk hb hx hf
          rw [hf1]
          obtain ⟨u, h1, h2, h3, h4, h5⟩ := ih v (hc v) w (es ++ touched.toArray.map (⟨.cell ·, false, m == .atomic⟩)) _ a v' hb h
          refine ⟨u, h1, h2, h3, h4, fun ev hev => ?_⟩
          rcases h5 ev hev with h | h
          · rcases Array.mem_append.1 h with h | h
            · exact .inl h
            · obtain ⟨y, hy, rfl⟩ := Array.mem_map.1 h
              exact .inr (hf2 y (by simpa using hy))
          · exact .inr h
        · cases h
  | store m x v k ih =>
    intro w es es' a v' hb h
    by_cases hv : v.oneCell' = true
    · have e1 : ∀ (w : World) (es : Array Event), (Sem.store m x v k).runT P w es = match w.cell? x with
        | some _ =>
          if w.frozen? x then (.halt (.unsupported (.unsafePointer "a write to bytes that a string shares")) w, es)
          else k.runT P (w.setCell x v) (es.push ⟨.cell x, true, m == .atomic⟩)
        | none => match w.farStore P x v (m == .atomic) with
          | .ok (w, touched) => k.runT P w (es ++ touched.toArray.map (⟨.cell ·, true, m == .atomic⟩))
          | .error h => (.halt h w, es) := by
        intro w es
        cases v <;> first | (simp [Value.oneCell'] at hv; done) | rfl
      rw [e1] at h
      rw [e1]
      by_cases hx : x.block = b
      · rw [cell_junk0 hb hx] at h
        simp only at h
        split at h
        · rename_i hf; exact absurd hf (farStore_junk0 hb hx)
        · cases h
      · rw [cell_junk hx] at h
        cases hcell : w.cell? x with
        | some u0 =>
          rw [hcell] at h
          simp only at h ⊢
          rw [frozen_junk hx] at h
          split at h
          · cases h
          · rename_i hfr
            rw [if_neg hfr]
            rw [setCell_junk hx] at h
            have hsz : (w.setCell x v).heap.size = w.heap.size := by simp [World.setCell]
            obtain ⟨u, h1, h2, h3, h4, h5⟩ := ih hc (w.setCell x v) (es.push ⟨.cell x, true, m == .atomic⟩) _ a v' (by omega) h
            refine ⟨u, h1, h2, h3.trans ?_, by omega, fun ev hev => ?_⟩
            · simp [World.setCell, Array.getElem?_modify, hx]
            · rcases h5 ev hev with h | h
              · rcases Array.mem_push.1 h with h | rfl
                · exact .inl h
                · exact .inr hx
              · exact .inr h
        | none =>
          rw [hcell] at h
          simp only at h ⊢
          split at h
          · rename_i w1 touched hf
            obtain ⟨w2, hf1, rfl, hf3, hf4, hf5⟩ := farStore_junk hb hx hf
            rw [hf1]
            obtain ⟨u, h1, h2, h3, h4, h5⟩ := ih hc w2 (es ++ touched.toArray.map (⟨.cell ·, true, m == .atomic⟩)) _ a v' (by omega) h
            refine ⟨u, h1, h2, h3.trans hf3, by omega, fun ev hev => ?_⟩
            rcases h5 ev hev with h | h
            · rcases Array.mem_append.1 h with h | h
              · exact .inl h
              · obtain ⟨y, hy, rfl⟩ := Array.mem_map.1 h
                exact .inr (hf5 y (by simpa using hy))
            · exact .inr h
          · cases h
    · exfalso
      cases v <;> first | (simp [Value.oneCell'] at hv; done) | (simp only [Sem.runT] at h; cases h)
  | new o k ih =>
    intro w es es' a v' hb h
    simp only [Sem.runT] at h ⊢
    rw [push_junk hb, junk_size] at h
    obtain ⟨u, h1, h2, h3, h4, h5⟩ := ih w.heap.size (hc _) { w with heap := w.heap.push o } es _ a v' (by simp; omega) h
    refine ⟨u, h1, h2, h3.trans ?_, by simp at h4; omega, h5⟩
    simp only [Array.getElem?_push]; rw [if_neg (by omega)]
  | shape r k ih => intro w es es' a v' hb h; rw [Sem.runT_fst] at h; exact absurd h ((hc _).run _ _ _)
  | freeze x n k ih => exact hc.elim
  | frozen x k ih => intro w es es' a v' hb h; rw [Sem.runT_fst] at h; exact absurd h ((hc _).run _ _ _)
  | getObj r k ih =>
    intro w es es' a v' hb h
    simp only [Sem.runT] at h ⊢
    by_cases hr : r = b
    · subst hr; rw [junk_at hb] at h; simp only [junkO] at h; cases h
    · rw [junk_ne hr] at h
      cases ho : w.heap[r]? with
      | none => rw [ho] at h; cases h
      | some o =>
        rw [ho] at h
        cases o <;> simp only at h ⊢ <;> first
          | (cases h; done)
          | (obtain ⟨u, h1, h2, h3, h4, h5⟩ := ih _ (hc _) w _ _ a v' hb h
             refine ⟨u, h1, h2, h3, h4, fun ev hev => ?_⟩
             rcases h5 ev hev with h | h
             · rcases Array.mem_push.1 h with h | rfl
               · exact .inl h
               · exact .inr hr
             · exact .inr h)
  | setObj r o k ih =>
    intro w es es' a v' hb h
    simp only [Sem.runT] at h ⊢
    by_cases hr : r = b
    · subst hr; rw [junk_at hb] at h; simp only [junkO] at h; cases h
    · rw [junk_ne hr] at h
      have hsz : ({ w with heap := w.heap.setIfInBounds r o } : World).heap.size = w.heap.size := by simp
      cases ho : w.heap[r]? with
      | none => rw [ho] at h; cases h
      | some o' =>
        rw [ho] at h
        cases o' <;> simp only at h ⊢ <;> first
          | (cases h; done)
          | (rw [set_junk hr] at h
             obtain ⟨u, h1, h2, h3, h4, h5⟩ := ih hc { w with heap := w.heap.setIfInBounds r o } _ _ a v' (by omega) h
             refine ⟨u, h1, h2, h3.trans (by simp [hr]), by omega, fun ev hev => ?_⟩
             rcases h5 ev hev with h | h
             · rcases Array.mem_push.1 h with h | rfl
               · exact .inl h
               · exact .inr hr
             · exact .inr h)
  | choose q k ih =>
    intro w es es' a v' hb h
    simp only [Sem.runT] at h ⊢
    split at h
    · rename_i hq; rw [if_pos hq]; exact ih _ (hc _) w es _ a v' hb h
    · rename_i hq; rw [if_neg hq]; exact ih _ (hc _) { w with drawn := w.drawn + 1 } es _ a v' hb h
  | sys c k ih => exact hc.elim
  | program k ih =>
    intro w es es' a v' hb h
    simp only [Sem.runT] at h ⊢
    exact ih _ hc w es _ a v' hb h
  | mark m k ih =>
    intro w es es' a v' hb h
    simp only [Sem.runT] at h ⊢
    obtain ⟨u, h1, h2, h3, h4, h5⟩ := ih hc.2 w (es.push ⟨.mark m, false, true⟩) _ a v' hb h
    refine ⟨u, h1, h2, h3, h4, fun ev hev => ?_⟩
    rcases h5 ev hev with h | h
    · rcases Array.mem_push.1 h with h | rfl
      · exact .inl h
      · exact .inr hc.1
    · exact .inr h
  | halt x => intro w es es' a v' hb h; simp only [Sem.runT] at h; cases h
def EvCalm (e : Event) : Prop := match e.loc with
  | .cell _ | .obj _ => True
  | .mark m => m = .noRoom
  | _ => False
theorem farStore_size {p : Program} {w : World} {a : Addr} {v : Value} {at1 : Bool} {r : World × List Addr} (h : w.farStore p a v at1 = .ok r) : r.1.heap.size = w.heap.size := by
  simp only [World.farStore] at h
  split at h
  · split at h
    · rename_i r' hr
      cases h
      simp only [World.viewStore, bind, Except.bind, pure, Except.pure] at hr
      repeat' (split at hr)
      all_goals first | (cases hr; done) | skip
      all_goals
        cases hr
        simp
    · cases h
  · cases h
def EvLow (n : Nat) (e : Event) : Prop := match e.loc with
  | .cell a => a.block < n
  | .obj r => r < n
  | _ => True
theorem cell_lt {w : World} {x : Addr} {y : Value} (h : w.cell? x = some y) : x.block < w.heap.size := by
  unfold World.cell? at h
  refine Nat.lt_of_not_le fun hle => ?_
  rw [Array.getElem?_eq_none hle] at h
  cases h
theorem seen_lt {p : Program} {w : World} {at_ : Addr} {u : TypeId} {k : Addr} {at1 : Bool} {r} (h : w.seen p at_ u k at1 = .ok r) : at_.block < w.heap.size := by
  refine Nat.lt_of_not_le fun hle => ?_
  simp only [World.seen, Array.getElem?_eq_none hle] at h
  simp only [bind, Except.bind, pure, Except.pure] at h
  repeat' (split at h)
  all_goals cases h
theorem farLoad_lt {p : Program} {w : World} {a : Addr} {at1 : Bool} {r : Value × List Addr} (h : w.farLoad p a at1 = .ok r) : ∀ x ∈ r.2, x.block < w.heap.size := by
  simp only [World.farLoad] at h
  split at h
  · split at h
    · rename_i r' hr
      cases h
      intro x hx
      simp only [World.viewLoad, bind, Except.bind, pure, Except.pure] at hr
      repeat' (split at hr)
      all_goals first | (cases hr; done) | skip
      all_goals
        cases hr
        obtain ⟨y, _, rfl⟩ := List.mem_map.1 hx
        have hs := seen_lt (p := p) (w := w) (by assumption)
        exact hs
    · cases h
  · cases h
theorem farStore_lt {p : Program} {w : World} {a : Addr} {v : Value} {at1 : Bool} {r : World × List Addr} (h : w.farStore p a v at1 = .ok r) : ∀ x ∈ r.2, x.block < w.heap.size := by
  simp only [World.farStore] at h
  split at h
  · split at h
    · rename_i r' hr
      cases h
      intro x hx
      simp only [World.viewStore, bind, Except.bind, pure, Except.pure] at hr
      repeat' (split at hr)
      all_goals first | (cases hr; done) | skip
      all_goals
        cases hr
        obtain ⟨y, _, rfl⟩ := List.mem_map.1 hx
        have hs := seen_lt (p := p) (w := w) (by assumption)
        exact hs
    · cases h
  · cases h
theorem calm_runT {α : Type} {P : Program} (e : Sem α) (hc : e.Calm P) : ∀ (w : World) (es : Array Event) (a : α) (v : World), (e.runT P w es).1 = .ok a v →
    w.heap.size ≤ v.heap.size ∧ v.os = w.os ∧ v.tape = w.tape ∧ v.output = w.output ∧ ∀ ev ∈ (e.runT P w es).2, ev ∈ es ∨ (EvCalm ev ∧ EvLow v.heap.size ev) := by
  have app : ∀ {Q : Event → Prop} {es es' l : Array Event}, (∀ ev ∈ l, Q ev) → (∀ ev ∈ es', ev ∈ es ++ l ∨ Q ev) → ∀ ev ∈ es', ev ∈ es ∨ Q ev := by
    intro Q es es' l hl h ev hev
    rcases h ev hev with h | h
    · rcases Array.mem_append.1 h with h | h
      · exact .inl h
      · exact .inr (hl _ h)
    · exact .inr h
  have push : ∀ {Q : Event → Prop} {es es' : Array Event} {x : Event}, (∀ ev ∈ es', ev ∈ es.push x ∨ Q ev) → Q x → ∀ ev ∈ es', ev ∈ es ∨ Q ev := by
    intro Q es es' x h hx ev hev
    rcases h ev hev with h | h
    · rcases Array.mem_push.1 h with h | rfl
      · exact .inl h
      · exact .inr hx
    · exact .inr h
  induction e with
  | pure a =>
    intro w es a v h
    simp only [Sem.runT] at h ⊢
    cases h
    exact ⟨Nat.le_refl _, rfl, rfl, rfl, fun _ h => .inl h⟩
  | load m x k ih =>
    intro w es a v h
    simp only [Sem.runT] at h ⊢
    split at h
    · rename_i y hy
      obtain ⟨h1, h2, h3, h4, h5⟩ := ih _ (hc _) _ _ _ _ h
      exact ⟨h1, h2, h3, h4, push h5 ⟨trivial, Nat.lt_of_lt_of_le (cell_lt hy) h1⟩⟩
    · split at h
      · rename_i hf
        obtain ⟨h1, h2, h3, h4, h5⟩ := ih _ (hc _) _ _ _ _ h
        exact ⟨h1, h2, h3, h4, app (fun ev hev => by obtain ⟨y, hy, rfl⟩ := Array.mem_map.1 hev; exact ⟨trivial, Nat.lt_of_lt_of_le (farLoad_lt hf y (by simpa using hy)) h1⟩) h5⟩
      · cases h
  | store m x v k ih =>
    intro w es a v' h
    by_cases hv : v.oneCell' = true
    · have e1 : ∀ (w : World) (es : Array Event), (Sem.store m x v k).runT P w es = match w.cell? x with
        | some _ =>
          if w.frozen? x then (.halt (.unsupported (.unsafePointer "a write to bytes that a string shares")) w, es)
          else k.runT P (w.setCell x v) (es.push ⟨.cell x, true, m == .atomic⟩)
        | none => match w.farStore P x v (m == .atomic) with
          | .ok (w, touched) => k.runT P w (es ++ touched.toArray.map (⟨.cell ·, true, m == .atomic⟩))
          | .error h => (.halt h w, es) := by
        intro w es
        cases v <;> first | (simp [Value.oneCell'] at hv; done) | rfl
      rw [e1] at h ⊢
      split at h
      · rename_i hy
        split at h
        · cases h
        · rename_i hfr
          rw [if_neg hfr]
          obtain ⟨h1, h2, h3, h4, h5⟩ := ih hc _ _ _ _ h
          have h1' : w.heap.size ≤ v'.heap.size := by simpa [World.setCell] using h1
          exact ⟨h1', h2, h3, h4, push h5 ⟨trivial, Nat.lt_of_lt_of_le (cell_lt hy) h1'⟩⟩
      · split at h
        · rename_i w1 touched hf
          have hs := farStore_size hf
          have hw : w1.os = w.os ∧ w1.tape = w.tape ∧ w1.output = w.output := by
            simp only [World.farStore] at hf
            split at hf
            · split at hf
              · rename_i r' hr
                cases hf
                simp only [World.viewStore, bind, Except.bind, pure, Except.pure] at hr
                repeat' (split at hr)
                all_goals first | (cases hr; done) | skip
                all_goals
                  cases hr
                  exact ⟨rfl, rfl, rfl⟩
              · cases hf
            · cases hf
          obtain ⟨h1, h2, h3, h4, h5⟩ := ih hc _ _ _ _ h
          have h1' : w.heap.size ≤ v'.heap.size := by simp only at hs; omega
          exact ⟨h1', h2.trans hw.1, h3.trans hw.2.1, h4.trans hw.2.2, app (fun ev hev => by obtain ⟨y, hy, rfl⟩ := Array.mem_map.1 hev; exact ⟨trivial, Nat.lt_of_lt_of_le (farStore_lt hf y (by simpa using hy)) h1'⟩) h5⟩
        · cases h
    · exfalso
      cases v <;> first | (simp [Value.oneCell'] at hv; done) | (simp only [Sem.runT] at h; cases h)
  | new o k ih =>
    intro w es a v h
    simp only [Sem.runT] at h ⊢
    obtain ⟨h1, h2, h3, h4, h5⟩ := ih _ (hc _) _ _ _ _ h
    exact ⟨by simp at h1; omega, h2, h3, h4, h5⟩
  | shape r k ih => intro w es a v h; rw [Sem.runT_fst] at h; exact absurd h ((hc _).run _ _ _)
  | freeze x n k ih => exact hc.elim
  | frozen x k ih => intro w es a v h; rw [Sem.runT_fst] at h; exact absurd h ((hc _).run _ _ _)
  | getObj r k ih =>
    intro w es a v h
    simp only [Sem.runT] at h ⊢
    split at h
    · cases h
    · rename_i _ hob
      obtain ⟨h1, h2, h3, h4, h5⟩ := ih _ (hc _) _ _ _ _ h
      exact ⟨h1, h2, h3, h4, push h5 ⟨trivial, Nat.lt_of_lt_of_le (Array.getElem?_eq_some_iff.1 hob).1 h1⟩⟩
    · cases h
  | setObj r o k ih =>
    intro w es a v h
    simp only [Sem.runT] at h ⊢
    split at h
    · cases h
    · rename_i _ hob
      obtain ⟨h1, h2, h3, h4, h5⟩ := ih hc _ _ _ _ h
      have h1' : w.heap.size ≤ v.heap.size := by simpa using h1
      exact ⟨h1', h2, h3, h4, push h5 ⟨trivial, Nat.lt_of_lt_of_le (Array.getElem?_eq_some_iff.1 hob).1 h1'⟩⟩
    · cases h
  | choose q k ih =>
    intro w es a v h
    simp only [Sem.runT] at h ⊢
    split at h
    · rename_i hq; rw [if_pos hq]; exact ih _ (hc _) _ _ _ _ h
    · rename_i hq; rw [if_neg hq]
      obtain ⟨h1, h2, h3, h4, h5⟩ := ih _ (hc _) _ _ _ _ h
      exact ⟨h1, h2, h3, h4, h5⟩
  | sys c k ih => exact hc.elim
  | program k ih =>
    intro w es a v h
    simp only [Sem.runT] at h ⊢
    exact ih _ hc _ _ _ _ h
  | mark m k ih =>
    intro w es a v h
    simp only [Sem.runT] at h ⊢
    obtain ⟨h1, h2, h3, h4, h5⟩ := ih hc.2 _ _ _ _ h
    exact ⟨h1, h2, h3, h4, push h5 ⟨hc.1, trivial⟩⟩
  | halt x => intro w es a v h; simp only [Sem.runT] at h; cases h
end X
end Go
