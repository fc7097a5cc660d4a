/- A small separation logic over the model's calculus of weakest preconditions: the state of a walk as slots, memory that is only read, memory that is owned. No pr -/
import Derived.Tactics2
import Derived.OrdersHeld
import Derived.KernelRfl
import Derived.Below
import Derived.Laws.AppendOwn
import Derived.Deep.AppendSrc
import Derived.Laws.StructEq
set_option linter.unusedVariables false
set_option linter.unusedSimpArgs false
namespace Go.Sx
open Go
abbrev Slots := List (Nat × Value)
def fget : Slots → Nat → Option Value
  | [], _ => none
  | (k, v) :: r, t => bif Nat.beq k t then some v else fget r t
def opv (F : Slots) : Operand → Option Value
  | .tmp t => fget F t
  | .const v => some v
  | .global g => some (.pointer (some ⟨g, 0, none⟩))
  | .func f => some (.func (.func f) #[] #[])
structure NF where
  n : Nat
  D : List Deferred := []
instance : CoeOut NF Nat := ⟨NF.n⟩
structure FrOk (n : NF) (a : Act) (F : Slots) : Prop where
  size : a.tmps.size = n
  defs : a.defers = n.D
  get : ∀ t v, fget F t = some v → a.tmps[t]? = some v
theorem FrOk.opv {n : NF} {a : Act} {F : Slots} (h : FrOk n a F) {x : Operand} {v : Value} (hx : opv F x = some v) : a.eval x = v := by
  cases x with
  | tmp t => simp only [Sx.opv] at hx; have := h.get t v hx; simp [Act.eval, this]
  | const u => simpa [Sx.opv, Act.eval] using hx
  | global g => simpa [Sx.opv, Act.eval] using hx
  | func f => simpa [Sx.opv, Act.eval] using hx
theorem fget_cons (d : Nat) (v : Value) (F : Slots) (t : Nat) : fget ((d, v) :: F) t = if d = t then some v else fget F t := by
  simp only [fget]
  by_cases h : d = t
  · subst h; simp
  · have : Nat.beq d t = false := by rw [← Bool.not_eq_true, Nat.beq_eq]; exact h
    simp [this, h]
theorem FrOk.put {n : NF} {a : Act} {F : Slots} (h : FrOk n a F) {d : Nat} (hd : Nat.blt d n = true) (v : Value) : FrOk n (a.put (some d) v) ((d, v) :: F) := by
  have hd' : d < n := by simpa [Nat.blt_eq] using hd
  refine ⟨by simp [Act.put, h.size], by simp [Act.put, h.defs], fun t u ht => ?_⟩
  rw [fget_cons] at ht
  by_cases he : d = t
  · subst he; simp at ht; subst ht; simp [Act.put, h.size, hd']
  · simp only [he, if_false] at ht
    simp only [Act.put, Array.getElem?_setIfInBounds, he, if_false]
    exact h.get t u ht
theorem FrOk.put0 {n : NF} {a : Act} {F : Slots} (h : FrOk n a F) (v : Value) : FrOk n (a.put none v) F := by simpa [Act.put] using h
def fsub : Slots → Slots → Prop := fun F F' => ∀ t v, fget F t = some v → fget F' t = some v
theorem FrOk.sub {n : NF} {a : Act} {F F' : Slots} (h : FrOk n a F') (hs : fsub F F') : FrOk n a F := ⟨h.size, h.defs, fun t v ht => h.get t v (hs t v ht)⟩
theorem fsub_nil (F : Slots) : fsub [] F := fun _ _ h => by simp [fget] at h
theorem fsub_cons {F F' : Slots} {d : Nat} {v : Value} (h : fget F' d = some v) (hs : fsub F F') : fsub ((d, v) :: F) F' := fun t u ht => by
  rw [fget_cons] at ht
  by_cases he : d = t
  · subst he; simp at ht; subst ht; exact h
  · simp only [he, if_false] at ht; exact hs t u ht
abbrev Heap := Nat → Option Obj
abbrev HProp := Heap → Prop
def hid (w : World) (b : Nat) : Bool := w.output.any (·.1 == b)
def hp (w : World) : Heap := fun b => if hid w b then none else w.heap[b]?
theorem hp_some {w : World} {b : Nat} {o : Obj} (h : hp w b = some o) : w.heap[b]? = some o := by
  unfold hp at h; split at h
  · cases h
  · exact h
theorem hp_of {w : World} {b : Nat} {o : Obj} (hh : hid w b = false) (h : w.heap[b]? = some o) : hp w b = some o := by simp [hp, hh, h]
theorem hid_eq {w w' : World} (h : w'.output = w.output) (b : Nat) : hid w' b = hid w b := by unfold hid; rw [h]
theorem hp_other {w w' : World} {x : Nat} (ho : w'.output = w.output) (h : w'.heap[x]? = w.heap[x]?) : hp w' x = hp w x := by simp only [hp, hid_eq ho, h]
theorem hp_vis {w : World} {b : Nat} {o : Obj} (h : hp w b = some o) : hid w b = false := by
  unfold hp at h; split at h
  · cases h
  · rename_i hh; simpa using hh
theorem hp_here {w w' : World} {b : Nat} {o o' : Obj} (ho : w'.output = w.output) (h : hp w b = some o) (h' : w'.heap[b]? = some o') : hp w' b = some o' := hp_of (by rw [hid_eq ho]; exact hp_vis h) h'
def Heap.le (H H' : Heap) : Prop := ∀ b o, H b = some o → H' b = some o
def Heap.empty : Heap := fun _ => none
theorem Heap.le.refl (H : Heap) : H.le H := fun _ _ h => h
theorem Heap.le.trans {A B C : Heap} (h : Heap.le A B) (h' : Heap.le B C) : Heap.le A C := fun b o x => h' b o (h b o x)
def Disj (h1 h2 : Heap) : Prop := ∀ b, h1 b = none ∨ h2 b = none
theorem Disj.symm {a b : Heap} (h : Disj a b) : Disj b a := fun x => (h x).symm
theorem Disj.mono {a b a' : Heap} (h : Disj a b) (hl : a'.le a) : Disj a' b := fun x => by
  rcases h x with h | h
  · left; cases hx : a' x with
    | none => rfl
    | some o => rw [hl x o hx] at h; cases h
  · exact .inr h
def union (h1 h2 : Heap) : Heap := fun b => match h1 b with | some o => some o | none => h2 b
theorem le_union_left (a b : Heap) : a.le (union a b) := fun x o h => by simp [union, h]
theorem le_union_right {a b : Heap} (hd : Disj a b) : b.le (union a b) := fun x o h => by
  rcases hd x with h' | h'
  · simp [union, h', h]
  · rw [h] at h'; cases h'
theorem union_le {a b c : Heap} (h1 : a.le c) (h2 : b.le c) : (union a b).le c := fun x o h => by
  simp only [union] at h
  cases hx : a x with
  | some u => rw [hx] at h; exact h1 x o (by rw [hx]; exact h)
  | none => rw [hx] at h; exact h2 x o h
theorem disj_union {a b c : Heap} (h1 : Disj a c) (h2 : Disj b c) : Disj (union a b) c := fun x => by
  rcases h1 x with h | h
  · rcases h2 x with h' | h'
    · left; simp [union, h, h']
    · exact .inr h'
  · exact .inr h
def upd (H : Heap) (b : Nat) (o : Obj) : Heap := fun x => if x = b then some o else H x
theorem upd_same (H : Heap) (b : Nat) (o : Obj) : upd H b o b = some o := by simp [upd]
theorem le_upd {H : Heap} {b : Nat} {o : Obj} (h : H b = none) : H.le (upd H b o) := fun x u hx => by
  by_cases e : x = b
  · subst e; rw [h] at hx; cases hx
  · simp [upd, e, hx]
def pt (b : Nat) (o : Obj) : HProp := fun h => h b = some o
def emp : HProp := fun _ => True
def big : List HProp → HProp
  | [] => fun _ => True
  | A :: r => fun h => ∃ h1 h2, A h1 ∧ big r h2 ∧ Disj h1 h2 ∧ h1.le h ∧ h2.le h
theorem big_mono {L : List HProp} {h h' : Heap} (hl : h.le h') (hb : big L h) : big L h' := by
  cases L with
  | nil => trivial
  | cons A r => obtain ⟨h1, h2, a, b, c, d, e⟩ := hb; exact ⟨h1, h2, a, b, c, d.trans hl, e.trans hl⟩
theorem big_swap {A B : HProp} {L : List HProp} {h : Heap} (hb : big (A :: B :: L) h) : big (B :: A :: L) h := by
  obtain ⟨h1, h2, a, ⟨h3, h4, b, l, d34, le3, le4⟩, d12, le1, le2⟩ := hb
  have d13 : Disj h1 h3 := (d12.symm.mono le3).symm
  have d14 : Disj h1 h4 := (d12.symm.mono le4).symm
  refine ⟨h3, union h1 h4, b, ⟨h1, h4, a, l, d14, le_union_left _ _, le_union_right d14⟩, ?_, le3.trans le2, union_le le1 (le4.trans le2)⟩
  exact (disj_union d13 d34.symm).symm
def Sub (L L' : List HProp) : Prop := ∀ h, big L h → big L' h
theorem Sub.refl (L : List HProp) : Sub L L := fun _ h => h
theorem Sub.trans {A B C : List HProp} (h : Sub A B) (h' : Sub B C) : Sub A C := fun x hx => h' x (h x hx)
theorem Sub.cons {A : HProp} {L L' : List HProp} (h : Sub L L') : Sub (A :: L) (A :: L') := fun _ ⟨h1, h2, a, b, c, d, e⟩ => ⟨h1, h2, a, h h2 b, c, d, e⟩
theorem Sub.drop {A : HProp} {L L' : List HProp} (h : Sub L L') : Sub (A :: L) L' := fun x ⟨_, _, _, b, _, _, e⟩ => h x (big_mono e b)
theorem Sub.nil (L : List HProp) : Sub L [] := fun _ _ => trivial
theorem Sub.emp {L L' : List HProp} (h : Sub L L') : Sub L (emp :: L') := fun x hx => ⟨Heap.empty, x, trivial, h x hx, fun _ => .inl rfl, fun _ _ h => by simp [Heap.empty] at h, fun _ _ h => h⟩
inductive Has : List HProp → HProp → List HProp → Prop
  | here {A : HProp} {r : List HProp} : Has (A :: r) A r
  | there {x A : HProp} {r r' : List HProp} : Has r A r' → Has (x :: r) A (x :: r')
theorem Has.to {L R : List HProp} {A : HProp} (h : Has L A R) : Sub L (A :: R) := by
  induction h with
  | here => exact Sub.refl _
  | there _ ih => exact (Sub.cons ih).trans fun _ => big_swap
theorem Has.from {L R : List HProp} {A : HProp} (h : Has L A R) : Sub (A :: R) L := by
  induction h with
  | here => exact Sub.refl _
  | there _ ih => exact Sub.trans (fun _ => big_swap) (Sub.cons ih)
inductive Upd : List HProp → HProp → HProp → List HProp → Prop
  | here {A A' : HProp} {r : List HProp} : Upd (A :: r) A A' (A' :: r)
  | there {x A A' : HProp} {r r' : List HProp} : Upd r A A' r' → Upd (x :: r) A A' (x :: r')
theorem Upd.split {L L' : List HProp} {A A' : HProp} (h : Upd L A A' L') : ∃ R, Sub L (A :: R) ∧ Sub (A' :: R) L' := by
  induction h with
  | here => exact ⟨_, Sub.refl _, Sub.refl _⟩
  | @there x _ _ _ _ _ ih => obtain ⟨R, h1, h2⟩ := ih; exact ⟨x :: R, (Sub.cons h1).trans fun _ => big_swap, Sub.trans (fun _ => big_swap) (Sub.cons h2)⟩
inductive Take : List HProp → List HProp → List HProp → Prop
  | nil {L : List HProp} : Take L [] L
  | cons {L M R : List HProp} {A : HProp} {B : List HProp} : Has L A M → Take M B R → Take L (A :: B) R
theorem Take.to {L A R : List HProp} (h : Take L A R) : Sub L (A ++ R) := by
  induction h with
  | nil => exact Sub.refl _
  | cons h _ ih => exact h.to.trans (Sub.cons ih)
structure EnvOk (W0 w : World) : Prop where
  os : w.os = W0.os
  tape : w.tape = W0.tape
  output : w.output = W0.output
  low : ∀ p ∈ w.output, p.1 < w.heap.size
theorem EnvOk.vis {W0 w : World} (h : EnvOk W0 w) {b : Nat} (hb : w.heap.size ≤ b) : hid w b = false := by
  unfold hid
  rw [Array.any_eq_false']
  intro p hp
  have := h.low p hp
  simp; omega
structure St (W0 : World) (H : Heap) (w : World) (L : List HProp) : Prop where
  env : EnvOk W0 w
  ro : H.le (hp w)
  own : ∃ h, big L h ∧ h.le (hp w) ∧ Disj H h
theorem St.sub {W0 w : World} {H : Heap} {L L' : List HProp} (h : St W0 H w L) (hs : Sub L L') : St W0 H w L' :=
  ⟨h.env, h.ro, let ⟨x, a, b, c⟩ := h.own; ⟨x, hs x a, b, c⟩⟩
theorem hp_lt {w : World} {b : Nat} {o : Obj} (h : hp w b = some o) : b < w.heap.size := by
  exact (Array.getElem?_eq_some_iff.1 (hp_some h)).1
theorem St.parts {W0 w : World} {H : Heap} {A : HProp} {R : List HProp} (h : St W0 H w (A :: R)) :
    ∃ hA hR, A hA ∧ big R hR ∧ Disj hA hR ∧ Disj H hA ∧ Disj H hR ∧ hA.le (hp w) ∧ hR.le (hp w) := by
  obtain ⟨x, ⟨h1, h2, a, b, c, d, e⟩, hl, hd⟩ := h.own
  exact ⟨h1, h2, a, b, c, (hd.symm.mono d).symm, (hd.symm.mono e).symm, d.trans hl, e.trans hl⟩
theorem St.of_parts {W0 w : World} {H : Heap} {A : HProp} {R : List HProp} (env : EnvOk W0 w) (ro : H.le (hp w)) {hA hR : Heap} (a : A hA) (r : big R hR) (d : Disj hA hR)
    (dA : Disj H hA) (dR : Disj H hR) (lA : hA.le (hp w)) (lR : hR.le (hp w)) : St W0 H w (A :: R) :=
  ⟨env, ro, union hA hR, ⟨hA, hR, a, r, d, le_union_left _ _, le_union_right d⟩, union_le lA lR, (disj_union dA.symm dR.symm).symm⟩
theorem St.step {W0 w w' : World} {H : Heap} {A A' : HProp} {R : List HProp} (h : St W0 H w (A :: R)) (env : EnvOk W0 w')
    (hs : ∀ hA, A hA → hA.le (hp w) → (∀ b, b < w.heap.size → hA b = none → hp w' b = hp w b) ∧ ∃ hA', A' hA' ∧ hA'.le (hp w') ∧ ∀ b, hA' b ≠ none → hA b ≠ none ∨ w.heap.size ≤ b) :
    St W0 H w' (A' :: R) := by
  obtain ⟨hA, hR, a, r, d, dA, dR, lA, lR⟩ := h.parts
  obtain ⟨hk, hA', a', l', hn⟩ := hs hA a lA
  have keep : ∀ (g : Heap), g.le (hp w) → Disj hA g → g.le (hp w') := fun g hg hd b o hb => by
    have hlt := hp_lt (hg b o hb)
    have hnone : hA b = none := by rcases hd b with x | x; exact x; rw [hb] at x; cases x
    rw [hk b hlt hnone]; exact hg b o hb
  have dis : ∀ (g : Heap), g.le (hp w) → Disj hA g → Disj hA' g := fun g hg hd b => by
    cases hx : hA' b with
    | none => exact .inl rfl
    | some o =>
      right
      rcases hn b (by rw [hx]; simp) with h1 | h1
      · rcases hd b with x | x; exact absurd x h1; exact x
      · cases hg' : g b with
        | none => rfl
        | some u => have := hp_lt (hg b u hg'); omega
  exact St.of_parts env (keep H h.ro dA.symm) a' r (dis hR lR d) (dis H h.ro dA.symm).symm dR l' (keep hR lR d)
theorem St.ptRead {W0 w : World} {H : Heap} {b : Nat} {o : Obj} {R : List HProp} (h : St W0 H w (pt b o :: R)) : w.heap[b]? = some o ∧ H b = none := by
  obtain ⟨hA, hR, a, r, d, dA, dR, lA, lR⟩ := h.parts
  refine ⟨hp_some (lA b o a), ?_⟩
  rcases dA b with x | x; exact x; rw [show hA b = some o from a] at x; cases x
def one (b : Nat) (o : Obj) : Heap := fun x => if x = b then some o else none
theorem one_le {b : Nat} {o : Obj} {h : Heap} (hb : h b = some o) : (one b o).le h := fun x u hx => by
  simp only [one] at hx; split at hx
  · rename_i e; subst e; cases hx; exact hb
  · cases hx
theorem St.ptWrite {W0 w w' : World} {H : Heap} {b : Nat} {o o' : Obj} {R : List HProp} (h : St W0 H w (pt b o :: R)) (env : EnvOk W0 w')
    (hb : w'.heap[b]? = some o') (hk : ∀ x, x ≠ b → w'.heap[x]? = w.heap[x]?) : St W0 H w' (pt b o' :: R) :=
  h.step env fun hA a lA => ⟨fun x hx hn => by
      simp only [hp, hid_eq (env.output.trans h.env.output.symm), hk x (by rintro rfl; rw [show hA x = some o from a] at hn; cases hn)],
    one b o', by simp [pt, one], one_le (hp_of (by rw [hid_eq (env.output.trans h.env.output.symm)]; exact hp_vis (lA b o a)) hb), fun x hx => by
      left; simp only [one] at hx; split at hx
      · rename_i e; subst e; rw [show hA x = some o from a]; simp
      · simp at hx⟩
theorem St.alloc {W0 w w' : World} {H : Heap} {o : Obj} {L : List HProp} (h : St W0 H w L) (env : EnvOk W0 w') (hw : w'.heap = w.heap.push o) : St W0 H w' (pt w.heap.size o :: L) := by
  have h' : St W0 H w (emp :: L) := h.sub (Sub.emp (Sub.refl _))
  refine h'.step env fun hA _ _ => ⟨fun b hb _ => ?_, one w.heap.size o, by simp [pt, one], one_le (hp_of (by rw [hid_eq (env.output.trans h.env.output.symm)]; exact h.env.vis (Nat.le_refl _)) (by simp [hw])), fun b hb => ?_⟩
  · simp only [hp, hid_eq (env.output.trans h.env.output.symm), hw, Array.getElem?_push]; rw [if_neg (show ¬ b = w.heap.size by omega)]
  · right; simp only [one] at hb; split at hb <;> simp_all
theorem St.keep {W0 w w' : World} {H : Heap} {L : List HProp} (h : St W0 H w L) (env : EnvOk W0 w') (hw : w'.heap = w.heap) : St W0 H w' L :=
  have e : hp w' = hp w := by funext b; unfold hp; rw [hw, hid_eq (env.output.trans h.env.output.symm)]
  ⟨env, e ▸ h.ro, e ▸ h.own⟩
theorem alloc_grows (w : World) (o : Obj) : w.heap.size ≤ (w.alloc o).heap.size := by unfold World.alloc; exact (Array.size_push (xs := w.heap) o).symm ▸ Nat.le_succ _
theorem EnvOk.of {W0 w w' : World} (h : EnvOk W0 w) (h1 : w'.os = w.os) (h2 : w'.tape = w.tape) (h3 : w'.output = w.output) (h4 : w.heap.size ≤ w'.heap.size := by first | exact Nat.le_refl _ | exact alloc_grows _ _ | (simp [World.alloc, World.setRow, World.setCell]; done)) : EnvOk W0 w' :=
  ⟨h1.trans h.os, h2.trans h.tape, h3.trans h.output, fun p hp => Nat.lt_of_lt_of_le (h.low p (h3 ▸ hp)) h4⟩
theorem St.freeze {W0 w : World} {H : Heap} {b : Nat} {o : Obj} {R : List HProp} (h : St W0 H w (pt b o :: R)) : H b = none ∧ St W0 (upd H b o) w R := by
  obtain ⟨hA, hR, a, r, d, dA, dR, lA, lR⟩ := h.parts
  refine ⟨h.ptRead.2, h.env, fun x u hx => ?_, hR, r, lR, fun x => ?_⟩
  · simp only [upd] at hx; split at hx
    · rename_i e; subst e; cases hx; exact lA x o a
    · exact h.ro x u hx
  · by_cases e : x = b
    · subst e; right; rcases d x with y | y; rw [show hA x = some o from a] at y; cases y; exact y
    · simp only [upd, e, if_false]; exact dR x
end Go.Sx
