/- The judgement of one goroutine in company: the least predicate closed under its own steps, over the memory that it owns, and under special steps. The rules of c -/
import Derived.Test.YtafhinjggdknjaaDoorPXB
import Derived.Test.YtafhinjggdknjaaDoorPXG
import Derived.Tactics2
import Derived.OrdersHeld
import Derived.KernelRfl
import Derived.Below
import Derived.Laws.AppendOwn
import Derived.Deep.AppendSrc
import Derived.Laws.StructEq
import Derived.Conc.Company
import Derived.Conc.CompanyDraw
set_option linter.unusedVariables false
set_option linter.unusedSimpArgs false
namespace Go.Sx
open Go
abbrev Slots := List (Nat × Value)
def fget : Slots → Nat → Option Value
  | [], _ => none
  | (k, v) :: r, t => bif Nat.beq k t then some v else fget r t
def opv (F : Slots) : Operand → Option Value
  | .tmp t => fget F t
  | .const v => some v
  | .global g => some (.pointer (some ⟨g, 0, none⟩))
  | .func f => some (.func (.func f) #[] #[])
structure NF where
  n : Nat
  D : List Deferred := []
instance : CoeOut NF Nat := ⟨NF.n⟩
structure FrOk (n : NF) (a : Act) (F : Slots) : Prop where
  size : a.tmps.size = n
  defs : a.defers = n.D
  get : ∀ t v, fget F t = some v → a.tmps[t]? = some v
theorem FrOk.opv {n : NF} {a : Act} {F : Slots} (h : FrOk n a F) {x : Operand} {v : Value} (hx : opv F x = some v) : a.eval x = v := by
  cases x with
  | tmp t => simp only [Sx.opv] at hx; have := h.get t v hx; simp [Act.eval, this]
  | const u => simpa [Sx.opv, Act.eval] using hx
  | global g => simpa [Sx.opv, Act.eval] using hx
  | func f => simpa [Sx.opv, Act.eval] using hx
theorem fget_cons (d : Nat) (v : Value) (F : Slots) (t : Nat) : fget ((d, v) :: F) t = if d = t then some v else fget F t := by
  simp only [fget]
  by_cases h : d = t
  · subst h; simp
  · have : Nat.beq d t = false := by rw [← Bool.not_eq_true, Nat.beq_eq]; exact h
    simp [this, h]
theorem FrOk.put {n : NF} {a : Act} {F : Slots} (h : FrOk n a F) {d : Nat} (hd : Nat.blt d n = true) (v : Value) : FrOk n (a.put (some d) v) ((d, v) :: F) := by
  have hd' : d < n := by simpa [Nat.blt_eq] using hd
  refine ⟨by simp [Act.put, h.size], by simp [Act.put, h.defs], fun t u ht => ?_⟩
  rw [fget_cons] at ht
  by_cases he : d = t
  · subst he; simp at ht; subst ht; simp [Act.put, h.size, hd']
  · simp only [he, if_false] at ht
    simp only [Act.put, Array.getElem?_setIfInBounds, he, if_false]
    exact h.get t u ht
theorem FrOk.put0 {n : NF} {a : Act} {F : Slots} (h : FrOk n a F) (v : Value) : FrOk n (a.put none v) F := by simpa [Act.put] using h
def fsub : Slots → Slots → Prop := fun F F' => ∀ t v, fget F t = some v → fget F' t = some v
theorem FrOk.sub {n : NF} {a : Act} {F F' : Slots} (h : FrOk n a F') (hs : fsub F F') : FrOk n a F := ⟨h.size, h.defs, fun t v ht => h.get t v (hs t v ht)⟩
theorem fsub_nil (F : Slots) : fsub [] F := fun _ _ h => by simp [fget] at h
theorem fsub_cons {F F' : Slots} {d : Nat} {v : Value} (h : fget F' d = some v) (hs : fsub F F') : fsub ((d, v) :: F) F' := fun t u ht => by
  rw [fget_cons] at ht
  by_cases he : d = t
  · subst he; simp at ht; subst ht; exact h
  · simp only [he, if_false] at ht; exact hs t u ht
abbrev Heap := Nat → Option Obj
abbrev HProp := Heap → Prop
def hid (w : World) (b : Nat) : Bool := w.output.any (·.1 == b)
def hp (w : World) : Heap := fun b => if hid w b then none else w.heap[b]?
theorem hp_some {w : World} {b : Nat} {o : Obj} (h : hp w b = some o) : w.heap[b]? = some o := by
  unfold hp at h; split at h
  · cases h
  · exact h
theorem hp_of {w : World} {b : Nat} {o : Obj} (hh : hid w b = false) (h : w.heap[b]? = some o) : hp w b = some o := by simp [hp, hh, h]
theorem hid_eq {w w' : World} (h : w'.output = w.output) (b : Nat) : hid w' b = hid w b := by unfold hid; rw [h]
theorem hp_other {w w' : World} {x : Nat} (ho : w'.output = w.output) (h : w'.heap[x]? = w.heap[x]?) : hp w' x = hp w x := by simp only [hp, hid_eq ho, h]
theorem hp_vis {w : World} {b : Nat} {o : Obj} (h : hp w b = some o) : hid w b = false := by
  unfold hp at h; split at h
  · cases h
  · rename_i hh; simpa using hh
theorem hp_here {w w' : World} {b : Nat} {o o' : Obj} (ho : w'.output = w.output) (h : hp w b = some o) (h' : w'.heap[b]? = some o') : hp w' b = some o' := hp_of (by rw [hid_eq ho]; exact hp_vis h) h'
def Heap.le (H H' : Heap) : Prop := ∀ b o, H b = some o → H' b = some o
def Heap.empty : Heap := fun _ => none
theorem Heap.le.refl (H : Heap) : H.le H := fun _ _ h => h
theorem Heap.le.trans {A B C : Heap} (h : Heap.le A B) (h' : Heap.le B C) : Heap.le A C := fun b o x => h' b o (h b o x)
def Disj (h1 h2 : Heap) : Prop := ∀ b, h1 b = none ∨ h2 b = none
theorem Disj.symm {a b : Heap} (h : Disj a b) : Disj b a := fun x => (h x).symm
theorem Disj.mono {a b a' : Heap} (h : Disj a b) (hl : a'.le a) : Disj a' b := fun x => by
  rcases h x with h | h
  · left; cases hx : a' x with
    | none => rfl
    | some o => rw [hl x o hx] at h; cases h
  · exact .inr h
def union (h1 h2 : Heap) : Heap := fun b => match h1 b with | some o => some o | none => h2 b
theorem le_union_left (a b : Heap) : a.le (union a b) := fun x o h => by simp [union, h]
theorem le_union_right {a b : Heap} (hd : Disj a b) : b.le (union a b) := fun x o h => by
  rcases hd x with h' | h'
  · simp [union, h', h]
  · rw [h] at h'; cases h'
theorem union_le {a b c : Heap} (h1 : a.le c) (h2 : b.le c) : (union a b).le c := fun x o h => by
  simp only [union] at h
  cases hx : a x with
  | some u => rw [hx] at h; exact h1 x o (by rw [hx]; exact h)
  | none => rw [hx] at h; exact h2 x o h
theorem disj_union {a b c : Heap} (h1 : Disj a c) (h2 : Disj b c) : Disj (union a b) c := fun x => by
  rcases h1 x with h | h
  · rcases h2 x with h' | h'
    · left; simp [union, h, h']
    · exact .inr h'
  · exact .inr h
def upd (H : Heap) (b : Nat) (o : Obj) : Heap := fun x => if x = b then some o else H x
theorem upd_same (H : Heap) (b : Nat) (o : Obj) : upd H b o b = some o := by simp [upd]
theorem le_upd {H : Heap} {b : Nat} {o : Obj} (h : H b = none) : H.le (upd H b o) := fun x u hx => by
  by_cases e : x = b
  · subst e; rw [h] at hx; cases hx
  · simp [upd, e, hx]
def pt (b : Nat) (o : Obj) : HProp := fun h => h b = some o
def emp : HProp := fun _ => True
def big : List HProp → HProp
  | [] => fun _ => True
  | A :: r => fun h => ∃ h1 h2, A h1 ∧ big r h2 ∧ Disj h1 h2 ∧ h1.le h ∧ h2.le h
theorem big_mono {L : List HProp} {h h' : Heap} (hl : h.le h') (hb : big L h) : big L h' := by
  cases L with
  | nil => trivial
  | cons A r => obtain ⟨h1, h2, a, b, c, d, e⟩ := hb; exact ⟨h1, h2, a, b, c, d.trans hl, e.trans hl⟩
theorem big_swap {A B : HProp} {L : List HProp} {h : Heap} (hb : big (A :: B :: L) h) : big (B :: A :: L) h := by
  obtain ⟨h1, h2, a, ⟨h3, h4, b, l, d34, le3, le4⟩, d12, le1, le2⟩ := hb
  have d13 : Disj h1 h3 := (d12.symm.mono le3).symm
  have d14 : Disj h1 h4 := (d12.symm.mono le4).symm
  refine ⟨h3, union h1 h4, b, ⟨h1, h4, a, l, d14, le_union_left _ _, le_union_right d14⟩, ?_, le3.trans le2, union_le le1 (le4.trans le2)⟩
  exact (disj_union d13 d34.symm).symm
def Sub (L L' : List HProp) : Prop := ∀ h, big L h → big L' h
theorem Sub.refl (L : List HProp) : Sub L L := fun _ h => h
theorem Sub.trans {A B C : List HProp} (h : Sub A B) (h' : Sub B C) : Sub A C := fun x hx => h' x (h x hx)
theorem Sub.cons {A : HProp} {L L' : List HProp} (h : Sub L L') : Sub (A :: L) (A :: L') := fun _ ⟨h1, h2, a, b, c, d, e⟩ => ⟨h1, h2, a, h h2 b, c, d, e⟩
theorem Sub.drop {A : HProp} {L L' : List HProp} (h : Sub L L') : Sub (A :: L) L' := fun x ⟨_, _, _, b, _, _, e⟩ => h x (big_mono e b)
theorem Sub.nil (L : List HProp) : Sub L [] := fun _ _ => trivial
theorem Sub.emp {L L' : List HProp} (h : Sub L L') : Sub L (emp :: L') := fun x hx => ⟨Heap.empty, x, trivial, h x hx, fun _ => .inl rfl, fun _ _ h => by simp [Heap.empty] at h, fun _ _ h => h⟩
inductive Has : List HProp → HProp → List HProp → Prop
  | here {A : HProp} {r : List HProp} : Has (A :: r) A r
  | there {x A : HProp} {r r' : List HProp} : Has r A r' → Has (x :: r) A (x :: r')
theorem Has.to {L R : List HProp} {A : HProp} (h : Has L A R) : Sub L (A :: R) := by
  induction h with
  | here => exact Sub.refl _
  | there _ ih => exact (Sub.cons ih).trans fun _ => big_swap
theorem Has.from {L R : List HProp} {A : HProp} (h : Has L A R) : Sub (A :: R) L := by
  induction h with
  | here => exact Sub.refl _
  | there _ ih => exact Sub.trans (fun _ => big_swap) (Sub.cons ih)
inductive Upd : List HProp → HProp → HProp → List HProp → Prop
  | here {A A' : HProp} {r : List HProp} : Upd (A :: r) A A' (A' :: r)
  | there {x A A' : HProp} {r r' : List HProp} : Upd r A A' r' → Upd (x :: r) A A' (x :: r')
theorem Upd.split {L L' : List HProp} {A A' : HProp} (h : Upd L A A' L') : ∃ R, Sub L (A :: R) ∧ Sub (A' :: R) L' := by
  induction h with
  | here => exact ⟨_, Sub.refl _, Sub.refl _⟩
  | @there x _ _ _ _ _ ih => obtain ⟨R, h1, h2⟩ := ih; exact ⟨x :: R, (Sub.cons h1).trans fun _ => big_swap, Sub.trans (fun _ => big_swap) (Sub.cons h2)⟩
inductive Take : List HProp → List HProp → List HProp → Prop
  | nil {L : List HProp} : Take L [] L
  | cons {L M R : List HProp} {A : HProp} {B : List HProp} : Has L A M → Take M B R → Take L (A :: B) R
theorem Take.to {L A R : List HProp} (h : Take L A R) : Sub L (A ++ R) := by
  induction h with
  | nil => exact Sub.refl _
  | cons h _ ih => exact h.to.trans (Sub.cons ih)
structure EnvOk (W0 w : World) : Prop where
  os : w.os = W0.os
  tape : w.tape = W0.tape
  output : w.output = W0.output
  low : ∀ p ∈ w.output, p.1 < w.heap.size
theorem EnvOk.vis {W0 w : World} (h : EnvOk W0 w) {b : Nat} (hb : w.heap.size ≤ b) : hid w b = false := by
  unfold hid
  rw [Array.any_eq_false']
  intro p hp
  have := h.low p hp
  simp; omega
structure St (W0 : World) (H : Heap) (w : World) (L : List HProp) : Prop where
  env : EnvOk W0 w
  ro : H.le (hp w)
  own : ∃ h, big L h ∧ h.le (hp w) ∧ Disj H h
theorem St.sub {W0 w : World} {H : Heap} {L L' : List HProp} (h : St W0 H w L) (hs : Sub L L') : St W0 H w L' :=
  ⟨h.env, h.ro, let ⟨x, a, b, c⟩ := h.own; ⟨x, hs x a, b, c⟩⟩
theorem hp_lt {w : World} {b : Nat} {o : Obj} (h : hp w b = some o) : b < w.heap.size := by
  exact (Array.getElem?_eq_some_iff.1 (hp_some h)).1
theorem St.parts {W0 w : World} {H : Heap} {A : HProp} {R : List HProp} (h : St W0 H w (A :: R)) :
    ∃ hA hR, A hA ∧ big R hR ∧ Disj hA hR ∧ Disj H hA ∧ Disj H hR ∧ hA.le (hp w) ∧ hR.le (hp w) := by
  obtain ⟨x, ⟨h1, h2, a, b, c, d, e⟩, hl, hd⟩ := h.own
  exact ⟨h1, h2, a, b, c, (hd.symm.mono d).symm, (hd.symm.mono e).symm, d.trans hl, e.trans hl⟩
theorem St.of_parts {W0 w : World} {H : Heap} {A : HProp} {R : List HProp} (env : EnvOk W0 w) (ro : H.le (hp w)) {hA hR : Heap} (a : A hA) (r : big R hR) (d : Disj hA hR)
    (dA : Disj H hA) (dR : Disj H hR) (lA : hA.le (hp w)) (lR : hR.le (hp w)) : St W0 H w (A :: R) :=
  ⟨env, ro, union hA hR, ⟨hA, hR, a, r, d, le_union_left _ _, le_union_right d⟩, union_le lA lR, (disj_union dA.symm dR.symm).symm⟩
theorem St.step {W0 w w' : World} {H : Heap} {A A' : HProp} {R : List HProp} (h : St W0 H w (A :: R)) (env : EnvOk W0 w')
    (hs : ∀ hA, A hA → hA.le (hp w) → (∀ b, b < w.heap.size → hA b = none → hp w' b = hp w b) ∧ ∃ hA', A' hA' ∧ hA'.le (hp w') ∧ ∀ b, hA' b ≠ none → hA b ≠ none ∨ w.heap.size ≤ b) :
    St W0 H w' (A' :: R) := by
  obtain ⟨hA, hR, a, r, d, dA, dR, lA, lR⟩ := h.parts
  obtain ⟨hk, hA', a', l', hn⟩ := hs hA a lA
  have keep : ∀ (g : Heap), g.le (hp w) → Disj hA g → g.le (hp w') := fun g hg hd b o hb => by
    have hlt := hp_lt (hg b o hb)
    have hnone : hA b = none := by rcases hd b with x | x; exact x; rw [hb] at x; cases x
    rw [hk b hlt hnone]; exact hg b o hb
  have dis : ∀ (g : Heap), g.le (hp w) → Disj hA g → Disj hA' g := fun g hg hd b => by
    cases hx : hA' b with
    | none => exact .inl rfl
    | some o =>
      right
      rcases hn b (by rw [hx]; simp) with h1 | h1
      · rcases hd b with x | x; exact absurd x h1; exact x
      · cases hg' : g b with
        | none => rfl
        | some u => have := hp_lt (hg b u hg'); omega
  exact St.of_parts env (keep H h.ro dA.symm) a' r (dis hR lR d) (dis H h.ro dA.symm).symm dR l' (keep hR lR d)
theorem St.ptRead {W0 w : World} {H : Heap} {b : Nat} {o : Obj} {R : List HProp} (h : St W0 H w (pt b o :: R)) : w.heap[b]? = some o ∧ H b = none := by
  obtain ⟨hA, hR, a, r, d, dA, dR, lA, lR⟩ := h.parts
  refine ⟨hp_some (lA b o a), ?_⟩
  rcases dA b with x | x; exact x; rw [show hA b = some o from a] at x; cases x
def one (b : Nat) (o : Obj) : Heap := fun x => if x = b then some o else none
theorem one_le {b : Nat} {o : Obj} {h : Heap} (hb : h b = some o) : (one b o).le h := fun x u hx => by
  simp only [one] at hx; split at hx
  · rename_i e; subst e; cases hx; exact hb
  · cases hx
theorem St.ptWrite {W0 w w' : World} {H : Heap} {b : Nat} {o o' : Obj} {R : List HProp} (h : St W0 H w (pt b o :: R)) (env : EnvOk W0 w')
    (hb : w'.heap[b]? = some o') (hk : ∀ x, x ≠ b → w'.heap[x]? = w.heap[x]?) : St W0 H w' (pt b o' :: R) :=
  h.step env fun hA a lA => ⟨fun x hx hn => by
      simp only [hp, hid_eq (env.output.trans h.env.output.symm), hk x (by rintro rfl; rw [show hA x = some o from a] at hn; cases hn)],
    one b o', by simp [pt, one], one_le (hp_of (by rw [hid_eq (env.output.trans h.env.output.symm)]; exact hp_vis (lA b o a)) hb), fun x hx => by
      left; simp only [one] at hx; split at hx
      · rename_i e; subst e; rw [show hA x = some o from a]; simp
      · simp at hx⟩
theorem St.alloc {W0 w w' : World} {H : Heap} {o : Obj} {L : List HProp} (h : St W0 H w L) (env : EnvOk W0 w') (hw : w'.heap = w.heap.push o) : St W0 H w' (pt w.heap.size o :: L) := by
  have h' : St W0 H w (emp :: L) := h.sub (Sub.emp (Sub.refl _))
  refine h'.step env fun hA _ _ => ⟨fun b hb _ => ?_, one w.heap.size o, by simp [pt, one], one_le (hp_of (by rw [hid_eq (env.output.trans h.env.output.symm)]; exact h.env.vis (Nat.le_refl _)) (by simp [hw])), fun b hb => ?_⟩
  · simp only [hp, hid_eq (env.output.trans h.env.output.symm), hw, Array.getElem?_push]; rw [if_neg (show ¬ b = w.heap.size by omega)]
  · right; simp only [one] at hb; split at hb <;> simp_all
theorem St.keep {W0 w w' : World} {H : Heap} {L : List HProp} (h : St W0 H w L) (env : EnvOk W0 w') (hw : w'.heap = w.heap) : St W0 H w' L :=
  have e : hp w' = hp w := by funext b; unfold hp; rw [hw, hid_eq (env.output.trans h.env.output.symm)]
  ⟨env, e ▸ h.ro, e ▸ h.own⟩
theorem alloc_grows (w : World) (o : Obj) : w.heap.size ≤ (w.alloc o).heap.size := by unfold World.alloc; exact (Array.size_push (xs := w.heap) o).symm ▸ Nat.le_succ _
theorem EnvOk.of {W0 w w' : World} (h : EnvOk W0 w) (h1 : w'.os = w.os) (h2 : w'.tape = w.tape) (h3 : w'.output = w.output) (h4 : w.heap.size ≤ w'.heap.size := by first | exact Nat.le_refl _ | exact alloc_grows _ _ | (simp [World.alloc, World.setRow, World.setCell]; done)) : EnvOk W0 w' :=
  ⟨h1.trans h.os, h2.trans h.tape, h3.trans h.output, fun p hp => Nat.lt_of_lt_of_le (h.low p (h3 ▸ hp)) h4⟩
end Go.Sx
namespace Go.X
open Go Go.Sx
def rp (w : World) : Heap := fun b => w.heap[b]?
structure Env (W0 w : World) : Prop where
  os : w.os = W0.os
  tape : w.tape = W0.tape
  out : w.output = W0.output
def Mine (m : Heap) (n : Nat) (e : Event) : Prop := match e.loc with
  | .cell a => m a.block ≠ none ∨ n ≤ a.block
  | .obj r => m r ≠ none ∨ n ≤ r
  | .mark k => k = .noRoom
  | _ => False
def MineP (m p : Heap) (n : Nat) (e : Event) : Prop := Mine m n e ∨ ∃ a, e.loc = .cell a ∧ p a.block ≠ none ∧ e.write = false
structure Keeps (m p : Heap) (w w' : World) (es : Array Event) : Prop where
  frame : ∀ b, b < w.heap.size → m b = none → w'.heap[b]? = w.heap[b]?
  grows : w.heap.size ≤ w'.heap.size
  os : w'.os = w.os
  tape : w'.tape = w.tape
  output : w'.output = w.output
  mine : ∀ e ∈ es, MineP m p w.heap.size e
  low : ∀ e ∈ es, EvLow w'.heap.size e
theorem Mine.of {m : Heap} {n : Nat} {e : Event} (hc : EvCalm e) (h : ∀ b, b < n → m b = none → EvOff b e) : Mine m n e := by
  unfold Mine EvCalm at *
  unfold EvOff at h
  split
  · rename_i a hl
    rw [hl] at h
    by_cases ha : m a.block = none
    · exact .inr (Nat.le_of_not_lt fun hlt => h _ hlt ha rfl)
    · exact .inl ha
  · rename_i r hl
    rw [hl] at h
    by_cases ha : m r = none
    · exact .inr (Nat.le_of_not_lt fun hlt => h _ hlt ha rfl)
    · exact .inl ha
  · rename_i k hl; rw [hl] at hc; exact hc
  · rename_i h1 h2 h3
    split at hc
    · rename_i a hl; exact absurd hl (h1 a)
    · rename_i a hl; exact absurd hl (h2 a)
    · rename_i a hl; exact absurd hl (h3 a)
    · exact hc
theorem rp_junk {m : Heap} {w : World} {b : Nat} (hl : m.le (rp w)) (hb : m b = none) : m.le (rp (w.junk b)) := fun x o hx => by
  have : x ≠ b := by rintro rfl; rw [hb] at hx; cases hx
  simp only [rp, junk_ne this]; exact hl x o hx
def fz (p : Heap) : Heap := fun b => match p b with
  | some (.cells c T _) => some (.cells c T (0, c.size))
  | _ => none
theorem fz_some {p : Heap} {b : Nat} {o : Obj} (h : fz p b = some o) : ∃ c T f, p b = some (.cells c T f) ∧ o = .cells c T (0, c.size) := by
  unfold fz at h
  split at h
  · rename_i c T f e; cases h; exact ⟨c, T, f, e, rfl⟩
  · cases h
theorem fz_none {p : Heap} {b : Nat} (h : p b = none) : fz p b = none := by unfold fz; rw [h]
theorem fz_ne {p : Heap} {b : Nat} (h : fz p b ≠ none) : p b ≠ none := fun e => h (fz_none e)
def fzB (p : Heap) (b : Nat) : Bool := (fz p b).isSome
theorem fzB_iff {p : Heap} {b : Nat} : fzB p b = true ↔ fz p b ≠ none := by unfold fzB; cases fz p b <;> simp
theorem fz_rows {p : Heap} {w : World} (h : p.le (rp w)) : Rows (fzB p) w := fun b hb => by
  cases e : fz p b with
  | none => rw [fzB, e] at hb; cases hb
  | some o =>
    obtain ⟨c, T, f, h1, _⟩ := fz_some e
    exact ⟨c, T, f, h b _ h1⟩
theorem union_l {a b : Heap} {x : Nat} {o : Obj} (h : a x = some o) : union a b x = some o := by simp [union, h]
theorem union_r {a b : Heap} {x : Nat} (h : a x = none) : union a b x = b x := by simp [union, h]
theorem union_ne {a b : Heap} {x : Nat} (h : union a b x ≠ none) : a x ≠ none ∨ b x ≠ none := by
  cases e : a x with
  | some o => exact .inl (by simp)
  | none => rw [union_r e] at h; exact .inr h
theorem union_cases {a b : Heap} {x : Nat} {o : Obj} (h : union a b x = some o) : a x = some o ∨ (a x = none ∧ b x = some o) := by
  cases e : a x with
  | some o' => rw [union_l e] at h; cases h; exact .inl rfl
  | none => rw [union_r e] at h; exact .inr ⟨rfl, h⟩
def raw (V p : Heap) : Heap := fun b => match fz p b with | some _ => (match V b with | some _ => p b | none => none) | none => V b
theorem raw_off {V p : Heap} {b : Nat} (h : fz p b = none) : raw V p b = V b := by simp [raw, h]
theorem raw_none {V p : Heap} {b : Nat} : raw V p b = none ↔ V b = none := by
  unfold raw
  split
  · rename_i o e
    obtain ⟨c, T, f, h1, _⟩ := fz_some e
    rw [h1]
    split <;> rename_i e2 <;> simp [e2]
  · rfl
theorem raw_le {V p : Heap} {w : World} (hV : ∀ b o, V b = some o → fz p b ≠ none → fz p b = some o) (hp : p.le (rp w)) (hl : (raw V p).le (rp w)) : V.le (rp (protW (fzB p) w)) := by
  intro b o hb
  show (protW (fzB p) w).heap[b]? = some o
  rw [prot_get]
  cases e : fz p b with
  | none =>
    have h1 : w.heap[b]? = some o := hl b o (by rw [raw_off e]; exact hb)
    rw [h1]; simp [fzB, e]
  | some o' =>
    have h2 := hV b o hb (by rw [e]; simp)
    rw [e] at h2; cases h2
    obtain ⟨c, T, f, h3, rfl⟩ := fz_some e
    have h4 : w.heap[b]? = some (.cells c T f) := hp b _ h3
    rw [h4]; simp [fzB, e, protO]
theorem op_local {α : Type} {P : Program} {e : Sem α} (hc : e.Calm P) {W0 : World} {V p : Heap} (hV : ∀ b o, V b = some o → fz p b ≠ none → fz p b = some o)
    (h : ∀ w, Env W0 w → V.le (rp w) → ∃ a w', e.run P w = .ok a w') :
    ∀ w, Env W0 w → p.le (rp w) → (raw V p).le (rp w) → ∃ a w', e.run P w = .ok a w' ∧ e.run P (protW (fzB p) w) = .ok a (protW (fzB p) w') ∧ (∀ b, b < w.heap.size → raw V p b = none → w'.heap[b]? = w.heap[b]?) ∧ (∀ b, fz p b ≠ none → w'.heap[b]? = w.heap[b]?) ∧
      w.heap.size ≤ w'.heap.size ∧ w'.os = w.os ∧ w'.tape = w.tape ∧ w'.output = w.output ∧
      (∀ ev ∈ e.events P w #[], Mine (raw V p) w.heap.size ev ∧ EvP (fzB p) ev ∧ EvLow w'.heap.size ev) := by
  have tru : ∀ w, Env W0 w → V.le (rp (protW (fzB p) w)) → Rows (fzB p) w → ∃ a w', (e.runT P w #[]).1 = .ok a w' ∧ (e.runT P (protW (fzB p) w) #[]).1 = .ok a (protW (fzB p) w') ∧ (∀ b, fzB p b = true → w'.heap[b]? = w.heap[b]?) ∧ ∀ ev ∈ (e.runT P w #[]).2, EvP (fzB p) ev := by
    intro w he hl hR
    obtain ⟨a, w', hr⟩ := h (protW (fzB p) w) ⟨he.os, he.tape, he.out⟩ hl
    have hr' : (e.runT P (protW (fzB p) w) #[]).1 = .ok a w' := by rw [Sem.runT_fst]; exact hr
    obtain ⟨v, h1, rfl, h3, _, h5⟩ := prot_runT e hc w #[] #[] a w' hR hr'
    exact ⟨a, v, h1, hr', h3, fun ev hev => (h5 ev hev).resolve_left (by simp)⟩
  intro w he hp hl
  obtain ⟨a, w', h1, h1', h2, h3⟩ := tru w he (raw_le hV hp hl) (fz_rows hp)
  obtain ⟨g1, g2, g3, g4, g5⟩ := calm_runT e hc w #[] a w' h1
  have off : ∀ b, b < w.heap.size → raw V p b = none → w'.heap[b]? = w.heap[b]? ∧ ∀ ev ∈ (e.runT P w #[]).2, EvOff b ev := by
    intro b hb hn
    cases hs : fz p b with
    | some o =>
      have hVn := raw_none.1 hn
      have hl2 : (raw V p).le (rp (w.junk b)) := rp_junk hl hn
      have hS : ∃ S : Nat → Bool, S = fun x => if x = b then false else fzB p x := ⟨_, rfl⟩
      obtain ⟨S, hS⟩ := hS
      have hR : Rows S (w.junk b) := fun x hx => by
        rw [hS] at hx
        by_cases e : x = b
        · simp [e] at hx
        · simp only [e, if_false] at hx
          obtain ⟨c, T, f, h4⟩ := fz_rows hp x hx
          exact ⟨c, T, f, by rw [junk_ne e]; exact h4⟩
      have hlV : V.le (rp (protW S (w.junk b))) := fun x o hx => by
        have hxb : x ≠ b := by rintro rfl; rw [hVn] at hx; cases hx
        have := raw_le hV hp hl x o hx
        show (protW S (w.junk b)).heap[x]? = some o
        have h5 : (protW (fzB p) w).heap[x]? = some o := this
        rw [prot_get] at h5 ⊢
        rw [junk_ne hxb]
        simpa [hS, hxb] using h5
      obtain ⟨a2, v2, hr2⟩ := h (protW S (w.junk b)) ⟨he.os, he.tape, he.out⟩ hlV
      obtain ⟨v3, k1, _, _, _, _⟩ := prot_runT (P := P) e hc (w.junk b) #[] #[] a2 v2 hR (by rw [Sem.runT_fst]; exact hr2)
      obtain ⟨v, m1, _, m3, _, m5⟩ := local_runT (P := P) e hc w #[] #[] a2 v3 hb k1
      rw [h1] at m1; cases m1
      exact ⟨m3, fun ev hev => (m5 ev hev).resolve_left (by simp)⟩
    | none =>
      have hl2 : (raw V p).le (rp (w.junk b)) := rp_junk hl hn
      by_cases hpb : p b = none
      · have hp2 : p.le (rp (w.junk b)) := rp_junk hp hpb
        obtain ⟨a2, v2, k1, _⟩ := tru (w.junk b) ⟨he.os, he.tape, he.out⟩ (raw_le hV hp2 hl2) (fz_rows hp2)
        obtain ⟨v, m1, _, m3, _, m5⟩ := local_runT (P := P) e hc w #[] #[] a2 v2 hb k1
        rw [h1] at m1; cases m1
        exact ⟨m3, fun ev hev => (m5 ev hev).resolve_left (by simp)⟩
      · have hR : Rows (fzB p) (w.junk b) := fun x hx => by
          have hxb : x ≠ b := by rintro rfl; rw [fzB, hs] at hx; cases hx
          obtain ⟨c, T, f, h4⟩ := fz_rows hp x hx
          exact ⟨c, T, f, by rw [junk_ne hxb]; exact h4⟩
        have hlV : V.le (rp (protW (fzB p) (w.junk b))) := fun x o hx => by
          have hxb : x ≠ b := by
            rintro rfl
            rw [raw_none] at hn; rw [hn] at hx; cases hx
          have h5 : (protW (fzB p) w).heap[x]? = some o := raw_le hV hp hl x o hx
          show (protW (fzB p) (w.junk b)).heap[x]? = some o
          rw [prot_get] at h5 ⊢
          rw [junk_ne hxb]; exact h5
        obtain ⟨a2, v2, k1, _⟩ := tru (w.junk b) ⟨he.os, he.tape, he.out⟩ hlV hR
        obtain ⟨v, m1, _, m3, _, m5⟩ := local_runT (P := P) e hc w #[] #[] a2 v2 hb k1
        rw [h1] at m1; cases m1
        exact ⟨m3, fun ev hev => (m5 ev hev).resolve_left (by simp)⟩
  refine ⟨a, w', by rw [← Sem.runT_fst]; exact h1, by rw [← Sem.runT_fst]; exact h1', fun b hb hn => (off b hb hn).1, fun b hb => h2 b (fzB_iff.2 hb), g1, g2, g3, g4, fun ev hev => ⟨Mine.of ((g5 ev hev).resolve_left (by simp)).1 fun b hb hn => (off b hb hn).2 ev hev, h3 ev hev, ((g5 ev hev).resolve_left (by simp)).2⟩⟩
end Go.X
namespace Go.X
open Go Go.Sx Go.Conc
theorem Keeps.refl (m p : Heap) (w : World) : Keeps m p w w #[] := ⟨fun _ _ _ => rfl, Nat.le_refl _, rfl, rfl, rfl, fun e he => by simp at he, fun e he => by simp at he⟩
theorem Keeps.drew (m p : Heap) (w : World) : Keeps m p w { w with drawn := w.drawn + 1 } #[] := ⟨fun _ _ _ => rfl, Nat.le_refl _, rfl, rfl, rfl, fun e he => by simp at he, fun e he => by simp at he⟩
structure XW (Γ : Type) where
  m : Heap
  s : Γ
structure Kd (Γ : Type) where
  mn : Γ → Bool
  ln : Γ → Heap
section
variable {Γ : Type} (P : Program) (mn : Kd Γ) (W0 : World) (S : (Goroutine → XW Γ → Prop) → Goroutine → XW Γ → Prop)
def Own (I : Goroutine → XW Γ → Prop) (g : Goroutine) (x : XW Γ) : Prop :=
  g.status = .running ∧ ∀ w, Env W0 w → x.m.le (rp w) → (mn.ln x.s).le (rp w) → ∃ g' w' es m', stepG P (mn.mn x.s) g w = .go g' w' es ∧ Keeps x.m (mn.ln x.s) w w' es ∧ m'.le (rp w') ∧ (∀ b, m' b ≠ none → x.m b ≠ none ∨ w.heap.size ≤ b) ∧ I g' ⟨m', x.s⟩
def MI (g : Goroutine) (x : XW Γ) : Prop := ∀ I : Goroutine → XW Γ → Prop, (∀ g x, Own P mn W0 I g x ∨ S I g x → I g x) → I g x
end
def MonoS {Γ : Type} (S : (Goroutine → XW Γ → Prop) → Goroutine → XW Γ → Prop) : Prop := ∀ I I' : Goroutine → XW Γ → Prop, (∀ g x, I g x → I' g x) → ∀ g x, S I g x → S I' g x
section
variable {Γ : Type} {P : Program} {mn : Kd Γ} {W0 : World} {S : (Goroutine → XW Γ → Prop) → Goroutine → XW Γ → Prop}
theorem Own.mono {I I' : Goroutine → XW Γ → Prop} (h : ∀ g x, I g x → I' g x) {g : Goroutine} {x : XW Γ} (ho : Own P mn W0 I g x) : Own P mn W0 I' g x :=
  ⟨ho.1, fun w he hl hn => let ⟨g', w', es, m', h1, h2, h3, h4, h5⟩ := ho.2 w he hl hn; ⟨g', w', es, m', h1, h2, h3, h4, h _ _ h5⟩⟩
theorem MI.own {g : Goroutine} {x : XW Γ} (h : Own P mn W0 (MI P mn W0 S) g x) : MI P mn W0 S g x :=
  fun I hI => hI g x (.inl (h.mono fun g x hm => hm I hI))
theorem MI.special (hS : MonoS S) {g : Goroutine} {x : XW Γ} (h : S (MI P mn W0 S) g x) : MI P mn W0 S g x :=
  fun I hI => hI g x (.inr (hS _ _ (fun _ _ hm => hm I hI) g x h))
theorem MI.induct (hS : MonoS S) {T : Goroutine → XW Γ → Prop} (h : ∀ g x, Own P mn W0 (fun g x => MI P mn W0 S g x ∧ T g x) g x ∨ S (fun g x => MI P mn W0 S g x ∧ T g x) g x → T g x) {g : Goroutine} {x : XW Γ} (hm : MI P mn W0 S g x) : T g x :=
  (hm (fun g x => MI P mn W0 S g x ∧ T g x) fun g x hx => ⟨hx.elim (fun o => .own (o.mono fun _ _ y => y.1)) fun s => .special hS (hS _ _ (fun _ _ y => y.1) g x s), h g x hx⟩).2
theorem MI.ctl {g g' : Goroutine} {x : XW Γ} (hr : g.status = .running) (h : ∀ main w, stepG P main g w = .go g' w #[]) (hm : MI P mn W0 S g' x) : MI P mn W0 S g x :=
  .own ⟨hr, fun w _ hl _ => ⟨g', w, #[], x.m, h _ w, .refl _ _ _, hl, fun _ hb => .inl hb, hm⟩⟩
end
def AfterX {Γ : Type} (P : Program) (mn : Kd Γ) (W0 : World) (S : (Goroutine → XW Γ → Prop) → Goroutine → XW Γ → Prop) (b : Frame) (k : List Item) (cs : List Frame) : Exit → Act → XW Γ → Prop
  | .normal, a, x => MI P mn W0 S (G (b.at a k) cs) x
  | .exit id, a, x => ∃ k', exitTo id k = some k' ∧ MI P mn W0 S (G (b.at a k') cs) x
  | .goto l, a, x => ∃ k', gotoIn l k = some k' ∧ MI P mn W0 S (G (b.at a k') cs) x
  | .ret, a, x => ∀ todo, MI P mn W0 S (G { b.at a todo with mode := .returning } cs) x
  | _, _, _ => False
section
variable {Γ : Type} (P : Program) (mn : Kd Γ) (W0 : World) (S : (Goroutine → XW Γ → Prop) → Goroutine → XW Γ → Prop)
def _root_.Go.Code.wpX (c : Code) (Q : Exit → Act → XW Γ → Prop) (a : Act) (x : XW Γ) : Prop :=
  ∀ (b : Frame) (k : List Item) (cs : List Frame), b.kind ≠ .early → (∀ e a' x', Q e a' x' → AfterX P mn W0 S b k cs e a' x') → MI P mn W0 S (G (b.at a (.code c :: k)) cs) x
def OpsX (ops : Array Oper) (todo : List Nat) (Q : Exit → Act → XW Γ → Prop) (a : Act) (x : XW Γ) : Prop :=
  ∀ (b : Frame) (k : List Item) (cs : List Frame), b.kind ≠ .early → (∀ e a' x', Q e a' x' → AfterX P mn W0 S b k cs e a' x') → MI P mn W0 S (G (b.at a (.inRegion ops todo :: k)) cs) x
end
section
variable {Γ : Type} {P : Program} {mn : Kd Γ} {W0 : World} {S : (Goroutine → XW Γ → Prop) → Goroutine → XW Γ → Prop} {Q : Exit → Act → XW Γ → Prop} {a : Act} {x : XW Γ}
theorem AfterX.push {b : Frame} {i : Item} {k : List Item} {cs : List Frame} {e : Exit} (hx : i.plain = true) (he : e ≠ .normal) (h : AfterX P mn W0 S b k cs e a x) : AfterX P mn W0 S b (i :: k) cs e a x := by
  cases e with
  | normal => exact absurd rfl he
  | exit id => obtain ⟨k', hk, hg⟩ := h; exact ⟨k', by cases i <;> simp_all [exitTo, Item.plain], hg⟩
  | goto l => obtain ⟨k', hk, hg⟩ := h; exact ⟨k', by cases i <;> simp_all [gotoIn, Item.plain], hg⟩
  | ret => exact h
  | panic ch => exact h
  | outgrown => exact h
theorem wpX_mono {c : Code} {Q' : Exit → Act → XW Γ → Prop} (h : c.wpX P mn W0 S Q a x) (hq : ∀ e a x, Q e a x → Q' e a x) : c.wpX P mn W0 S Q' a x :=
  fun b k cs hb hc => h b k cs hb fun e a' x' q => hc e a' x' (hq e a' x' q)
theorem wpX_skip (h : Q .normal a x) : Code.skip.wpX P mn W0 S Q a x := fun _ _ _ _ hc => .ctl rfl (fun _ _ => stepG_skip) (hc _ _ _ h)
theorem wpX_label {l : Nat} (h : Q .normal a x) : (Code.label l).wpX P mn W0 S Q a x := fun _ _ _ _ hc => .ctl rfl (fun _ _ => stepG_label) (hc _ _ _ h)
theorem wpX_ret (h : Q .ret a x) : Code.ret.wpX P mn W0 S Q a x := fun _ _ _ _ hc => .ctl rfl (fun _ _ => stepG_ret') (hc _ _ _ h _)
theorem wpX_exit {id : Nat} (h : Q (.exit id) a x) : (Code.exit id).wpX P mn W0 S Q a x := fun _ _ _ _ hc => by
  obtain ⟨k', hk', hg⟩ := hc _ _ _ h
  exact .ctl rfl (fun _ _ => stepG_exit hk') hg
def thenX {σ : Type} (next : Act → σ → Prop) (Q : Exit → Act → σ → Prop) : Exit → Act → σ → Prop
  | .normal, a, w => next a w
  | e, a, w => Q e a w
def inBlockX {σ : Type} (id : Nat) (Q : Exit → Act → σ → Prop) : Exit → Act → σ → Prop
  | .exit id', a, w => if id' = id then Q .normal a w else Q (.exit id') a w
  | e, a, w => Q e a w
theorem wpX_seq {c d : Code} (h : c.wpX P mn W0 S (thenX (d.wpX P mn W0 S Q) Q) a x) : (Code.seq c d).wpX P mn W0 S Q a x := by
  intro b k cs hb hc
  refine .ctl rfl (fun _ _ => stepG_seq) (h b (.code d :: k) cs hb fun e a' x' q => ?_)
  cases e with
  | normal => exact q b k cs hb hc
  | exit id => exact (hc _ _ _ q).push rfl (by simp)
  | goto l => exact (hc _ _ _ q).push (i := .code d) rfl (by simp)
  | ret => exact (hc _ _ _ q).push (i := .code d) rfl (by simp)
  | panic ch => exact hc _ _ _ q
  | outgrown => exact hc _ _ _ q
theorem wpX_cond {c : Operand} {y z : Code} {t : Bool} (hc : a.eval c = .bool t) (h : (if t then y else z).wpX P mn W0 S Q a x) : (Code.cond c y z).wpX P mn W0 S Q a x :=
  fun b k cs hb hq => .ctl rfl (fun _ _ => stepG_cond hc) (h b k cs hb hq)
theorem wpX_cond_split {c : Operand} {y z : Code} {t : Bool} (hc : a.eval c = .bool t) (ht : t = true → y.wpX P mn W0 S Q a x) (hf : t = false → z.wpX P mn W0 S Q a x) : (Code.cond c y z).wpX P mn W0 S Q a x := by
  cases t
  · exact wpX_cond hc (hf rfl)
  · exact wpX_cond hc (ht rfl)
theorem wpX_block {id : Nat} {c : Code} (h : c.wpX P mn W0 S (inBlockX id Q) a x) : (Code.block id c).wpX P mn W0 S Q a x := by
  intro b k cs hb hc
  refine .ctl rfl (fun _ _ => stepG_block) (h b (.inBlock id :: k) cs hb fun e a' x' q => ?_)
  cases e with
  | normal => exact .ctl rfl (fun _ _ => stepG_inBlock) (hc _ _ _ q)
  | exit id' =>
    by_cases hid : id' = id
    · simp only [inBlockX, hid, if_true] at q
      exact ⟨k, by simp [exitTo, hid], hc _ _ _ q⟩
    · simp only [inBlockX, hid, if_false] at q
      obtain ⟨k', hk', hg⟩ := hc _ _ _ q
      have : (id == id') = false := by simp; exact fun h => hid h.symm
      exact ⟨k', by simp [exitTo, this, hk'], hg⟩
  | goto l =>
    obtain ⟨k', hk', hg⟩ := hc _ _ _ q
    exact ⟨k', by simp [gotoIn, hk'], hg⟩
  | ret => exact hc _ _ _ q
  | panic ch => exact hc _ _ _ q
  | outgrown => exact hc _ _ _ q
theorem wpX_region {id : Nat} {ops : Array Oper} (h : OpsX P mn W0 S ops (List.range ops.size) Q a x) : (Code.region id ops false).wpX P mn W0 S Q a x :=
  fun b k cs hb hc => .ctl rfl (fun _ _ => stepG_region) (h b k cs hb hc)
theorem wpX_region_draw {id : Nat} {ops : Array Oper} (h : ∀ t, OpsX P mn W0 S ops (Region.schedule (P.follows .mixedOrders) ops t) Q a x) : (Code.region id ops true).wpX P mn W0 S Q a x :=
  fun b k cs hb hc => .own ⟨rfl, fun w _ hl _ => ⟨_, _, #[], x.m, stepG_region_draw, .drew _ _ _, hl, fun _ hb => .inl hb, h _ b k cs hb hc⟩⟩
theorem opsX_nil {ops : Array Oper} (h : Q .normal a x) : OpsX P mn W0 S ops [] Q a x := fun _ _ _ _ hc => .ctl rfl (fun _ _ => stepG_region_end) (hc _ _ _ h)
theorem opsX_unwanted {ops : Array Oper} {i : Nat} {rest : List Nat} {o : Oper} (ho : ops[i]? = some o) (hw : Region.wanted o (yielded ops a.tmps) = false) (h : OpsX P mn W0 S ops rest Q (a.put o.dst undef) x) : OpsX P mn W0 S ops (i :: rest) Q a x :=
  fun b k cs hb hc => .ctl rfl (fun _ _ => stepG_unwanted ho hw) (h b k cs hb hc)
end
section
variable {Γ : Type} (P : Program) (mn : Kd Γ) (W0 : World) (S : (Goroutine → XW Γ → Prop) → Goroutine → XW Γ → Prop)
def CallsX (f : FuncId) (args : Array Value) (x : XW Γ) (R : Value → XW Γ → Prop) : Prop :=
  ∀ (c : Frame) (cs : List Frame), (∀ v x', R v x' → MI P mn W0 S (G (c.finish v) cs) x') → MI P mn W0 S (G (Frame.enter P f args .normal) (c :: cs)) x
def uponX (x : XW Γ) (w : World) (es : Array Event) (R : Value → XW Γ → Prop) : Result Next → Prop
  | .ok (.value v) w' => ∃ m' : Heap, Keeps x.m (mn.ln x.s) w w' es ∧ m'.le (rp w') ∧ (∀ b, m' b ≠ none → x.m b ≠ none ∨ w.heap.size ≤ b) ∧ R v ⟨m', x.s⟩
  | .ok .skip w' => ∃ m' : Heap, Keeps x.m (mn.ln x.s) w w' es ∧ m'.le (rp w') ∧ (∀ b, m' b ≠ none → x.m b ≠ none ∨ w.heap.size ≤ b) ∧ R undef ⟨m', x.s⟩
  | .ok (.enter f args) w' => ∃ m' : Heap, Keeps x.m (mn.ln x.s) w w' es ∧ m'.le (rp w') ∧ (∀ b, m' b ≠ none → x.m b ≠ none ∨ w.heap.size ≤ b) ∧ CallsX P mn W0 S f args ⟨m', x.s⟩ R
  | _ => False
def _root_.Go.Oper.yX (o : Oper) (ρ : Operand → Value) (x : XW Γ) (R : Value → XW Γ → Prop) : Prop :=
  ∀ w, Env W0 w → x.m.le (rp w) → (mn.ln x.s).le (rp w) → uponX P mn W0 S x w ((execOp ρ o).events P w #[]) R ((execOp ρ o).run P w)
def _root_.Go.Oper.wpX (o : Oper) (a : Act) (x : XW Γ) (next : Act → XW Γ → Prop) : Prop :=
  ∀ (ops : Array Oper) (i : Nat) (rest : List Nat) (b : Frame) (k : List Item) (cs : List Frame), ops[i]? = some o → Region.wanted o (yielded ops a.tmps) = true → b.kind ≠ .early →
    (∀ a' x', next a' x' → MI P mn W0 S (G (b.at a' (.inRegion ops rest :: k)) cs) x') → MI P mn W0 S (G (b.at a (.inRegion ops (i :: rest) :: k)) cs) x
end
section
variable {Γ : Type} {P : Program} {mn : Kd Γ} {W0 : World} {S : (Goroutine → XW Γ → Prop) → Goroutine → XW Γ → Prop} {Q : Exit → Act → XW Γ → Prop} {a : Act} {x : XW Γ}
theorem Keeps.listed {m p : Heap} {w w' : World} {fn : FuncId} {o : Oper} (h : Keeps m p w w' ((execOp a.eval o).events P w #[])) : Keeps m p w w' (listed P fn a o w) :=
  ⟨h.frame, h.grows, h.os, h.tape, h.output, fun e he => h.mine e (mem_listed he), fun e he => h.low e (mem_listed he)⟩
theorem wpX_of_yX {o : Oper} {next : Act → XW Γ → Prop} (h : o.yX P mn W0 S a.eval x fun v x' => next (a.put o.dst v) x') : o.wpX P mn W0 S a x next := by
  intro ops i rest b k cs ho hw hb hn
  refine .own ⟨rfl, fun w he hl hn' => ?_⟩
  have hu := h w he hl hn'
  generalize hr : (execOp a.eval o).run P w = r at hu
  cases r with
  | ok n w' =>
    cases n with
    | value v =>
      obtain ⟨m', h1, h2, h3, h4⟩ := hu
      exact ⟨_, _, _, m', stepG_value ho hw hb hr, h1.listed, h2, h3, hn _ _ h4⟩
    | skip =>
      obtain ⟨m', h1, h2, h3, h4⟩ := hu
      exact ⟨_, _, _, m', stepG_none ho hw hb hr, h1.listed, h2, h3, hn _ _ h4⟩
    | enter f args =>
      obtain ⟨m', h1, h2, h3, h4⟩ := hu
      refine ⟨_, _, _, m', stepG_enter ho hw hb hr, h1.listed, h2, h3, h4 _ cs fun v x' hn' => ?_⟩
      have e : (b.at a (.inRegion ops (i :: rest) :: k)).finish v = b.at (a.put o.dst v) (.inRegion ops rest :: k) := by rw [Frame.finish_at, ho]; rfl
      rw [e]
      exact hn _ _ hn'
    | _ => exact hu.elim
  | _ => exact hu.elim
theorem stepG_leaveE {main : Bool} {b : Frame} {a : Act} {cs : List Frame} {w : World} {fn : Func} {todo : List Item} {c : Frame} {v : Value} (hn : b.kind = .normal) (hd : a.defers = []) (hf : P.funcs[b.fn]? = some fn) (hr : (results fn a.tmps).run P w = .ok v w) :
    stepG P main (G { b.at a todo with mode := .returning } (c :: cs)) w = .go (G (c.finish v) cs) w (seen P b.fn ((results fn a.tmps).events P w #[])) := by
  simp [G, stepG, unwind, doReturn, Frame.at, hn, hd, hf, hr, GStep.after]
theorem callsX_of {f : FuncId} {fn : Func} {c : Code} {args : Array Value} {R : Value → XW Γ → Prop} (hf : P.funcs[f]? = some fn) (hb : fn.body = some c)
    (h : c.wpX P mn W0 S (fun e a x => (e = .normal ∨ e = .ret) ∧ a.defers = [] ∧ ∀ w, Env W0 w → x.m.le (rp w) → (mn.ln x.s).le (rp w) → ∃ v, (results fn a.tmps).run P w = .ok v w ∧ (∀ e ∈ (results fn a.tmps).events P w #[], MineP x.m (mn.ln x.s) w.heap.size e ∧ EvLow w.heap.size e) ∧ R v x)
      { tmps := args ++ Array.replicate (fn.ntmps - args.size) undef, defers := [] } x) : CallsX P mn W0 S f args x R := by
  intro c' cs hR
  rw [enter_at args hf hb]
  have leave : ∀ (a : Act) (x : XW Γ) (todo : List Item), a.defers = [] → (∀ w, Env W0 w → x.m.le (rp w) → (mn.ln x.s).le (rp w) → ∃ v, (results fn a.tmps).run P w = .ok v w ∧ (∀ e ∈ (results fn a.tmps).events P w #[], MineP x.m (mn.ln x.s) w.heap.size e ∧ EvLow w.heap.size e) ∧ R v x) →
      MI P mn W0 S (G { (base f).at a todo with mode := .returning } (c' :: cs)) x := by
    intro a x todo hd hx
    refine .own ⟨rfl, fun w he hl hn' => ?_⟩
    obtain ⟨v, h1, h2, h3⟩ := hx w he hl hn'
    exact ⟨_, _, _, x.m, stepG_leaveE (b := base f) rfl hd hf h1, ⟨fun _ _ _ => rfl, Nat.le_refl _, rfl, rfl, rfl, fun e he => (h2 e (mem_seen he)).1, fun e he => (h2 e (mem_seen he)).2⟩, hl, fun _ hb => .inl hb, hR _ _ h3⟩
  refine h (base f) [] (c' :: cs) (by simp [base]) fun e a' x' q => ?_
  obtain ⟨he, hd, hx⟩ := q
  rcases he with rfl | rfl
  · exact .ctl rfl (fun _ _ => stepG_end) (leave a' x' [] hd hx)
  · exact fun todo => leave a' x' todo hd hx
end
end Go.X
