/- The judgement of one goroutine in company: the least predicate closed under its own steps, over the memory that it owns, and under special steps. The rules of c -/
import Derived.Test.YtjkiioicjmaeoaaQSx1
import Derived.Test.YtjkiioicjmaeoaaQXB
import Derived.Conc.Company
import Derived.Conc.CompanyDraw
import Derived.OrdersHeld
set_option linter.unusedVariables false
set_option linter.unusedSimpArgs false
namespace Go.X
open Go Go.Sx
def rp (w : World) : Heap := fun b => w.heap[b]?
structure Env (W0 w : World) : Prop where
  os : w.os = W0.os
  tape : w.tape = W0.tape
  out : w.output = W0.output
def Mine (m : Heap) (n : Nat) (e : Event) : Prop := match e.loc with
  | .cell a => m a.block ≠ none ∨ n ≤ a.block
  | .obj r => m r ≠ none ∨ n ≤ r
  | .mark k => k = .noRoom
  | _ => False
structure Keeps (m : Heap) (w w' : World) (es : Array Event) : Prop where
  frame : ∀ b, b < w.heap.size → m b = none → w'.heap[b]? = w.heap[b]?
  grows : w.heap.size ≤ w'.heap.size
  os : w'.os = w.os
  tape : w'.tape = w.tape
  output : w'.output = w.output
  mine : ∀ e ∈ es, Mine m w.heap.size e
  low : ∀ e ∈ es, EvLow w'.heap.size e
theorem Mine.of {m : Heap} {n : Nat} {e : Event} (hc : EvCalm e) (h : ∀ b, b < n → m b = none → EvOff b e) : Mine m n e := by
  unfold Mine EvCalm at *
  unfold EvOff at h
  split
  · rename_i a hl
    rw [hl] at h
    by_cases ha : m a.block = none
    · exact .inr (Nat.le_of_not_lt fun hlt => h _ hlt ha rfl)
    · exact .inl ha
  · rename_i r hl
    rw [hl] at h
    by_cases ha : m r = none
    · exact .inr (Nat.le_of_not_lt fun hlt => h _ hlt ha rfl)
    · exact .inl ha
  · rename_i k hl; rw [hl] at hc; exact hc
  · rename_i h1 h2 h3
    split at hc
    · rename_i a hl; exact absurd hl (h1 a)
    · rename_i a hl; exact absurd hl (h2 a)
    · rename_i a hl; exact absurd hl (h3 a)
    · exact hc
theorem rp_junk {m : Heap} {w : World} {b : Nat} (hl : m.le (rp w)) (hb : m b = none) : m.le (rp (w.junk b)) := fun x o hx => by
  have : x ≠ b := by rintro rfl; rw [hb] at hx; cases hx
  simp only [rp, junk_ne this]; exact hl x o hx
theorem op_local {α : Type} {P : Program} {e : Sem α} (hc : e.Calm P) {W0 : World} {m : Heap} (h : ∀ w, Env W0 w → m.le (rp w) → ∃ a w', e.run P w = .ok a w') :
    ∀ w, Env W0 w → m.le (rp w) → ∃ a w', e.run P w = .ok a w' ∧ Keeps m w w' (e.events P w #[]) := by
  intro w he hl
  obtain ⟨a, w', hr⟩ := h w he hl
  have hr' : (e.runT P w #[]).1 = .ok a w' := by rw [Sem.runT_fst]; exact hr
  obtain ⟨g1, g2, g3, g4, g5⟩ := calm_runT e hc w #[] a w' hr'
  have off : ∀ b, b < w.heap.size → m b = none → w'.heap[b]? = w.heap[b]? ∧ ∀ ev ∈ (e.runT P w #[]).2, EvOff b ev := by
    intro b hb hn
    obtain ⟨a', v', h1⟩ := h (w.junk b) ⟨he.os, he.tape, he.out⟩ (rp_junk hl hn)
    obtain ⟨v, k1, _, k3, _, k5⟩ := local_runT (P := P) e hc w #[] #[] a' v' hb (by rw [Sem.runT_fst]; exact h1)
    rw [hr'] at k1
    cases k1
    exact ⟨k3, fun ev hev => (k5 ev hev).resolve_left (by simp)⟩
  refine ⟨a, w', hr, ⟨fun b hb hn => (off b hb hn).1, g1, g2, g3, g4, fun ev hev => Mine.of ((g5 ev hev).resolve_left (by simp)).1 fun b hb hn => (off b hb hn).2 ev hev, fun ev hev => ((g5 ev hev).resolve_left (by simp)).2⟩⟩
end Go.X
namespace Go.X
open Go Go.Sx Go.Conc
theorem Keeps.refl (m : Heap) (w : World) : Keeps m w w #[] := ⟨fun _ _ _ => rfl, Nat.le_refl _, rfl, rfl, rfl, fun e he => by simp at he, fun e he => by simp at he⟩
theorem Keeps.drew (m : Heap) (w : World) : Keeps m w { w with drawn := w.drawn + 1 } #[] := ⟨fun _ _ _ => rfl, Nat.le_refl _, rfl, rfl, rfl, fun e he => by simp at he, fun e he => by simp at he⟩
structure XW (Γ : Type) where
  m : Heap
  s : Γ
structure Kd (Γ : Type) where
  mn : Γ → Bool
  ln : Γ → Heap
section
variable {Γ : Type} (P : Program) (mn : Kd Γ) (W0 : World) (S : (Goroutine → XW Γ → Prop) → Goroutine → XW Γ → Prop)
def Own (I : Goroutine → XW Γ → Prop) (g : Goroutine) (x : XW Γ) : Prop :=
  g.status = .running ∧ ∀ w, Env W0 w → x.m.le (rp w) → (mn.ln x.s).le (rp w) → ∃ g' w' es m', stepG P (mn.mn x.s) g w = .go g' w' es ∧ Keeps x.m w w' es ∧ m'.le (rp w') ∧ (∀ b, m' b ≠ none → x.m b ≠ none ∨ w.heap.size ≤ b) ∧ I g' ⟨m', x.s⟩
def MI (g : Goroutine) (x : XW Γ) : Prop := ∀ I : Goroutine → XW Γ → Prop, (∀ g x, Own P mn W0 I g x ∨ S I g x → I g x) → I g x
end
def MonoS {Γ : Type} (S : (Goroutine → XW Γ → Prop) → Goroutine → XW Γ → Prop) : Prop := ∀ I I' : Goroutine → XW Γ → Prop, (∀ g x, I g x → I' g x) → ∀ g x, S I g x → S I' g x
section
variable {Γ : Type} {P : Program} {mn : Kd Γ} {W0 : World} {S : (Goroutine → XW Γ → Prop) → Goroutine → XW Γ → Prop}
theorem Own.mono {I I' : Goroutine → XW Γ → Prop} (h : ∀ g x, I g x → I' g x) {g : Goroutine} {x : XW Γ} (ho : Own P mn W0 I g x) : Own P mn W0 I' g x :=
  ⟨ho.1, fun w he hl hn => let ⟨g', w', es, m', h1, h2, h3, h4, h5⟩ := ho.2 w he hl hn; ⟨g', w', es, m', h1, h2, h3, h4, h _ _ h5⟩⟩
theorem MI.own {g : Goroutine} {x : XW Γ} (h : Own P mn W0 (MI P mn W0 S) g x) : MI P mn W0 S g x :=
  fun I hI => hI g x (.inl (h.mono fun g x hm => hm I hI))
theorem MI.special (hS : MonoS S) {g : Goroutine} {x : XW Γ} (h : S (MI P mn W0 S) g x) : MI P mn W0 S g x :=
  fun I hI => hI g x (.inr (hS _ _ (fun _ _ hm => hm I hI) g x h))
theorem MI.induct (hS : MonoS S) {T : Goroutine → XW Γ → Prop} (h : ∀ g x, Own P mn W0 (fun g x => MI P mn W0 S g x ∧ T g x) g x ∨ S (fun g x => MI P mn W0 S g x ∧ T g x) g x → T g x) {g : Goroutine} {x : XW Γ} (hm : MI P mn W0 S g x) : T g x :=
  (hm (fun g x => MI P mn W0 S g x ∧ T g x) fun g x hx => ⟨hx.elim (fun o => .own (o.mono fun _ _ y => y.1)) fun s => .special hS (hS _ _ (fun _ _ y => y.1) g x s), h g x hx⟩).2
theorem MI.ctl {g g' : Goroutine} {x : XW Γ} (hr : g.status = .running) (h : ∀ main w, stepG P main g w = .go g' w #[]) (hm : MI P mn W0 S g' x) : MI P mn W0 S g x :=
  .own ⟨hr, fun w _ hl _ => ⟨g', w, #[], x.m, h _ w, .refl _ _, hl, fun _ hb => .inl hb, hm⟩⟩
end
def AfterX {Γ : Type} (P : Program) (mn : Kd Γ) (W0 : World) (S : (Goroutine → XW Γ → Prop) → Goroutine → XW Γ → Prop) (b : Frame) (k : List Item) (cs : List Frame) : Exit → Act → XW Γ → Prop
  | .normal, a, x => MI P mn W0 S (G (b.at a k) cs) x
  | .exit id, a, x => ∃ k', exitTo id k = some k' ∧ MI P mn W0 S (G (b.at a k') cs) x
  | .goto l, a, x => ∃ k', gotoIn l k = some k' ∧ MI P mn W0 S (G (b.at a k') cs) x
  | .ret, a, x => ∀ todo, MI P mn W0 S (G { b.at a todo with mode := .returning } cs) x
  | _, _, _ => False
section
variable {Γ : Type} (P : Program) (mn : Kd Γ) (W0 : World) (S : (Goroutine → XW Γ → Prop) → Goroutine → XW Γ → Prop)
def _root_.Go.Code.wpX (c : Code) (Q : Exit → Act → XW Γ → Prop) (a : Act) (x : XW Γ) : Prop :=
  ∀ (b : Frame) (k : List Item) (cs : List Frame), b.kind ≠ .early → (∀ e a' x', Q e a' x' → AfterX P mn W0 S b k cs e a' x') → MI P mn W0 S (G (b.at a (.code c :: k)) cs) x
def OpsX (ops : Array Oper) (todo : List Nat) (Q : Exit → Act → XW Γ → Prop) (a : Act) (x : XW Γ) : Prop :=
  ∀ (b : Frame) (k : List Item) (cs : List Frame), b.kind ≠ .early → (∀ e a' x', Q e a' x' → AfterX P mn W0 S b k cs e a' x') → MI P mn W0 S (G (b.at a (.inRegion ops todo :: k)) cs) x
end
section
variable {Γ : Type} {P : Program} {mn : Kd Γ} {W0 : World} {S : (Goroutine → XW Γ → Prop) → Goroutine → XW Γ → Prop} {Q : Exit → Act → XW Γ → Prop} {a : Act} {x : XW Γ}
theorem AfterX.push {b : Frame} {i : Item} {k : List Item} {cs : List Frame} {e : Exit} (hx : i.plain = true) (he : e ≠ .normal) (h : AfterX P mn W0 S b k cs e a x) : AfterX P mn W0 S b (i :: k) cs e a x := by
  cases e with
  | normal => exact absurd rfl he
  | exit id => obtain ⟨k', hk, hg⟩ := h; exact ⟨k', by cases i <;> simp_all [exitTo, Item.plain], hg⟩
  | goto l => obtain ⟨k', hk, hg⟩ := h; exact ⟨k', by cases i <;> simp_all [gotoIn, Item.plain], hg⟩
  | ret => exact h
  | panic ch => exact h
  | outgrown => exact h
theorem wpX_mono {c : Code} {Q' : Exit → Act → XW Γ → Prop} (h : c.wpX P mn W0 S Q a x) (hq : ∀ e a x, Q e a x → Q' e a x) : c.wpX P mn W0 S Q' a x :=
  fun b k cs hb hc => h b k cs hb fun e a' x' q => hc e a' x' (hq e a' x' q)
theorem wpX_skip (h : Q .normal a x) : Code.skip.wpX P mn W0 S Q a x := fun _ _ _ _ hc => .ctl rfl (fun _ _ => stepG_skip) (hc _ _ _ h)
theorem wpX_label {l : Nat} (h : Q .normal a x) : (Code.label l).wpX P mn W0 S Q a x := fun _ _ _ _ hc => .ctl rfl (fun _ _ => stepG_label) (hc _ _ _ h)
theorem wpX_ret (h : Q .ret a x) : Code.ret.wpX P mn W0 S Q a x := fun _ _ _ _ hc => .ctl rfl (fun _ _ => stepG_ret') (hc _ _ _ h _)
theorem wpX_exit {id : Nat} (h : Q (.exit id) a x) : (Code.exit id).wpX P mn W0 S Q a x := fun _ _ _ _ hc => by
  obtain ⟨k', hk', hg⟩ := hc _ _ _ h
  exact .ctl rfl (fun _ _ => stepG_exit hk') hg
def thenX {σ : Type} (next : Act → σ → Prop) (Q : Exit → Act → σ → Prop) : Exit → Act → σ → Prop
  | .normal, a, w => next a w
  | e, a, w => Q e a w
def inBlockX {σ : Type} (id : Nat) (Q : Exit → Act → σ → Prop) : Exit → Act → σ → Prop
  | .exit id', a, w => if id' = id then Q .normal a w else Q (.exit id') a w
  | e, a, w => Q e a w
theorem wpX_seq {c d : Code} (h : c.wpX P mn W0 S (thenX (d.wpX P mn W0 S Q) Q) a x) : (Code.seq c d).wpX P mn W0 S Q a x := by
  intro b k cs hb hc
  refine .ctl rfl (fun _ _ => stepG_seq) (h b (.code d :: k) cs hb fun e a' x' q => ?_)
  cases e with
  | normal => exact q b k cs hb hc
  | exit id => exact (hc _ _ _ q).push rfl (by simp)
  | goto l => exact (hc _ _ _ q).push (i := .code d) rfl (by simp)
  | ret => exact (hc _ _ _ q).push (i := .code d) rfl (by simp)
  | panic ch => exact hc _ _ _ q
  | outgrown => exact hc _ _ _ q
theorem wpX_cond {c : Operand} {y z : Code} {t : Bool} (hc : a.eval c = .bool t) (h : (if t then y else z).wpX P mn W0 S Q a x) : (Code.cond c y z).wpX P mn W0 S Q a x :=
  fun b k cs hb hq => .ctl rfl (fun _ _ => stepG_cond hc) (h b k cs hb hq)
theorem wpX_cond_split {c : Operand} {y z : Code} {t : Bool} (hc : a.eval c = .bool t) (ht : t = true → y.wpX P mn W0 S Q a x) (hf : t = false → z.wpX P mn W0 S Q a x) : (Code.cond c y z).wpX P mn W0 S Q a x := by
  cases t
  · exact wpX_cond hc (hf rfl)
  · exact wpX_cond hc (ht rfl)
theorem wpX_block {id : Nat} {c : Code} (h : c.wpX P mn W0 S (inBlockX id Q) a x) : (Code.block id c).wpX P mn W0 S Q a x := by
  intro b k cs hb hc
  refine .ctl rfl (fun _ _ => stepG_block) (h b (.inBlock id :: k) cs hb fun e a' x' q => ?_)
  cases e with
  | normal => exact .ctl rfl (fun _ _ => stepG_inBlock) (hc _ _ _ q)
  | exit id' =>
    by_cases hid : id' = id
    · simp only [inBlockX, hid, if_true] at q
      exact ⟨k, by simp [exitTo, hid], hc _ _ _ q⟩
    · simp only [inBlockX, hid, if_false] at q
      obtain ⟨k', hk', hg⟩ := hc _ _ _ q
      have : (id == id') = false := by simp; exact fun h => hid h.symm
      exact ⟨k', by simp [exitTo, this, hk'], hg⟩
  | goto l =>
    obtain ⟨k', hk', hg⟩ := hc _ _ _ q
    exact ⟨k', by simp [gotoIn, hk'], hg⟩
  | ret => exact hc _ _ _ q
  | panic ch => exact hc _ _ _ q
  | outgrown => exact hc _ _ _ q
theorem wpX_region {id : Nat} {ops : Array Oper} (h : OpsX P mn W0 S ops (List.range ops.size) Q a x) : (Code.region id ops false).wpX P mn W0 S Q a x :=
  fun b k cs hb hc => .ctl rfl (fun _ _ => stepG_region) (h b k cs hb hc)
theorem wpX_region_draw {id : Nat} {ops : Array Oper} (h : ∀ t, OpsX P mn W0 S ops (Region.schedule (P.follows .mixedOrders) ops t) Q a x) : (Code.region id ops true).wpX P mn W0 S Q a x :=
  fun b k cs hb hc => .own ⟨rfl, fun w _ hl _ => ⟨_, _, #[], x.m, stepG_region_draw, .drew _ _, hl, fun _ hb => .inl hb, h _ b k cs hb hc⟩⟩
theorem opsX_nil {ops : Array Oper} (h : Q .normal a x) : OpsX P mn W0 S ops [] Q a x := fun _ _ _ _ hc => .ctl rfl (fun _ _ => stepG_region_end) (hc _ _ _ h)
theorem opsX_unwanted {ops : Array Oper} {i : Nat} {rest : List Nat} {o : Oper} (ho : ops[i]? = some o) (hw : Region.wanted o (yielded ops a.tmps) = false) (h : OpsX P mn W0 S ops rest Q (a.put o.dst undef) x) : OpsX P mn W0 S ops (i :: rest) Q a x :=
  fun b k cs hb hc => .ctl rfl (fun _ _ => stepG_unwanted ho hw) (h b k cs hb hc)
end
section
variable {Γ : Type} (P : Program) (mn : Kd Γ) (W0 : World) (S : (Goroutine → XW Γ → Prop) → Goroutine → XW Γ → Prop)
def CallsX (f : FuncId) (args : Array Value) (x : XW Γ) (R : Value → XW Γ → Prop) : Prop :=
  ∀ (c : Frame) (cs : List Frame), (∀ v x', R v x' → MI P mn W0 S (G (c.finish v) cs) x') → MI P mn W0 S (G (Frame.enter P f args .normal) (c :: cs)) x
def uponX (x : XW Γ) (w : World) (es : Array Event) (R : Value → XW Γ → Prop) : Result Next → Prop
  | .ok (.value v) w' => ∃ m' : Heap, Keeps x.m w w' es ∧ m'.le (rp w') ∧ (∀ b, m' b ≠ none → x.m b ≠ none ∨ w.heap.size ≤ b) ∧ R v ⟨m', x.s⟩
  | .ok .skip w' => ∃ m' : Heap, Keeps x.m w w' es ∧ m'.le (rp w') ∧ (∀ b, m' b ≠ none → x.m b ≠ none ∨ w.heap.size ≤ b) ∧ R undef ⟨m', x.s⟩
  | .ok (.enter f args) w' => ∃ m' : Heap, Keeps x.m w w' es ∧ m'.le (rp w') ∧ (∀ b, m' b ≠ none → x.m b ≠ none ∨ w.heap.size ≤ b) ∧ CallsX P mn W0 S f args ⟨m', x.s⟩ R
  | _ => False
def _root_.Go.Oper.yX (o : Oper) (ρ : Operand → Value) (x : XW Γ) (R : Value → XW Γ → Prop) : Prop :=
  ∀ w, Env W0 w → x.m.le (rp w) → (mn.ln x.s).le (rp w) → uponX P mn W0 S x w ((execOp ρ o).events P w #[]) R ((execOp ρ o).run P w)
def _root_.Go.Oper.wpX (o : Oper) (a : Act) (x : XW Γ) (next : Act → XW Γ → Prop) : Prop :=
  ∀ (ops : Array Oper) (i : Nat) (rest : List Nat) (b : Frame) (k : List Item) (cs : List Frame), ops[i]? = some o → Region.wanted o (yielded ops a.tmps) = true → b.kind ≠ .early →
    (∀ a' x', next a' x' → MI P mn W0 S (G (b.at a' (.inRegion ops rest :: k)) cs) x') → MI P mn W0 S (G (b.at a (.inRegion ops (i :: rest) :: k)) cs) x
end
section
variable {Γ : Type} {P : Program} {mn : Kd Γ} {W0 : World} {S : (Goroutine → XW Γ → Prop) → Goroutine → XW Γ → Prop} {Q : Exit → Act → XW Γ → Prop} {a : Act} {x : XW Γ}
theorem Keeps.listed {m : Heap} {w w' : World} {fn : FuncId} {o : Oper} (h : Keeps m w w' ((execOp a.eval o).events P w #[])) : Keeps m w w' (listed P fn a o w) :=
  ⟨h.frame, h.grows, h.os, h.tape, h.output, fun e he => h.mine e (mem_listed he), fun e he => h.low e (mem_listed he)⟩
theorem wpX_of_yX {o : Oper} {next : Act → XW Γ → Prop} (h : o.yX P mn W0 S a.eval x fun v x' => next (a.put o.dst v) x') : o.wpX P mn W0 S a x next := by
  intro ops i rest b k cs ho hw hb hn
  refine .own ⟨rfl, fun w he hl hn' => ?_⟩
  have hu := h w he hl hn'
  generalize hr : (execOp a.eval o).run P w = r at hu
  cases r with
  | ok n w' =>
    cases n with
    | value v =>
      obtain ⟨m', h1, h2, h3, h4⟩ := hu
      exact ⟨_, _, _, m', stepG_value ho hw hb hr, h1.listed, h2, h3, hn _ _ h4⟩
    | skip =>
      obtain ⟨m', h1, h2, h3, h4⟩ := hu
      exact ⟨_, _, _, m', stepG_none ho hw hb hr, h1.listed, h2, h3, hn _ _ h4⟩
    | enter f args =>
      obtain ⟨m', h1, h2, h3, h4⟩ := hu
      refine ⟨_, _, _, m', stepG_enter ho hw hb hr, h1.listed, h2, h3, h4 _ cs fun v x' hn' => ?_⟩
      have e : (b.at a (.inRegion ops (i :: rest) :: k)).finish v = b.at (a.put o.dst v) (.inRegion ops rest :: k) := by rw [Frame.finish_at, ho]; rfl
      rw [e]
      exact hn _ _ hn'
    | _ => exact hu.elim
  | _ => exact hu.elim
theorem stepG_leaveE {main : Bool} {b : Frame} {a : Act} {cs : List Frame} {w : World} {fn : Func} {todo : List Item} {c : Frame} {v : Value} (hn : b.kind = .normal) (hd : a.defers = []) (hf : P.funcs[b.fn]? = some fn) (hr : (results fn a.tmps).run P w = .ok v w) :
    stepG P main (G { b.at a todo with mode := .returning } (c :: cs)) w = .go (G (c.finish v) cs) w (seen P b.fn ((results fn a.tmps).events P w #[])) := by
  simp [G, stepG, unwind, doReturn, Frame.at, hn, hd, hf, hr, GStep.after]
theorem callsX_of {f : FuncId} {fn : Func} {c : Code} {args : Array Value} {R : Value → XW Γ → Prop} (hf : P.funcs[f]? = some fn) (hb : fn.body = some c)
    (h : c.wpX P mn W0 S (fun e a x => (e = .normal ∨ e = .ret) ∧ a.defers = [] ∧ ∀ w, Env W0 w → x.m.le (rp w) → ∃ v, (results fn a.tmps).run P w = .ok v w ∧ (∀ e ∈ (results fn a.tmps).events P w #[], Mine x.m w.heap.size e ∧ EvLow w.heap.size e) ∧ R v x)
      { tmps := args ++ Array.replicate (fn.ntmps - args.size) undef, defers := [] } x) : CallsX P mn W0 S f args x R := by
  intro c' cs hR
  rw [enter_at args hf hb]
  have leave : ∀ (a : Act) (x : XW Γ) (todo : List Item), a.defers = [] → (∀ w, Env W0 w → x.m.le (rp w) → ∃ v, (results fn a.tmps).run P w = .ok v w ∧ (∀ e ∈ (results fn a.tmps).events P w #[], Mine x.m w.heap.size e ∧ EvLow w.heap.size e) ∧ R v x) →
      MI P mn W0 S (G { (base f).at a todo with mode := .returning } (c' :: cs)) x := by
    intro a x todo hd hx
    refine .own ⟨rfl, fun w he hl _ => ?_⟩
    obtain ⟨v, h1, h2, h3⟩ := hx w he hl
    exact ⟨_, _, _, x.m, stepG_leaveE (b := base f) rfl hd hf h1, ⟨fun _ _ _ => rfl, Nat.le_refl _, rfl, rfl, rfl, fun e he => (h2 e (mem_seen he)).1, fun e he => (h2 e (mem_seen he)).2⟩, hl, fun _ hb => .inl hb, hR _ _ h3⟩
  refine h (base f) [] (c' :: cs) (by simp [base]) fun e a' x' q => ?_
  obtain ⟨he, hd, hx⟩ := q
  rcases he with rfl | rfl
  · exact .ctl rfl (fun _ _ => stepG_end) (leave a' x' [] hd hx)
  · exact fun todo => leave a' x' todo hd hx
end
end Go.X
