/- The judgement over carriers: worlds of reasoning that show one's own memory and bear the state of what is shared. No program in sight. -/
import Derived.Test.YtafhinjggdknjaaDoorPXD
import Derived.Conc.CrowdInv
import Derived.Conc.RecvAny
import Derived.Conc.CrowdSel
import Derived.Conc.LoneSelect
set_option linter.unusedVariables false
set_option linter.unusedSimpArgs false
namespace Go.X
open Go Go.Sx Go.Conc Go.ConcN
open Go.ConcR (KK wgBlock WgAt stA smA rd wr mk Payload)
instance payInst : Payload := ⟨0⟩
inductive Stg
  | run | off | adm | pend | w0 (n : Nat) | w1 (v : Nat) | reg | up | fin | ke | done
structure Cy where
  ty : TypeId
  wg : Nat
  dl : Nat
  dn : Nat
  base : Heap
  lim : Nat
  ok : Nat → Value → Heap → Prop
structure Co where
  cy : Cy
  nx : Nat
  wk : List (Option Nat)
  st : Stg
  shut : Bool
structure Cs where
  cy : Cy
  job : Option Nat
  off : Bool
  /-- jobs come in order: none below this one will come -/
  lo : Nat
inductive Gh
  | solo
  | co (c : Co)
  | snd (c : Cs)
def isMain : Gh → Bool
  | .snd _ => false
  | _ => true
def pool : Gh → Heap
  | .solo => Heap.empty
  | .co c => c.cy.base
  | .snd c => c.cy.base
abbrev kd : Kd Gh := ⟨isMain, pool⟩
def Peek (p : Heap) (m : Heap) (e : Event) : Prop := match e.loc with
  | .cell a => (p a.block ≠ none ∧ e.write = false) ∨ m a.block ≠ none
  | .obj r => p r ≠ none ∧ e.write = false
  | _ => False
inductive Marks (c : Co) : Mark → Stg → Prop
  | off : c.st = .run → c.shut = false → Marks c .disable .off
  | on : c.st = .adm → Marks c .enable .pend
  | wait : c.st = .run → c.shut = true → Marks c .disable (.w0 c.wk.length)
  | ke : c.st = .fin → Marks c .enable .ke
  | acq : c.st = .ke → Marks c (.acquire (stA c.cy.wg)) .done
  | rd : c.st = .adm → Marks c (.read (smA c.cy.wg)) .adm
  | wr : c.st = .reg → Marks c (.write (smA c.cy.wg)) .reg
def Leaves (P : Program) (c : Cy) (g : Goroutine) : Prop :=
  (∃ (C : Nat) (cs : Array Value) (T : TypeId) (fz : Nat × Nat) (v : Value), c.base C = some (.cells cs T fz) ∧ cs[0]? = some v ∧
    ∀ w, WgLive c.ty c.wg w → Has C 0 v w → ∃ m, Goes P false (RW c.ty c.wg C 0 0 0) (DWs c.wg (fun _ _ => False) (fun _ _ => False) C 0 1) (AtR0 P c.ty c.wg C 0 0 1 v) m g w) ∧
  ∀ w, WgLive c.ty c.wg w → Has c.wg 1 (.int .u32 0) w → ∃ m, Goes P false (RW c.ty c.wg c.wg 0 0 1) (DWs c.wg (fun _ _ => False) (fun _ _ => False) c.wg 0 2) (AtR0 P c.ty c.wg c.wg 0 0 2 (.int .u32 0)) m g w
def deals (live : Bool) (c : Cy) (v z1 z2 : Value) : Array CommCase := #[if live then scase c.dl v z1 else scaseNil v z1, rcase c.dn z2]
section
variable (P : Program) (Post : Value → World → Prop) (W0 : World)
inductive SP (I : Goroutine → XW Gh → Prop) : Goroutine → XW Gh → Prop
  /-- a look at what is shared -/
  | peek {g : Goroutine} {x : XW Gh} : g.status = .running → (∀ w, Env W0 w → x.m.le (rp w) → (pool x.s).le (rp w) → (∀ c, x.s = .co c → WgLive c.cy.ty c.cy.wg w) → ∃ g' es, stepG P (isMain x.s) g w = .go g' w es ∧ (∀ e ∈ es, Peek (pool x.s) x.m e) ∧ I g' x) → SP I g x
  /-- the company begins -/
  | opn {g : Goroutine} {m m' : Heap} {c : Co} : g.status = .running → c.st = .run → c.wk = [] → c.nx = 0 → c.shut = false → m'.le m → c.cy.base.le m → Disj m' c.cy.base → c.cy.dl ≠ c.cy.dn →
      m c.cy.dl = some (.chan 0 #[] false 0 0 false) → m c.cy.dn = some (.chan 0 #[] false 0 0 false) → m c.cy.wg = some (wgBlock c.cy.ty 0 0) → m' c.cy.dl = none → m' c.cy.dn = none → m' c.cy.wg = none → c.cy.base c.cy.dl = none → c.cy.base c.cy.dn = none → c.cy.base c.cy.wg = none →
      I g ⟨m', .co c⟩ → SP I g ⟨m, .solo⟩
  | mark {g g' : Goroutine} {m : Heap} {c : Co} {μ : Mark} {st : Stg} : Marks c μ st → g.status = .running → (∀ w, Env W0 w → m.le (rp w) → WgLive c.cy.ty c.cy.wg w → stepG P true g w = .go g' w #[mk μ]) → I g' ⟨m, .co { c with st := st }⟩ → SP I g ⟨m, .co c⟩
  | add {g : Goroutine} {m : Heap} {c : Co} : c.st = .off → g.status = .running →
      (∀ (v : Nat) w, v ≤ c.wk.length → Env W0 w → m.le (rp w) → WgAt c.cy.ty c.cy.wg w (v * KK) 0 → ∃ g', stepG P true g w = .go g' (w.setCell (stA c.cy.wg) (.int .u64 ((v + 1 : Nat) * KK))) #[rd (stA c.cy.wg), wr (stA c.cy.wg)] ∧ I g' ⟨m, .co { c with st := .adm }⟩) → SP I g ⟨m, .co c⟩
  | go {g g' child : Goroutine} {m : Heap} {c : Co} : c.wk.length + 2 < 2147483648 → c.st = .pend → c.shut = false → g.status = .running → child.status = .running →
      (∀ w, Env W0 w → m.le (rp w) → stepG P true g w = .spawn g' child w #[]) →
      I child ⟨Heap.empty, .snd ⟨c.cy, none, false, 0⟩⟩ → I g' ⟨m, .co { c with st := .run, wk := c.wk ++ [none] }⟩ → SP I g ⟨m, .co c⟩
  /-- the dealer deals, or takes what is done -/
  | deal {g : Goroutine} {m : Heap} {c : Co} {live : Bool} {z1 z2 : Value} : c.st = .run → c.shut = false → (live = true ↔ c.nx < c.cy.lim) → (if live then c.wk ≠ [] else ∃ (k j : Nat), c.wk[k]? = some (some j)) → g.status = .running →
      (∀ w, Env W0 w → m.le (rp w) → stepG P true g w = .comm g (deals live c.cy (.int .i64 c.nx) z1 z2) true .select w #[]) →
      (∀ (k : Nat), live = true → c.wk[k]? = some none → I (g.finishComm P (deals live c.cy (.int .i64 c.nx) z1 z2) .select 0 undef false) ⟨m, .co { c with nx := c.nx + 1, wk := c.wk.set k (some c.nx) }⟩) →
      (∀ (k j : Nat) (v : Value) (D : Heap), c.wk[k]? = some (some j) → c.cy.ok j v D → Disj m D → Disj D c.cy.base → I (g.finishComm P (deals live c.cy (.int .i64 c.nx) z1 z2) .select 1 v true) ⟨union m D, .co { c with wk := c.wk.set k none }⟩) → SP I g ⟨m, .co c⟩
  | clos {g g' : Goroutine} {m : Heap} {c : Co} : c.st = .run → c.shut = false → (∀ (k : Nat) o, c.wk[k]? = some o → o = none) → g.status = .running → mayWake P g = true →
      (∀ w s r, Env W0 w → m.le (rp w) → (pool (.co c)).le (rp w) → w.heap[c.cy.dl]? = some (.chan 0 #[] false s r false) → stepG P true g w = .go g' (w.setChan c.cy.dl 0 #[] true s r false) #[⟨.obj c.cy.dl, false, true⟩, ⟨.obj c.cy.dl, true, true⟩]) →
      I g' ⟨m, .co { c with shut := true }⟩ → SP I g ⟨m, .co c⟩
  | load {g : Goroutine} {m : Heap} {c : Co} {n : Nat} : c.st = .w0 n → g.status = .running →
      (∀ (v : Nat) w, v ≤ n → Env W0 w → m.le (rp w) → WgAt c.cy.ty c.cy.wg w (v * KK) 0 → ∃ g', stepG P true g w = .go g' w #[rd (stA c.cy.wg)] ∧ (v = 0 → I g' ⟨m, .co { c with st := .fin }⟩) ∧ (v ≠ 0 → I g' ⟨m, .co { c with st := .w1 v }⟩)) → SP I g ⟨m, .co c⟩
  | cas {g : Goroutine} {m : Heap} {c : Co} {u : Nat} : c.st = .w1 u → g.status = .running →
      (∀ (v : Nat) w, v ≤ u → Env W0 w → m.le (rp w) → WgAt c.cy.ty c.cy.wg w (v * KK) 0 →
        (v = u → ∃ g', stepG P true g w = .go g' (w.setCell (stA c.cy.wg) (.int .u64 (v * KK + 1))) #[rd (stA c.cy.wg), wr (stA c.cy.wg)] ∧ I g' ⟨m, .co { c with st := .reg }⟩) ∧
        (v ≠ u → ∃ g', stepG P true g w = .go g' w #[rd (stA c.cy.wg)] ∧ I g' ⟨m, .co { c with st := .w0 v }⟩)) → SP I g ⟨m, .co c⟩
  | sem {g : Goroutine} {m : Heap} {c : Co} : c.st = .reg → g.status = .running → g.offers = none →
      (∀ w st, Env W0 w → m.le (rp w) → WgAt c.cy.ty c.cy.wg w st 0 → stepG P true g w = .go { g with status := .blocked } w #[]) →
      (∀ w, Env W0 w → m.le (rp w) → WgAt c.cy.ty c.cy.wg w 0 1 → ∃ g', stepG P true g w = .go g' (w.setCell (smA c.cy.wg) (.int .u32 0)) (semEvents (smA c.cy.wg)) ∧ I g' ⟨m, .co { c with st := .up }⟩) → SP I g ⟨m, .co c⟩
  | load0 {g : Goroutine} {m : Heap} {c : Co} : c.st = .up → g.status = .running →
      (∀ w, Env W0 w → m.le (rp w) → WgAt c.cy.ty c.cy.wg w 0 0 → ∃ g', stepG P true g w = .go g' w #[rd (stA c.cy.wg)] ∧ I g' ⟨m, .co { c with st := .fin }⟩) → SP I g ⟨m, .co c⟩
  /-- the company is over -/
  | back {g : Goroutine} {m : Heap} {c : Co} : g.status = .running → c.st = .done → I g ⟨union m c.cy.base, .solo⟩ → SP I g ⟨m, .co c⟩
  | fin {g : Goroutine} {m : Heap} : g.status = .running → (∀ w, Env W0 w → m.le (rp w) → ∃ v es, stepG P true g w = .ended (.done v) w es ∧ (∀ e ∈ es, Mine m w.heap.size e ∧ EvLow w.heap.size e) ∧ Post v w) → SP I g ⟨m, .solo⟩
  /-- a hand asks for a job -/
  | ask {g : Goroutine} {m : Heap} {c : Cs} {z : Value} : c.job = none → c.off = false → g.status = .running →
      (∀ w, Env W0 w → m.le (rp w) → stepG P false g w = .comm g #[rcase c.cy.dl z] true (.recv true) w #[]) →
      (∀ j : Nat, c.lo ≤ j → j < c.cy.lim → I (Go.Conc.served g (.tuple #[.int .i64 j, .bool true])) ⟨m, .snd { c with job := some j, lo := j + 1 }⟩) →
      I (Go.Conc.served g (.tuple #[z, .bool false])) ⟨m, .snd { c with off := true }⟩ → SP I g ⟨m, .snd c⟩
  /-- .. and hands back what came of it, with the memory that belongs to it -/
  | give {g : Goroutine} {m m' D : Heap} {c : Cs} {j : Nat} {v z : Value} : c.job = some j → c.off = false → g.status = .running →
      (∀ w, Env W0 w → m.le (rp w) → stepG P false g w = .comm g #[scase c.cy.dn v z] true .send w #[]) → m'.le m → D.le m → Disj m' D → c.cy.ok j v D →
      I (g.finishComm P #[scase c.cy.dn v z] .send 0 undef false) ⟨m', .snd { c with job := none }⟩ → SP I g ⟨m, .snd c⟩
  | quit {g : Goroutine} {m : Heap} {c : Cs} : g.status = .running → c.off = true → c.job = none → Leaves P c.cy g → SP I g ⟨m, .snd c⟩
end
theorem sp_mono (P : Program) (Post : Value → World → Prop) (W0 : World) : MonoS (SP P Post W0) := by
  intro I I' hI g x h
  cases h with
  | peek h1 h2 => exact .peek h1 fun w a b c d => let ⟨g', es, h3, h4, h5⟩ := h2 w a b c d; ⟨g', es, h3, h4, hI _ _ h5⟩
  | opn h0 h1 h2 h3 h4 h5 h6 h7 h8 h9 h10 h11 h12 h13 h14 h15 h16 h17 h18 => exact .opn h0 h1 h2 h3 h4 h5 h6 h7 h8 h9 h10 h11 h12 h13 h14 h15 h16 h17 (hI _ _ h18)
  | mark h1 h2 h3 h4 => exact .mark h1 h2 h3 (hI _ _ h4)
  | add h1 h2 h3 => exact .add h1 h2 fun v w a b c d => let ⟨g', h4, h5⟩ := h3 v w a b c d; ⟨g', h4, hI _ _ h5⟩
  | go h0 h1 h2 h3 h4 h5 h6 h7 => exact .go h0 h1 h2 h3 h4 h5 (hI _ _ h6) (hI _ _ h7)
  | deal h1 h2 h3 h4 h5 h6 h7 h8 => exact .deal h1 h2 h3 h4 h5 h6 (fun k a b => hI _ _ (h7 k a b)) fun k j v D a b c d => hI _ _ (h8 k j v D a b c d)
  | clos h1 h2 h3 h4 h5 h6 h7 => exact .clos h1 h2 h3 h4 h5 h6 (hI _ _ h7)
  | load h1 h2 h3 => exact .load h1 h2 fun v w a b c d => let ⟨g', h4, h5, h6⟩ := h3 v w a b c d; ⟨g', h4, fun e => hI _ _ (h5 e), fun e => hI _ _ (h6 e)⟩
  | cas h1 h2 h3 => exact .cas h1 h2 fun v w a b c d => let ⟨h4, h5⟩ := h3 v w a b c d; ⟨fun e => let ⟨g', h6, h7⟩ := h4 e; ⟨g', h6, hI _ _ h7⟩, fun e => let ⟨g', h6, h7⟩ := h5 e; ⟨g', h6, hI _ _ h7⟩⟩
  | sem h1 h2 h3 h4 h5 => exact .sem h1 h2 h3 h4 fun w a b c => let ⟨g', h6, h7⟩ := h5 w a b c; ⟨g', h6, hI _ _ h7⟩
  | load0 h1 h2 h3 => exact .load0 h1 h2 fun w a b c => let ⟨g', h4, h5⟩ := h3 w a b c; ⟨g', h4, hI _ _ h5⟩
  | back h0 h1 h2 => exact .back h0 h1 (hI _ _ h2)
  | fin h1 h2 => exact .fin h1 h2
  | ask h1 h2 h3 h4 h5 h6 => exact .ask h1 h2 h3 h4 (fun j e e' => hI _ _ (h5 j e e')) (hI _ _ h6)
  | give h1 h2 h3 h4 h5 h6 h7 h8 h9 => exact .give h1 h2 h3 h4 h5 h6 h7 h8 (hI _ _ h9)
  | quit h0 h1 h2 h3 => exact .quit h0 h1 h2 h3
end Go.X
namespace Go.X
open Go Go.Sx Go.Conc Go.ConcN
structure BW extends World where
  post : Value → World → Prop
structure GW extends BW where
  s : Gh
abbrev SB (P : Program) (Wr : BW) : (Goroutine → XW Gh → Prop) → Goroutine → XW Gh → Prop := SP P Wr.post Wr.toWorld
theorem sb_mono (P : Program) (Wr : BW) : MonoS (SB P Wr) := sp_mono P Wr.post Wr.toWorld
structure Sm (Wr : BW) (w : GW) : Prop where
  os : Wr.os = w.os
  tape : Wr.tape = w.tape
  post : Wr.post = w.post
structure Rep (Wr : BW) (w : GW) (x : XW Gh) : Prop where
  m : hp w.toWorld = x.m
  s : w.s = x.s
  sm : Sm Wr w
def Hat (Wr : BW) (Q : Act → GW → Prop) (a : Act) (x : XW Gh) : Prop := ∃ w : GW, Rep Wr w x ∧ Q a w
def xw (w : GW) : XW Gh := ⟨hp w.toWorld, w.s⟩
theorem Rep.eq {Wr : BW} {w : GW} {x : XW Gh} (h : Rep Wr w x) : x = xw w := by
  obtain ⟨m, s⟩ := x; simp only [xw, XW.mk.injEq]; exact ⟨h.m.symm, h.s.symm⟩
theorem rep_xw {Wr : BW} {w : GW} (h : Sm Wr w) : Rep Wr w (xw w) := ⟨rfl, rfl, h⟩
def _root_.Go.Code.wpV (P : Program) (c : Code) (Q : Exit → Act → GW → Prop) (a : Act) (w : GW) : Prop :=
  ∀ Wr : BW, Sm Wr w → c.wpX P kd Wr.toWorld (SB P Wr) (fun e => Hat Wr (Q e)) a (xw w)
def wpOpsV (P : Program) (ops : Array Oper) (Q : Exit → Act → GW → Prop) (todo : List Nat) (a : Act) (w : GW) : Prop :=
  ∀ Wr : BW, Sm Wr w → OpsX P kd Wr.toWorld (SB P Wr) ops todo (fun e => Hat Wr (Q e)) a (xw w)
def _root_.Go.Oper.yV (P : Program) (o : Oper) (ρ : Operand → Value) (w : GW) (R : Value → GW → Prop) : Prop :=
  ∀ Wr : BW, Sm Wr w → o.yX P kd Wr.toWorld (SB P Wr) ρ (xw w) fun v x => ∃ w' : GW, Rep Wr w' x ∧ R v w'
def _root_.Go.Oper.wpV (P : Program) (o : Oper) (a : Act) (w : GW) (next : Act → GW → Prop) (_Q : Exit → Act → GW → Prop) : Prop := ∀ Wr : BW, Sm Wr w → o.wpX P kd Wr.toWorld (SB P Wr) a (xw w) (Hat Wr next)
def CallsV (P : Program) (f : FuncId) (args : Array Value) (w : GW) (R : Ending → GW → Prop) : Prop :=
  ∀ Wr : BW, Sm Wr w → CallsX P kd Wr.toWorld (SB P Wr) f args (xw w) fun v x' => ∃ w', Rep Wr w' x' ∧ R (.returned v) w'
section
variable {P : Program} {Q : Exit → Act → GW → Prop} {a : Act} {w : GW}
theorem wpV_skip (h : Q .normal a w) : Code.skip.wpV P Q a w := fun Wr h1 => wpX_skip ⟨w, rep_xw h1, h⟩
theorem wpV_label {l : Nat} (h : Q .normal a w) : (Code.label l).wpV P Q a w := fun Wr h1 => wpX_label ⟨w, rep_xw h1, h⟩
theorem wpV_ret (h : Q .ret a w) : Code.ret.wpV P Q a w := fun Wr h1 => wpX_ret ⟨w, rep_xw h1, h⟩
theorem wpV_exit {id : Nat} (h : Q (.exit id) a w) : (Code.exit id).wpV P Q a w := fun Wr h1 => wpX_exit ⟨w, rep_xw h1, h⟩
theorem wpV_seq {c d : Code} (h : c.wpV P (thenX (d.wpV P Q) Q) a w) : (Code.seq c d).wpV P Q a w := fun Wr h1 =>
  wpX_seq (wpX_mono (h Wr h1) fun e a x hq => by
    cases e with
    | normal => obtain ⟨w', r, q⟩ := hq; have := q Wr r.sm; rw [← r.eq] at this; exact this
    | _ => exact hq)
theorem wpV_cond_split {c : Operand} {y z : Code} {t : Bool} (hc : a.eval c = .bool t) (ht : t = true → y.wpV P Q a w) (hf : t = false → z.wpV P Q a w) : (Code.cond c y z).wpV P Q a w :=
  fun Wr h1 => wpX_cond_split hc (fun e => ht e Wr h1) (fun e => hf e Wr h1)
theorem wpV_block {id : Nat} {c : Code} (h : c.wpV P (inBlockX id Q) a w) : (Code.block id c).wpV P Q a w := fun Wr h1 =>
  wpX_block (wpX_mono (h Wr h1) fun e a x hq => by
    cases e with
    | exit id' =>
      obtain ⟨w', r, q⟩ := hq
      simp only [inBlockX] at q ⊢
      split <;> rename_i hh
      · rw [if_pos hh] at q; exact ⟨w', r, q⟩
      · rw [if_neg hh] at q; exact ⟨w', r, q⟩
    | _ => exact hq)
theorem wpV_region {id : Nat} {ops : Array Oper} (h : wpOpsV P ops Q (List.range ops.size) a w) : (Code.region id ops false).wpV P Q a w := fun Wr h1 => wpX_region (h Wr h1)
theorem wpV_region_draw {id : Nat} {ops : Array Oper} (h : ∀ t, wpOpsV P ops Q (Region.schedule (P.follows .mixedOrders) ops t) a w) : (Code.region id ops true).wpV P Q a w := fun Wr h1 => wpX_region_draw fun t => h t Wr h1
theorem wpOpsV_nil {ops : Array Oper} (h : Q .normal a w) : wpOpsV P ops Q [] a w := fun Wr h1 => opsX_nil ⟨w, rep_xw h1, h⟩
theorem wpOpsV_unwanted {ops : Array Oper} {i : Nat} {rest : List Nat} {o : Oper} (ho : ops[i]? = some o) (hw : Region.wanted o (yielded ops a.tmps) = false) (h : wpOpsV P ops Q rest (a.put o.dst undef) w) : wpOpsV P ops Q (i :: rest) a w :=
  fun Wr h1 => opsX_unwanted ho hw (h Wr h1)
theorem YX.mono {o : Oper} {ρ : Operand → Value} {Wr : BW} {x : XW Gh} {N N' : Value → XW Gh → Prop} (hn : ∀ v x, N v x → N' v x) (h : o.yX P kd Wr.toWorld (SB P Wr) ρ x N) : o.yX P kd Wr.toWorld (SB P Wr) ρ x N' := by
  intro w he hl hn'
  have := h w he hl hn'
  generalize (execOp ρ o).run P w = r at this ⊢
  match r, this with
  | .ok (.value v) w', ⟨m', h1, h2, h3, h4⟩ => exact ⟨m', h1, h2, h3, hn _ _ h4⟩
  | .ok .skip w', ⟨m', h1, h2, h3, h4⟩ => exact ⟨m', h1, h2, h3, hn _ _ h4⟩
  | .ok (.enter f args) w', ⟨m', h1, h2, h3, h4⟩ => exact ⟨m', h1, h2, h3, fun c cs hc => h4 c cs fun v x' hr => hc v x' (hn _ _ hr)⟩
theorem YV.mono {o : Oper} {ρ : Operand → Value} {w : GW} {N N' : Value → GW → Prop} (h : o.yV P ρ w N) (hn : ∀ v w, N v w → N' v w) : o.yV P ρ w N' :=
  fun Wr h1 => YX.mono (fun v x ⟨w', r, q⟩ => ⟨w', r, hn v w' q⟩) (h Wr h1)
theorem wpV_next {o : Oper} {a : Act} {w : GW} {next next' : Act → GW → Prop} {Q Q' : Exit → Act → GW → Prop} (h : o.wpV P a w next Q) (hn : ∀ a w, next a w → next' a w) : o.wpV P a w next' Q' :=
  fun Wr h1 ops i rest b k cs ho hw hb hc => h Wr h1 ops i rest b k cs ho hw hb fun a' x' ⟨w', r, q⟩ => hc a' x' ⟨w', r, hn _ _ q⟩
theorem wpV_of_yV {o : Oper} {a : Act} {w : GW} {next : Act → GW → Prop} {Q : Exit → Act → GW → Prop} (h : o.yV P a.eval w fun v w' => next (a.put o.dst v) w') : o.wpV P a w next Q := fun Wr h1 => wpX_of_yX (h Wr h1)
def _root_.Go.Oper.pkV (P : Program) (o : Oper) (ρ : Operand → Value) (w : GW) (v : Value) : Prop :=
  ∀ Wr : BW, Sm Wr w → ∀ w1, Env Wr.toWorld w1 → (hp w.toWorld).le (rp w1) → (pool w.s).le (rp w1) → (∀ c, w.s = .co c → WgLive c.cy.ty c.cy.wg w1) → (execOp ρ o).run P w1 = .ok (.value v) w1 ∧ ∀ e ∈ (execOp ρ o).events P w1 #[], Peek (pool w.s) (hp w.toWorld) e
theorem wpV_of_pk {o : Oper} {a : Act} {w : GW} {v : Value} {next : Act → GW → Prop} {Q : Exit → Act → GW → Prop} (h : o.pkV P a.eval w v) (hn : next (a.put o.dst v) w) : o.wpV P a w next Q :=
  fun Wr hsm ops i rest b k cs ho hw hb hc => .special (sb_mono P Wr) (.peek rfl fun w1 he hl hp hg => by
    obtain ⟨h1, h2⟩ := h Wr hsm w1 he hl hp hg
    exact ⟨_, _, stepG_value ho hw hb h1, fun e he => h2 e (mem_listed he), hc _ _ ⟨w, rep_xw hsm, hn⟩⟩)
theorem wpOpsV_cons {ops : Array Oper} {i : Nat} {rest : List Nat} {o : Oper} (ho : ops[i]? = some o) (hw : Region.wanted o (yielded ops a.tmps) = true) (h : o.wpV P a w (wpOpsV P ops Q rest) Q) : wpOpsV P ops Q (i :: rest) a w :=
  fun Wr h1 b k cs hb hc => h Wr h1 ops i rest b k cs ho hw hb fun a' x' ⟨w', r, q⟩ => by rw [r.eq]; exact q Wr r.sm b k cs hb hc
end
end Go.X
