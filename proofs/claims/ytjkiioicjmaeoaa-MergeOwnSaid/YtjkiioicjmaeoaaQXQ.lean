/- Communications between a receiver that stands alone and a goroutine at a select of a send and a receive. No program in sight. -/
import Derived.Test.YtjkiioicjmaeoaaQXD
import Derived.Conc.CrowdInv
import Derived.Conc.RecvAny
import Derived.Conc.CrowdSel
set_option linter.unusedVariables false
set_option linter.unusedSimpArgs false
namespace Go.X
open Go Go.Sx Go.Conc Go.ConcN
open Go.ConcR (KK wgBlock WgAt stA smA rd wr mk Payload)
instance payInst : Payload := ⟨0⟩
def join (a b : Heap) : Heap := fun x => match a x with | some o => some o | none => b x
structure Snd where
  ch : Nat
  rem : List Value
inductive Stg
  | run | off | adm | pend | w0 (n : Nat) | w1 (v : Nat) | reg | up | fin | ke | done
structure Co where
  ty : TypeId
  ech : Nat
  wg : Nat
  base : Heap
  win : Heap
  wn : Bool
  shut : Bool
  snd : List Snd
  st : Stg
structure Cs where
  ty : TypeId
  ech : Nat
  wg : Nat
  base : Heap
  win : Heap
  ch : Nat
  rem : List Value
  fst : Bool
  off : Bool
  closed : Bool
inductive Gh
  | solo
  | co (c : Co)
  | snd (c : Cs)
def isMain : Gh → Bool
  | .snd _ => false
  | _ => true
def pool : Gh → Heap
  | .solo => Heap.empty
  | .co c => join c.base c.win
  | .snd c => if c.fst then join c.base c.win else c.base
abbrev kd : Kd Gh := ⟨isMain, pool⟩
def Peek (p : Heap) (m : Heap) (e : Event) : Prop := match e.loc with
  | .cell a => (p a.block ≠ none ∧ e.write = false) ∨ m a.block ≠ none
  | _ => False
inductive Marks (c : Co) : Mark → Stg → Prop
  | off : c.st = .run → c.shut = false → c.wn = false → Marks c .disable .off
  | on : c.st = .adm → Marks c .enable .pend
  | wait : c.st = .run → c.shut = true → c.wn = false → Marks c .disable (.w0 c.snd.length)
  | ke : c.st = .fin → Marks c .enable .ke
  | acq : c.st = .ke → Marks c (.acquire (stA c.wg)) .done
  | rd : c.st = .adm → Marks c (.read (smA c.wg)) .adm
  | wr : c.st = .reg → Marks c (.write (smA c.wg)) .reg
def Leaves (P : Program) (c : Cs) (g : Goroutine) : Prop :=
  (∃ (C : Nat) (cs : Array Value) (T : TypeId) (fz : Nat × Nat) (v : Value), c.base C = some (.cells cs T fz) ∧ cs[0]? = some v ∧
    ∀ w, WgLive c.ty c.wg w → Has C 0 v w → ∃ m, Goes P false (RW c.ty c.wg C 0 0 0) (DWs c.wg (fun _ _ => False) (fun _ _ => False) C 0 1) (AtR0 P c.ty c.wg C 0 0 1 v) m g w) ∧
  ∀ w, WgLive c.ty c.wg w → Has c.wg 1 (.int .u32 0) w → ∃ m, Goes P false (RW c.ty c.wg c.wg 0 0 1) (DWs c.wg (fun _ _ => False) (fun _ _ => False) c.wg 0 2) (AtR0 P c.ty c.wg c.wg 0 0 2 (.int .u32 0)) m g w
section
variable (P : Program) (Post : Value → World → Prop) (W0 : World)
inductive SP (I : Goroutine → XW Gh → Prop) : Goroutine → XW Gh → Prop
  /-- a look at what is shared -/
  | peek {g : Goroutine} {x : XW Gh} : g.status = .running → (∀ w, Env W0 w → x.m.le (rp w) → (pool x.s).le (rp w) → (∀ c, x.s = .co c → WgLive c.ty c.wg w) → ∃ g' es, stepG P (isMain x.s) g w = .go g' w es ∧ (∀ e ∈ es, Peek (pool x.s) x.m e) ∧ I g' x) → SP I g x
  /-- the company begins -/
  | opn {g : Goroutine} {m m' : Heap} {c : Co} : g.status = .running → c.st = .run → c.snd = [] → c.win = Heap.empty → c.wn = false → c.shut = false → m'.le m → c.base.le m → Disj m' c.base →
      m c.ech = some (.chan 0 #[] false 0 0 false) → m c.wg = some (wgBlock c.ty 0 0) → m' c.ech = none → m' c.wg = none → c.base c.ech = none → c.base c.wg = none → I g ⟨m', .co c⟩ → SP I g ⟨m, .solo⟩
  | mark {g g' : Goroutine} {m : Heap} {c : Co} {μ : Mark} {st : Stg} : Marks c μ st → g.status = .running → (∀ w, Env W0 w → m.le (rp w) → WgLive c.ty c.wg w → stepG P true g w = .go g' w #[mk μ]) → I g' ⟨m, .co { c with st := st }⟩ → SP I g ⟨m, .co c⟩
  | add {g : Goroutine} {m : Heap} {c : Co} : c.st = .off → g.status = .running →
      (∀ (v : Nat) w, v ≤ c.snd.length → Env W0 w → m.le (rp w) → WgAt c.ty c.wg w (v * KK) 0 → ∃ g', stepG P true g w = .go g' (w.setCell (stA c.wg) (.int .u64 ((v + 1 : Nat) * KK))) #[rd (stA c.wg), wr (stA c.wg)] ∧ I g' ⟨m, .co { c with st := .adm }⟩) → SP I g ⟨m, .co c⟩
  | go {g g' child : Goroutine} {m m' D : Heap} {c : Co} {ch : Nat} {ys : List Value} : c.snd.length + 2 < 2147483648 → c.st = .pend → c.wn = false → c.shut = false → g.status = .running → child.status = .running →
      (∀ w, Env W0 w → m.le (rp w) → stepG P true g w = .spawn g' child w #[]) → m'.le m → D.le m → Disj m' D → m ch = some (.chan 0 #[] false 0 0 false) → m' ch = none → D ch = none →
      I child ⟨Heap.empty, .snd ⟨c.ty, c.ech, c.wg, c.base, D, ch, ys, true, false, false⟩⟩ → I g' ⟨m', .co { c with st := .run, win := D, wn := true, snd := c.snd ++ [⟨ch, ys⟩] }⟩ → SP I g ⟨m, .co c⟩
  | recv {g : Goroutine} {m : Heap} {c : Co} {i : Nat} {s : Snd} {z : Value} : c.st = .run → c.shut = false → c.snd[i]? = some s → (c.wn = true → i + 1 = c.snd.length) → g.status = .running →
      (∀ w, Env W0 w → m.le (rp w) → stepG P true g w = .comm g #[rcase s.ch z] true (.recv true) w #[]) →
      (s.rem = [] → I (Go.Conc.served g (.tuple #[z, .bool false])) ⟨join m c.win, .co { c with win := Heap.empty, wn := false }⟩) →
      (∀ y ys, s.rem = y :: ys → I (Go.Conc.served g (.tuple #[y, .bool true])) ⟨join m c.win, .co { c with win := Heap.empty, wn := false, snd := c.snd.set i ⟨s.ch, ys⟩ }⟩) → SP I g ⟨m, .co c⟩
  | clos {g g' : Goroutine} {m : Heap} {c : Co} : c.st = .run → c.shut = false → c.wn = false → g.status = .running → mayWake P g = true →
      (∀ w s r, Env W0 w → m.le (rp w) → (pool (.co c)).le (rp w) → w.heap[c.ech]? = some (.chan 0 #[] false s r false) → stepG P true g w = .go g' (w.setChan c.ech 0 #[] true s r false) #[⟨.obj c.ech, false, true⟩, ⟨.obj c.ech, true, true⟩]) →
      I g' ⟨m, .co { c with shut := true }⟩ → SP I g ⟨m, .co c⟩
  | load {g : Goroutine} {m : Heap} {c : Co} {n : Nat} : c.st = .w0 n → g.status = .running →
      (∀ (v : Nat) w, v ≤ n → Env W0 w → m.le (rp w) → WgAt c.ty c.wg w (v * KK) 0 → ∃ g', stepG P true g w = .go g' w #[rd (stA c.wg)] ∧ (v = 0 → I g' ⟨m, .co { c with st := .fin }⟩) ∧ (v ≠ 0 → I g' ⟨m, .co { c with st := .w1 v }⟩)) → SP I g ⟨m, .co c⟩
  | cas {g : Goroutine} {m : Heap} {c : Co} {u : Nat} : c.st = .w1 u → g.status = .running →
      (∀ (v : Nat) w, v ≤ u → Env W0 w → m.le (rp w) → WgAt c.ty c.wg w (v * KK) 0 →
        (v = u → ∃ g', stepG P true g w = .go g' (w.setCell (stA c.wg) (.int .u64 (v * KK + 1))) #[rd (stA c.wg), wr (stA c.wg)] ∧ I g' ⟨m, .co { c with st := .reg }⟩) ∧
        (v ≠ u → ∃ g', stepG P true g w = .go g' w #[rd (stA c.wg)] ∧ I g' ⟨m, .co { c with st := .w0 v }⟩)) → SP I g ⟨m, .co c⟩
  | sem {g : Goroutine} {m : Heap} {c : Co} : c.st = .reg → g.status = .running → g.offers = none →
      (∀ w st, Env W0 w → m.le (rp w) → WgAt c.ty c.wg w st 0 → stepG P true g w = .go { g with status := .blocked } w #[]) →
      (∀ w, Env W0 w → m.le (rp w) → WgAt c.ty c.wg w 0 1 → ∃ g', stepG P true g w = .go g' (w.setCell (smA c.wg) (.int .u32 0)) (semEvents (smA c.wg)) ∧ I g' ⟨m, .co { c with st := .up }⟩) → SP I g ⟨m, .co c⟩
  | load0 {g : Goroutine} {m : Heap} {c : Co} : c.st = .up → g.status = .running →
      (∀ w, Env W0 w → m.le (rp w) → WgAt c.ty c.wg w 0 0 → ∃ g', stepG P true g w = .go g' w #[rd (stA c.wg)] ∧ I g' ⟨m, .co { c with st := .fin }⟩) → SP I g ⟨m, .co c⟩
  /-- the company is over -/
  | back {g : Goroutine} {m : Heap} {c : Co} : g.status = .running → c.st = .done → I g ⟨join m c.base, .solo⟩ → SP I g ⟨m, .co c⟩
  | fin {g : Goroutine} {m : Heap} : g.status = .running → (∀ w, Env W0 w → m.le (rp w) → ∃ v es, stepG P true g w = .ended (.done v) w es ∧ (∀ e ∈ es, Mine m w.heap.size e ∧ EvLow w.heap.size e) ∧ Post v w) → SP I g ⟨m, .solo⟩
  /-- a sender's select -/
  | sel {g : Goroutine} {m : Heap} {c : Cs} {y z1 z2 : Value} {ys : List Value} : c.rem = y :: ys → c.off = false → c.closed = false → g.status = .running →
      (∀ w, Env W0 w → m.le (rp w) → stepG P false g w = .comm g #[scase c.ch y z1, rcase c.ech z2] true .select w #[]) →
      I (g.finishComm P #[scase c.ch y z1, rcase c.ech z2] .select 0 undef false) ⟨m, .snd { c with rem := ys, fst := false }⟩ →
      I (g.finishComm P #[scase c.ch y z1, rcase c.ech z2] .select 1 z2 false) ⟨m, .snd { c with off := true, fst := false }⟩ → SP I g ⟨m, .snd c⟩
  | shut {g g' : Goroutine} {m : Heap} {c : Cs} : (c.rem = [] ∨ c.off = true) → c.closed = false → g.status = .running → mayWake P g = true →
      (∀ w s r, Env W0 w → m.le (rp w) → w.heap[c.ch]? = some (.chan 0 #[] false s r false) → stepG P false g w = .go g' (w.setChan c.ch 0 #[] true s r false) #[⟨.obj c.ch, false, true⟩, ⟨.obj c.ch, true, true⟩]) →
      I g' ⟨m, .snd { c with closed := true, fst := false }⟩ → SP I g ⟨m, .snd c⟩
  | quit {g : Goroutine} {m : Heap} {c : Cs} : g.status = .running → c.closed = true → Leaves P c g → SP I g ⟨m, .snd c⟩
end
theorem sp_mono (P : Program) (Post : Value → World → Prop) (W0 : World) : MonoS (SP P Post W0) := by
  intro I I' hI g x h
  cases h with
  | peek h1 h2 => exact .peek h1 fun w a b c d => let ⟨g', es, h3, h4, h5⟩ := h2 w a b c d; ⟨g', es, h3, h4, hI _ _ h5⟩
  | opn h0 h1 h2 h3 h4 h5 h6 h7 h8 h9 h10 h11 h12 h13 h14 h15 => exact .opn h0 h1 h2 h3 h4 h5 h6 h7 h8 h9 h10 h11 h12 h13 h14 (hI _ _ h15)
  | mark h1 h2 h3 h4 => exact .mark h1 h2 h3 (hI _ _ h4)
  | add h1 h2 h3 => exact .add h1 h2 fun v w a b c d => let ⟨g', h4, h5⟩ := h3 v w a b c d; ⟨g', h4, hI _ _ h5⟩
  | go h0 h1 h2 h3 h4 h5 h6 h7 h8 h9 h10 h11 h12 h13 h14 => exact .go h0 h1 h2 h3 h4 h5 h6 h7 h8 h9 h10 h11 h12 (hI _ _ h13) (hI _ _ h14)
  | recv h1 h2 h3 h4 h5 h6 h7 h8 => exact .recv h1 h2 h3 h4 h5 h6 (fun e => hI _ _ (h7 e)) fun y ys e => hI _ _ (h8 y ys e)
  | clos h1 h2 h3 h4 h5 h6 h7 => exact .clos h1 h2 h3 h4 h5 h6 (hI _ _ h7)
  | load h1 h2 h3 => exact .load h1 h2 fun v w a b c d => let ⟨g', h4, h5, h6⟩ := h3 v w a b c d; ⟨g', h4, fun e => hI _ _ (h5 e), fun e => hI _ _ (h6 e)⟩
  | cas h1 h2 h3 => exact .cas h1 h2 fun v w a b c d => let ⟨h4, h5⟩ := h3 v w a b c d; ⟨fun e => let ⟨g', h6, h7⟩ := h4 e; ⟨g', h6, hI _ _ h7⟩, fun e => let ⟨g', h6, h7⟩ := h5 e; ⟨g', h6, hI _ _ h7⟩⟩
  | sem h1 h2 h3 h4 h5 => exact .sem h1 h2 h3 h4 fun w a b c => let ⟨g', h6, h7⟩ := h5 w a b c; ⟨g', h6, hI _ _ h7⟩
  | load0 h1 h2 h3 => exact .load0 h1 h2 fun w a b c => let ⟨g', h4, h5⟩ := h3 w a b c; ⟨g', h4, hI _ _ h5⟩
  | back h0 h1 h2 => exact .back h0 h1 (hI _ _ h2)
  | fin h1 h2 => exact .fin h1 h2
  | sel h1 h2 h3 h4 h5 h6 h7 => exact .sel h1 h2 h3 h4 h5 (hI _ _ h6) (hI _ _ h7)
  | shut h1 h2 h3 h4 h5 h6 => exact .shut h1 h2 h3 h4 h5 (hI _ _ h6)
  | quit h0 h1 h2 => exact .quit h0 h1 h2
end Go.X
namespace Go.X
open Go Go.Conc
section
variable {P : Program} {gs : Array Goroutine} {w w₁ : World} {sl : Option (Nat × Nat)} {i j : Nat} {g g₂ gj : Goroutine} {es : Array Event} {c e cap s r s' r' : Nat} {tm tm' closed : Bool} {v z z1 z2 : Value}
  {shape shj : CommShape}
abbrev two (c e : Nat) (v z1 z2 : Value) : Array CommCase := #[scase c v z1, rcase e z2]
theorem offers_two_send (g : Goroutine) (r : Nat) : offersAt (parked g (two c e v z1 z2) shape) r true = if c = r then [0] else [] := by
  by_cases h : c = r <;> simp [offersAt, parked, two, scase, rcase, h, Array.zipIdx]
theorem offers_two_recv (g : Goroutine) (r : Nat) : offersAt (parked g (two c e v z1 z2) shape) r false = if e = r then [1] else [] := by
  by_cases h : e = r <;> simp [offersAt, parked, two, scase, rcase, h, Array.zipIdx]
theorem recv_meets_two (hi : gs[i]? = some g) (h : stepG P (i == 0) g w = .comm g₂ #[rcase c z] true shape w₁ es) (hc : w₁.heap[c]? = some (.chan 0 #[] false s r tm))
    (hij : j ≠ i) (hj : gs[j]? = some (parked gj (two c e v z1 z2) shj)) (hp : partners (gs.setIfInBounds i ph) c true = [(j, 0)]) :
    runT P (crowd gs w sl) i = (.next (crowd ((gs.setIfInBounds j (gj.finishComm P (two c e v z1 z2) shj 0 undef false)).setIfInBounds i (g₂.finishComm P #[rcase c z] shape 0 v true)) (w₁.setChan c 0 #[] false (s + 1) (r + 1) tm) sl),
      MemOp.ofEvents i g.frame.fn g.frame.place es ++ #[{ g := j, fn := gj.frame.fn, pos := gj.frame.place, act := .send c s }, { g := i, fn := g₂.frame.fn, pos := g₂.frame.place, act := .recv c r 0 },
        { g := j, fn := gj.frame.fn, pos := gj.frame.place, act := .sendDone c s }, { g := i, fn := g₂.frame.fn, pos := g₂.frame.place, act := .recvDone c r }]) := by
  rw [runT_crowd_comm hi h]
  have hj' := stand_get (i := i) hij hj
  have hfp := finishPartner_at P (gs.setIfInBounds i ph) hj' (cs := two c e v z1 z2) (sh := shj) rfl 0 undef
  have hgd : (gs.setIfInBounds i ph).getD j default = parked gj (two c e v z1 z2) shj := by rw [Array.getD_eq_getD_getElem?, hj']; rfl
  have hov : offeredValue (gs.setIfInBounds i ph) j 0 = v := by simp [offeredValue, hj', parked, scase, two]
  simp [communicate, ways, rcase, hc, hp, choose, Sem.run, Question.forced, bind, Sem.bind, pure, World.setChan, crowd, hfp, hgd, hov, set_stand2, finishComm_parked, scase, parked, two]
  rfl
theorem two_meets_recv (hi : gs[i]? = some g) (h : stepG P (i == 0) g w = .comm g₂ (two c e v z1 z2) true shape w₁ es) (hc : w₁.heap[c]? = some (.chan 0 #[] false s r tm))
    (ho : NoWays w₁ (gs.setIfInBounds i ph) (rcase e z2)) (hij : j ≠ i) (hj : gs[j]? = some (parked gj #[rcase c z] shj)) (hp : partners (gs.setIfInBounds i ph) c false = [(j, 0)]) :
    runT P (crowd gs w sl) i = (.next (crowd ((gs.setIfInBounds j (gj.finishComm P #[rcase c z] shj 0 v true)).setIfInBounds i (g₂.finishComm P (two c e v z1 z2) shape 0 undef false)) (w₁.setChan c 0 #[] false (s + 1) (r + 1) tm) sl),
      MemOp.ofEvents i g.frame.fn g.frame.place es ++ #[{ g := i, fn := g₂.frame.fn, pos := g₂.frame.place, act := .send c s }, { g := j, fn := gj.frame.fn, pos := gj.frame.place, act := .recv c r 0 },
        { g := i, fn := g₂.frame.fn, pos := g₂.frame.place, act := .sendDone c s }, { g := j, fn := gj.frame.fn, pos := gj.frame.place, act := .recvDone c r }]) := by
  have hk : (two c e v z1 z2)[0]? = some (scase c v z1) := rfl
  have hw : ways w₁ (gs.setIfInBounds i ph) (scase c v z1) = [.partner j 0] := by simp [ways, scase, hc, hp]
  have hj' := stand_get (i := i) hij hj
  have hfp := finishPartner_at P (gs.setIfInBounds i ph) hj' (cs := #[rcase c z]) (sh := shj) rfl 0 v
  have hgd : (gs.setIfInBounds i ph).getD j default = parked gj #[rcase c z] shj := by rw [Array.getD_eq_getD_getElem?, hj']; rfl
  have hoth : ∀ (m : Nat) (c' : CommCase), m ≠ 0 → (two c e v z1 z2)[m]? = some c' → NoWays w₁ (gs.setIfInBounds i ph) c' := by
    intro m c' hm hc'
    match m, hm, hc' with
    | 1, _, hc' => simp [two] at hc'; subst hc'; exact ho
    | m + 2, _, hc' => simp [two] at hc'
  rw [runT_crowd_comm hi h]
  unfold communicate
  simp only [ready_one hk (by rw [hw]; simp) hoth, hw]
  rw [if_neg]
  · simp [choose, Sem.run, Question.forced, bind, Sem.bind, pure, scase, crowd, hc, hfp, hgd, set_stand2, finishComm_parked, rcase, parked, World.setChan]
    rfl
  · rw [Bool.not_eq_true]; exact any_ill (made_of_one hk (made_send v z1 hc) hoth)
theorem two_closed (hi : gs[i]? = some g) (h : stepG P (i == 0) g w = .comm g₂ (two c e v z1 z2) true shape w₁ es) (he : w₁.heap[e]? = some (.chan 0 #[] true s r tm))
    (ho : NoWays w₁ (gs.setIfInBounds i ph) (scase c v z1)) (hp : partners (gs.setIfInBounds i ph) e true = []) :
    runT P (crowd gs w sl) i = (.next (crowd (gs.setIfInBounds i (g₂.finishComm P (two c e v z1 z2) shape 1 z2 false)) w₁ sl),
      MemOp.ofEvents i g.frame.fn g.frame.place es ++ #[{ g := i, fn := g₂.frame.fn, pos := g₂.frame.place, act := .recvClosed e }]) := by
  have hk : (two c e v z1 z2)[1]? = some (rcase e z2) := rfl
  have hoth : ∀ (m : Nat) (c' : CommCase), m ≠ 1 → (two c e v z1 z2)[m]? = some c' → NoWays w₁ (gs.setIfInBounds i ph) c' := by
    intro m c' hm hc'
    match m, hm, hc' with
    | 0, _, hc' => simp [two] at hc'; subst hc'; exact ho
    | 1, hm, _ => exact absurd rfl hm
    | m + 2, _, hc' => simp [two] at hc'
  exact crowd_sel_recv_closed hi h hk hoth he hp
theorem two_waits (hi : gs[i]? = some g) (h : stepG P (i == 0) g w = .comm g₂ (two c e v z1 z2) true shape w₁ es) (h1 : NoWays w₁ (gs.setIfInBounds i ph) (scase c v z1)) (h2 : NoWays w₁ (gs.setIfInBounds i ph) (rcase e z2)) :
    runT P (crowd gs w sl) i = (.next (crowd (gs.setIfInBounds i (parked g₂ (two c e v z1 z2) shape)) w₁ sl), MemOp.ofEvents i g.frame.fn g.frame.place es) :=
  crowd_waits hi h fun cc hcc => by
    simp only [two, List.mem_toArray, List.mem_cons, List.not_mem_nil, or_false] at hcc
    rcases hcc with rfl | rfl
    · exact h1
    · exact h2
theorem again_two_open (hc : w.heap[c]? = some (.chan 0 #[] false s r tm)) (he : w.heap[e]? = some (.chan 0 #[] false s' r' tm')) : (parked g (two c e v z1 z2) shape).again w = parked g (two c e v z1 z2) shape := by
  simp [Goroutine.again, parked, two, scase, rcase, hc, he]
theorem again_two_closed (he : w.heap[e]? = some (.chan 0 #[] true s' r' tm')) : (parked g (two c e v z1 z2) shape).again w = { parked g (two c e v z1 z2) shape with status := .running } := by
  simp [Goroutine.again, parked, two, scase, rcase, he]
end
end Go.X
