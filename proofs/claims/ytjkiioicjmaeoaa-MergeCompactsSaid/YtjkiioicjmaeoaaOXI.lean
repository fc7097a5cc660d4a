/- A company: what is held between two steps of the machine. No program in sight. -/
import Derived.Test.YtjkiioicjmaeoaaOXQ
import Derived.Test.YtjkiioicjmaeoaaOXT
import Derived.Conc.CrowdStepW
set_option linter.unusedVariables false
set_option linter.unusedSimpArgs false
namespace Go.X
open Go Go.Sx Go.Conc Go.ConcN
open Go.ConcR (KK wgBlock WgAt stA smA rd wr mk Payload Bk DC0)
section
variable {P : Program} {Post : Value → World → Prop} {W0 : World}
abbrev MIp (P : Program) (Post : Value → World → Prop) (W0 : World) : Goroutine → XW Gh → Prop := MI P kd W0 (SP P Post W0)
theorem mi_running {g : Goroutine} {x : XW Gh} (h : MIp P Post W0 g x) : g.status = .running := by
  refine MI.induct (sp_mono P Post W0) (T := fun g _ => g.status = .running) (fun g x hx => ?_) h
  rcases hx with hx | hx
  · exact hx.1
  · cases hx <;> assumption
theorem mi_family {α : Type} (Ok : α → Prop) (St : (α → Prop) → α → Prop) (hind : ∀ T : α → Prop, (∀ y, Ok y → St (fun z => Ok z ∧ T z) y → T y) → ∀ y, Ok y → T y)
    (hmono : ∀ I I' : α → Prop, (∀ y, I y → I' y) → ∀ y, St I y → St I' y) :
    ∀ (k : Nat) (T : (Nat → α) → Prop), (∀ F, (∀ i, i < k → Ok (F i) → St (fun y => Ok y ∧ T (ConcN.upd F i y)) (F i)) → T F) → ∀ F, T F := by
  intro k
  induction k with
  | zero => intro T h F; exact h F fun i hi => by omega
  | succ k ih =>
    intro T h F
    have key : ∀ y, Ok y → ∀ F : Nat → α, F k = y → T F := by
      refine hind _ fun y hy hst F e => ?_
      refine ih (fun F' => F' k = y → T F') (fun F' hs' e' => ?_) F e
      refine h F' fun i hi hok => ?_
      rcases Nat.lt_or_ge i k with hlt | hge
      · refine hmono _ _ (fun z hz => ⟨hz.1, hz.2 ?_⟩) _ (hs' i hlt hok)
        simp only [ConcN.upd]; rw [if_neg (by omega)]; exact e'
      · obtain rfl : i = k := by omega
        rw [e']
        exact hmono _ _ (fun z hz => ⟨hz.1, hz.2 _ (by simp [ConcN.upd])⟩) _ hst
    by_cases hk : Ok (F k)
    · exact key _ hk F rfl
    · refine ih (fun F' => ¬ Ok (F' k) → T F') (fun F' hs' hn => ?_) F hk
      refine h F' fun i hi hok => ?_
      rcases Nat.lt_or_ge i k with hlt | hge
      · refine hmono _ _ (fun z hz => ⟨hz.1, hz.2 ?_⟩) _ (hs' i hlt hok)
        simp only [ConcN.upd]; rw [if_neg (by omega)]; exact hn
      · obtain rfl : i = k := by omega
        exact absurd hok hn
end
structure Like (P : Program) (a r : Goroutine) : Prop where
  run : r.status = .running
  step : ∀ main w, stepG P main r w = stepG P main a w
  wake : mayWake P r = mayWake P a
  frame : r.frame = a.frame
theorem Like.refl {P : Program} {a : Goroutine} (h : a.status = .running) : Like P a a := ⟨h, fun _ _ => rfl, rfl, rfl⟩
theorem Like.tries {P : Program} {a : Goroutine} (h : a.status = .running) (cs : Array CommCase) (sh : CommShape) : Like P a { parked a cs sh with status := .running } := by
  refine ⟨rfl, fun main w => ?_, rfl, rfl⟩
  rw [stepG_tries]
  have : ({ a with status := .running } : Goroutine) = a := by cases a; simp at h; simp [h]
  rw [this]
inductive Ph
  | A (pk : Bool)
  | B (s f d : Nat)
  | Q (q : Nat)
def Ph.wd : Ph → WD
  | .A _ => ⟨7, 0, 0⟩
  | .B s f d => ⟨s, f, d⟩
  | .Q _ => ⟨1, 0, 0⟩
def Ph.isA : Ph → Prop
  | .A _ => True
  | _ => False
def Ph.isL : Ph → Prop
  | .A _ => True
  | .B s _ _ => s = 7
  | .Q _ => False
def Ph.isQ : Ph → Prop
  | .Q _ => True
  | _ => False
def tagOf (b : Bool) : Stg → CTag
  | .run | .off => .sp 0 4
  | .adm | .pend => .sp 0 3
  | .w0 _ => .anch
  | .w1 u => .w2 u
  | .reg => if b then .blk else .w3
  | .up => .w4
  | .fin => .ke
  | .ke => .acq
  | .done => .ret
def deafOf : Gh → Nat
  | .co c => match c.st with
    | .off | .adm | .w0 _ | .w1 _ | .reg | .up | .fin => 1
    | _ => 0
  | _ => 0
def shutAt (s : Bool) : Stg → Prop
  | .run | .off | .adm | .pend => True
  | _ => s = true
def openAt (s wn : Bool) : Stg → Prop
  | .off | .adm | .pend => s = false ∧ wn = false
  | .run => True
  | _ => wn = false
inductive MB | run | park (i : Nat) | blk
structure Cf where
  gs : Array Goroutine
  w : World
  sl : Option (Nat × Nat)
  t : Trace
  k : Nat
  mb : MB
  F : Nat → Goroutine × XW Gh
  ph : Nat → Ph
  o : Own4
def Cf.D (f : Cf) : Nat → WD := fun i => (f.ph (i + 1)).wd
def NoRelB (rl : Nat → Nat → Prop) (ad : Addr) (t : Trace) : Prop := ∀ i r, rl i r → ∀ y, r ≤ y → t.act? y ≠ some (.mark (.release ad))
theorem NoRelB.app {rl rl' : Nat → Nat → Prop} {ad : Addr} {t t' u : Trace} (h : NoRelB rl ad t) (ht : t' = t ++ u) (hrl : ∀ i r, rl' i r → rl i r) (hlt : ∀ i r, rl i r → r < t.size) (hu : ∀ op ∈ u, op.act ≠ .mark (.release ad)) : NoRelB rl' ad t' := by
  subst ht
  intro i r hr y hy he
  obtain ⟨op, ho, hoa⟩ := Option.map_eq_some_iff.1 he
  rcases getElem?_append_cases ho with ⟨hl, ho'⟩ | ⟨_, hou⟩
  · exact h i r (hrl i r hr) y hy (by simp [Trace.act?, ho', hoa])
  · exact hu op hou hoa
inductive Kept (P : Program) (ty : TypeId) (wg : Nat) : Goroutine → World → Prop
  | mk {g : Goroutine} {w : World} : (∀ w₁, RW ty wg wg 0 0 1 w w₁ → ∀ g' w' es, stepG P false g w₁ = .go g' w' es → (∀ e ∈ es, e.loc ≠ .mark .disable) → ∀ b, b ≠ wg → w'.heap[b]? = w₁.heap[b]?) →
      (∀ w₁, RW ty wg wg 0 0 1 w w₁ → ∀ g' w' es, stepG P false g w₁ = .go g' w' es → (∀ e ∈ es, e.loc ≠ .mark .disable) → Kept P ty wg g' w') → Kept P ty wg g w
theorem Kept.of {P : Program} {ty : TypeId} {wg : Nat} {g : Goroutine} {w : World} (h : ∀ w₁, RW ty wg wg 0 0 1 w w₁ → ∀ g' w' es, stepG P false g w₁ = .go g' w' es → (∀ e ∈ es, e.loc ≠ .mark .disable) → (∀ b, b ≠ wg → w'.heap[b]? = w₁.heap[b]?) ∧ Kept P ty wg g' w') : Kept P ty wg g w :=
  .mk (fun w₁ a g' w' es b c => (h w₁ a g' w' es b c).1) fun w₁ a g' w' es b c => (h w₁ a g' w' es b c).2
theorem Kept.of_k1 {P : Program} {ty : TypeId} {wg : Nat} : ∀ {m : Nat} {g : Goroutine} {w : World}, Goes P false (RW ty wg wg 0 0 1) DC0 (AtK1 P ty wg wg 0 0 2) m g w → Kept P ty wg g w := by
  intro m
  induction m with
  | zero =>
    intro g w h
    refine .of fun w₁ hr g' w' es hs hd => ?_
    obtain ⟨_, g2, h2, _⟩ := h w₁ hr
    rw [hs] at h2; cases h2
    exact absurd rfl (hd (Go.ConcR.mk .disable) (by simp))
  | succ m ih =>
    intro g w h
    refine .of fun w₁ hr g' w' es hs hd => ?_
    rcases h with h | ⟨_, h⟩
    · obtain ⟨_, g2, h2, _⟩ := h w₁ hr
      rw [hs] at h2; cases h2
      exact absurd rfl (hd (Go.ConcR.mk .disable) (by simp))
    · have := h w₁ hr
      rw [hs, goes_go] at this
      obtain ⟨⟨rfl, _⟩, h3⟩ := this
      exact ⟨fun _ _ => rfl, ih h3⟩
theorem Kept.of_r0 {P : Program} {ty : TypeId} {wg : Nat} {v : Value} : ∀ {m : Nat} {g : Goroutine} {w : World}, Goes P false (RW ty wg wg 0 0 1) (DWs wg (fun _ _ => False) (fun _ _ => False) wg 0 2) (AtR0 P ty wg wg 0 0 2 v) m g w → Kept P ty wg g w := by
  intro m
  induction m with
  | zero =>
    intro g w h
    refine .of fun w₁ hr g' w' es hs hd => ?_
    obtain ⟨_, _, g2, h2, m2, h3⟩ := h w₁ hr
    rw [hs] at h2; cases h2
    exact ⟨fun _ _ => rfl, .of_k1 h3⟩
  | succ m ih =>
    intro g w h
    refine .of fun w₁ hr g' w' es hs hd => ?_
    rcases h with h | ⟨_, h⟩
    · obtain ⟨_, _, g2, h2, m2, h3⟩ := h w₁ hr
      rw [hs] at h2; cases h2
      exact ⟨fun _ _ => rfl, .of_k1 h3⟩
    · have := h w₁ hr
      rw [hs, goes_go] at this
      obtain ⟨⟨ha, _⟩, h3⟩ := this
      exact ⟨ha.block, ih h3⟩
theorem Kept.rely {P : Program} {ty : TypeId} {wg : Nat} {g : Goroutine} {w w' : World} (h : Kept P ty wg g w) (hr : RW ty wg wg 0 0 1 w w') : Kept P ty wg g w' := by
  cases h with
  | mk h h' => exact .mk (fun w₁ h1 => h w₁ (hr.trans h1)) fun w₁ h1 => h' w₁ (hr.trans h1)
def BSit (P : Program) (c : Co) (s f d : Nat) (r : Goroutine) (w : World) : Prop :=
  ∃ (C : Nat) (cs : Array Value) (T : TypeId) (fz : Nat × Nat) (v : Value), c.base C = some (.cells cs T fz) ∧ cs[0]? = some v ∧ WSit P c.ty c.wg C 0 (fun _ _ => False) (fun _ _ => False) 0 1 v s f d r w ∧ (s = 7 → Kept P c.ty c.wg r w)
section
variable (P : Program) (Post : Value → World → Prop) (W0 : World)
inductive MRec (a : Goroutine) (x : XW Gh) : MB → Goroutine → Prop
  | run {r : Goroutine} : Like P a r → MRec a x .run r
  | park {c : Co} {i : Nat} {s : Snd} {z : Value} : x.s = .co c → c.st = .run → c.shut = false → c.snd[i]? = some s → (c.wn = true → i + 1 = c.snd.length) →
      (∀ w, Env W0 w → x.m.le (rp w) → stepG P true a w = .comm a #[rcase s.ch z] true (.recv true) w #[]) → a.status = .running → MRec a x (.park i) (parked a #[rcase s.ch z] (.recv true))
  | blk {c : Co} : x.s = .co c → c.st = .reg → a.status = .running → a.offers = none → MRec a x .blk { a with status := .blocked }
def RA (y : Goroutine × XW Gh) (pk : Bool) (r : Goroutine) : Prop :=
  (pk = false ∧ Like P y.1 r) ∨ (pk = true ∧ ∃ c v vs z1 z2, y.2.s = .snd c ∧ c.rem = v :: vs ∧ c.off = false ∧ c.closed = false ∧ y.1.status = .running ∧
    (∀ w, Env W0 w → y.2.m.le (rp w) → stepG P false y.1 w = .comm y.1 (two c.ch c.ech v z1 z2) true .select w #[]) ∧ r = parked y.1 (two c.ch c.ech v z1 z2) .select ∧
    MIp P Post W0 (y.1.finishComm P (two c.ch c.ech v z1 z2) .select 0 undef false) ⟨y.2.m, .snd { c with rem := vs, fst := false }⟩)
structure Inv1 (f : Cf) (a : Goroutine) (x : XW Gh) : Prop where
  size : f.gs.size = f.k + 1
  env : Env W0 f.w
  main : ∃ r, f.gs[0]? = some r ∧ MRec P W0 a x f.mb r
  ra : ∀ i pk, 1 ≤ i → i ≤ f.k → f.ph i = .A pk → ∃ r, f.gs[i]? = some r ∧ RA P Post W0 (f.F i) pk r
  rq : ∀ i q, 1 ≤ i → i ≤ f.k → f.ph i = .Q q → ∃ r, f.gs[i]? = some r ∧ QuitsD P q (Deaf f.t i) r
  mi : ∀ i, 1 ≤ i → i ≤ f.k → (f.ph i).isA → MIp P Post W0 (f.F i).1 (f.F i).2
  d0 : Deaf f.t 0 = deafOf x.s
  da : ∀ i, 1 ≤ i → i ≤ f.k → (f.ph i).isA → Deaf f.t i = 0
  ok : f.o.k = f.k
  oM0 : f.o.M 0 = x.m
  oMa : ∀ i, 1 ≤ i → i ≤ f.k → (f.ph i).isA → f.o.M i = (f.F i).2.m
  oMn : ∀ i, 1 ≤ i → (f.k < i ∨ ¬ (f.ph i).isA) → f.o.M i = Heap.empty
  lv : ∀ i, f.o.lv i ↔ 1 ≤ i ∧ i ≤ f.k ∧ (f.ph i).isL
  cp : ∀ i, f.o.cp i ↔ 1 ≤ i ∧ i ≤ f.k ∧ ¬ (f.ph i).isQ
  apart : f.o.Apart f.w.heap.size
  mem : ∀ i, (f.o.M i).le (rp f.w)
  mbase : f.o.base.le (rp f.w)
  mwin : f.o.win.le (rp f.w)
  tok : TOk f.o f.w.heap.size f.t
structure Inv2 (f : Cf) (x : XW Gh) (c : Co) (j0 : Nat) : Prop where
  k : f.k = j0 + c.snd.length
  old : ∀ i, 1 ≤ i → i ≤ j0 → (f.ph i).isQ
  base : f.o.base = c.base
  win : f.o.win = c.win
  wi : c.wn = true → f.o.wi = f.k ∧ 1 ≤ c.snd.length
  wn : c.wn = false → c.win = Heap.empty
  ech : f.o.Sh c.ech ∧ ∃ s r, f.w.heap[c.ech]? = some (.chan 0 #[] c.shut s r false)
  wg : f.o.Sh c.wg ∧ c.wg ≠ c.ech
  mode : ∃ st sm, WgAt c.ty c.wg f.w st sm ∧ ConcN.Mode f.k f.D (tagOf (match f.mb with | .blk => true | _ => false) c.st) st sm
  park : ∀ i, f.mb = .park i → ∃ q, f.ph (j0 + 1 + i) = .A false ∧ (f.F (j0 + 1 + i)).2.s = .snd q ∧ q.closed = false ∧ i < c.snd.length
  bnd : ∀ n, c.st = .w0 n → Vc f.k f.D ≤ n
  shut : shutAt c.shut c.st
  open_ : openAt c.shut c.wn c.st
  ch : ∀ (i : Nat) (s : Snd), c.snd[i]? = some s → f.o.Sh s.ch ∧ s.ch ≠ c.ech ∧ s.ch ≠ c.wg ∧ (∀ (i' : Nat) (s' : Snd), c.snd[i']? = some s' → s'.ch = s.ch → i' = i)
  pk : ∀ i, 1 ≤ i → i ≤ f.k → f.ph i = .A true → c.shut = false
  cha : ∀ (i : Nat) (s : Snd) pk, c.snd[i]? = some s → f.ph (j0 + 1 + i) = .A pk → ∃ q, (f.F (j0 + 1 + i)).2.s = .snd q ∧ q.ty = c.ty ∧ q.ech = c.ech ∧ q.wg = c.wg ∧ q.base = c.base ∧ q.ch = s.ch ∧ (q.off = false → q.rem = s.rem) ∧ (q.off = true → c.shut = true) ∧
    (q.closed = true → q.rem = [] ∨ q.off = true) ∧ (q.fst = true → c.wn = true ∧ i + 1 = c.snd.length ∧ q.win = c.win ∧ q.closed = false) ∧ (∃ n, f.w.heap[s.ch]? = some (.chan 0 #[] q.closed n n false)) ∧
    (q.closed = true → ∃ p, f.t.act? p = some (.close s.ch) ∧ f.t.heard p ∧ (c.wn = true → i + 1 = c.snd.length → ∀ y a b, touchAt f.t y = some a → blk a.loc = some b → c.win b ≠ none → Knows f.t 0 y ∨ Before f.t y p))
  chb : ∀ (i : Nat) (s : Snd), c.snd[i]? = some s → ¬ (f.ph (j0 + 1 + i)).isA → (s.rem = [] ∨ c.shut = true) ∧ (∃ n, f.w.heap[s.ch]? = some (.chan 0 #[] true n n false)) ∧
    ∃ p, f.t.act? p = some (.close s.ch) ∧ f.t.heard p ∧ (c.wn = true → i + 1 = c.snd.length → ∀ y a b, touchAt f.t y = some a → blk a.loc = some b → c.win b ≠ none → Knows f.t 0 y ∨ Before f.t y p)
  b : ∀ i s g d, f.ph i = .B s g d → j0 < i → i ≤ f.k → Deaf f.t i = d ∧ ∃ r, f.gs[i]? = some r ∧ BSit P c s g d r f.w
  b7 : ∀ i s g d, f.ph i = .B s g d → j0 < i → i ≤ f.k → s ≤ 6 → ∃ r, f.o.rl i r
  rel : ∀ i r, f.o.rl i r → j0 < i ∧ i ≤ f.k ∧ ¬ (f.ph i).isL ∧ RelBy (stA c.wg) f.t i r
  nor : NoRelB f.o.rl (stA c.wg) f.t
  acq : c.st = .done → ∀ i r, f.o.rl i r → Knows f.t 0 r
  few : c.snd.length + 1 < 2147483648
  ac : ∀ (i : Nat) (s : Snd), c.snd[i]? = some s → f.o.ac (j0 + 1 + i) c.ech ∧ f.o.ac (j0 + 1 + i) c.wg ∧ f.o.ac (j0 + 1 + i) s.ch
end
end Go.X
