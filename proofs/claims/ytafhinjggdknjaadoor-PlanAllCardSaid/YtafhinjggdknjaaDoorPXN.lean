/- A company: the starter's special steps. No program in sight. -/
import Derived.Test.YtafhinjggdknjaaDoorPXM
set_option linter.unusedVariables false
set_option linter.unusedSimpArgs false
namespace Go.X
open Go Go.Sx Go.Conc Go.ConcN
open Go.ConcR (KK wgBlock WgAt stA smA rd wr mk Payload Bk)
section
variable {P : Program} {Post : Value → World → Prop} {W0 : World}
def EvS (c : Co) (e : Event) : Prop := (∃ o w, e = ⟨.cell ⟨c.cy.wg, o, none⟩, w, true⟩) ∨ (∃ w, e = ⟨.obj c.cy.dl, w, true⟩) ∨ ∃ μ, e = mk μ ∧ (μ = .disable ∨ μ = .enable ∨ μ = .acquire (stA c.cy.wg) ∨ μ = .read (smA c.cy.wg) ∨ μ = .write (smA c.cy.wg))
theorem main_spc {f : Cf} {a g' : Goroutine} {m : Heap} {c c' : Co} {j0 : Nat} (h1 : Inv1 P Post W0 f a ⟨m, .co c⟩) (h2 : Inv2 P f ⟨m, .co c⟩ c j0) {r : Goroutine} (hr : f.gs[0]? = some r) (hl : Like P a r) {w' : World} {es : Array Event} {ph' : Nat → Ph}
    (hg' : MIp P Post W0 g' ⟨m, .co c'⟩) (hwk : Wakes P f r g' w' ph') (hout : ∀ j, (j = 0 ∨ f.k < j) → ph' j = f.ph j) (henv : Env W0 w') (hheap : ∀ b, b ≠ c.cy.wg → b ≠ c.cy.dl → w'.heap[b]? = f.w.heap[b]?) (hsz : w'.heap.size = f.w.heap.size) (hes : ∀ e ∈ es, EvS c e)
    (hd : deafBehind (deafOf (.co c)) es = deafOf (.co c')) (hc : c'.cy = c.cy ∧ c'.wk = c.wk ∧ (c.shut = true → c'.shut = true))
    (hech : ∃ n, w'.heap[c.cy.dl]? = some (.chan 0 #[] c'.shut n n false)) (hmode : ∃ st sm, WgAt c.cy.ty c.cy.wg w' st sm ∧ ConcN.Mode f.k f.D (tagOf false c'.st) st sm) (hbnd : ∀ n, c'.st = .w0 n → Vc f.k f.D ≤ n)
    (hshut : shutAt c'.shut c'.st) (hidle : c'.shut = true → ∀ (i : Nat) (o : Option Nat), c.wk[i]? = some o → o = none)
    (hpk : ∀ i, 1 ≤ i → i ≤ f.k → ph' i = .A true → c'.shut = false) (hacq : c'.st = .done → ∀ i rr, f.o.rl i rr → Knows (f.t ++ MemOp.ofEvents 0 r.frame.fn r.frame.place es) 0 rr) (hnx : c'.nx = c.nx := by rfl) :
    Inv P Post W0 { f with gs := (f.gs.map (woken P r g' w')).setIfInBounds 0 g', w := w', t := f.t ++ MemOp.ofEvents 0 r.frame.fn r.frame.place es, mb := .run, ph := ph', o := { f.o with M := ConcN.upd f.o.M 0 m } } g' ⟨m, .co c'⟩ := by
  have hwgl : c.cy.wg < f.w.heap.size := h1.apart.sh _ h2.wg
  have hechl : c.cy.dl < f.w.heap.size := h1.apart.sh _ h2.dl.1
  have hmay : ∀ e ∈ es, ∀ t, (MemAct.ofEvent e).touch? = some t → f.o.May f.w.heap.size 0 t := fun e he t ht b hb => by
    right; right
    rcases hes e he with ⟨o, w, rfl⟩ | ⟨w, rfl⟩ | ⟨μ, rfl, hμ⟩
    · simp only [MemAct.ofEvent, MemAct.touch?, Option.some.injEq] at ht
      subst ht
      simp only [blk, Option.some.injEq] at hb
      subst hb
      exact ⟨h2.wg, by simp, fun hh => by simp at hh, .inl rfl⟩
    · cases w <;> simp only [MemAct.ofEvent, MemAct.touch?, Option.some.injEq, reduceCtorEq] at ht
      subst ht
      simp only [blk, Option.some.injEq] at hb
      subst hb
      exact ⟨h2.dl.1, by simp, fun hh => by simp at hh, .inl rfl⟩
    · rcases hμ with rfl | rfl | rfl | rfl | rfl <;> simp only [mk, MemAct.ofEvent, MemAct.touch?, Option.some.injEq, reduceCtorEq] at ht
      all_goals
        subst ht
        simp only [blk, smA, Option.some.injEq] at hb
        subst hb
        exact ⟨h2.wg, by simp, fun _ => rfl, .inl rfl⟩
  have hlow : ∀ e ∈ es, (MemAct.ofEvent e).low w'.heap.size := fun e he => by
    rw [hsz]
    rcases hes e he with ⟨o, w, rfl⟩ | ⟨w, rfl⟩ | ⟨μ, rfl, hμ⟩
    · exact hwgl
    · cases w <;> exact hechl
    · rcases hμ with rfl | rfl | rfl | rfl | rfl <;> first | trivial | exact hwgl
  have hops : ∀ op ∈ MemOp.ofEvents 0 r.frame.fn r.frame.place es, op.g = 0 := fun op hop => by obtain ⟨e, _, rfl⟩ := ofEvents_mem hop; rfl
  have hx0 : f.o.M 0 = m := h1.oM0
  have hmn : ∀ b, m b ≠ none → b ≠ c.cy.wg ∧ b ≠ c.cy.dl := fun b hb => by
    have := (h1.apart.mem 0 b (by rw [hx0]; exact hb)).2.2.1
    exact ⟨fun e => this (e ▸ h2.wg), fun e => this (e ▸ h2.dl.1)⟩
  have hm0 : m.le (rp f.w) := by have := h1.mem 0; rwa [hx0] at this
  have hm' : m.le (rp w') := fun b o hb => by
    have := hmn b (by rw [hb]; simp)
    show w'.heap[b]? = some o
    rw [hheap b this.1 this.2]; exact hm0 b o hb
  refine ⟨main_go1 (x' := ⟨m, .co c'⟩) h1 hr hl (mi_running hg') hwk henv (fun b hb hn hsh => hheap b (fun e => hsh (e ▸ h2.wg)) (fun e => hsh (e ▸ h2.dl.1))) (by omega) hm' (fun b hb => .inl hb) hmay (fun e he => .of (hlow e he)) hd, j0, ?_⟩
  refine inv2_next (u := MemOp.ofEvents 0 r.frame.fn r.frame.place es) h2 hc rfl (fun i => ?_) (fun i _ => rfl) ⟨rfl, rfl, rfl, rfl, rfl⟩ (fun b hb h3 h4 => hheap b h3 h4) (base_ne h1 h2) hech hmode (fun i hi => by cases hi) hbnd hshut hidle hpk rfl
    (fun i s g d hi hp => Deaf_other _ (g' := 0) (by omega) _ hops) (fun i rr hi hrel => hrel.appOther hops (by have := (h2.rel i rr hi).1; omega)) (fun op hop he => ?_) (fun i s g d rr hi hp hg hwk => ?_) hacq hnx
  · by_cases hj : 1 ≤ i ∧ i ≤ f.k
    · rcases hwk.ph hj.1 hj.2 with e | ⟨e1, e2⟩
      · exact .inl e
      · exact .inr (.inl ⟨_, _, e1, e2⟩)
    · exact .inl (hout i (by omega))
  · obtain ⟨e, hee, rfl⟩ := ofEvents_mem hop
    rcases hes e hee with ⟨o, w, rfl⟩ | ⟨w, rfl⟩ | ⟨μ, rfl, hμ⟩
    · simp [MemAct.ofEvent] at he
    · cases w <;> simp [MemAct.ofEvent] at he
    · rcases hμ with rfl | rfl | rfl | rfl | rfl <;> simp [mk, MemAct.ofEvent] at he
  · show ((f.gs.map (woken P r g' w')).setIfInBounds 0 g')[i]? = some rr
    rw [get_set_map (by omega), hg]
    exact congrArg some (hwk _ _ _)
theorem Vc_le {j0 : Nat} {D : Nat → WD} : ∀ {n : Nat}, (∀ i, i < j0 → cnt (D i) = 0) → Vc (j0 + n) D ≤ n
  | 0, h => by
    have : ∀ {j : Nat}, (∀ i, i < j → cnt (D i) = 0) → Vc j D = 0 := fun {j} => by
      induction j with
      | zero => intro _; rfl
      | succ j ih => intro h; simp only [Vc, sumTo] at ih ⊢; rw [ih fun i hi => h i (by omega), h j (by omega)]
    rw [Nat.add_zero, this h]; exact Nat.le_refl _
  | n + 1, h => by
    have := Vc_le (n := n) h
    show Vc (j0 + n + 1) D ≤ n + 1
    simp only [Vc, sumTo] at this ⊢
    have hc : cnt (D (j0 + n)) ≤ 1 := by unfold cnt; split <;> omega
    omega
theorem vc_bound {f : Cf} {x : XW Gh} {c : Co} {j0 : Nat} (h2 : Inv2 P f x c j0) : Vc f.k f.D ≤ c.wk.length := by
  rw [h2.k]
  refine Vc_le fun i hi => ?_
  have := h2.old (i + 1) (by omega) (by omega)
  cases hp : f.ph (i + 1) <;> rw [hp] at this <;> first | exact this.elim | skip
  simp [cnt, Cf.D, hp, Ph.wd]
theorem mode_open {k : Nat} {D : Nat → WD} {tag : CTag} {st sm : Int} (h : ConcN.Mode k D tag st sm) (ht : isOpen tag) : OpenSt k D ∧ st = ((Vc k D + pend tag : Nat) : Int) * KK ∧ sm = 0 ∧ (∀ vs, tag = .w2 vs → Vc k D ≤ vs ∧ 1 ≤ vs) := by
  cases h with
  | opn _ h2 h3 => exact ⟨h2, rfl, rfl, h3⟩
  | reg h _ _ => cases tag <;> first | exact h.elim | exact ht.elim
  | last L h _ _ _ => cases tag <;> first | exact h.elim | exact ht.elim
  | sema _ => exact ht.elim
  | fin h _ => cases tag <;> first | exact h.elim | exact ht.elim
theorem mode_fin {k : Nat} {D : Nat → WD} {tag : CTag} {st sm : Int} (h : ConcN.Mode k D tag st sm) (ht : isFin tag) : AllQuit k D ∧ st = 0 ∧ sm = 0 := by
  cases h with
  | opn h _ _ => cases tag <;> first | exact h.elim | exact ht.elim
  | reg h _ _ => cases tag <;> first | exact h.elim | exact ht.elim
  | last L h _ _ _ => cases tag <;> first | exact h.elim | exact ht.elim
  | sema _ => exact ht.elim
  | fin _ h2 => exact ⟨h2, rfl, rfl⟩
theorem allQuit_of {k : Nat} {D : Nat → WD} (h : OpenSt k D) (hv : Vc k D = 0) : AllQuit k D := fun i hi => by
  have hc : cnt (D i) = 0 := by
    have := le_sumTo (f := fun i => cnt (D i)) hi
    simp only [Vc] at hv
    omega
  rcases h i hi with e | e | e | e
  · simp [cnt, e] at hc
  · simp [cnt, e] at hc
  · simp [cnt, e] at hc
  · exact e
abbrev mainNext (P : Program) (f : Cf) (r g' : Goroutine) (w' : World) (es : Array Event) (ph' : Nat → Ph) (m : Heap) : Cf :=
  { f with gs := (f.gs.map (woken P r g' w')).setIfInBounds 0 g', w := w', t := f.t ++ MemOp.ofEvents 0 r.frame.fn r.frame.place es, mb := .run, ph := ph', o := { f.o with M := ConcN.upd f.o.M 0 m } }
theorem spc_mark {f : Cf} {a g' : Goroutine} {m : Heap} {c : Co} {j0 : Nat} (h1 : Inv1 P Post W0 f a ⟨m, .co c⟩) (h2 : Inv2 P f ⟨m, .co c⟩ c j0) (hmb : f.mb = .run) {r : Goroutine} (hr : f.gs[0]? = some r) (hl : Like P a r) {μ : Mark} {st : Stg} (hμ : Marks c μ st)
    (hg' : MIp P Post W0 g' ⟨m, .co { c with st := st }⟩) : Inv P Post W0 (mainNext P f r g' f.w #[mk μ] f.ph m) g' ⟨m, .co { c with st := st }⟩ := by
  obtain ⟨s0, sm0, hw, hm⟩ := h2.mode
  rw [hmb] at hm
  have hops : ∀ op ∈ MemOp.ofEvents 0 r.frame.fn r.frame.place #[mk μ], op.g = 0 := fun op hop => by obtain ⟨e, _, rfl⟩ := ofEvents_mem hop; rfl
  have hd0 : Deaf f.t 0 = deafOf (.co c) := h1.d0
  refine main_spc (c' := { c with st := st }) h1 h2 hr hl hg' (wakes_keep h1 h2 (fun _ _ _ => rfl)) (fun _ _ => rfl) h1.env (fun _ _ _ => rfl) rfl (fun e he => ?_) ?_ ⟨rfl, rfl, id⟩ h2.dl.2 ⟨s0, sm0, hw, ?_⟩ ?_ ?_ h2.idle (fun i a b hp => ?_) ?_
  · simp only [List.mem_toArray, List.mem_singleton] at he
    subst he
    right; right
    cases hμ <;> exact ⟨_, rfl, by simp⟩
  · cases hμ <;> simp_all [deafOf, deafBehind, mk]
  · cases hμ with
    | off e _ => rw [e] at hm; exact hm
    | on e => rw [e] at hm; exact hm
    | wait e _ =>
      rw [e] at hm
      obtain ⟨k1, k2, k3, _⟩ := mode_open hm trivial
      subst k2 k3
      exact .opn trivial k1 (fun vs he => by cases he)
    | ke e => rw [e] at hm; obtain ⟨k1, rfl, rfl⟩ := mode_fin hm trivial; exact .fin trivial k1
    | acq e => rw [e] at hm; obtain ⟨k1, rfl, rfl⟩ := mode_fin hm trivial; exact .fin trivial k1
    | rd e => rw [e] at hm; exact hm
    | wr e => rw [e] at hm; exact hm
  · intro n hn
    cases hμ <;> first | cases hn | skip
    exact vc_bound h2
  · have hs := h2.shut
    cases hμ with
    | off e h3 => exact h3
    | on e => rw [e] at hs; exact hs
    | wait e hsh => exact hsh
    | ke e => rw [e] at hs; exact hs
    | acq e => rw [e] at hs; exact hs
    | rd e => rw [e] at hs; exact hs
    | wr e => rw [e] at hs; exact hs
  · exact h2.pk i a b hp
  · intro hdone i rr hrl
    cases hμ <;> first | cases hdone | skip
    rename_i e
    obtain ⟨_, _, _, hrel⟩ := h2.rel i rr hrl
    have hst : Deaf f.t 0 = 0 := by rw [hd0]; simp [deafOf, e]
    have hrs := lt_of_act? hrel.act
    have hsz : (MemOp.ofEvents 0 r.frame.fn r.frame.place #[mk (.acquire (stA c.cy.wg))]) = #[{ g := 0, fn := r.frame.fn, pos := r.frame.place, act := .mark (.acquire (stA c.cy.wg)) }] := by rw [ofEvents_eq]; simp [mk, MemAct.ofEvent]
    rw [hsz]
    have hlast : (f.t ++ #[({ g := 0, fn := r.frame.fn, pos := r.frame.place, act := .mark (.acquire (stA c.cy.wg)) } : MemOp)])[f.t.size]? = some { g := 0, fn := r.frame.fn, pos := r.frame.place, act := .mark (.acquire (stA c.cy.wg)) } := by
      rw [Array.getElem?_append_right (Nat.le_refl _)]; simp
    refine ⟨f.t.size, _, hlast, rfl, .inr (.single (.inr ⟨.marked (a := stA c.cy.wg) hrs (.inr (by rw [act?_old hrs]; exact hrel.act)) (act?_of hlast) (fun k hk1 hk2 => by rw [act?_old hk2]; exact h2.nor i rr hrl k (Nat.le_of_lt hk1)), (heard_old hrs).2 hrel.heard, ⟨0, by simp [Trace.g?, hlast], ?_⟩⟩))⟩
    rw [deaf_old (Nat.le_refl _)]
    exact hst
theorem cell_other {w : World} {ad : Addr} {v : Value} {b : Nat} (h : b ≠ ad.block) : (w.setCell ad v).heap[b]? = w.heap[b]? := by
  unfold World.setCell; simp [Array.getElem?_modify, Ne.symm h]
theorem cell_size (w : World) (ad : Addr) (v : Value) : (w.setCell ad v).heap.size = w.heap.size := by simp [World.setCell]
theorem spc_wg {f : Cf} {a g' : Goroutine} {m : Heap} {c : Co} {j0 : Nat} {st : Stg} (h1 : Inv1 P Post W0 f a ⟨m, .co c⟩) (h2 : Inv2 P f ⟨m, .co c⟩ c j0) {r : Goroutine} (hr : f.gs[0]? = some r) (hl : Like P a r) {w' : World} {es : Array Event}
    (hg' : MIp P Post W0 g' ⟨m, .co { c with st := st }⟩) (henv : w'.os = f.w.os ∧ w'.tape = f.w.tape ∧ w'.output = f.w.output) (hheap : ∀ b, b ≠ c.cy.wg → w'.heap[b]? = f.w.heap[b]?) (hsz : w'.heap.size = f.w.heap.size) (hes : ∀ e ∈ es, EvS c e)
    (hd : deafBehind (deafOf (.co c)) es = deafOf (.co { c with st := st })) (hmode : ∃ s sm, WgAt c.cy.ty c.cy.wg w' s sm ∧ ConcN.Mode f.k f.D (tagOf false st) s sm) (hbnd : ∀ n, st = .w0 n → Vc f.k f.D ≤ n)
    (hshut : shutAt c.shut st) (hnd : st ≠ .done) :
    Inv P Post W0 (mainNext P f r g' w' es f.ph m) g' ⟨m, .co { c with st := st }⟩ := by
  refine main_spc (c' := { c with st := st }) h1 h2 hr hl hg' (wakes_keep h1 h2 (fun b _ hb => hheap b hb)) (fun _ _ => rfl) ⟨henv.1.trans h1.env.os, henv.2.1.trans h1.env.tape, henv.2.2.trans h1.env.out⟩ (fun b hb _ => hheap b hb) hsz hes hd ⟨rfl, rfl, id⟩ ?_ hmode hbnd hshut h2.idle (fun i a b hp => h2.pk i a b hp) (fun hh => absurd hh hnd)
  · obtain ⟨n, he⟩ := h2.dl.2
    exact ⟨n, by rw [hheap _ (Ne.symm h2.ne.2.1)]; exact he⟩
theorem ev_rdwr {c : Co} {o : Nat} : ∀ e ∈ #[rd ⟨c.cy.wg, o, none⟩, wr ⟨c.cy.wg, o, none⟩], EvS c e := by
  intro e he
  simp only [List.mem_toArray, List.mem_cons, List.not_mem_nil, or_false] at he
  rcases he with rfl | rfl <;> exact .inl ⟨_, _, rfl⟩
theorem ev_rd {c : Co} {o : Nat} : ∀ e ∈ #[rd ⟨c.cy.wg, o, none⟩], EvS c e := by
  intro e he
  simp only [List.mem_toArray, List.mem_cons, List.not_mem_nil, or_false] at he
  subst he; exact .inl ⟨_, _, rfl⟩
theorem ev_sem {c : Co} : ∀ e ∈ semEvents (smA c.cy.wg), EvS c e := by
  intro e he
  simp only [semEvents, smA, List.mem_toArray, List.mem_cons, List.not_mem_nil, or_false] at he
  rcases he with rfl | rfl | rfl | rfl
  · exact .inr (.inr ⟨.disable, rfl, by simp⟩)
  · exact .inl ⟨_, _, rfl⟩
  · exact .inl ⟨_, _, rfl⟩
  · exact .inr (.inr ⟨.enable, rfl, by simp⟩)
theorem deaf_rd {ad : Addr} (d : Nat) : deafBehind d #[rd ad] = d := rfl
theorem deaf_rdwr {ad : Addr} (d : Nat) : deafBehind d #[rd ad, wr ad] = d := rfl
theorem deaf_sem {ad : Addr} (d : Nat) : deafBehind d (semEvents ad) = d := by simp [semEvents, deafBehind]
theorem mode_sema {k : Nat} {D : Nat → WD} {tag : CTag} {st sm : Int} (h : ConcN.Mode k D tag st sm) (hs : sm = 1) : AllQuit k D := by
  cases h with
  | opn _ _ _ => cases hs
  | reg _ _ _ => cases hs
  | last _ _ _ _ _ => cases hs
  | sema h => exact h
  | fin _ h => exact h
theorem spc_add {f : Cf} {a g' : Goroutine} {m : Heap} {c : Co} {j0 : Nat} (h1 : Inv1 P Post W0 f a ⟨m, .co c⟩) (h2 : Inv2 P f ⟨m, .co c⟩ c j0) (hmb : f.mb = .run) {r : Goroutine} (hr : f.gs[0]? = some r) (hl : Like P a r) (hst : c.st = .off)
    (hg' : MIp P Post W0 g' ⟨m, .co { c with st := .adm }⟩) : Inv P Post W0 (mainNext P f r g' (f.w.setCell (stA c.cy.wg) (.int .u64 ((Vc f.k f.D + 1 : Nat) * KK))) #[rd (stA c.cy.wg), wr (stA c.cy.wg)] f.ph m) g' ⟨m, .co { c with st := .adm }⟩ := by
  obtain ⟨s0, sm0, hw, hm⟩ := h2.mode
  have hsh := h2.shut
  rw [hmb, hst] at hm
  rw [hst] at hsh
  obtain ⟨k1, k2, k3, _⟩ := mode_open hm trivial
  subst k3
  refine spc_wg h1 h2 hr hl hg' ⟨rfl, rfl, rfl⟩ (fun b hb => cell_other hb) (cell_size _ _ _) ev_rdwr (by rw [stA, deaf_rdwr]; simp [deafOf, hst]) ⟨_, 0, hw.setSt _, ?_⟩ (fun n hn => by cases hn) hsh (by simp)
  exact .opn (tag := .sp 0 3) trivial k1 (fun vs he => by cases he)
theorem spc_load {f : Cf} {a g' : Goroutine} {m : Heap} {c : Co} {j0 n : Nat} (h1 : Inv1 P Post W0 f a ⟨m, .co c⟩) (h2 : Inv2 P f ⟨m, .co c⟩ c j0) (hmb : f.mb = .run) {r : Goroutine} (hr : f.gs[0]? = some r) (hl : Like P a r) (hst : c.st = .w0 n) {st : Stg} (hs : (Vc f.k f.D = 0 ∧ st = .fin) ∨ (Vc f.k f.D ≠ 0 ∧ st = .w1 (Vc f.k f.D)))
    (hg' : MIp P Post W0 g' ⟨m, .co { c with st := st }⟩) : Inv P Post W0 (mainNext P f r g' f.w #[rd (stA c.cy.wg)] f.ph m) g' ⟨m, .co { c with st := st }⟩ := by
  obtain ⟨s0, sm0, hw, hm⟩ := h2.mode
  have hsh := h2.shut
  rw [hmb, hst] at hm
  rw [hst] at hsh
  obtain ⟨k1, k2, k3, _⟩ := mode_open hm trivial
  subst k3
  rcases hs with ⟨hv, rfl⟩ | ⟨hv, rfl⟩
  · refine spc_wg h1 h2 hr hl hg' ⟨rfl, rfl, rfl⟩ (fun b hb => rfl) rfl ev_rd (by rw [stA, deaf_rd]; simp [deafOf, hst]) ⟨_, 0, hw, ?_⟩ (fun n hn => by cases hn) hsh (by simp)
    rw [hv] at k2
    have : s0 = 0 := by rw [k2]; simp [tagOf, pend]
    rw [this]
    exact .fin trivial (allQuit_of k1 hv)
  · refine spc_wg h1 h2 hr hl hg' ⟨rfl, rfl, rfl⟩ (fun b hb => rfl) rfl ev_rd (by rw [stA, deaf_rd]; simp [deafOf, hst]) ⟨_, 0, hw, ?_⟩ (fun n hn => by cases hn) hsh (by simp)
    rw [k2]
    exact .opn (tag := .w2 _) trivial k1 (fun vs he => by cases he; exact ⟨Nat.le_refl _, by omega⟩)
theorem spc_cas {f : Cf} {a g' : Goroutine} {m : Heap} {c : Co} {j0 u : Nat} (h1 : Inv1 P Post W0 f a ⟨m, .co c⟩) (h2 : Inv2 P f ⟨m, .co c⟩ c j0) (hmb : f.mb = .run) {r : Goroutine} (hr : f.gs[0]? = some r) (hl : Like P a r) (hst : c.st = .w1 u) (hv : Vc f.k f.D = u)
    (hg' : MIp P Post W0 g' ⟨m, .co { c with st := .reg }⟩) : Inv P Post W0 (mainNext P f r g' (f.w.setCell (stA c.cy.wg) (.int .u64 ((Vc f.k f.D : Nat) * KK + 1))) #[rd (stA c.cy.wg), wr (stA c.cy.wg)] f.ph m) g' ⟨m, .co { c with st := .reg }⟩ := by
  obtain ⟨s0, sm0, hw, hm⟩ := h2.mode
  have hsh := h2.shut
  rw [hmb, hst] at hm
  rw [hst] at hsh
  obtain ⟨k1, k2, k3, k4⟩ := mode_open hm trivial
  subst k3
  have := k4 u rfl
  refine spc_wg h1 h2 hr hl hg' ⟨rfl, rfl, rfl⟩ (fun b hb => cell_other hb) (cell_size _ _ _) ev_rdwr (by rw [stA, deaf_rdwr]; simp [deafOf, hst]) ⟨_, 0, hw.setSt _, ?_⟩ (fun n hn => by cases hn) hsh (by simp)
  exact .reg trivial k1 (by omega)
theorem spc_miss {f : Cf} {a g' : Goroutine} {m : Heap} {c : Co} {j0 u : Nat} (h1 : Inv1 P Post W0 f a ⟨m, .co c⟩) (h2 : Inv2 P f ⟨m, .co c⟩ c j0) (hmb : f.mb = .run) {r : Goroutine} (hr : f.gs[0]? = some r) (hl : Like P a r) (hst : c.st = .w1 u)
    (hg' : MIp P Post W0 g' ⟨m, .co { c with st := .w0 (Vc f.k f.D) }⟩) : Inv P Post W0 (mainNext P f r g' f.w #[rd (stA c.cy.wg)] f.ph m) g' ⟨m, .co { c with st := .w0 (Vc f.k f.D) }⟩ := by
  obtain ⟨s0, sm0, hw, hm⟩ := h2.mode
  have hsh := h2.shut
  rw [hmb, hst] at hm
  rw [hst] at hsh
  obtain ⟨k1, k2, k3, k4⟩ := mode_open hm trivial
  subst k3
  refine spc_wg h1 h2 hr hl hg' ⟨rfl, rfl, rfl⟩ (fun b hb => rfl) rfl ev_rd (by rw [stA, deaf_rd]; simp [deafOf, hst]) ⟨_, 0, hw, ?_⟩ (fun n hn => by cases hn; exact Nat.le_refl _) hsh (by simp)
  rw [k2]
  exact .opn (tag := .anch) trivial k1 (fun vs he => by cases he)
theorem spc_sem {f : Cf} {a g' : Goroutine} {m : Heap} {c : Co} {j0 : Nat} (h1 : Inv1 P Post W0 f a ⟨m, .co c⟩) (h2 : Inv2 P f ⟨m, .co c⟩ c j0) (hmb : f.mb = .run) {r : Goroutine} (hr : f.gs[0]? = some r) (hl : Like P a r) (hst : c.st = .reg) (hw : WgAt c.cy.ty c.cy.wg f.w 0 1)
    (hg' : MIp P Post W0 g' ⟨m, .co { c with st := .up }⟩) : Inv P Post W0 (mainNext P f r g' (f.w.setCell (smA c.cy.wg) (.int .u32 0)) (semEvents (smA c.cy.wg)) f.ph m) g' ⟨m, .co { c with st := .up }⟩ := by
  obtain ⟨s0, sm0, hw', hm⟩ := h2.mode
  have hsh := h2.shut
  rw [hmb, hst] at hm
  rw [hst] at hsh
  obtain ⟨rfl, rfl⟩ := hw'.unique hw
  refine spc_wg h1 h2 hr hl hg' ⟨rfl, rfl, rfl⟩ (fun b hb => cell_other hb) (cell_size _ _ _) ev_sem (by rw [deaf_sem]; simp [deafOf, hst]) ⟨_, 0, hw'.setSm _, ?_⟩ (fun n hn => by cases hn) hsh (by simp)
  exact .fin trivial (mode_sema hm rfl)
theorem spc_load0 {f : Cf} {a g' : Goroutine} {m : Heap} {c : Co} {j0 : Nat} (h1 : Inv1 P Post W0 f a ⟨m, .co c⟩) (h2 : Inv2 P f ⟨m, .co c⟩ c j0) (hmb : f.mb = .run) {r : Goroutine} (hr : f.gs[0]? = some r) (hl : Like P a r) (hst : c.st = .up)
    (hg' : MIp P Post W0 g' ⟨m, .co { c with st := .fin }⟩) : Inv P Post W0 (mainNext P f r g' f.w #[rd (stA c.cy.wg)] f.ph m) g' ⟨m, .co { c with st := .fin }⟩ := by
  obtain ⟨s0, sm0, hw, hm⟩ := h2.mode
  have hsh := h2.shut
  rw [hmb, hst] at hm
  rw [hst] at hsh
  obtain ⟨k1, rfl, rfl⟩ := mode_fin hm trivial
  exact spc_wg h1 h2 hr hl hg' ⟨rfl, rfl, rfl⟩ (fun b hb => rfl) rfl ev_rd (by rw [stA, deaf_rd]; simp [deafOf, hst]) ⟨_, 0, hw, .fin trivial k1⟩ (fun n hn => by cases hn) hsh (by simp)
end
end Go.X
