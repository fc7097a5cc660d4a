/- A company: each situation of a sender's Done, and its leaving. No program in sight. -/
import Derived.Test.YtafhinjggdknjaaDoorPYC
set_option linter.unusedVariables false
set_option linter.unusedSimpArgs false
namespace Go.X
open Go Go.Sx Go.Conc Go.ConcN
open Go.ConcR (KK wgBlock WgAt stA smA rd wr mk Payload Bk bk_of_mute ofEvent_loc_mark)
section
variable {P : Program} {Post : Value → World → Prop} {W0 : World}
structure Moves (P : Program) (Post : Value → World → Prop) (W0 : World) (f f' : Cf) (a : Goroutine) (x : XW Gh) (i : Nat) : Prop where
  inv : Inv P Post W0 f' a x
  k : f'.k = f.k
  F : f'.F = f.F
  S : f'.S < f.S ∨ (f'.S = f.S ∧ f'.N < f.N)
  ends : Ends P Post f' → EndsR P Post f i
theorem evB_bk {c : Co} {e : Event} (h : Bk c.cy.wg e) : EvB c e := by
  rcases h with h | h | ⟨a, w, rfl, hb⟩
  · exact ⟨fun t ht => (by rw [ofEvent_loc_mark h] at ht; cases ht), by rw [ofEvent_loc_mark h]; simp⟩
  · exact ⟨fun t ht => (by rw [ofEvent_loc_mark h] at ht; cases ht), by rw [ofEvent_loc_mark h]; simp⟩
  · refine ⟨fun t ht => ?_, by simp [MemAct.ofEvent]⟩
    have : (MemAct.ofEvent ⟨.cell a, w, true⟩).touch? = some ⟨.cell a, w, .atomic⟩ := by cases w <;> rfl
    rw [this] at ht; cases ht
    exact ⟨by simp [blk, hb], rfl⟩
theorem evB_w {c : Co} {k : Nat} {e : Event} (h : EvW c.cy.wg (fun _ _ => False) (fun _ _ => False) k e) : EvB c e := by
  obtain ⟨h1, h2, h3, h4⟩ := h
  refine ⟨fun t ht => ?_, fun he => ?_⟩
  · rcases (h1 0 "").2 t ht with ⟨⟨a, ha, hb⟩, h5, h6⟩ | h5 | ⟨h5, _⟩
    · refine ⟨by rw [ha]; simp [blk, hb], ?_⟩
      cases hk : t.kind with
      | plain => exact absurd hk h5
      | atomic => rfl
      | said => exact absurd hk h6
    · exact h5.elim
    · exact h5.elim
  · obtain ⟨loc, w, s⟩ := e
    cases loc <;> first | (simp [MemAct.ofEvent] at he; done) | skip
    · cases w <;> cases s <;> simp [MemAct.ofEvent] at he
    · simp only [MemAct.ofEvent, MemAct.mark.injEq] at he; exact h4 (by rw [he])
theorem noTouch_mark {es : Array Event} (h : ∀ e ∈ es, ∃ m, e = mk m ∧ (∀ a, m ≠ .read a) ∧ ∀ a, m ≠ .write a) : ∀ (j : Nat) (e : Event), es[j]? = some e → (MemAct.ofEvent e).touch? = none := fun j e he => by
  obtain ⟨m, rfl, h1, h2⟩ := h e (Array.mem_of_getElem? he)
  cases m <;> first | rfl | exact absurd rfl (h1 _) | exact absurd rfl (h2 _)
set_option maxHeartbeats 1000000 in
theorem b_move {f : Cf} {a : Goroutine} {x : XW Gh} {c : Co} {j0 j s g d : Nat} (h1 : Inv1 P Post W0 f a x) (h2 : Inv2 P f x c j0) (hx : x.s = .co c) (hj0 : j0 < j) (hk : j ≤ f.k) (hp : f.ph j = .B s g d) {r : Goroutine} (hr : f.gs[j]? = some r) (hrun : r.status = .running) :
    ∃ f', Moves P Post W0 f f' a x j := by
  have hj1 : 1 ≤ j := by omega
  obtain ⟨hdj, r1, hr1, C, cs, T, fz, v, hC, hv, hsit, hkept⟩ := h2.b j s g d hp hj0 hk
  rw [hr] at hr1; cases hr1
  obtain ⟨st, sm, hwg, hmode⟩ := h2.mode
  have hmode : ConcN.Mode f.k f.D (tagM f.mb c.st) st sm := hmode
  have hi : j - 1 < f.k := by omega
  have hDj : f.D (j - 1) = ⟨s, g, d⟩ := by simp only [Cf.D, Nat.sub_add_cancel hj1, hp, Ph.wd]
  have hCw : C ≠ c.cy.wg := fun e => (base_ne h1 h2 C (by rw [hC]; simp)).1 e
  have hVn : Vc f.k f.D ≤ c.wk.length := vc_bound h2
  have hfew := h2.few
  have hwgl : c.cy.wg < f.w.heap.size := h1.apart.sh _ h2.wg
  have go : ∀ {g' : Goroutine} {w' : World} {es : Array Event} {p' : Ph}, stepG P false r f.w = .go g' w' es → (g'.status ≠ .blocked ∧ g'.status ≠ .waiting) → Env W0 w' → (∀ b, b ≠ c.cy.wg → w'.heap[b]? = f.w.heap[b]?) → w'.heap.size = f.w.heap.size → (∀ e ∈ es, EvB c e) →
      ((∃ s' m' d', p' = .B s' m' d' ∧ deafBehind d es = d' ∧ (s' = 7 → s = 7) ∧ BSit P c.cy s' m' d' g' w') ∨ ∃ q, p' = .Q q ∧ QuitsD P q (deafBehind d es) g') →
      (∀ tag', (tag' = tagM f.mb c.st ∨ (tagM f.mb c.st = .blk ∧ tag' = .w3)) → (mayWake P r = true → tag' ≠ .blk) → ∃ st sm, WgAt c.cy.ty c.cy.wg w' st sm ∧ ConcN.Mode f.k (ConcN.upd f.D (j - 1) p'.wd) tag' st sm) →
      cnt p'.wd ≤ cnt (f.D (j - 1)) → (s = 7 ∨ ∀ i e, es[i]? = some e → (MemAct.ofEvent e).touch? = none ∨ 0 < deafBehind d (es.extract 0 i)) → (s = 7 → d = 0) → (s = 7 → ¬ p'.isL → es = #[mk (.releaseMerge (stA c.cy.wg))]) → (p'.wt < s ∨ (p'.wt = s ∧ p'.fl + 2 ≤ 2 * g)) → ∃ f', Moves P Post W0 f f' a x j := by
    intro g' w' es p' hgo b1 b2 b3 b4 b5 b6 b7 b8 b9 b10 b11 b12
    obtain ⟨f', e1, e2, e3, e4, e5, e6, e7, e8⟩ := b_step h1 h2 hx hj0 hk hp hr b1 b2 b3 b4 b5 b6 b7 b8 b9 b10 b11 b12
    have hj : (j == 0) = false := by simp; omega
    have hrunT := runT_crowd_go (P := P) (sl := f.sl) (i := j) hr (by rw [hj]; exact hgo)
    exact ⟨f', e7, e5, e6, e8, fun he => .of (by rw [e1, e2, e3]; exact hrunT) e4 he⟩
  have run' : ∀ {g' : Goroutine}, g'.status = .running → g'.status ≠ .blocked ∧ g'.status ≠ .waiting := fun h => by rw [h]; simp
  have runq : ∀ {g' : Goroutine} {q d' : Nat}, QuitsD P q d' g' → g'.status ≠ .blocked ∧ g'.status ≠ .waiting := fun h => by rcases h.status with e | e <;> rw [e] <;> simp
  have b_of : ∀ {s' m' d' : Nat} {g' : Goroutine} {w' : World}, s' ≠ 7 → WSit P c.cy.ty c.cy.wg C 0 (fun _ _ => False) (fun _ _ => False) 0 1 v s' m' d' g' w' → BSit P c.cy s' m' d' g' w' := fun h7 h => ⟨C, cs, T, fz, v, hC, hv, h, fun e => absurd e h7⟩
  have same : ∀ {m' dd' : Nat} {tag' : CTag}, (tag' = tagM f.mb c.st ∨ (tagM f.mb c.st = .blk ∧ tag' = .w3)) → ConcN.Mode f.k (ConcN.upd f.D (j - 1) ⟨s, m', dd'⟩) tag' st sm := fun {m' dd' tag'} ht => by
    have := hmode.same (i := j - 1) m' dd'
    rw [hDj] at this
    exact this.retag ht
  have idle : ∀ {g' : Goroutine} {m' : Nat}, stepG P false r f.w = .go g' f.w #[] → g'.status = .running → WSit P c.cy.ty c.cy.wg C 0 (fun _ _ => False) (fun _ _ => False) 0 1 v s m' d g' f.w → m' + 1 = g → s ≠ 7 → ∃ f', Moves P Post W0 f f' a x j := fun {g' m'} hgo hg' hs hm h7 =>
    go (p' := .B s m' d) hgo (run' hg') h1.env (fun _ _ => rfl) rfl (fun e he => by simp at he) (.inl ⟨s, m', d, rfl, rfl, id, b_of h7 hs⟩) (fun tag' ht _ => ⟨st, sm, hwg, same ht⟩) (by rw [hDj]; exact Nat.le_refl _) (.inr fun i e he => by simp at he) (fun e => absurd e h7) (fun e => absurd e h7) (.inr ⟨rfl, by simp only [Ph.fl]; omega⟩)
  have gr : ∀ {R : World → World → Prop} {D : World → World → Array Event → Prop} {Stop : Goroutine → World → Prop} {n : Nat} {g' : Goroutine} {w' : World}, (∀ g w, Stop g w → g.status = .running) → (R w' w') → Goes P false R D Stop n g' w' → g'.status = .running := fun hS hR h => Goes.running hS _ hR h
  have hws : ∀ (ad : Addr) (x : Value), ad.block = c.cy.wg → (∀ b, b ≠ c.cy.wg → (f.w.setCell ad x).heap[b]? = f.w.heap[b]?) := fun ad x e b hb => cell_other (by rw [e]; exact hb)
  cases hsit with
  | r0 h =>
    rcases Goes.cases h with hstop | ⟨m', rfl, hstep⟩
    · obtain ⟨_, hhas, g', hgo, m₂, hk'⟩ := hstop f.w (RW.refl f.w)
      refine go (p' := .B 6 m₂ 0) hgo (run' (gr (fun _ _ x => x.1) (RW.refl _) hk')) h1.env (fun _ _ => rfl) rfl (fun e he => ?_) (.inl ⟨6, m₂, 0, rfl, rfl, fun e => by omega, b_of (by omega) (.k1 hk')⟩) (fun tag' ht _ => ⟨st, sm, hwg, (hmode.counted hi (by rw [hDj]; simp) (.inl rfl) _ _).retag ht⟩) (by rw [hDj]; exact Nat.le_refl _) (.inl rfl) (fun _ => rfl) (fun _ _ => rfl) (.inl (by simp [Ph.wt]))
      simp only [List.mem_toArray, List.mem_singleton] at he
      subst he
      exact ⟨fun t ht => (by cases ht), by simp [mk, MemAct.ofEvent]⟩
    · obtain ⟨g', w', es, hgo, ⟨hac, hev⟩, hg'⟩ := hstep f.w (RW.refl f.w)
      have hk7 := hkept rfl
      obtain ⟨hk1, hk2⟩ : (∀ b, b ≠ c.cy.wg → w'.heap[b]? = f.w.heap[b]?) ∧ Kept P c.cy.ty c.cy.wg g' w' := by
        cases hk7 with
        | mk q1 q2 => exact ⟨q1 f.w (RW.refl f.w) g' w' es hgo fun e he => (hev e he).2.1, q2 f.w (RW.refl f.w) g' w' es hgo fun e he => (hev e he).2.1⟩
      have hw' : WgAt c.cy.ty c.cy.wg w' st sm := (hac.block c.cy.wg (Ne.symm hCw)).trans hwg
      have hdf : deafBehind 0 es = 0 := deafBehind_idle (fun e he => ⟨(hev e he).2.1, (hev e he).2.2.1⟩) 0
      exact go (p' := .B 7 m' 0) hgo (run' (gr (fun _ _ x => x.1) (RW.refl _) hg')) ⟨hac.os.trans h1.env.os, hac.tape.trans h1.env.tape, hac.output.trans h1.env.out⟩ hk1 hac.size (fun e he => evB_w (hev e he)) (.inl ⟨7, m', 0, rfl, hdf, fun _ => rfl, C, cs, T, fz, v, hC, hv, .r0 hg', fun _ => hk2⟩) (fun tag' ht _ => ⟨st, sm, hw', same ht⟩) (by rw [hDj]; exact Nat.le_refl _) (.inl rfl) (fun _ => rfl) (fun _ hh => absurd rfl hh) (.inr ⟨rfl, by simp only [Ph.fl]; omega⟩)
  | k1 h =>
    rcases Goes.cases h with hstop | ⟨m', rfl, hstep⟩
    · obtain ⟨_, g', hgo, m₂, hk'⟩ := hstop f.w (RW.refl f.w)
      refine go (p' := .B 5 m₂ 1) hgo (run' (gr (fun _ _ x => x.1) (RW.refl _) hk')) h1.env (fun _ _ => rfl) rfl (fun e he => evB_bk (by simp at he; subst he; exact .inl rfl)) (.inl ⟨5, m₂, 1, rfl, rfl, fun e => by omega, b_of (by omega) (.d1 hk')⟩) (fun tag' ht _ => ⟨st, sm, hwg, (hmode.counted hi (by rw [hDj]; simp) (.inr rfl) _ _).retag ht⟩) (by rw [hDj]; simp [Ph.wd, cnt]) (.inr fun i e he => .inl ?_) (fun e => by omega) (fun e => by omega) (.inl (by simp [Ph.wt]))
      exact noTouch_mark (es := #[mk .disable]) (fun e he => ⟨.disable, by simpa using he, by simp, by simp⟩) i e he
    · obtain ⟨g', w', es, hgo, ⟨rfl, rfl⟩, hg'⟩ := hstep f.w (RW.refl f.w)
      exact idle hgo (gr (fun _ _ x => x.1) (RW.refl _) hg') (.k1 hg') rfl (by omega)
  | d1 h =>
    rcases Goes.cases h with hstop | ⟨m', rfl, hstep⟩
    · obtain ⟨_, hall⟩ := hstop f.w (RW.refl f.w)
      have hc1 : cnt (f.D (j - 1)) = 1 := by rw [hDj]; simp [cnt]
      have hV1 : 1 ≤ Vc f.k f.D := by have := le_sumTo (f := fun x => cnt (f.D x)) hi; simp only [Vc]; omega
      have bk2 : ∀ e ∈ #[rd (stA c.cy.wg), wr (stA c.cy.wg)], EvB c e := fun e he => evB_bk (by simp at he; rcases he with rfl | rfl <;> exact bk_cell _ _ rfl)
      have df2 : ∀ jx e, (#[rd (stA c.cy.wg), wr (stA c.cy.wg)] : Array Event)[jx]? = some e → (MemAct.ofEvent e).touch? = none ∨ 0 < deafBehind 1 ((#[rd (stA c.cy.wg), wr (stA c.cy.wg)] : Array Event).extract 0 jx) := by
        intro jx e he
        match jx, he with
        | 0, _ => exact .inr (by simp [deafBehind])
        | 1, _ => exact .inr (by simp [deafBehind, rd])
        | jx + 2, he => simp at he
      have hq0 : ∀ q, cnt ((Ph.Q q).wd) = 0 := fun _ => rfl
      have opq : ∀ q, OpenSt f.k f.D → OpenSt f.k (ConcN.upd f.D (j - 1) (Ph.Q q).wd) := fun q h a ha => by
        by_cases e : a = j - 1
        · subst e; rw [ConcN.upd_same]; simp [Ph.wd]
        · rw [upd_ne f.D _ e]; exact h a ha
      have fin : ∀ {g' : Goroutine} {q : Nat} {n : Value}, stepG P false r f.w = .go g' (f.w.setCell (stA c.cy.wg) n) #[rd (stA c.cy.wg), wr (stA c.cy.wg)] → QuitsD P q 1 g' → (∀ tag', (tag' = tagM f.mb c.st ∨ (tagM f.mb c.st = .blk ∧ tag' = .w3)) → ∃ st sm, WgAt c.cy.ty c.cy.wg (f.w.setCell (stA c.cy.wg) n) st sm ∧ ConcN.Mode f.k (ConcN.upd f.D (j - 1) (Ph.Q q).wd) tag' st sm) → ∃ f', Moves P Post W0 f f' a x j := fun {g' q n} hgo hq hm =>
        go (p' := .Q q) hgo (runq hq) ⟨h1.env.os, h1.env.tape, h1.env.out⟩ (hws _ _ rfl) (cell_size _ _ _) bk2 (.inr ⟨q, rfl, hq⟩) (fun tag' ht _ => hm tag' ht) (by rw [hq0]; exact Nat.zero_le _) (.inr df2) (fun e => by omega) (fun e => by omega) (.inl (by simp [Ph.wt]))
      obtain ⟨tag, htag⟩ : ∃ tag, tag = tagM f.mb c.st := ⟨_, rfl⟩
      rw [← htag] at hmode
      cases hmode with
      | opn e1 e2 e3 =>
        obtain ⟨v', hv'⟩ : ∃ v', Vc f.k f.D + pend tag = v' + 1 := ⟨Vc f.k f.D + pend tag - 1, by omega⟩
        have hpd : pend tag ≤ 1 := by cases tag <;> simp [pend]; split <;> omega
        rw [hv'] at hwg
        have hw1 : WgAt c.cy.ty c.cy.wg f.w (((v' : Nat) + 1) * KK + ((0 : Nat) : Int)) 0 := by simpa using hwg
        obtain ⟨g', hgo, _, hq⟩ := hall v' 0 (by omega) (by omega) hw1
        obtain ⟨q, hq⟩ := hq (by omega)
        have hv2 : Vc f.k (ConcN.upd f.D (j - 1) (Ph.Q q).wd) + pend tag = v' := by have := Vc_upd f.D ((Ph.Q q).wd) hi; have := hq0 q; omega
        refine fin hgo hq fun tag' ht => ⟨_, _, hwg.setSt _, Mode.retag ?_ (htag ▸ ht)⟩
        have e : ((v' : Nat) : Int) * KK + ((0 : Nat) : Int) = ((Vc f.k (ConcN.upd f.D (j - 1) (Ph.Q q).wd) + pend tag : Nat) : Int) * KK := by rw [hv2]; simp
        rw [e]
        exact .opn e1 (opq q e2) (fun vs ev => by have := e3 vs ev; omega)
      | reg e1 e2 e3 =>
        obtain ⟨v', hv'⟩ : ∃ v', Vc f.k f.D = v' + 1 := ⟨Vc f.k f.D - 1, by omega⟩
        rw [hv'] at hwg
        have hp0 : pend tag = 0 := by cases tag <;> first | rfl | exact e1.elim
        have hw1 : WgAt c.cy.ty c.cy.wg f.w (((v' : Nat) + 1) * KK + ((1 : Nat) : Int)) 0 := by simpa using hwg
        obtain ⟨g', hgo, hl, hq⟩ := hall v' 1 (by omega) (by omega) hw1
        by_cases hv0 : v' = 0
        · subst hv0
          obtain ⟨m₂, hk'⟩ := hl ⟨rfl, rfl⟩
          have hoth : ∀ a, a < f.k → a ≠ j - 1 → (f.D a).stage = 1 := fun a ha e => by
            have c0 := others_uncounted hi hv' hc1 a ha e
            have := e2 a ha
            simp only [cnt] at c0
            split at c0 <;> omega
          refine go (p' := .B 4 m₂ 1) hgo (run' (gr (fun _ _ x => x.1) (RW.refl _) hk')) ⟨h1.env.os, h1.env.tape, h1.env.out⟩ (hws _ _ rfl) (cell_size _ _ _) bk2 (.inl ⟨4, m₂, 1, rfl, by simp [deafBehind, rd, wr], fun e => by omega, b_of (by omega) (.d2 hk')⟩) (fun tag' ht _ => ⟨_, _, hwg.setSt _, Mode.retag ?_ (htag ▸ ht)⟩) (by simp [Ph.wd, cnt]) (.inr df2) (fun e => by omega) (fun e => by omega) (.inl (by simp [Ph.wt]))
          have := Mode.last (j := f.k) (D := ConcN.upd f.D (j - 1) ⟨4, m₂, 1⟩) (tag := tag) (j - 1) e1 hi (by rw [ConcN.upd_same]; simp) (fun a ha e => by rw [upd_ne f.D _ e]; exact hoth a ha e)
          rw [ConcN.upd_same] at this
          simpa [Ph.wd] using this
        · obtain ⟨q, hq⟩ := hq (by omega)
          have hv2 : Vc f.k (ConcN.upd f.D (j - 1) (Ph.Q q).wd) = v' := by have := Vc_upd f.D ((Ph.Q q).wd) hi; have := hq0 q; omega
          refine fin hgo hq fun tag' ht => ⟨_, _, hwg.setSt _, Mode.retag ?_ (htag ▸ ht)⟩
          have e : ((v' : Nat) : Int) * KK + ((1 : Nat) : Int) = ((Vc f.k (ConcN.upd f.D (j - 1) (Ph.Q q).wd) : Nat) : Int) * KK + 1 := by rw [hv2]; simp
          rw [e]
          exact .reg e1 (opq q e2) (by omega)
      | last L _ e2 e3 e4 =>
        by_cases e : j - 1 = L
        · subst e; rw [hDj] at e3; simp at e3
        · have := e4 (j - 1) hi e; rw [hDj] at this; simp at this
      | sema e2 => have := e2 (j - 1) hi; rw [hDj] at this; simp at this
      | fin _ e2 => have := e2 (j - 1) hi; rw [hDj] at this; simp at this
    · obtain ⟨g', w', es, hgo, ⟨rfl, rfl⟩, hg'⟩ := hstep f.w (RW.refl f.w)
      exact idle hgo (gr (fun _ _ x => x.1) (RW.refl _) hg') (.d1 hg') rfl (by omega)
  | d2 h =>
    rcases Goes.cases h with hstop | ⟨m', rfl, hstep⟩
    · obtain ⟨_, hx'⟩ := hstop f.w (RW.refl f.w)
      obtain ⟨hW3, hoth, rfl, rfl⟩ := hmode.isLast hi (by rw [hDj]; simp)
      simp only [hDj] at hwg
      obtain ⟨g', hgo, m₂, hk'⟩ := hx' (by simpa using hwg)
      refine go (p' := .B 3 m₂ 1) hgo (run' (gr (fun _ _ x => x.1) (RW.refl _) hk')) h1.env (fun _ _ => rfl) rfl (fun e he => evB_bk (by simp at he; subst he; exact bk_cell _ _ rfl)) (.inl ⟨3, m₂, 1, rfl, rfl, fun e => by omega, b_of (by omega) (.d3 hk')⟩) (fun tag' ht _ => ⟨_, _, hwg, Mode.retag ?_ ht⟩) (by simp [Ph.wd, cnt]) (.inr fun jx e he => ?_) (fun e => by omega) (fun e => by omega) (.inl (by simp [Ph.wt]))
      · have := Mode.last (j := f.k) (D := ConcN.upd f.D (j - 1) ⟨3, m₂, 1⟩) (tag := tagM f.mb c.st) (j - 1) hW3 hi (by rw [ConcN.upd_same]; simp) (fun a ha e => by rw [upd_ne f.D _ e]; exact hoth a ha e)
        rw [ConcN.upd_same] at this
        simpa [Ph.wd] using this
      · match jx, he with
        | 0, _ => exact .inr (by simp [deafBehind])
        | jx + 1, he => simp at he
    · obtain ⟨g', w', es, hgo, ⟨rfl, rfl⟩, hg'⟩ := hstep f.w (RW.refl f.w)
      exact idle hgo (gr (fun _ _ x => x.1) (RW.refl _) hg') (.d2 hg') rfl (by omega)
  | d3 h =>
    rcases Goes.cases h with hstop | ⟨m', rfl, hstep⟩
    · obtain ⟨_, hx'⟩ := hstop f.w (RW.refl f.w)
      obtain ⟨hW3, hoth, rfl, rfl⟩ := hmode.isLast hi (by rw [hDj]; simp)
      simp only [hDj] at hwg
      obtain ⟨g', hgo, m₂, hk'⟩ := hx' (by simpa using hwg)
      refine go (p' := .B 2 m₂ 1) hgo (run' (gr (fun _ _ x => x.1) (RW.refl _) hk')) ⟨h1.env.os, h1.env.tape, h1.env.out⟩ (hws _ _ rfl) (cell_size _ _ _) (fun e he => evB_bk (by simp at he; subst he; exact bk_cell _ _ rfl)) (.inl ⟨2, m₂, 1, rfl, rfl, fun e => by omega, b_of (by omega) (.d4 hk')⟩) (fun tag' ht _ => ⟨_, _, hwg.setSt 0, Mode.retag ?_ ht⟩) (by simp [Ph.wd, cnt]) (.inr fun jx e he => ?_) (fun e => by omega) (fun e => by omega) (.inl (by simp [Ph.wt]))
      · have := Mode.last (j := f.k) (D := ConcN.upd f.D (j - 1) ⟨2, m₂, 1⟩) (tag := tagM f.mb c.st) (j - 1) hW3 hi (by rw [ConcN.upd_same]; simp) (fun a ha e => by rw [upd_ne f.D _ e]; exact hoth a ha e)
        rw [ConcN.upd_same] at this
        simpa [Ph.wd] using this
      · match jx, he with
        | 0, _ => exact .inr (by simp [deafBehind])
        | jx + 1, he => simp at he
    · obtain ⟨g', w', es, hgo, ⟨rfl, rfl⟩, hg'⟩ := hstep f.w (RW.refl f.w)
      exact idle hgo (gr (fun _ _ x => x.1) (RW.refl _) hg') (.d3 hg') rfl (by omega)
  | d4 h =>
    rcases Goes.cases h with hstop | ⟨m', rfl, hstep⟩
    · obtain ⟨_, hmw, hx'⟩ := hstop f.w (RW.refl f.w)
      obtain ⟨hW3, hoth, rfl, rfl⟩ := hmode.isLast hi (by rw [hDj]; simp)
      simp only [hDj] at hwg
      obtain ⟨g', hgo, q, hq⟩ := hx' (by simpa using hwg)
      refine go (p' := .Q q) hgo (runq hq) ⟨h1.env.os, h1.env.tape, h1.env.out⟩ (hws _ _ rfl) (cell_size _ _ _) (es := semEvents (smA c.cy.wg)) (fun e he => evB_bk ?_) (.inr ⟨q, rfl, by simpa [deafBehind, semEvents] using hq⟩) (fun tag' ht hw => ⟨_, _, hwg.setSm 1, ?_⟩) (by simp [Ph.wd, cnt]) (.inr fun jx e he => ?_) (fun e => by omega) (fun e => by omega) (.inl (by simp [Ph.wt]))
      · simp [semEvents] at he
        rcases he with rfl | rfl | rfl | rfl
        · exact .inl rfl
        · exact bk_cell _ _ rfl
        · exact bk_cell _ _ rfl
        · exact .inr (.inl rfl)
      · have hnb := hw hmw
        have e3 : tag' = .w3 := by
          rcases ht with rfl | ⟨_, rfl⟩
          · generalize tagM f.mb c.st = tg at hW3 hnb
            cases tg <;> first | rfl | exact hW3.elim | exact absurd rfl hnb
          · rfl
        subst e3
        simp only [if_true]
        exact .sema fun a ha => by
          by_cases e : a = j - 1
          · subst e; rw [ConcN.upd_same]; rfl
          · rw [upd_ne f.D _ e]; exact hoth a ha e
      · match jx, he with
        | 0, he => simp [semEvents] at he; subst he; exact .inl rfl
        | 1, _ => exact .inr (by simp [deafBehind, semEvents])
        | 2, _ => exact .inr (by simp [deafBehind, semEvents])
        | 3, he => simp [semEvents] at he; subst he; exact .inl rfl
        | jx + 4, he => simp [semEvents] at he
    · obtain ⟨g', w', es, hgo, ⟨rfl, rfl⟩, hg'⟩ := hstep f.w (RW.refl f.w)
      exact idle hgo (gr (fun _ _ x => x.1) (RW.refl _) hg') (.d4 hg') rfl (by omega)
  | quit h =>
    cases g with
    | zero => rw [h.1] at hrun; cases hrun
    | succ q =>
      rcases h with ⟨hf, _⟩ | ⟨_, g', es, hmute, hstep, hq⟩
      · rw [hf] at hrun; cases hrun
      · refine go (p' := .Q q) (hstep f.w) (runq hq) h1.env (fun _ _ => rfl) rfl (fun e he => evB_bk (bk_of_mute (hmute e he))) (.inr ⟨q, rfl, hq⟩) (fun tag' ht _ => ⟨st, sm, hwg, Mode.congr (fun a _ => ?_) (hmode.retag ht)⟩) (by simp [Ph.wd, cnt]) (.inr fun jx e he => .inl ?_) (fun e => by omega) (fun e => by omega) (.inr ⟨rfl, by simp only [Ph.fl]; omega⟩)
        · by_cases e : a = j - 1
          · subst e; rw [ConcN.upd_same, hDj]; rfl
          · rw [upd_ne f.D _ e]
        · exact touch_mute (hmute e (Array.mem_of_getElem? he))
end
end Go.X
