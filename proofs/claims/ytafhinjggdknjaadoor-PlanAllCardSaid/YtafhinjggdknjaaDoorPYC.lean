/- A company: a sender's way through its Done. No program in sight. -/
import Derived.Test.YtafhinjggdknjaaDoorPXZ
set_option linter.unusedVariables false
set_option linter.unusedSimpArgs false
namespace Go.X
open Go Go.Sx Go.Conc Go.ConcN
open Go.ConcR (KK wgBlock WgAt stA smA rd wr mk Payload Bk)
section
variable {P : Program} {Post : Value → World → Prop} {W0 : World}
theorem goes_like {R : World → World → Prop} {D : World → World → Array Event → Prop} {Stop : Goroutine → World → Prop} {y r : Goroutine} (hl : Like P y r) (hS : ∀ w, Stop y w → Stop r w) : ∀ {m : Nat} {w : World}, Goes P false R D Stop m y w → Goes P false R D Stop m r w
  | 0, w, h => fun w₁ h1 => hS _ (h w₁ h1)
  | m + 1, w, h => h.elim (fun h => .inl fun w₁ h1 => hS _ (h w₁ h1)) fun h => .inr ⟨hl.run, fun w₁ h1 => by rw [hl.step]; exact h.2 w₁ h1⟩
theorem atR0_like {ty : TypeId} {wg C n Low k : Nat} {v : Value} {y r : Goroutine} (hl : Like P y r) (w : World) (h : AtR0 P ty wg C n Low k v y w) : AtR0 P ty wg C n Low k v r w :=
  ⟨hl.run, h.2.1, by rw [hl.step]; exact h.2.2⟩
theorem snd_quit {f : Cf} {a : Goroutine} {x : XW Gh} {c : Co} {j0 i : Nat} {s : Option Nat} {q : Cs} {y : Goroutine} {mj : Heap} (h1 : Inv1 P Post W0 f a x) (h2 : Inv2 P f x c j0) (hx : x.s = .co c) (hs : c.wk[i]? = some s) (hp : f.ph (j0 + 1 + i) = .A false)
    (hF : f.F (j0 + 1 + i) = (y, ⟨mj, .snd q⟩)) (hcl : q.off = true) (hq : Leaves P q.cy y) :
    ∃ f', f'.gs = f.gs ∧ f'.w = f.w ∧ f'.sl = f.sl ∧ f'.t = f.t ∧ f'.k = f.k ∧ f'.F = f.F ∧ Inv P Post W0 f' a x ∧ f'.S < f.S := by
  have hlen : i < c.wk.length := (List.getElem?_eq_some_iff.1 hs).1
  have hik : j0 + 1 + i ≤ f.k := by rw [h2.k]; omega
  obtain ⟨q0, q1, q2, q3, q4⟩ := h2.cha i s false hs hp
  rw [hF] at q1; cases q1
  rw [q2] at hq
  obtain ⟨r, hr, hc⟩ := h1.ra _ false (by omega) hik hp
  have hl : Like P (f.F (j0 + 1 + i)).1 r := by
    cases hc with
    | run hl => exact hl
  rw [hF] at hl
  obtain ⟨⟨C, cs, T, fz, v, hC, hv, hg1⟩, hg2⟩ := hq
  obtain ⟨st, sm, hw, hmode⟩ := h2.mode
  have hDi : f.D (j0 + i) = ⟨7, 0, 0⟩ := by simp only [Cf.D, show j0 + i + 1 = j0 + 1 + i by omega, hp, Ph.wd]
  have hsm : sm = 0 := mode7 hmode (i := j0 + i) (by omega) (by rw [hDi])
  subst hsm
  have hlive : WgLive c.cy.ty c.cy.wg f.w := ⟨st, 0, hw⟩
  have hCw : f.w.heap[C]? = some (.cells cs T fz) := h1.mbase C _ (by rw [h2.base]; exact hC)
  obtain ⟨m1, hm1⟩ := hg1 f.w hlive (by simp [ConcN.Has, World.cell?, hCw, hv])
  obtain ⟨m2, hm2⟩ := hg2 f.w hlive hw.cellSm
  have hb : BSit P c.cy 7 m1 0 r f.w := ⟨C, cs, T, fz, v, hC, hv, .r0 (goes_like hl (fun w => atR0_like hl w) hm1), fun _ => .of_r0 (goes_like hl (fun w => atR0_like hl w) hm2)⟩
  have hdj : Deaf f.t (j0 + 1 + i) = 0 := h1.da _ (by omega) hik (by rw [hp]; trivial)
  generalize hph' : ConcN.upd f.ph (j0 + 1 + i) (.B 7 m1 0) = ph'
  have p1 : ph' (j0 + 1 + i) = .B 7 m1 0 := by rw [← hph']; exact ConcN.upd_same _ _ _
  have p2 : ∀ j, j ≠ j0 + 1 + i → ph' j = f.ph j := fun j hj => by rw [← hph']; exact upd_ne _ _ hj
  have hL : ∀ j, (ph' j).isL ↔ (f.ph j).isL := fun j => by
    by_cases e : j = j0 + 1 + i
    · rw [e, p1, hp]; exact ⟨fun _ => trivial, fun _ => rfl⟩
    · rw [p2 j e]
  have hQ : ∀ j, (ph' j).isQ ↔ (f.ph j).isQ := fun j => by
    by_cases e : j = j0 + 1 + i
    · rw [e, p1, hp]; exact Iff.rfl
    · rw [p2 j e]
  have hA : ∀ j, (ph' j).isA → (f.ph j).isA ∧ j ≠ j0 + 1 + i := fun j hh => by
    by_cases e : j = j0 + 1 + i
    · rw [e, p1] at hh; exact hh.elim
    · rw [p2 j e] at hh; exact ⟨hh, e⟩
  have hpA : ∀ {j pk}, ph' j = .A pk → f.ph j = .A pk ∧ j ≠ j0 + 1 + i := fun {j pk} hh => by
    have := (hA j (by rw [hh]; trivial)).2
    exact ⟨by rw [← p2 j this]; exact hh, this⟩
  have hne0 : (0 : Nat) ≠ j0 + 1 + i := by omega
  have hMs : ∀ g b, ConcN.upd f.o.M (j0 + 1 + i) Heap.empty g b ≠ none → g ≠ j0 + 1 + i ∧ f.o.M g b ≠ none := fun g b hb => by
    by_cases e : g = j0 + 1 + i
    · rw [e, ConcN.upd_same] at hb; exact absurd rfl hb
    · rw [upd_ne _ _ e] at hb; exact ⟨e, hb⟩
  have hApart : Own4.Apart { f.o with M := ConcN.upd f.o.M (j0 + 1 + i) Heap.empty } f.w.heap.size := by
    refine ⟨fun g g' b hne hb => ?_, fun g b hb => h1.apart.mem g b (hMs g b hb).2, h1.apart.base, h1.apart.win, h1.apart.lv, h1.apart.sh, h1.apart.ac⟩
    show ConcN.upd f.o.M (j0 + 1 + i) Heap.empty g' b = none
    by_cases e : g' = j0 + 1 + i
    · rw [e, ConcN.upd_same]; rfl
    · rw [upd_ne _ _ e]; exact h1.apart.own g g' b hne (hMs g b hb).2
  have hTok : TOk { f.o with M := ConcN.upd f.o.M (j0 + 1 + i) Heap.empty } f.w.heap.size f.t :=
    h1.tok.turn (Nat.le_refl _) (fun g b hb => .inl (hMs g b hb).2) (fun b hb => .inl ⟨hb, fun g hg => .inl hg, fun g hg => .inl hg, fun g r hr => hr⟩) (fun b hb => .inl ⟨hb, rfl⟩) (fun b hb => .inl ⟨hb, fun g hg => .inl hg⟩) (fun g hg => .inl hg) (fun g r hr => hr)
  have hMb : f.o.M (j0 + 1 + i) = mj := by rw [h1.oMa _ (by omega) hik (by rw [hp]; trivial), hF]
  refine ⟨{ f with ph := ph', o := { f.o with M := ConcN.upd f.o.M (j0 + 1 + i) Heap.empty } }, rfl, rfl, rfl, rfl, rfl, rfl, ⟨⟨h1.size, h1.env, h1.main, fun j pk a b hh => h1.ra j pk a b (hpA hh).1, fun j q a b hh => h1.rq j q a b ?_, fun j a b hh => h1.mi j a b (hA j hh).1, h1.d0, fun j a b hh => h1.da j a b (hA j hh).1, h1.ok, ?_, fun j a b hh => ?_, fun j a b => ?_,
    fun j => ?_, fun j => ?_, hApart, fun j => ?_, h1.mbase, h1.mwin, hTok⟩, ?_⟩, ?_⟩
  · have e : j ≠ j0 + 1 + i := fun e => by replace hh : ph' j = .Q q := hh; rw [e, p1] at hh; cases hh
    exact (p2 j e).symm.trans hh
  · show ConcN.upd f.o.M (j0 + 1 + i) Heap.empty 0 = x.m
    rw [upd_ne _ _ hne0]; exact h1.oM0
  · show ConcN.upd f.o.M (j0 + 1 + i) Heap.empty j = _
    rw [upd_ne _ _ (hA j hh).2]; exact h1.oMa j a b (hA j hh).1
  · show ConcN.upd f.o.M (j0 + 1 + i) Heap.empty j = Heap.empty
    by_cases e : j = j0 + 1 + i
    · rw [e, ConcN.upd_same]
    · rw [upd_ne _ _ e]
      refine h1.oMn j a (b.imp id fun hh hp' => hh ?_)
      show (ph' j).isA
      rw [p2 j e]; exact hp'
  · show f.o.lv j ↔ _ ∧ _ ∧ (ph' j).isL
    rw [h1.lv j, hL]
  · show f.o.cp j ↔ _ ∧ _ ∧ ¬ (ph' j).isQ
    rw [h1.cp j, hQ]
  · intro b o hb
    replace hb : ConcN.upd f.o.M (j0 + 1 + i) Heap.empty j b = some o := hb
    have := hMs j b (by rw [hb]; simp)
    rw [upd_ne _ _ this.1] at hb
    exact h1.mem j b o hb
  · rw [hx]
    have hshut := q4.1 hcl
    refine ⟨j0, ⟨h2.k, fun j a b => by show (ph' j).isQ; rw [hQ]; exact h2.old j a b, h2.base, h2.win, h2.dl, h2.dn, h2.wg, h2.ne, ⟨st, 0, hw, ?_⟩, fun live hi' i' z hz hh => h2.park live hi' i' z hz (hpA hh).1, fun n hn => ?_, h2.shut, fun j a b hh => h2.pk j a b (hpA hh).1, h2.idle, fun i' z pk hz hh => h2.cha i' z pk hz (hpA hh).1, fun i' z hz hh => hshut, fun j z gg d hh a b => ?_, fun j z gg d hh a b hz => ?_, fun j r hr => ?_, h2.nor, h2.acq, h2.few, h2.ac⟩⟩
    · refine hmode.congr fun j hj => ?_
      show ((ph' (j + 1)).wd).stage = ((f.ph (j + 1)).wd).stage
      by_cases e : j + 1 = j0 + 1 + i
      · rw [e, p1, hp]; rfl
      · rw [p2 _ e]
    · have := h2.bnd n hn
      have e : Vc f.k (fun j => (ph' (j + 1)).wd) = Vc f.k f.D := sumTo_congr fun j hj => by
        show cnt ((ph' (j + 1)).wd) = cnt ((f.ph (j + 1)).wd)
        by_cases e : j + 1 = j0 + 1 + i
        · rw [e, p1, hp]; rfl
        · rw [p2 _ e]
      show Vc f.k (fun j => (ph' (j + 1)).wd) ≤ n
      rw [e]; exact this
    · by_cases e : j = j0 + 1 + i
      · subst e
        rw [show ({ f with ph := ph', o := { f.o with M := ConcN.upd f.o.M (j0 + 1 + i) Heap.empty } } : Cf).ph (j0 + 1 + i) = ph' (j0 + 1 + i) from rfl, p1] at hh
        cases hh
        exact ⟨hdj, r, hr, hb⟩
      · exact h2.b j z gg d ((p2 j e).symm.trans hh) a b
    · by_cases e : j = j0 + 1 + i
      · subst e
        rw [show ({ f with ph := ph', o := { f.o with M := ConcN.upd f.o.M (j0 + 1 + i) Heap.empty } } : Cf).ph (j0 + 1 + i) = ph' (j0 + 1 + i) from rfl, p1] at hh
        cases hh
        omega
      · exact h2.b7 j z gg d ((p2 j e).symm.trans hh) a b hz
    · obtain ⟨r1, r2, r3, r4⟩ := h2.rel j r hr
      exact ⟨r1, r2, fun hh => r3 ((hL j).1 hh), r4⟩
  · have := upd_sum (f := f) (ph' := ph') (φ := Ph.wt) (i := j0 + 1 + i) (by omega) hik p2
    rw [p1, hp] at this
    have h3 : sumTo f.k (fun k => (ph' (k + 1)).wt) + 8 = sumTo f.k (fun k => (f.ph (k + 1)).wt) + 7 := this
    show sumTo f.k (fun k => (ph' (k + 1)).wt) < sumTo f.k (fun k => (f.ph (k + 1)).wt)
    omega
end
end Go.X
namespace Go.X
open Go Go.Sx Go.Conc Go.ConcN
open Go.ConcR (KK wgBlock WgAt stA smA rd wr mk Payload Bk)
section
variable {P : Program} {Post : Value → World → Prop} {W0 : World}
theorem not_counts {t : Trace} {k d : Nat} {fn : FuncId} {pos : String} {es : Array Event} (hd : Deaf t k = d) (hA : ∀ e ∈ es, ∀ a, (MemAct.ofEvent e).touch? = some a → a.kind = .atomic)
    (hes : ∀ j e, es[j]? = some e → (MemAct.ofEvent e).touch? = none ∨ 0 < deafBehind d (es.extract 0 j)) : ∀ y, t.size ≤ y → (t ++ MemOp.ofEvents k fn pos es).g? y = some k → ¬ (t ++ MemOp.ofEvents k fn pos es).counts y := by
  intro i hi _ hc
  obtain ⟨x, hx, _, hk⟩ := hc
  obtain ⟨act, hact, hxt⟩ := Option.bind_eq_some_iff.1 hx
  obtain ⟨op, ho, rfl⟩ := Option.map_eq_some_iff.1 hact
  have hj : (MemOp.ofEvents k fn pos es)[i - t.size]? = some op := by
    rw [Array.getElem?_append] at ho
    simpa [Nat.not_lt.2 hi] using ho
  rw [ofEvents_eq, Array.getElem?_map] at hj
  obtain ⟨e, he, rfl⟩ := Option.map_eq_some_iff.1 hj
  have hjs : i - t.size ≤ es.size := by
    rcases Nat.lt_or_ge (i - t.size) es.size with h' | h'
    · omega
    · rw [Array.getElem?_eq_none h'] at he; cases he
  rcases hes _ e he with h0 | hd'
  · simp only at hxt; rw [h0] at hxt; cases hxt
  · have hxk : x.kind = .atomic := hA e (Array.mem_of_getElem? he) x hxt
    rcases hk with hk | ⟨g, hg, hdf⟩
    · exact hk hxk
    · have hg1 : g = k := by simp [Trace.g?, ho] at hg; exact hg.symm
      subst hg1
      have := deaf_inside t g fn pos es (i - t.size) hjs
      rw [show t.size + (i - t.size) = i by omega, hdf, hd] at this
      omega
structure EvB (c : Co) (e : Event) : Prop where
  at_ : ∀ a, (MemAct.ofEvent e).touch? = some a → blk a.loc = some c.cy.wg ∧ a.kind = .atomic
  nor : MemAct.ofEvent e ≠ .mark (.release (stA c.cy.wg))
theorem low_of_blk {l : Loc} {b n : Nat} (h : blk l = some b) (hb : b < n) : l.low n := by cases l <;> simp_all [blk, Loc.low]
def tagM (mb : MB) (st : Stg) : CTag := tagOf (match mb with | .blk => true | _ => false) st
theorem tagM_next {mb mb' : MB} {st : Stg} (e : mb' = mb ∨ (mb = .blk ∧ mb' = .run)) : tagM mb' st = tagM mb st ∨ (tagM mb st = .blk ∧ tagM mb' st = .w3) := by
  rcases e with rfl | ⟨rfl, rfl⟩
  · exact .inl rfl
  · cases st <;> first | exact .inl rfl | exact .inr ⟨rfl, rfl⟩
theorem tagM_blk {mb : MB} {st : Stg} (h : mb ≠ .blk) : tagM mb st ≠ .blk := by
  cases mb with
  | blk => exact absurd rfl h
  | run => cases st <;> simp [tagM, tagOf]
  | park _ => cases st <;> simp [tagM, tagOf]
abbrev rlB (f : Cf) (j s : Nat) (p' : Ph) : Nat → Nat → Prop := fun i r => f.o.rl i r ∨ (s = 7 ∧ ¬ p'.isL ∧ i = j ∧ r = f.t.size)
theorem b_step {f : Cf} {a : Goroutine} {x : XW Gh} {c : Co} {j0 j s g d : Nat} (h1 : Inv1 P Post W0 f a x) (h2 : Inv2 P f x c j0) (hx : x.s = .co c) (hj0 : j0 < j) (hk : j ≤ f.k) (hp : f.ph j = .B s g d) {r : Goroutine} (hr : f.gs[j]? = some r) {g' : Goroutine} {w' : World} {es : Array Event} {p' : Ph}
    (hst' : g'.status ≠ .blocked ∧ g'.status ≠ .waiting) (henv : Env W0 w') (hheap : ∀ b, b ≠ c.cy.wg → w'.heap[b]? = f.w.heap[b]?) (hsz : w'.heap.size = f.w.heap.size) (hes : ∀ e ∈ es, EvB c e)
    (hsit : (∃ s' m' d', p' = .B s' m' d' ∧ deafBehind d es = d' ∧ (s' = 7 → s = 7) ∧ BSit P c.cy s' m' d' g' w') ∨ ∃ q, p' = .Q q ∧ QuitsD P q (deafBehind d es) g')
    (hmode : ∀ tag', (tag' = tagM f.mb c.st ∨ (tagM f.mb c.st = .blk ∧ tag' = .w3)) → (mayWake P r = true → tag' ≠ .blk) → ∃ st sm, WgAt c.cy.ty c.cy.wg w' st sm ∧ ConcN.Mode f.k (ConcN.upd f.D (j - 1) p'.wd) tag' st sm)
    (hVc : cnt p'.wd ≤ cnt (f.D (j - 1))) (hcnt : s = 7 ∨ ∀ i e, es[i]? = some e → (MemAct.ofEvent e).touch? = none ∨ 0 < deafBehind d (es.extract 0 i)) (hd0 : s = 7 → d = 0) (hrel : s = 7 → ¬ p'.isL → es = #[mk (.releaseMerge (stA c.cy.wg))])
    (hlt : p'.wt < s ∨ (p'.wt = s ∧ p'.fl + 2 ≤ 2 * g)) :
    ∃ f', f'.gs = (f.gs.map (woken P r g' w')).setIfInBounds j g' ∧ f'.w = w' ∧ f'.sl = f.sl ∧ f'.t = f.t ++ MemOp.ofEvents j r.frame.fn r.frame.place es ∧ f'.k = f.k ∧ f'.F = f.F ∧ Inv P Post W0 f' a x ∧ (f'.S < f.S ∨ (f'.S = f.S ∧ f'.N < f.N)) := by
  have hj1 : 1 ≤ j := by omega
  have hne0 : (0 : Nat) ≠ j := by omega
  obtain ⟨hdj, r1, hr1, hb1⟩ := h2.b j s g d hp hj0 hk
  rw [hr] at hr1; cases hr1
  obtain ⟨mb', w1, w2, w3⟩ := wake_main (r := r) (g' := g') (w' := w') h1 h2 hx hst' fun _ b hb => hheap _ (by rcases hb with e | e <;> subst e; exact Ne.symm h2.ne.2.1; exact Ne.symm h2.ne.2.2)
  obtain ⟨ph', hph'⟩ : ∃ ph', ph' = ConcN.upd f.ph j p' := ⟨_, rfl⟩
  have p1 : ph' j = p' := by rw [hph']; exact ConcN.upd_same _ _ _
  have p2 : ∀ k, k ≠ j → ph' k = f.ph k := fun k hk => by rw [hph']; exact upd_ne _ _ hk
  have hpA : ¬ p'.isA := by rcases hsit with ⟨s', m', d', rfl, _⟩ | ⟨q, rfl, _⟩ <;> exact id
  have hpL : p'.isL → s = 7 := by
    rcases hsit with ⟨s', m', d', rfl, _, h3, _⟩ | ⟨q, rfl, _⟩
    · exact h3
    · exact fun h => h.elim
  have hD : (fun i => (ph' (i + 1)).wd) = ConcN.upd f.D (j - 1) p'.wd := by
    funext i
    by_cases e : i + 1 = j
    · rw [e, p1, show i = j - 1 by omega, ConcN.upd_same]
    · rw [p2 _ e, upd_ne _ _ (by omega)]; rfl
  have hDj : (f.D (j - 1)).stage = s := by simp only [Cf.D, Nat.sub_add_cancel hj1, hp, Ph.wd]
  have hM : f.o.M j = Heap.empty := h1.oMn j hj1 (.inr (by rw [hp]; exact id))
  have hops : ∀ op ∈ MemOp.ofEvents j r.frame.fn r.frame.place es, op.g = j := fun op hop => by obtain ⟨e, _, rfl⟩ := ofEvents_mem hop; rfl
  have hcp : f.o.cp j := (h1.cp j).2 ⟨hj1, hk, by rw [hp]; exact id⟩
  have hac : f.o.ac j c.cy.wg := by
    obtain ⟨i, s', e1, e2⟩ := wk_ix h2 hj1 hk (by rw [hp]; exact id)
    rw [e1]; exact (h2.ac i (List.getElem?_eq_some_iff.1 e2).1).2.2
  have hwgl : c.cy.wg < f.w.heap.size := h1.apart.sh _ h2.wg
  have hmay : ∀ e ∈ es, ∀ t, (MemAct.ofEvent e).touch? = some t → f.o.May f.w.heap.size j t := fun e he t ht b hb => by
    obtain ⟨e1, e2⟩ := (hes e he).at_ t ht
    rw [e1] at hb; cases hb
    exact .inr (.inr ⟨h2.wg, by rw [e2]; simp, fun hh => (by rw [e2] at hh; cases hh), .inr ⟨hcp, hac⟩⟩)
  have hlow : ∀ e ∈ es, LowT w'.heap.size (MemAct.ofEvent e) := fun e he t ht => by
    rw [hsz]; exact low_of_blk ((hes e he).at_ t ht).1 hwgl
  have hnc : s ≠ 7 → ∀ y, f.t.size ≤ y → (f.t ++ MemOp.ofEvents j r.frame.fn r.frame.place es).g? y = some j → ¬ (f.t ++ MemOp.ofEvents j r.frame.fn r.frame.place es).counts y := fun hs7 =>
    not_counts hdj (fun e he t ht => ((hes e he).at_ t ht).2) (hcnt.resolve_left hs7)
  have hone : s = 7 → ¬ p'.isL → ∀ y z, (f.t ++ MemOp.ofEvents j r.frame.fn r.frame.place es)[y]? = some z → y ≤ f.t.size := fun hs7 hnl y z hy => by
    have := lt_size_of_getElem? hy
    rw [hrel hs7 hnl, ofEvents_eq] at this
    simp at this
    omega
  have hatr : s = 7 → ¬ p'.isL → (f.t ++ MemOp.ofEvents j r.frame.fn r.frame.place es)[f.t.size]? = some { g := j, fn := r.frame.fn, pos := r.frame.place, act := .mark (.releaseMerge (stA c.cy.wg)) } := fun hs7 hnl => by
    have := at_new f.t (MemOp.ofEvents j r.frame.fn r.frame.place es) 0
    rw [Nat.add_zero] at this
    rw [this, hrel hs7 hnl, ofEvents_eq]
    simp [mk, MemAct.ofEvent]
  refine ⟨sndNext P f r g' w' es j ph' f.F mb' Heap.empty (rlB f j s p'), rfl, rfl, rfl, rfl, rfl, rfl, ⟨snd_go1 (ph' := ph') (F' := f.F) (mb' := mb') (m' := Heap.empty) (rl' := rlB f j s p') h1 hj1 hk hr p2 (wakes_snd h1 h2 (j := j) fun b hb => hheap _ (by rcases hb with e | e <;> subst e; exact Ne.symm h2.ne.2.1; exact Ne.symm h2.ne.2.2)) (fun _ _ => rfl) w1 henv (fun b hb hn hsh => hheap b fun e => hsh (e ▸ h2.wg)) (by rw [hsz]; exact Nat.le_refl _) (fun b o hb => by cases hb) (fun b hb => absurd rfl hb) hmay (fun e he t ht hk => by rw [((hes e he).at_ t ht).2] at hk; cases hk) hlow ?_ (fun _ _ h => .inl h)
    ?_ ?_ (fun hh => absurd (p1 ▸ hh) hpA) (fun hh => by rw [hp]; exact hpL (p1 ▸ hh)) (fun hh => by rw [hp] at hh; exact hh.elim) ⟨fun pk hpk => absurd (by rw [← p1, hpk]; trivial) hpA, fun _ => rfl, fun q hq => ?_⟩, ?_⟩, ?_⟩
  · by_cases hs7 : s = 7
    · exact .inl ((h1.lv j).2 ⟨hj1, hk, by rw [hp]; exact hs7⟩)
    · exact .inr (hnc hs7)
  · by_cases hs7 : s = 7
    · by_cases hL : p'.isL
      · exact .inl (p1 ▸ hL)
      · refine .inr (.inr ⟨f.t.size, .inr ⟨hs7, hL, rfl, rfl⟩, fun y hy => ?_⟩)
        obtain ⟨op, ho, _⟩ := Option.map_eq_some_iff.1 hy
        exact hone hs7 hL y op ho
    · exact .inr (.inl (by rw [hp]; exact hs7))
  · intro hn hl
    have hs7 : s = 7 := by rw [hp] at hl; exact hl
    rw [p1] at hn
    refine ⟨f.t.size, .inr ⟨hs7, hn, rfl, rfl⟩, fun y ⟨q, z, hz, hzg, hbz⟩ => ?_⟩
    have hle := hone hs7 hn q z hz
    rcases Nat.lt_or_ge q f.t.size with hlt | hge
    · refine .inr (hbz.hb (.single (.inl ⟨hlt, j, ?_, ?_⟩)))
      · simp [Trace.g?, hz, hzg]
      · simp [Trace.g?, hatr hs7 hn]
    · have : q = f.t.size := by omega
      subst this; exact hbz
  · rw [p1] at hq
    rcases hsit with ⟨s', m', d', e, _⟩ | ⟨q', e, hq'⟩
    · rw [e] at hq; cases hq
    · rw [e] at hq; cases hq
      rw [Deaf_own, hdj]; exact hq'
  · rw [hx]
    have hA : ∀ i, (ph' i).isA ↔ (f.ph i).isA := fun i => by
      by_cases e : i = j
      · rw [e, p1, hp]; exact ⟨fun hh => absurd hh hpA, fun hh => hh.elim⟩
      · rw [p2 i e]
    have hmode' : ∃ st sm, WgAt c.cy.ty c.cy.wg w' st sm ∧ ConcN.Mode f.k (ConcN.upd f.D (j - 1) p'.wd) (tagM mb' c.st) st sm := hmode _ (tagM_next w2) fun hmw => tagM_blk (w3 hmw)
    have hrel_lt : ∀ i rr, f.o.rl i rr → rr < f.t.size := fun i rr hh => h2.rel_lt hh
    have hchn : ∀ b, (b = c.cy.dl ∨ b = c.cy.dn) → w'.heap[b]? = f.w.heap[b]? := fun b hb => hheap _ (by rcases hb with e | e <;> subst e; exact Ne.symm h2.ne.2.1; exact Ne.symm h2.ne.2.2)
    refine ⟨j0, ⟨h2.k, fun i a b => by show (ph' i).isQ; rw [p2 i (by omega)]; exact h2.old i a b, h2.base, h2.win, ⟨h2.dl.1, ?_⟩, ⟨h2.dn.1, ?_⟩, h2.wg, h2.ne, ?_, fun live hi' i' z hz hh => ?_, fun n hn => ?_, h2.shut, fun i a b hh => ?_, h2.idle, fun i' z pk hz hh => ?_, fun i' z hz hh => ?_, fun i z gg dd hh a b => ?_, fun i z gg dd hh a b hz => ?_, fun i rr hrr => ?_, fun i rr hrr y hy he => ?_, fun hd i rr hrr => ?_, h2.few, h2.ac⟩⟩
    · obtain ⟨n, e⟩ := h2.dl.2
      exact ⟨n, by show w'.heap[c.cy.dl]? = _; rw [hchn _ (.inl rfl)]; exact e⟩
    · obtain ⟨n, e⟩ := h2.dn.2
      exact ⟨n, by show w'.heap[c.cy.dn]? = _; rw [hchn _ (.inr rfl)]; exact e⟩
    · show ∃ st sm, WgAt c.cy.ty c.cy.wg w' st sm ∧ ConcN.Mode f.k (fun i => (ph' (i + 1)).wd) _ st sm
      rw [hD]; exact hmode'
    · have hi'' : f.mb = .park live := by
        rcases w2 with e | ⟨_, e⟩
        · rw [← e]; exact hi'
        · replace hi' : mb' = .park live := hi'
          rw [e] at hi'; cases hi'
      have e : j0 + 1 + i' ≠ j := fun e => by replace hh : ph' (j0 + 1 + i') = .A true := hh; rw [e, p1] at hh; rw [hh] at hpA; exact hpA trivial
      exact h2.park live hi'' i' z hz ((p2 _ e).symm.trans hh)
    · have := h2.bnd n hn
      have e := Vc_upd f.D p'.wd (i := j - 1) (j := f.k) (by omega)
      show Vc f.k (fun i => (ph' (i + 1)).wd) ≤ n
      rw [hD]; omega
    · have e : i ≠ j := fun e => by replace hh : ph' i = .A true := hh; rw [e, p1] at hh; rw [hh] at hpA; exact hpA trivial
      exact h2.pk i a b ((p2 i e).symm.trans hh)
    · have e : j0 + 1 + i' ≠ j := fun e => by replace hh : ph' (j0 + 1 + i') = .A pk := hh; rw [e, p1] at hh; rw [hh] at hpA; exact hpA trivial
      exact h2.cha i' z pk hz ((p2 _ e).symm.trans hh)
    · exact h2.chb i' z hz fun hh' => hh ((hA _).2 hh')
    · replace hh : ph' i = .B z gg dd := hh
      by_cases e : i = j
      · subst e
        rw [p1] at hh
        rcases hsit with ⟨s', m', d', e, e1, _, e2⟩ | ⟨q', e, _⟩
        · rw [e] at hh; cases hh
          exact ⟨by show Deaf (f.t ++ _) i = _; rw [Deaf_own, hdj]; exact e1, g', get_set_self (by rw [h1.size]; omega), e2⟩
        · rw [e] at hh; cases hh
      · rw [p2 i e] at hh
        obtain ⟨b1, ri, b2, b3⟩ := h2.b i z gg dd hh a b
        refine ⟨by show Deaf (f.t ++ _) i = _; rw [Deaf_other _ (g' := j) (Ne.symm e) _ hops]; exact b1, ri, ?_, b3.rely (fun b hb => hheap b fun e => ?_) (fun _ => let ⟨st, sm, e1, _⟩ := hmode'; ⟨st, sm, e1⟩) fun h7 => ?_⟩
        · show ((f.gs.map (woken P r g' w')).setIfInBounds j g')[i]? = some ri
          rw [get_set_map (Ne.symm e), b2]
          exact congrArg some (b3.woken _ _ _)
        · exact (base_ne h1 h2 b hb).1 e
        · replace b : i ≤ f.k := b
          exact sm_same (i := i - 1) (by omega) (by subst h7; simp only [Cf.D, Nat.sub_add_cancel (show 1 ≤ i by omega), hh, Ph.wd]) h2.mode hmode' (by rw [upd_ne _ _ (by omega)])
    · replace hh : ph' i = .B z gg dd := hh
      by_cases e : i = j
      · subst e
        rw [p1] at hh
        by_cases hs7 : s = 7
        · exact ⟨f.t.size, .inr ⟨hs7, by rw [hh]; intro h; replace h : z = 7 := h; omega, rfl, rfl⟩⟩
        · obtain ⟨rr, hrr⟩ := h2.b7 i s g d hp hj0 hk (by
            have : s ≤ 7 := by
              obtain ⟨_, _, _, _, _, _, _, h3, _⟩ := hb1
              cases h3 <;> omega
            omega)
          exact ⟨rr, .inl hrr⟩
      · rw [p2 i e] at hh
        obtain ⟨rr, hrr⟩ := h2.b7 i z gg dd hh a b hz
        exact ⟨rr, .inl hrr⟩
    · rcases hrr with hrr | ⟨hs7, hnl, rfl, rfl⟩
      · obtain ⟨r1, r2, r3, r4⟩ := h2.rel i rr hrr
        refine ⟨r1, r2, fun hh => ?_, ?_⟩
        · replace hh : (ph' i).isL := hh
          by_cases e : i = j
          · subst e; rw [p1] at hh; exact r3 (by rw [hp]; exact hpL hh)
          · rw [p2 i e] at hh; exact r3 hh
        · by_cases e : i = j
          · subst e
            exact r4.app (hnc fun e => r3 (by rw [hp]; exact e))
          · exact r4.appOther hops (Ne.symm e)
      · refine ⟨hj0, hk, fun hh => hnl (by replace hh : (ph' i).isL := hh; rwa [p1] at hh), ?_⟩
        show RelBy (stA c.cy.wg) (f.t ++ MemOp.ofEvents i r.frame.fn r.frame.place es) i f.t.size
        rw [hrel hs7 hnl]
        exact RelBy.new (by rw [hdj]; exact hd0 hs7) _ _
    · obtain ⟨op, ho, hoa⟩ := Option.map_eq_some_iff.1 he
      rcases getElem?_append_cases ho with ⟨hl, ho'⟩ | ⟨_, hou⟩
      · rcases hrr with hrr | ⟨_, _, _, rfl⟩
        · exact h2.nor i rr hrr y hy (by simp [Trace.act?, ho', hoa])
        · omega
      · obtain ⟨e, he', rfl⟩ := ofEvents_mem hou
        exact (hes e he').nor hoa
    · rcases hrr with hrr | ⟨hs7, hnl, rfl, rfl⟩
      · exact (h2.acq hd i rr hrr).app _
      · exfalso
        obtain ⟨st, sm, _, hm⟩ := h2.mode
        exact (Mode.not_ret hm (i := i - 1) (by omega) (by rw [hDj, hs7]; simp)) (by rw [hd]; rfl)
  · have e1 := upd_sum (f := f) (ph' := ph') (φ := Ph.wt) (i := j) hj1 hk p2
    have e2 := upd_sum (f := f) (ph' := ph') (φ := Ph.fl) (i := j) hj1 hk p2
    rw [p1, hp] at e1 e2
    have e1' : sumTo f.k (fun k => (ph' (k + 1)).wt) + s = sumTo f.k (fun k => (f.ph (k + 1)).wt) + p'.wt := e1
    have e2' : sumTo f.k (fun k => (ph' (k + 1)).fl) + 2 * g = sumTo f.k (fun k => (f.ph (k + 1)).fl) + p'.fl := e2
    have e3 : mb'.n ≤ f.mb.n + 1 := by cases mb' <;> simp [MB.n]
    show sumTo f.k (fun k => (ph' (k + 1)).wt) < sumTo f.k (fun k => (f.ph (k + 1)).wt) ∨ (sumTo f.k (fun k => (ph' (k + 1)).wt) = sumTo f.k (fun k => (f.ph (k + 1)).wt) ∧ sumTo f.k (fun k => (ph' (k + 1)).fl) + mb'.n < sumTo f.k (fun k => (f.ph (k + 1)).fl) + f.mb.n)
    omega
end
end Go.X
