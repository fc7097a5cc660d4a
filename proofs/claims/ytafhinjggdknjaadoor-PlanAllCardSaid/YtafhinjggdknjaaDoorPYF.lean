/- A company begins, is over; the starter returns. No program in sight. -/
import Derived.Test.YtafhinjggdknjaaDoorPYD
set_option linter.unusedVariables false
set_option linter.unusedSimpArgs false
namespace Go.X
open Go Go.Sx Go.Conc Go.ConcN
open Go.ConcR (KK wgBlock WgAt stA smA rd wr mk Payload Bk bk_of_mute ofEvent_loc_mark)
section
variable {P : Program} {Post : Value → World → Prop} {W0 : World}
theorem mute_norel {e : Event} (h : e.mute = true) (ad : Addr) : MemAct.ofEvent e ≠ .mark (.release ad) := by
  rcases bk_of_mute (Wg := 0) h with h1 | h1 | ⟨a, w, rfl, _⟩
  · rw [ofEvent_loc_mark h1]; simp
  · rw [ofEvent_loc_mark h1]; simp
  · cases w <;> simp [MemAct.ofEvent]
theorem q_move {f : Cf} {a : Goroutine} {x : XW Gh} {j q : Nat} (h : Inv P Post W0 f a x) (hj1 : 1 ≤ j) (hk : j ≤ f.k) (hp : f.ph j = .Q q) {r : Goroutine} (hr : f.gs[j]? = some r) (hrun : r.status = .running) :
    ∃ f', Moves P Post W0 f f' a x j := by
  obtain ⟨h1, h2⟩ := h
  obtain ⟨r1, hr1, hq⟩ := h1.rq j q hj1 hk hp
  rw [hr] at hr1; cases hr1
  cases q with
  | zero => rw [hq.1] at hrun; cases hrun
  | succ q =>
    rcases hq with ⟨hf, _⟩ | ⟨_, g', es, hmute, hstep, hq'⟩
    · rw [hf] at hrun; cases hrun
    have hnt : ∀ e ∈ es, (MemAct.ofEvent e).touch? = none := fun e he => touch_mute (hmute e he)
    have hops : ∀ op ∈ MemOp.ofEvents j r.frame.fn r.frame.place es, op.g = j := fun op hop => by obtain ⟨e, _, rfl⟩ := ofEvents_mem hop; rfl
    have hopn : ∀ op ∈ MemOp.ofEvents j r.frame.fn r.frame.place es, op.act.touch? = none := fun op hop => by obtain ⟨e, he, rfl⟩ := ofEvents_mem hop; exact hnt e he
    have hst' : g'.status ≠ .blocked ∧ g'.status ≠ .waiting := by rcases hq'.status with e | e <;> rw [e] <;> simp
    have hM : f.o.M j = Heap.empty := h1.oMn j hj1 (.inr (by rw [hp]; exact id))
    obtain ⟨ph', hph'⟩ : ∃ ph', ph' = ConcN.upd f.ph j (.Q q) := ⟨_, rfl⟩
    have p1 : ph' j = .Q q := by rw [hph']; exact ConcN.upd_same _ _ _
    have p2 : ∀ k, k ≠ j → ph' k = f.ph k := fun k hk => by rw [hph']; exact upd_ne _ _ hk
    have hnc : ∀ y, f.t.size ≤ y → (f.t ++ MemOp.ofEvents j r.frame.fn r.frame.place es).g? y = some j → ¬ (f.t ++ MemOp.ofEvents j r.frame.fn r.frame.place es).counts y := fun y hy _ hc => by
      obtain ⟨z, hz, _⟩ := hc
      obtain ⟨op, ho, hoa⟩ := touch_of (t := f.t ++ MemOp.ofEvents j r.frame.fn r.frame.place es) hz
      rcases getElem?_append_cases ho with ⟨hl, _⟩ | ⟨_, hou⟩
      · omega
      · rw [hopn op hou] at hoa; cases hoa
    obtain ⟨mb', w1, w2, w4⟩ : ∃ mb', (∀ r0, f.gs[0]? = some r0 → MRec P W0 a x f.mb r0 → MRec P W0 a x mb' (woken P r g' f.w r0)) ∧ (mb' = f.mb ∨ (f.mb = .blk ∧ mb' = .run)) ∧
        (∀ k a cs sh, k ≠ j → f.ph k = .A true → 1 ≤ k → f.gs[k]? = some (parked a cs sh) → woken P r g' f.w (parked a cs sh) = parked a cs sh) := by
      cases hs : x.s with
      | solo =>
        rw [hs] at h2
        refine ⟨f.mb, fun r0 hr0 hm => ?_, .inl rfl, fun k a cs sh hk hpk hpos hg => ?_⟩
        · cases hmb : f.mb with
          | run => rw [hmb] at hm; cases hm with | run hl => rw [woken_run hl.run]; exact .run hl
          | park i => rw [hmb] at hm; cases hm with | park e => rw [hs] at e; cases e
          | blk => rw [hmb] at hm; cases hm with | blk e => rw [hs] at e; cases e
        · exfalso
          have := h2.q k hpos (size_lt h1 hg)
          rw [hpk] at this; exact this.elim
      | snd c => rw [hs] at h2; exact h2.elim
      | co c =>
        rw [hs] at h2
        obtain ⟨j0, h2⟩ := h2
        obtain ⟨mb', w1, w2, _⟩ := wake_main (r := r) (g' := g') (w' := f.w) h1 h2 hs hst' fun _ _ _ => rfl
        exact ⟨mb', w1, w2, wakes_snd h1 h2 fun _ _ => rfl⟩
    have inv1 := snd_go1 (es := es) (ph' := ph') (F' := f.F) (mb' := mb') (m' := Heap.empty) (rl' := f.o.rl) h1 hj1 hk hr p2 w4 (fun _ _ => rfl) w1 h1.env (fun _ _ _ _ => rfl) (Nat.le_refl _) (fun b o hb => by cases hb) (fun b hb => absurd rfl hb) (fun e he t ht => by rw [hnt e he] at ht; cases ht) (fun e he t ht => by rw [hnt e he] at ht; cases ht) (fun e he => .none (hnt e he)) (.inr hnc) (fun _ _ h => h)
      (.inr (.inl (by rw [hp]; exact id))) (fun _ hl => by rw [hp] at hl; exact hl.elim) (fun hh => by rw [p1] at hh; exact hh.elim) (fun hh => by rw [p1] at hh; exact hh.elim) (fun _ => by rw [p1]; trivial) ⟨fun pk hpk => (by rw [p1] at hpk; cases hpk), fun _ => rfl, fun q2 hq2 => by
        rw [p1] at hq2; cases hq2
        rw [Deaf_own]; exact hq'⟩
    have hj : (j == 0) = false := by simp; omega
    have hrunT := runT_crowd_go (P := P) (sl := f.sl) (i := j) hr (by rw [hj]; exact hstep f.w)
    have e1 := upd_sum (f := f) (ph' := ph') (φ := Ph.wt) (i := j) hj1 hk p2
    have e2 := upd_sum (f := f) (ph' := ph') (φ := Ph.fl) (i := j) hj1 hk p2
    rw [p1, hp] at e1 e2
    have e1' : sumTo f.k (fun k => (ph' (k + 1)).wt) + 1 = sumTo f.k (fun k => (f.ph (k + 1)).wt) + 1 := e1
    have e2' : sumTo f.k (fun k => (ph' (k + 1)).fl) + 2 * (q + 1) = sumTo f.k (fun k => (f.ph (k + 1)).fl) + 2 * q := e2
    have e3 : mb'.n ≤ f.mb.n + 1 := by cases mb' <;> simp [MB.n]
    refine ⟨sndNext P f r g' f.w es j ph' f.F mb' Heap.empty f.o.rl, ⟨inv1, ?_⟩, rfl, rfl, .inr ⟨?_, ?_⟩, fun he => .of hrunT rfl he⟩
    · cases hs : x.s with
      | solo =>
        rw [hs] at h2
        refine ⟨fun i a b => ?_, h2.base, h2.win, h2.rl⟩
        show (ph' i).isQ
        by_cases e : i = j
        · rw [e, p1]; trivial
        · rw [p2 i e]; exact h2.q i a b
      | snd c => rw [hs] at h2; exact h2.elim
      | co c =>
        rw [hs] at h2
        obtain ⟨j0, h2⟩ := h2
        refine ⟨j0, inv2_next (u := MemOp.ofEvents j r.frame.fn r.frame.place es) h2 ⟨rfl, rfl, id⟩ rfl (fun i => ?_) (fun _ _ => rfl) ⟨rfl, rfl, rfl, rfl, rfl⟩ (fun _ _ _ _ => rfl) (base_ne h1 h2) h2.dl.2 ?_ (fun live hi' i' z hz hh => ?_) h2.bnd h2.shut h2.idle (fun i a b hh => ?_) rfl
          (fun i s g d _ hpi => Deaf_other _ (g' := j) (fun e => by rw [← e, hp] at hpi; cases hpi) _ hops) (fun i rr _ hrel => relBy_mute hrel hopn) (fun op hop he => ?_) (fun i s g d rr _ hpi hg hwk => ?_) (fun hd i rr hi => (h2.acq hd i rr hi).app _)⟩
        · by_cases e : i = j
          · subst e; exact .inr (.inr ⟨_, _, hp, p1⟩)
          · exact .inl (p2 i e)
        · obtain ⟨st, sm, hw, hm⟩ := h2.mode
          exact ⟨st, sm, hw, mode_mb hm w2⟩
        · have hi'' : f.mb = .park live := by
            rcases w2 with e | ⟨_, e⟩
            · rw [← e]; exact hi'
            · replace hi' : mb' = .park live := hi'
              rw [e] at hi'; cases hi'
          have e : j0 + 1 + i' ≠ j := fun e => by replace hh : ph' (j0 + 1 + i') = .A true := hh; rw [e, p1] at hh; cases hh
          exact h2.park live hi'' i' z hz ((p2 _ e).symm.trans hh)
        · have e : i ≠ j := fun e => by replace hh : ph' i = .A true := hh; rw [e, p1] at hh; cases hh
          exact h2.pk i a b ((p2 i e).symm.trans hh)
        · obtain ⟨e, hee, rfl⟩ := ofEvents_mem hop
          exact mute_norel (hmute e hee) _ he
        · have e : i ≠ j := fun e => by rw [e, hp] at hpi; cases hpi
          show ((f.gs.map (woken P r g' f.w)).setIfInBounds j g')[i]? = some rr
          rw [get_set_map (Ne.symm e), hg]
          exact congrArg some (hwk _ _ _)
    · exact Nat.add_right_cancel e1'
    · show sumTo f.k (fun k => (ph' (k + 1)).fl) + mb'.n < sumTo f.k (fun k => (f.ph (k + 1)).fl) + f.mb.n
      omega
end
end Go.X
namespace Go.X
open Go Go.Sx Go.Conc Go.ConcN
open Go.ConcR (KK wgBlock WgAt stA smA rd wr mk Payload Bk bk_of_mute ofEvent_loc_mark)
section
variable {P : Program} {Post : Value → World → Prop} {W0 : World}
theorem solo_lv {f : Cf} {a : Goroutine} {x : XW Gh} (h1 : Inv1 P Post W0 f a x) (h2 : Solo f) : (∀ g, ¬ f.o.lv g) ∧ ∀ g, ¬ f.o.cp g := by
  refine ⟨fun g hg => ?_, fun g hg => ?_⟩
  · obtain ⟨a1, a2, a3⟩ := (h1.lv g).1 hg
    have := h2.q g a1 a2
    cases hp : f.ph g <;> rw [hp] at this a3 <;> first | exact this.elim | exact a3.elim
  · obtain ⟨a1, a2, a3⟩ := (h1.cp g).1 hg
    exact a3 (h2.q g a1 a2)
theorem main_fin {f : Cf} {a : Goroutine} {m : Heap} (h : Inv P Post W0 f a ⟨m, .solo⟩) {r : Goroutine} (hr : f.gs[0]? = some r) (hl : Like P a r)
    (hend : ∀ w, Env W0 w → m.le (rp w) → ∃ v es, stepG P true a w = .ended (.done v) w es ∧ (∀ e ∈ es, Mine m w.heap.size e ∧ EvLow w.heap.size e) ∧ Post v w) : EndsR P Post f 0 := by
  obtain ⟨h1, h2⟩ := h
  replace h2 : Solo f := h2
  intro f0 hgs ht hst
  have hm0 : m.le (rp f.w) := by have := h1.mem 0; rwa [h1.oM0] at this
  obtain ⟨v, es, hstep, hes, hpost⟩ := hend f.w h1.env hm0
  have hrunT := runT_many_ended (P := P) (sl := f.sl) (i := 0) hr (show stepG P (0 == 0) r f.w = _ by rw [show ((0 : Nat) == 0) = true from rfl, hl.step]; exact hstep)
  have hT := hst.trans hrunT
  have hops : ∀ op ∈ MemOp.ofEvents 0 r.frame.fn r.frame.place es, op.g = 0 := fun op hop => by obtain ⟨e, _, rfl⟩ := ofEvents_mem hop; rfl
  have htok := h1.tok.app (g := 0) (u := MemOp.ofEvents 0 r.frame.fn r.frame.place es) (m' := m) (sz' := f.w.heap.size) h1.apart (Nat.zero_le _) hops (fun op hop t ht => by
      obtain ⟨e, he, rfl⟩ := ofEvents_mem hop
      exact may_mine h1.oM0.symm (hes e he).1 ht) (fun _ _ _ _ _ => rfl) (fun op hop => by obtain ⟨e, he, rfl⟩ := ofEvents_mem hop; exact .of (low_mine (hes e he).1 (hes e he).2)) (Nat.le_refl _) (fun b hb => .inl (by rw [h1.oM0]; exact hb)) (.inl rfl)
  obtain ⟨n1, n2⟩ := solo_lv h1 h2
  refine ⟨0, crowd f0.gs f0.w f0.sl, _, _, f0.t ++ MemOp.ofEvents 0 r.frame.fn r.frame.place es, by simp [runNT, hT], rfl, by simp [step, hT], v, rfl, hpost, ?_, ?_, ⟨fun g hg => ?_, rfl⟩, fun i g hi hi0 => ?_⟩
  · rw [ht]; exact htok.nr
  · rw [ht]
    intro i g hi hne hc
    rcases htok.hand i g hi hne hc with h3 | h3 | ⟨r', h3, _⟩
    · obtain ⟨q, z, hz, hzg, hb⟩ := h3
      have hzq : (f.t ++ MemOp.ofEvents 0 r.frame.fn r.frame.place es).g? q = some 0 := by simp [Trace.g?, hz, hzg]
      rcases hb with rfl | hb
      · rw [hzq] at hi; cases hi; exact absurd rfl hne
      · exact ⟨q, hzq, hb⟩
    · exact absurd h3 (n1 g)
    · exact absurd h3 (h2.rl g r')
  · rw [List.mem_iff_getElem?] at hg
    obtain ⟨i, hi⟩ := hg
    rw [List.getElem?_drop] at hi
    have hi' : f.gs[1 + i]? = some g := by rw [← hgs]; simpa [crowd] using hi
    have hle := size_lt h1 hi'
    have hq := h2.q (1 + i) (by omega) hle
    cases hp : f.ph (1 + i) with
    | Q q =>
      obtain ⟨r', hr', hq'⟩ := h1.rq (1 + i) q (by omega) hle hp
      rw [hi'] at hr'; cases hr'
      exact ⟨_, hq'.leaves⟩
    | A _ => rw [hp] at hq; exact hq.elim
    | B _ _ _ => rw [hp] at hq; exact hq.elim
  · have hi' : f.gs[i]? = some g := by rw [← hgs]; exact hi
    have hle := size_lt h1 hi'
    have hq := h2.q i (by omega) hle
    cases hp : f.ph i with
    | Q q =>
      obtain ⟨r', hr', hq'⟩ := h1.rq i q (by omega) hle hp
      rw [hi'] at hr'; cases hr'
      refine ⟨q, ?_⟩
      have e : (f0.t ++ MemOp.ofEvents 0 r.frame.fn r.frame.place es).deaf i (f0.t ++ MemOp.ofEvents 0 r.frame.fn r.frame.place es).size = Deaf f.t i := by
        rw [ht]; exact Deaf_other f.t (g := i) (g' := 0) (by omega) _ hops
      rw [e]
      exact hq'.hears _
    | A _ => rw [hp] at hq; exact hq.elim
    | B _ _ _ => rw [hp] at hq; exact hq.elim
theorem solo_run {f : Cf} {a : Goroutine} {x : XW Gh} (h1 : Inv1 P Post W0 f a x) (hx : x.s = .solo) : ∃ r, f.gs[0]? = some r ∧ f.mb = .run ∧ Like P a r := by
  obtain ⟨r, hr, hm⟩ := h1.main
  refine ⟨r, hr, ?_⟩
  cases hmb : f.mb with
  | run => rw [hmb] at hm; cases hm with | run hl => exact ⟨rfl, hl⟩
  | park i => rw [hmb] at hm; cases hm with | park e => rw [hx] at e; cases e
  | blk => rw [hmb] at hm; cases hm with | blk e => rw [hx] at e; cases e
theorem main_opn {f : Cf} {a : Goroutine} {m m' : Heap} {c : Co} (h : Inv P Post W0 f a ⟨m, .solo⟩) (h1' : c.st = .run) (h2' : c.wk = []) (h5 : c.shut = false) (h6 : m'.le m) (h7 : c.cy.base.le m) (h8 : Disj m' c.cy.base) (hdd : c.cy.dl ≠ c.cy.dn)
    (h9 : m c.cy.dl = some (.chan 0 #[] false 0 0 false)) (h9' : m c.cy.dn = some (.chan 0 #[] false 0 0 false)) (h10 : m c.cy.wg = some (wgBlock c.cy.ty 0 0)) (h11 : m' c.cy.dl = none) (h11' : m' c.cy.dn = none) (h12 : m' c.cy.wg = none) (h13 : c.cy.base c.cy.dl = none) (h13' : c.cy.base c.cy.dn = none) (h14 : c.cy.base c.cy.wg = none) (hmi : MIp P Post W0 a ⟨m', .co c⟩) :
    Inv P Post W0 { f with o := ⟨f.o.k, ConcN.upd f.o.M 0 m', c.cy.base, Heap.empty, 0, fun b => b = c.cy.dl ∨ b = c.cy.dn ∨ b = c.cy.wg, f.o.lv, f.o.cp, fun _ _ => False, fun _ _ => False⟩ } a ⟨m', .co c⟩ := by
  obtain ⟨h1, h2⟩ := h
  replace h2 : Solo f := h2
  obtain ⟨r, hr, hmb, hl⟩ := solo_run h1 rfl
  obtain ⟨n1, n2⟩ := solo_lv h1 h2
  have hM0 : f.o.M 0 = m := h1.oM0
  have hm0 : m.le (rp f.w) := by have := h1.mem 0; rwa [hM0] at this
  have some_of : ∀ {H : Heap} {b : Nat}, H.le m → H b ≠ none → m b ≠ none := fun {H b} hle hb => by
    cases hh : H b with
    | none => exact absurd hh hb
    | some o => rw [hle b o hh]; simp
  have hsh : ∀ {b : Nat}, b = c.cy.dl ∨ b = c.cy.dn ∨ b = c.cy.wg → m b ≠ none := fun {b} hb => by
    rcases hb with rfl | rfl | rfl
    · rw [h9]; simp
    · rw [h9']; simp
    · rw [h10]; simp
  have hlt : ∀ {b : Nat}, m b ≠ none → b < f.w.heap.size := fun {b} hb => (h1.apart.mem 0 b (by rw [hM0]; exact hb)).2.2.2
  have hoth : ∀ {g b}, g ≠ 0 → f.o.M g b ≠ none → m b = none := fun {g b} hg hb => by rw [← hM0]; exact h1.apart.own g 0 b hg hb
  have nn : ∀ {b : Nat}, m b ≠ none → m b = none → False := fun a b => a b
  have hne : c.cy.wg ≠ c.cy.dl := fun e => by rw [e, h9] at h10; simp [wgBlock] at h10
  have hne' : c.cy.wg ≠ c.cy.dn := fun e => by rw [e, h9'] at h10; simp [wgBlock] at h10
  have htl : ∀ b, m b ≠ none → ∀ i ad, touchAt f.t i = some ad → blk ad.loc = some b → Knows f.t 0 i := fun b hb i ad ha hb' => h1.tok.own 0 i ad b ha hb' (by rw [hM0]; exact hb)
  have hst1 : ∀ i, i < f.k → (f.D i).stage = 1 := fun i hi => by
    have := h2.q (i + 1) (by omega) (by omega)
    simp only [Cf.D]
    cases hp : f.ph (i + 1) <;> rw [hp] at this <;> first | exact this.elim | rfl
  have hV : Vc f.k f.D = 0 := by
    have : ∀ n, n ≤ f.k → Vc n f.D = 0 := fun n => by
      induction n with
      | zero => intro _; rfl
      | succ n ih =>
        intro hn
        have e := hst1 n (by omega)
        simp only [Vc, sumTo] at ih ⊢
        rw [ih (by omega)]
        simp [cnt, e]
    exact this _ (Nat.le_refl _)
  refine ⟨⟨h1.size, h1.env, ⟨r, hr, by show MRec P W0 a _ f.mb r; rw [hmb]; exact .run hl⟩, h1.ra, h1.rq, h1.mi, ?_, h1.da, h1.ok, (by show ConcN.upd f.o.M 0 m' 0 = m'; exact ConcN.upd_same _ _ _), fun i a b c => (upd_ne _ _ (by omega)).trans (h1.oMa i a b c), fun i a b => (upd_ne _ _ (by omega)).trans (h1.oMn i a b), h1.lv, h1.cp, ⟨fun g g' b hne hb => ?_, fun g b hb => ?_, fun b hb => ⟨rfl, fun hs => ?_, hlt (some_of h7 hb)⟩, fun b hb => absurd rfl hb, h1.apart.lv, fun b hb => hlt (hsh hb), fun g b hg => hg.elim⟩, fun i => ?_, fun b o hb => hm0 b o (h7 b o hb), fun b o hb => (by cases hb), ?_⟩, f.k, ?_⟩
  · rw [h1.d0]; simp [deafOf, h1']
  · simp only [ConcN.upd] at hb ⊢
    by_cases e : g = 0
    · subst e
      rw [if_pos rfl] at hb
      rw [if_neg (Ne.symm hne)]
      exact h1.apart.own 0 g' b hne (by rw [hM0]; exact some_of h6 hb)
    · rw [if_neg e] at hb
      by_cases e' : g' = 0
      · rw [if_pos e']
        cases hh : m' b with
        | none => rfl
        | some o => exact absurd (hoth e hb) (some_of h6 (by rw [hh]; simp))
      · rw [if_neg e']; exact h1.apart.own g g' b hne hb
  · simp only [ConcN.upd] at hb
    by_cases e : g = 0
    · rw [if_pos e] at hb
      refine ⟨?_, rfl, fun hs => ?_, hlt (some_of h6 hb)⟩
      · exact (h8 b).resolve_left hb
      · rcases hs with rfl | rfl | rfl
        · exact hb h11
        · exact hb h11'
        · exact hb h12
    · rw [if_neg e] at hb
      have hmn := hoth e hb
      refine ⟨?_, rfl, fun hs => hsh hs hmn, (h1.apart.mem g b hb).2.2.2⟩
      show c.cy.base b = none
      cases hh : c.cy.base b with
      | none => rfl
      | some o => exact absurd hmn (some_of h7 (by rw [hh]; simp))
  · rcases hs with rfl | rfl | rfl
    · exact hb h13
    · exact hb h13'
    · exact hb h14
  · intro b o hb
    simp only [ConcN.upd] at hb
    split at hb
    · exact hm0 b o (h6 b o hb)
    · exact h1.mem i b o hb
  · refine h1.tok.turn (Nat.le_refl _) (fun g b hb => .inl ?_) (fun b hb => .inr fun i ad ha hb' => ⟨htl b (some_of h7 hb) i ad ha hb', fun g hg => absurd hg (n1 g)⟩) (fun b hb => absurd rfl hb) (fun b hb => .inr fun i ad ha hb' _ g hg => ?_) (fun g hg => absurd hg (n1 g)) (fun g r hr => h2.rl g r hr)
    · simp only [ConcN.upd] at hb
      by_cases e : g = 0
      · rw [if_pos e] at hb; rw [e, hM0]; exact some_of h6 hb
      · rw [if_neg e] at hb; exact hb
    · rcases hg with rfl | hg
      · exact htl b (hsh hb) i ad ha hb'
      · exact absurd hg.1 (n2 g)
  · have no : ∀ {i : Nat} {s : Option Nat}, c.wk[i]? = some s → False := fun {i s} hs => by rw [h2'] at hs; simp at hs
    refine ⟨by rw [h2']; rfl, fun i a b => h2.q i a b, rfl, rfl, ⟨.inl rfl, 0, by rw [h5]; exact hm0 _ _ h9⟩, ⟨.inr (.inl rfl), 0, hm0 _ _ h9'⟩, .inr (.inr rfl), ⟨hdd, hne, hne'⟩, ⟨0, 0, hm0 _ _ h10, ?_⟩, fun live hi i o hs => (no hs).elim, fun n hn => (by rw [h1'] at hn; cases hn), by rw [h1']; trivial, fun i a b hh => ?_, fun _ i o hs => (no hs).elim, fun i s pk hs => (no hs).elim, fun i s hs => (no hs).elim, fun i s g d hh a b => ?_, fun i s g d hh a b => ?_, fun i r hr => hr.elim, fun i r hr => hr.elim, fun hd => (by rw [h1'] at hd; cases hd), by rw [h2']; decide, fun i hi => by rw [h2'] at hi; simp at hi⟩
    · show ConcN.Mode f.k f.D (tagOf (match f.mb with | .blk => true | _ => false) c.st) 0 0
      rw [hmb, h1']
      have := Mode.opn (j := f.k) (D := f.D) (tag := .sp 0 4) trivial (fun i hi => .inr (.inr (.inr (hst1 i hi)))) (fun vs e => by cases e)
      rw [hV] at this
      simpa [pend, tagOf] using this
    · have := h2.q i a b
      replace hh : f.ph i = .A true := hh
      rw [hh] at this; exact this.elim
    · replace b : i ≤ f.k := b
      omega
    · replace b : i ≤ f.k := b
      omega
end
end Go.X
