/- A company: the starter's steps. No program in sight. -/
import Derived.Test.YtafhinjggdknjaaDoorPXK
set_option linter.unusedVariables false
set_option linter.unusedSimpArgs false
namespace Go.X
open Go Go.Sx Go.Conc Go.ConcN
open Go.ConcR (KK wgBlock WgAt stA smA rd wr mk Payload Bk)
structure Solo (f : Cf) : Prop where
  q : ∀ i, 1 ≤ i → i ≤ f.k → (f.ph i).isQ
  base : f.o.base = Heap.empty
  win : f.o.win = Heap.empty
  rl : ∀ i r, ¬ f.o.rl i r
def Ph.wt : Ph → Nat
  | .A _ => 8
  | .B s _ _ => s
  | .Q _ => 1
def Ph.fl : Ph → Nat
  | .A pk => if pk then 0 else 1
  | .B _ f _ => 2 * f
  | .Q q => 2 * q
def MB.n : MB → Nat
  | .run => 1
  | _ => 0
def Cf.S (f : Cf) : Nat := sumTo f.k fun i => (f.ph (i + 1)).wt
def Cf.N (f : Cf) : Nat := sumTo f.k (fun i => (f.ph (i + 1)).fl) + f.mb.n
section
variable (P : Program) (Post : Value → World → Prop) (W0 : World)
def Inv (f : Cf) (a : Goroutine) (x : XW Gh) : Prop := Inv1 P Post W0 f a x ∧ match x.s with
  | .solo => Solo f
  | .co c => ∃ j0, Inv2 P f x c j0
  | .snd _ => False
def Ends (f : Cf) : Prop := ∃ n last o w' t', runNT P (n + 1) (crowd f.gs f.w f.sl) f.t = (.ended o w', t') ∧ runN P n (crowd f.gs f.w f.sl) = .next last ∧ step P last = .ended o w' ∧ Good P Post last o w' t'
end
section
variable {P : Program} {Post : Value → World → Prop} {W0 : World}
theorem ends_step {f f' : Cf} {ops : Trace} (h : stepT P (crowd f.gs f.w f.sl) = (.next (crowd f'.gs f'.w f'.sl), ops)) (ht : f'.t = f.t ++ ops) (he : Ends P Post f') : Ends P Post f := by
  obtain ⟨n, last, o, w', t', h1, h2, h3, h4⟩ := he
  rw [ht] at h1
  exact ⟨n + 1, last, o, w', t', by rw [runNT_succ_next h]; exact h1, by rw [runN_succ_next h]; exact h2, h3, h4⟩
theorem upd_sum {f : Cf} {ph' : Nat → Ph} {φ : Ph → Nat} {i : Nat} (hi : 1 ≤ i) (hk : i ≤ f.k) (h : ∀ j, j ≠ i → ph' j = f.ph j) : sumTo f.k (fun j => φ (ph' (j + 1))) + φ (f.ph i) = sumTo f.k (fun j => φ (f.ph (j + 1))) + φ (ph' i) := by
  have e : (fun j => ph' (j + 1)) = ConcN.upd (fun j => f.ph (j + 1)) (i - 1) (ph' i) := by
    funext j
    simp only [ConcN.upd]
    split
    · rename_i e; subst e; congr 1; omega
    · exact h _ (by omega)
  have := sumTo_upd (fun j => f.ph (j + 1)) (ph' i) φ (i := i - 1) (j := f.k) (by omega)
  simp only [← e] at this
  have e2 : i - 1 + 1 = i := by omega
  simp only [e2] at this
  exact this
theorem Inv.at {f : Cf} {a : Goroutine} {x : XW Gh} (h : Inv P Post W0 f a x) (d : Nat) (sl : Option (Nat × Nat)) : Inv P Post W0 { f with w := f.w.at d, sl := sl } a x := by
  obtain ⟨h1, h2⟩ := h
  refine ⟨⟨h1.size, ⟨h1.env.os, h1.env.tape, h1.env.out⟩, h1.main, h1.ra, h1.rq, h1.mi, h1.d0, h1.da, h1.ok, h1.oM0, h1.oMa, h1.oMn, h1.lv, h1.cp, h1.apart, h1.mem, h1.mbase, h1.mwin, h1.tok⟩, ?_⟩
  cases hs : x.s with
  | solo => rw [hs] at h2; exact ⟨h2.q, h2.base, h2.win, h2.rl⟩
  | snd c => rw [hs] at h2; exact h2.elim
  | co c =>
    rw [hs] at h2
    obtain ⟨j0, h2⟩ := h2
    refine ⟨j0, ⟨h2.k, h2.old, h2.base, h2.win, h2.dl, h2.dn, h2.wg, h2.ne, h2.mode, h2.park, h2.bnd, h2.shut, h2.pk, h2.idle, h2.cha, h2.chb, fun i s g d' hp hj hi => ?_, h2.b7, h2.rel, h2.nor, h2.acq, h2.few, h2.ac⟩⟩
    obtain ⟨b1, r, b2, b3⟩ := h2.b i s g d' hp hj hi
    exact ⟨b1, r, b2, b3.rely (fun _ _ => rfl) id fun _ => ⟨rfl, let ⟨st, sm, e, _⟩ := h2.mode; ⟨st, sm, e⟩⟩⟩
theorem MRec.awake {a : Goroutine} {x : XW Gh} {b : MB} {r : Goroutine} (h : MRec P W0 a x b r) : Go.Conc.awake r := by
  intro t
  cases h with
  | run hl => rw [hl.run]; simp
  | park => simp [parked]
  | blk => simp
theorem Inv.awake {f : Cf} {a : Goroutine} {x : XW Gh} (h : Inv P Post W0 f a x) : ∀ g ∈ f.gs, awake g := by
  obtain ⟨h1, h2⟩ := h
  intro g hg
  obtain ⟨i, hi, rfl⟩ := Array.mem_iff_getElem.1 hg
  have hget : f.gs[i]? = some f.gs[i] := Array.getElem?_eq_getElem hi
  rcases Nat.eq_zero_or_pos i with rfl | hpos
  · obtain ⟨r, hr, hm⟩ := h1.main
    rw [hget] at hr; cases hr
    exact hm.awake
  · have hk : i ≤ f.k := by have := h1.size; omega
    intro t
    cases hp : f.ph i with
    | A pk =>
      obtain ⟨r, hr, hc⟩ := h1.ra i pk hpos hk hp
      rw [hget] at hr; cases hr
      generalize f.gs[i] = gg at hc
      cases hc with
      | run hl => rw [hl.run]; simp
      | ask => simp [parked]
      | give => simp [parked]
    | Q q =>
      obtain ⟨r, hr, hq⟩ := h1.rq i q hpos hk hp
      rw [hget] at hr; cases hr
      rcases hq.status with e | e <;> rw [e] <;> simp
    | B s g d =>
      cases hs : x.s with
      | solo => rw [hs] at h2; have := h2.q i hpos hk; rw [hp] at this; exact this.elim
      | snd c => rw [hs] at h2; exact h2.elim
      | co c =>
        rw [hs] at h2
        obtain ⟨j0, h2⟩ := h2
        rcases Nat.lt_or_ge j0 i with hj | hj
        · obtain ⟨_, r, hr, hb⟩ := h2.b i s g d hp hj hk
          rw [hget] at hr; cases hr
          rcases hb.status with e | e <;> rw [e] <;> simp
        · have := h2.old i hpos hj; rw [hp] at this; exact this.elim
theorem BSit.runs {c : Cy} {s g d : Nat} {r : Goroutine} {w : World} (h : BSit P c s g d r w) (hs : 2 ≤ s) : r.status = .running := by
  obtain ⟨C, cs, T, fz, v, _, _, h3, _⟩ := h
  cases h3 with
  | r0 h => exact Goes.running (fun _ _ x => x.1) w (RW.refl w) h
  | k1 h => exact Goes.running (fun _ _ x => x.1) w (RW.refl w) h
  | d1 h => exact Goes.running (fun _ _ x => x.1) w (RW.refl w) h
  | d2 h => exact Goes.running (fun _ _ x => x.1) w (RW.refl w) h
  | d3 h => exact Goes.running (fun _ _ x => x.1) w (RW.refl w) h
  | d4 h => exact Goes.running (fun _ _ x => x.1) w (RW.refl w) h
  | quit h => omega
theorem sum_pos {φ : Nat → Nat} : ∀ {k : Nat}, 1 ≤ sumTo k φ → ∃ i, i < k ∧ 1 ≤ φ i
  | 0, h => by simp [sumTo] at h
  | k + 1, h => by
    simp only [sumTo] at h
    by_cases h1 : 1 ≤ φ k
    · exact ⟨k, by omega, h1⟩
    · obtain ⟨i, h2, h3⟩ := sum_pos (φ := φ) (k := k) (by omega)
      exact ⟨i, by omega, h3⟩
theorem snd_runs {f : Cf} {a : Goroutine} {x : XW Gh} {c : Co} {j0 : Nat} (h1 : Inv1 P Post W0 f a x) (h2 : Inv2 P f x c j0) {i : Nat} (hi : i < f.k) (hs : 2 ≤ (f.D i).stage) (hp : f.ph (i + 1) ≠ .A true) : ∃ g, f.gs[i + 1]? = some g ∧ g.status = .running := by
  have hj : j0 < i + 1 := Nat.lt_of_not_le fun hle => by
    have := h2.old (i + 1) (by omega) hle
    cases hph : f.ph (i + 1) <;> rw [hph] at this <;> first | exact this.elim | skip
    simp [Cf.D, hph, Ph.wd] at hs
  cases hph : f.ph (i + 1) with
  | A pk =>
    cases pk with
    | true => exact absurd hph hp
    | false =>
      obtain ⟨r, hr, hc⟩ := h1.ra (i + 1) false (by omega) (by omega) hph
      cases hc with
      | run hl => exact ⟨r, hr, hl.run⟩
  | B s g d =>
    obtain ⟨_, r, hr, hb⟩ := h2.b (i + 1) s g d hph hj (by omega)
    exact ⟨r, hr, hb.runs (by simpa [Cf.D, hph, Ph.wd] using hs)⟩
  | Q q => simp [Cf.D, hph, Ph.wd] at hs
theorem Inv.progress {f : Cf} {a : Goroutine} {x : XW Gh} (h : Inv P Post W0 f a x) : ∃ (i : Nat) (g : Goroutine), f.gs[i]? = some g ∧ g.status = .running := by
  obtain ⟨h1, h2⟩ := h
  obtain ⟨r, hr, hm⟩ := h1.main
  cases hmb : f.mb with
  | run =>
    rw [hmb] at hm
    cases hm with
    | run hl => exact ⟨0, r, hr, hl.run⟩
  | park live =>
    rw [hmb] at hm
    cases hm with
    | park hs hst hsh hlive hope hstep hrun =>
      rename_i c z1 z2
      rw [hs] at h2
      obtain ⟨j0, h2⟩ := h2
      have key : ∀ (i : Nat) (o : Option Nat), c.wk[i]? = some o → (o = none → live = true) → ∃ (i : Nat) (g : Goroutine), f.gs[i]? = some g ∧ g.status = .running := fun i o ho hn => by
        have hlt : i < f.k := by rw [h2.k]; have := (List.getElem?_eq_some_iff.1 ho).1; omega
        have hle : j0 + 1 + i ≤ f.k := by rw [h2.k]; have := (List.getElem?_eq_some_iff.1 ho).1; omega
        cases hph : f.ph (j0 + 1 + i) with
        | A pk =>
          cases pk with
          | true =>
            obtain ⟨rfl, e⟩ := h2.park live hmb i o ho hph
            rw [hn rfl] at e; cases e
          | false =>
            obtain ⟨r', hr', hc⟩ := h1.ra (j0 + 1 + i) false (by omega) hle hph
            cases hc with
            | run hl => exact ⟨_, r', hr', hl.run⟩
        | B s g d => have := h2.chb i o ho (by rw [hph]; exact id); rw [hsh] at this; cases this
        | Q q => have := h2.chb i o ho (by rw [hph]; exact id); rw [hsh] at this; cases this
      unfold Hope at hope
      cases live with
      | true =>
        simp only [if_true] at hope
        cases hw : c.wk with
        | nil => exact absurd hw hope
        | cons o t => exact key 0 o (by rw [hw]; rfl) fun _ => rfl
      | false =>
        simp only [Bool.false_eq_true, if_false] at hope
        obtain ⟨k, j, hk⟩ := hope
        exact key k (some j) hk fun e => by cases e
  | blk =>
    rw [hmb] at hm
    cases hm with
    | blk hs hst _ _ =>
      rw [hs] at h2
      obtain ⟨j0, h2⟩ := h2
      obtain ⟨st, sm, hw, hmode⟩ := h2.mode
      rw [hmb, hst] at hmode
      have key : ∀ i, i < f.k → 2 ≤ (f.D i).stage → ∃ (i : Nat) (g : Goroutine), f.gs[i]? = some g ∧ g.status = .running := fun i hi hs => by
        obtain ⟨g, hg, hgr⟩ := snd_runs h1 h2 hi hs fun hp => by
          have := h2.pk (i + 1) (by omega) (by omega) hp
          have h3 := h2.shut
          rw [hst] at h3
          rw [this] at h3; exact absurd h3 (by simp [shutAt])
        exact ⟨_, g, hg, hgr⟩
      cases hmode with
      | opn ht => exact ht.elim
      | reg ht ho hv =>
        obtain ⟨i, hi, hc⟩ := sum_pos hv
        refine key i hi ?_
        simp only [cnt] at hc
        split at hc <;> omega
      | last L ht hL hs _ => exact key L hL (by omega)
      | fin ht _ => exact ht.elim
end
end Go.X
namespace Go.X
open Go Go.Sx Go.Conc Go.ConcN
open Go.ConcR (KK wgBlock WgAt stA smA rd wr mk Payload Bk)
section
variable {P : Program} {Post : Value → World → Prop} {W0 : World}
theorem low_mine {m : Heap} {sz n : Nat} {e : Event} (h : Mine m sz e) (hl : EvLow n e) : (MemAct.ofEvent e).low n := by
  obtain ⟨loc, w, s⟩ := e
  unfold Mine at h
  unfold EvLow at hl
  cases loc with
  | cell a => cases s <;> exact hl
  | obj r => cases w <;> cases s <;> exact hl
  | mark k => simp only at h; subst h; trivial
  | _ => exact h.elim
theorem woken_of {r g' o : Goroutine} {w' : World} (h : o.again w' = o) : woken P r g' w' o = o := by
  unfold Go.Conc.woken; split
  · exact h
  · rfl
theorem low_mineP {m p : Heap} {sz n : Nat} {e : Event} (h : MineP m p sz e) (hl : EvLow n e) : (MemAct.ofEvent e).low n := by
  rcases h with h | ⟨ad, h1, _, _⟩
  · exact low_mine h hl
  · obtain ⟨loc, w, s⟩ := e
    simp only at h1
    subst h1
    unfold EvLow at hl
    cases s <;> exact hl
theorem again_open {g : Goroutine} {cc : CommCase} {sh : CommShape} {w : World} {b cap s r : Nat} {buf : Array Value} {tm : Bool} (hc : cc.chan = .chan (some b)) (hb : w.heap[b]? = some (.chan cap buf false s r tm)) : (parked g #[cc] sh).again w = parked g #[cc] sh := by
  simp [Goroutine.again, parked, hc, hb]
theorem again_shut {g : Goroutine} {cc : CommCase} {sh : CommShape} {w : World} {b cap s r : Nat} {buf : Array Value} {tm : Bool} (hc : cc.chan = .chan (some b)) (hb : w.heap[b]? = some (.chan cap buf true s r tm)) : (parked g #[cc] sh).again w = { parked g #[cc] sh with status := .running } := by
  simp [Goroutine.again, parked, hc, hb]
theorem wk_ix {f : Cf} {x : XW Gh} {c : Co} {j0 : Nat} (h2 : Inv2 P f x c j0) {j : Nat} (hj : 1 ≤ j) (hk : j ≤ f.k) (hp : ¬ (f.ph j).isQ) : ∃ (i : Nat) (o : Option Nat), j = j0 + 1 + i ∧ c.wk[i]? = some o := by
  have hj0 : j0 < j := Nat.lt_of_not_le fun hle => hp (h2.old j hj hle)
  have hlen : j - j0 - 1 < c.wk.length := by have := h2.k; omega
  exact ⟨j - j0 - 1, _, by omega, List.getElem?_eq_getElem hlen⟩
theorem parked_hand {f : Cf} {a : Goroutine} {x : XW Gh} {c : Co} {j0 : Nat} (h1 : Inv1 P Post W0 f a x) (h2 : Inv2 P f x c j0) {i : Nat} {o : Option Nat} (ho : c.wk[i]? = some o) (hp : f.ph (j0 + 1 + i) = .A true) {r : Goroutine} (hr : f.gs[j0 + 1 + i]? = some r) :
    (o = none ∧ ∃ z, r = parked (f.F (j0 + 1 + i)).1 #[rcase c.cy.dl z] (.recv true)) ∨ ∃ j v z, o = some j ∧ r = parked (f.F (j0 + 1 + i)).1 #[scase c.cy.dn v z] .send := by
  have hle : j0 + 1 + i ≤ f.k := by rw [h2.k]; have := (List.getElem?_eq_some_iff.1 ho).1; omega
  obtain ⟨q', p1, p2, p3, p4⟩ := h2.cha i o true ho hp
  obtain ⟨rj, hrj, hc⟩ := h1.ra (j0 + 1 + i) true (by omega) hle hp
  rw [hr] at hrj; cases hrj
  cases hc with
  | ask q1 q2 q3 q4 q5 q6 =>
    rw [q1] at p1; cases p1
    exact .inl ⟨p3.symm.trans q2, _, by rw [p2]⟩
  | give q1 q2 q3 q4 q5 q6 q7 q8 q9 q10 =>
    rw [q1] at p1; cases p1
    exact .inr ⟨_, _, _, p3.symm.trans q2, by rw [p2]⟩
theorem wakes_keep {f : Cf} {a : Goroutine} {x : XW Gh} {c : Co} {j0 : Nat} (h1 : Inv1 P Post W0 f a x) (h2 : Inv2 P f x c j0) {r g' : Goroutine} {w' : World} (hh : ∀ b, f.o.Sh b → b ≠ c.cy.wg → w'.heap[b]? = f.w.heap[b]?) : Wakes P f r g' w' f.ph := by
  intro j hj hjk
  refine .inl ⟨rfl, fun a' cs sh hp hg => woken_of ?_⟩
  obtain ⟨i, o, rfl, ho⟩ := wk_ix h2 hj hjk (by rw [hp]; exact id)
  obtain ⟨d1, n1, d2⟩ := h2.dl
  obtain ⟨e1, n2, e2⟩ := h2.dn
  rw [h2.pk _ hj hjk hp] at d2
  rcases parked_hand h1 h2 ho hp hg with ⟨_, z, e⟩ | ⟨jj, v, z, _, e⟩
  · rw [e]
    exact again_open (b := c.cy.dl) rfl ((hh _ d1 (Ne.symm h2.ne.2.1)).trans d2)
  · rw [e]
    exact again_open (b := c.cy.dn) rfl ((hh _ e1 (Ne.symm h2.ne.2.2)).trans e2)
theorem wakes_solo {f : Cf} (h2 : Solo f) {r g' : Goroutine} {w' : World} : Wakes P f r g' w' f.ph := fun j hj hjk => .inl ⟨rfl, fun a' cs sh hp _ => by
  have := h2.q j hj hjk
  rw [hp] at this; exact this.elim⟩
theorem base_ne {f : Cf} {a : Goroutine} {x : XW Gh} {c : Co} {j0 : Nat} (h1 : Inv1 P Post W0 f a x) (h2 : Inv2 P f x c j0) : ∀ b, c.cy.base b ≠ none → b ≠ c.cy.wg ∧ b ≠ c.cy.dl := fun b hb => by
  have := (h1.apart.base b (by rw [h2.base]; exact hb)).2.1
  exact ⟨fun e => this (e ▸ h2.wg), fun e => this (e ▸ h2.dl.1)⟩
theorem deaf_mute {es : Array Event} (h : ∀ e ∈ es, e.loc ≠ .mark .disable ∧ e.loc ≠ .mark .enable) (d : Nat) : deafBehind d es = d := deafBehind_idle h d
theorem may_peek {o : Own4} {sz i : Nat} {m p : Heap} {e : Event} (hm : m = o.M i) (hp : ∀ b, p b ≠ none → o.base b ≠ none) (hi : i = 0 ∨ o.lv i) (h3 : Peek p m e) {t : Touch} (ht : (MemAct.ofEvent e).touch? = some t) : o.May sz i t := by
  intro b hb
  subst hm
  rcases blk_ofEvent ht with ⟨k1, k2, _⟩ | ⟨ad, k1, _⟩
  · rw [k1] at hb
    unfold Peek at h3
    split at h3
    · rename_i ad hl
      rw [hl] at hb
      cases hb
      rcases h3 with ⟨h3, h4⟩ | h3
      · exact .inr (.inl ⟨by rw [k2]; exact h4, .inl ⟨hp _ h3, hi⟩⟩)
      · exact .inl (.inl h3)
    · rename_i r hl
      rw [hl] at hb
      cases hb
      exact .inr (.inl ⟨by rw [k2]; exact h3.2, .inl ⟨hp _ h3.1, hi⟩⟩)
    · exact h3.elim
  · unfold Peek at h3
    rcases k1 with k1 | k1 <;> rw [k1] at h3 <;> exact h3.elim
theorem low_peek {m p : Heap} {n : Nat} {e : Event} (h3 : Peek p m e) (h4 : EvLow n e) : (MemAct.ofEvent e).low n := by
  obtain ⟨loc, w, s⟩ := e
  unfold Peek at h3
  unfold EvLow at h4
  cases loc with
  | cell ad => cases s <;> exact h4
  | obj r => cases w <;> cases s <;> exact h4
  | _ => exact h3.elim
theorem main_own {f : Cf} {a g' : Goroutine} {x : XW Gh} {m' : Heap} (h : Inv P Post W0 f a x) {r : Goroutine} (hr : f.gs[0]? = some r) (hl : Like P a r) (hmb : f.mb = .run) {w' : World} {es : Array Event}
    (hg' : MIp P Post W0 g' ⟨m', x.s⟩) (hframe : ∀ b, b < f.w.heap.size → x.m b = none → w'.heap[b]? = f.w.heap[b]?) (hsz : f.w.heap.size ≤ w'.heap.size) (henv : Env W0 w') (hm' : m'.le (rp w')) (hnew : ∀ b, m' b ≠ none → x.m b ≠ none ∨ f.w.heap.size ≤ b)
    (hes : ∀ e ∈ es, (Peek (pool x.s) x.m e ∨ MineP x.m (pool x.s) f.w.heap.size e) ∧ EvLow w'.heap.size e) :
    Inv P Post W0 { f with gs := (f.gs.map (woken P r g' w')).setIfInBounds 0 g', w := w', t := f.t ++ MemOp.ofEvents 0 r.frame.fn r.frame.place es, mb := .run, ph := f.ph, o := { f.o with M := ConcN.upd f.o.M 0 m' } } g' ⟨m', x.s⟩ := by
  obtain ⟨h1, h2⟩ := h
  have hquiet : ∀ e ∈ es, e.loc ≠ .mark .disable ∧ e.loc ≠ .mark .enable ∧ ∀ a, e.loc ≠ .mark (.release a) := fun e he => by
    rcases (hes e he).1 with h3 | h3
    · unfold Peek at h3
      refine ⟨fun hl => ?_, fun hl => ?_, fun a hl => ?_⟩ <;> rw [hl] at h3 <;> exact h3.elim
    · exact (mineP_quiet h3).1
  have hpool : ∀ b, pool x.s b ≠ none → f.o.base b ≠ none := by
    intro b hb
    cases hs : x.s with
    | solo => rw [hs] at hb; exact absurd rfl hb
    | snd c => rw [hs] at h2; exact h2.elim
    | co c =>
      rw [hs] at hb h2
      obtain ⟨j0, h2⟩ := h2
      rw [h2.base]; exact hb
  have hmay : ∀ e ∈ es, ∀ t, (MemAct.ofEvent e).touch? = some t → f.o.May f.w.heap.size 0 t := fun e he t ht => by
    rcases (hes e he).1 with h3 | h3
    · exact may_peek h1.oM0.symm hpool (.inl rfl) h3 ht
    · exact may_mineP h1.oM0.symm hpool (.inl rfl) h3 ht
  have hlow : ∀ e ∈ es, (MemAct.ofEvent e).low w'.heap.size := fun e he => by
    rcases (hes e he).1 with h3 | h3
    · exact low_peek h3 (hes e he).2
    · exact low_mineP h3 (hes e he).2
  have hdf : deafBehind (deafOf x.s) es = deafOf x.s := deaf_mute (fun e he => ⟨(hquiet e he).1, (hquiet e he).2.1⟩) _
  have hsh : ∀ b, f.o.Sh b → w'.heap[b]? = f.w.heap[b]? := fun b hb => hframe b (h1.apart.sh b hb) (by
    cases hm : x.m b with
    | none => rfl
    | some o => exact absurd hb (h1.apart.mem 0 b (by rw [h1.oM0, hm]; simp)).2.2.1)
  have hbs : ∀ b, f.o.base b ≠ none → w'.heap[b]? = f.w.heap[b]? := fun b hb => hframe b (h1.apart.base b hb).2.2 (by
    cases hm : x.m b with
    | none => rfl
    | some o => exact absurd (h1.apart.mem 0 b (by rw [h1.oM0, hm]; simp)).1 hb)
  cases hs : x.s with
  | solo =>
    rw [hs] at h2
    refine ⟨main_go1 (x' := ⟨m', .solo⟩) h1 hr hl (mi_running hg') (wakes_solo h2) henv (fun b hb hn _ => hframe b hb hn) hsz hm' hnew hmay (fun e he => .of (hlow e he)) (by rw [hdf, hs]), ⟨h2.q, h2.base, h2.win, h2.rl⟩⟩
  | snd c => rw [hs] at h2; exact h2.elim
  | co c =>
    rw [hs] at h2
    obtain ⟨j0, h2⟩ := h2
    have hops : ∀ op ∈ MemOp.ofEvents 0 r.frame.fn r.frame.place es, op.g = 0 := fun op hop => by obtain ⟨e, _, rfl⟩ := ofEvents_mem hop; rfl
    refine ⟨main_go1 (x' := ⟨m', .co c⟩) h1 hr hl (mi_running hg') (wakes_keep h1 h2 (fun b hb _ => hsh b hb)) henv (fun b hb hn _ => hframe b hb hn) hsz hm' hnew hmay (fun e he => .of (hlow e he)) (by rw [hdf, hs]), j0, ?_⟩
    refine inv2_next (u := MemOp.ofEvents 0 r.frame.fn r.frame.place es) h2 ⟨rfl, rfl, id⟩ rfl (fun i => .inl rfl) (fun i _ => rfl) ⟨rfl, rfl, rfl, rfl, rfl⟩ (fun b hb _ _ => hb.elim (hsh b) (hbs b)) (base_ne h1 h2) ?_ ?_ (fun live hi => by cases hi) h2.bnd h2.shut h2.idle h2.pk rfl
      (fun i s g d hi hp => Deaf_other _ (g' := 0) (by omega) _ hops) (fun i rr hi hrel => hrel.appOther hops (by have := (h2.rel i rr hi).1; omega)) (fun op hop he => ?_) (fun i s g d rr hi hp hg hwk => ?_) (fun hd i rr hi => (h2.acq hd i rr hi).app _)
    · obtain ⟨n, he⟩ := h2.dl.2
      exact ⟨n, by rw [hsh _ h2.dl.1]; exact he⟩
    · obtain ⟨st, sm, hw, hm⟩ := h2.mode
      rw [hmb] at hm
      exact ⟨st, sm, (hsh _ h2.wg).trans hw, hm⟩
    · obtain ⟨e, hee, rfl⟩ := ofEvents_mem hop
      have := (hquiet e hee).2.2 (stA c.cy.wg)
      obtain ⟨loc, w, s⟩ := e
      cases loc <;> first | (simp [MemAct.ofEvent] at he; done) | skip
      · cases w <;> cases s <;> simp [MemAct.ofEvent] at he
      · simp only [MemAct.ofEvent, MemAct.mark.injEq] at he; exact this (by rw [he])
    · show ((f.gs.map (woken P r g' w')).setIfInBounds 0 g')[i]? = some rr
      rw [get_set_map (by omega), hg]
      exact congrArg some (hwk _ _ _)
end
end Go.X
