/- A company: a sender's own step, its look, its select. No program in sight. -/
import Derived.Test.YtjkiioicjmaeoaaQXY
set_option linter.unusedVariables false
set_option linter.unusedSimpArgs false
namespace Go.X
open Go Go.Sx Go.Conc Go.ConcN
open Go.ConcR (KK wgBlock WgAt stA smA rd wr mk Payload Bk)
section
variable {P : Program} {Post : Value → World → Prop} {W0 : World}
theorem wake_main {f : Cf} {a : Goroutine} {x : XW Gh} {c : Co} {j0 : Nat} (h1 : Inv1 P Post W0 f a x) (h2 : Inv2 P f x c j0) (hx : x.s = .co c) {r g' : Goroutine} {w' : World} (hg : g'.status ≠ .blocked ∧ g'.status ≠ .waiting) (hch : ∀ i s, f.mb = .park i → c.snd[i]? = some s → w'.heap[s.ch]? = f.w.heap[s.ch]?) :
    ∃ mb', (∀ r0, f.gs[0]? = some r0 → MRec P W0 a x f.mb r0 → MRec P W0 a x mb' (woken P r g' w' r0)) ∧ (mb' = f.mb ∨ (f.mb = .blk ∧ mb' = .run)) ∧ (mayWake P r = true → mb' ≠ .blk) := by
  obtain ⟨r0, hr0, hm⟩ := h1.main
  have uniq : ∀ {mb'}, MRec P W0 a x mb' (woken P r g' w' r0) → ∀ r1, f.gs[0]? = some r1 → MRec P W0 a x f.mb r1 → MRec P W0 a x mb' (woken P r g' w' r1) := fun {mb'} h r1 hr1 _ => by
    rw [hr0] at hr1; cases hr1; exact h
  cases hmb : f.mb with
  | run =>
    rw [hmb] at hm uniq
    refine ⟨.run, uniq ?_, .inl rfl, fun _ => by simp⟩
    cases hm with
    | run hl => rw [woken_run hl.run]; exact .run hl
  | park i =>
    have hm' := hm
    rw [hmb] at hm uniq
    refine ⟨.park i, uniq ?_, .inl rfl, fun _ => by simp⟩
    cases hm with
    | park hs hst hsh hsn hwn hcm hrun =>
      rename_i c' s z
      rw [hx] at hs; cases hs
      obtain ⟨q, q1, q2, q3, q4⟩ := h2.park i hmb
      obtain ⟨q', p1, _, _, _, _, _, _, _, _, _, ⟨n, p2⟩, _⟩ := h2.cha i s false hsn q1
      rw [q2] at p1; cases p1
      rw [q3] at p2
      rw [woken_of (again_recv_open (by rw [hch i s hmb hsn]; exact p2))]
      exact .park hx hst hsh hsn hwn hcm hrun
  | blk =>
    rw [hmb] at hm uniq
    cases hm with
    | blk hs hst hrun hoff =>
      cases hw : mayWake P r with
      | false =>
        refine ⟨.blk, uniq ?_, .inl rfl, fun hh => by cases hh⟩
        have : woken P r g' w' { a with status := .blocked } = { a with status := .blocked } := by unfold Go.Conc.woken; rw [hw]; rfl
        rw [this]; exact .blk hs hst hrun hoff
      | true =>
        refine ⟨.run, uniq ?_, .inr ⟨rfl, rfl⟩, fun _ => by simp⟩
        have : woken P r g' w' { a with status := .blocked } = a := by
          unfold Go.Conc.woken; rw [if_pos (by simp [hw, hg.1, hg.2])]
          simp only [Goroutine.again, hoff]
          cases a; simp at hrun hoff; subst hrun; subst hoff; rfl
        rw [this]; exact .run (.refl hrun)
theorem wakes_snd {f : Cf} {a : Goroutine} {x : XW Gh} {c : Co} {j0 : Nat} (h1 : Inv1 P Post W0 f a x) (h2 : Inv2 P f x c j0) {j : Nat} {r g' : Goroutine} {w' : World} (hh : ∀ b, f.o.Sh b → b ≠ c.wg → (∀ i s, j0 + 1 + i ≠ j → c.snd[i]? = some s → f.ph (j0 + 1 + i) = .A true → (b = s.ch ∨ b = c.ech) → w'.heap[b]? = f.w.heap[b]?)) :
    ∀ k a cs, k ≠ j → f.ph k = .A true → f.gs[k]? = some (parked a cs .select) → woken P r g' w' (parked a cs .select) = parked a cs .select := by
  intro k a' cs hk hp hg
  have hk1 : 1 ≤ k := Nat.pos_of_ne_zero fun e => by
    subst e
    obtain ⟨r0, hr0, hm⟩ := h1.main
    rw [hg] at hr0; cases hr0
    generalize hpk : parked a' cs .select = pr at hm
    generalize f.mb = mb0 at hm
    cases hm with
    | run hl => have := hl.run; rw [← hpk] at this; cases this
    | park => simp [parked] at hpk
    | blk _ _ _ ho => have : (parked a' cs .select).offers = a.offers := by rw [hpk]
                      rw [ho] at this; simp [parked] at this
  have hkk := size_lt h1 hg
  have hj0 : j0 < k := Nat.lt_of_not_le fun hle => by have := h2.old k hk1 hle; rw [hp] at this; exact this.elim
  obtain ⟨rj, hrj, hc⟩ := h1.ra k true hk1 hkk hp
  rcases hc with ⟨hf, _⟩ | ⟨_, q, v, vs, z1, z2, q1, q2, q3, q4, q5, q6, e, q7⟩
  · cases hf
  rw [hg] at hrj; cases hrj
  have hi : j0 + 1 + (k - j0 - 1) = k := by omega
  have hlen : k - j0 - 1 < c.snd.length := by have := h2.k; omega
  obtain ⟨q', p1, p2, p3, p4, p5, p6, p7, p8, p9, p10, ⟨n, p11⟩, _⟩ := h2.cha (k - j0 - 1) c.snd[k - j0 - 1] true (List.getElem?_eq_getElem hlen) (by rw [hi]; exact hp)
  rw [hi, q1] at p1
  cases p1
  obtain ⟨k1, k2, k3, _⟩ := h2.ch (k - j0 - 1) c.snd[k - j0 - 1] (List.getElem?_eq_getElem hlen)
  obtain ⟨e1, n', r', e2⟩ := h2.ech
  rw [h2.pk k hk1 hkk hp] at e2
  rw [q4] at p11
  rw [e]
  refine woken_of (again_two_open (s := n) (r := n) (tm := false) (s' := n') (r' := r') (tm' := false) ?_ ?_)
  · rw [p6, hh _ k1 k3 (k - j0 - 1) _ (by omega) (List.getElem?_eq_getElem hlen) (by rw [hi]; exact hp) (.inl rfl)]; exact p11
  · rw [p3, hh _ e1 (Ne.symm h2.wg.2) (k - j0 - 1) _ (by omega) (List.getElem?_eq_getElem hlen) (by rw [hi]; exact hp) (.inr rfl)]; exact e2
abbrev sndNext (P : Program) (f : Cf) (r g' : Goroutine) (w' : World) (es : Array Event) (i : Nat) (ph' : Nat → Ph) (F' : Nat → Goroutine × XW Gh) (mb' : MB) (m' : Heap) (rl' : Nat → Nat → Prop) : Cf :=
  { f with gs := (f.gs.map (woken P r g' w')).setIfInBounds i g', w := w', t := f.t ++ MemOp.ofEvents i r.frame.fn r.frame.place es, mb := mb', F := F', ph := ph', o := { f.o with M := ConcN.upd f.o.M i m', lv := fun j => 1 ≤ j ∧ j ≤ f.k ∧ (ph' j).isL, cp := fun j => 1 ≤ j ∧ j ≤ f.k ∧ ¬ (ph' j).isQ, rl := rl' } }
theorem snd_ix {f : Cf} {x : XW Gh} {c : Co} {j0 : Nat} (h2 : Inv2 P f x c j0) {j : Nat} (hj : 1 ≤ j) (hk : j ≤ f.k) (hp : ¬ (f.ph j).isQ) : ∃ i s, j = j0 + 1 + i ∧ c.snd[i]? = some s := by
  have hj0 : j0 < j := Nat.lt_of_not_le fun hle => hp (h2.old j hj hle)
  have hlen : j - j0 - 1 < c.snd.length := by have := h2.k; omega
  exact ⟨j - j0 - 1, c.snd[j - j0 - 1], by omega, List.getElem?_eq_getElem hlen⟩
theorem snd_own {f : Cf} {a g' : Goroutine} {x yx : XW Gh} {y : Goroutine} {c : Co} {j0 j : Nat} {m' : Heap} (h1 : Inv1 P Post W0 f a x) (h2 : Inv2 P f x c j0) (hx : x.s = .co c) (hj : 1 ≤ j) (hk : j ≤ f.k) (hp : f.ph j = .A false) (hF : f.F j = (y, yx)) {r : Goroutine} (hr : f.gs[j]? = some r) {w' : World} {es : Array Event}
    (hg' : MIp P Post W0 g' ⟨m', yx.s⟩) (hframe : ∀ b, b < f.w.heap.size → yx.m b = none → w'.heap[b]? = f.w.heap[b]?) (hsz : f.w.heap.size ≤ w'.heap.size) (henv : Env W0 w') (hm' : m'.le (rp w')) (hnew : ∀ b, m' b ≠ none → yx.m b ≠ none ∨ f.w.heap.size ≤ b)
    (hes : ∀ e ∈ es, (Peek (pool yx.s) yx.m e ∨ Mine yx.m f.w.heap.size e) ∧ EvLow w'.heap.size e) :
    ∃ f', f'.gs = (f.gs.map (woken P r g' w')).setIfInBounds j g' ∧ f'.w = w' ∧ f'.sl = f.sl ∧ f'.t = f.t ++ MemOp.ofEvents j r.frame.fn r.frame.place es ∧ f'.k = f.k ∧ f'.F = ConcN.upd f.F j (g', ⟨m', yx.s⟩) ∧ Inv P Post W0 f' a x := by
  obtain ⟨i, s, rfl, hs⟩ := snd_ix h2 hj hk (by rw [hp]; exact id)
  obtain ⟨q, q1, q2, q3, q4, q5, q6, q7, q8, q9, q10, q11, q12⟩ := h2.cha i s false hs hp
  rw [hF] at q1
  have hM : f.o.M (j0 + 1 + i) = yx.m := by rw [h1.oMa _ hj hk (by rw [hp]; trivial), hF]
  have hquiet : ∀ e ∈ es, e.loc ≠ .mark .disable ∧ e.loc ≠ .mark .enable ∧ ∀ a, e.loc ≠ .mark (.release a) := fun e he => by
    rcases (hes e he).1 with h3 | h3
    · unfold Peek at h3
      refine ⟨fun hl => ?_, fun hl => ?_, fun a hl => ?_⟩ <;> rw [hl] at h3 <;> exact h3.elim
    · exact mine_quiet h3
  have hlv : f.o.lv (j0 + 1 + i) := (h1.lv _).2 ⟨hj, hk, by rw [hp]; trivial⟩
  have hpool : ∀ b, pool yx.s b ≠ none → f.o.base b ≠ none ∨ (f.o.win b ≠ none ∧ j0 + 1 + i = f.o.wi) := by
    intro b hb
    rw [q1] at hb
    simp only [pool] at hb
    cases hf : q.fst with
    | false => rw [hf] at hb; rw [h2.base, ← q5]; exact .inl hb
    | true =>
      obtain ⟨e1, e2, e3, _⟩ := q10 hf
      rw [hf] at hb
      simp only [if_true, join] at hb
      cases hcb : q.base b with
      | some o => left; rw [h2.base, ← q5, hcb]; simp
      | none =>
        rw [hcb] at hb
        right
        refine ⟨by rw [h2.win, ← e3]; exact hb, ?_⟩
        rw [(h2.wi e1).1, h2.k, ← e2]; omega
  have hmay : ∀ e ∈ es, ∀ t, (MemAct.ofEvent e).touch? = some t → f.o.May f.w.heap.size (j0 + 1 + i) t := fun e he t ht => by
    rcases (hes e he).1 with h3 | h3
    · intro b hb
      rcases blk_ofEvent ht with ⟨k1, k2, _⟩ | ⟨ad, k1, _⟩
      · rw [k1] at hb
        unfold Peek at h3
        split at h3
        · rename_i ad hl
          rw [hl] at hb
          cases hb
          rcases h3 with ⟨h3, h4⟩ | h3
          · right; left
            refine ⟨by rw [k2]; exact h4, ?_⟩
            exact (hpool _ h3).imp (fun hb => ⟨hb, .inr hlv⟩) fun hb => ⟨hb.1, .inr hb.2⟩
          · left; left; rw [hM]; exact h3
        · exact h3.elim
      · unfold Peek at h3
        rcases k1 with k1 | k1 <;> rw [k1] at h3 <;> exact h3.elim
    · exact may_mine hM.symm h3 ht
  have hlow : ∀ e ∈ es, (MemAct.ofEvent e).low w'.heap.size := fun e he => by
    rcases (hes e he).1 with h3 | h3
    · obtain ⟨loc, w, s⟩ := e
      have h4 := (hes _ he).2
      unfold Peek at h3
      unfold EvLow at h4
      cases loc with
      | cell ad => cases s <;> exact h4
      | _ => exact h3.elim
    · exact low_mine h3 (hes e he).2
  have hsd : ∀ e ∈ es, ∀ t, (MemAct.ofEvent e).touch? = some t → t.kind ≠ .said := fun e he t ht hk => by
    obtain ⟨ad, hl⟩ := said_loc ht hk
    rcases (hes e he).1 with h3 | h3
    · unfold Peek at h3
      rcases hl with hl | hl <;> rw [hl] at h3 <;> exact h3.elim
    · unfold Mine at h3
      rcases hl with hl | hl <;> rw [hl] at h3 <;> cases h3
  have hdf : deafBehind 0 es = 0 := deaf_mute (fun e he => ⟨(hquiet e he).1, (hquiet e he).2.1⟩) _
  have hsh : ∀ b, f.o.Sh b → w'.heap[b]? = f.w.heap[b]? := fun b hb => hframe b (h1.apart.sh b hb) (by
    cases hm : yx.m b with
    | none => rfl
    | some o => exact absurd hb (h1.apart.mem (j0 + 1 + i) b (by rw [hM, hm]; simp)).2.2.1)
  have hbs : ∀ b, f.o.base b ≠ none → w'.heap[b]? = f.w.heap[b]? := fun b hb => hframe b (h1.apart.base b hb).2.2 (by
    cases hm : yx.m b with
    | none => rfl
    | some o => exact absurd (h1.apart.mem (j0 + 1 + i) b (by rw [hM, hm]; simp)).1 hb)
  obtain ⟨mb', w1, w2, _⟩ := wake_main (r := r) (w' := w') h1 h2 hx (by rw [mi_running hg']; simp) fun i' s' _ hs' => hsh _ (h2.ch i' s' hs').1
  have hops : ∀ op ∈ MemOp.ofEvents (j0 + 1 + i) r.frame.fn r.frame.place es, op.g = j0 + 1 + i := fun op hop => by obtain ⟨e, _, rfl⟩ := ofEvents_mem hop; rfl
  have hupd : ConcN.upd f.F (j0 + 1 + i) (g', ⟨m', yx.s⟩) (j0 + 1 + i) = (g', ⟨m', yx.s⟩) := ConcN.upd_same _ _ _
  refine ⟨sndNext P f r g' w' es (j0 + 1 + i) f.ph (ConcN.upd f.F (j0 + 1 + i) (g', ⟨m', yx.s⟩)) mb' m' f.o.rl, rfl, rfl, rfl, rfl, rfl, rfl, snd_go1 (ph' := f.ph) (F' := ConcN.upd f.F (j0 + 1 + i) (g', ⟨m', yx.s⟩)) (mb' := mb') (m' := m') (rl' := f.o.rl) h1 hj hk hr (fun _ _ => rfl) (wakes_snd h1 h2 fun b hb _ _ _ _ _ _ _ => hsh b hb) (fun k hk => upd_ne _ _ hk) w1 henv (fun b hb hn _ => hframe b hb (by rw [← hM]; exact hn)) hsz hm' (fun b hb => by rw [hM]; exact hnew b hb) hmay hsd (fun e he => .of (hlow e he)) (.inl hlv) (fun _ _ h => h)
    (.inl (by rw [hp]; trivial)) (fun hh => absurd (by rw [hp]; trivial) hh) id id id ⟨fun pk hpk => ?_, fun hh => absurd (by rw [hp]; trivial) hh, fun q hq => by rw [hp] at hq; cases hq⟩, ?_⟩
  · rw [hp] at hpk; cases hpk
    rw [hupd]
    exact ⟨rfl, rfl, hg', rfl, hdf⟩
  · rw [hx]
    refine ⟨j0, inv2_next (u := MemOp.ofEvents (j0 + 1 + i) r.frame.fn r.frame.place es) h2 ⟨rfl, rfl, rfl, rfl, rfl, rfl, rfl, id⟩ rfl (fun k => .inl rfl) (fun k _ => ?_) ⟨rfl, rfl, rfl, rfl, rfl, rfl⟩ (fun b hb _ _ => hb.elim (hsh b) (hbs b)) (base_ne h1 h2) ?_ ?_ (fun i' hi' => ?_) h2.bnd h2.shut h2.open_ h2.pk rfl
      (fun k s' g d hk hpk => Deaf_other _ (g' := j0 + 1 + i) (fun e => by rw [← e, hp] at hpk; cases hpk) _ hops) (fun yy ad b hy ha hb hw => ?_) (fun k rr hi hrel => hrel.appOther hops fun e => (h2.rel k rr hi).2.2.1 (by rw [← e, hp]; trivial)) (fun op hop he => ?_) (fun k s' g d rr hk hpk hg hwk => ?_) (fun hd k rr hi => (h2.acq hd k rr hi).app _)⟩
    · show (ConcN.upd f.F (j0 + 1 + i) (g', ⟨m', yx.s⟩) k).2.s = _
      by_cases e : k = j0 + 1 + i
      · subst e; rw [hupd, hF]
      · rw [upd_ne _ _ e]
    · obtain ⟨n, rr, he⟩ := h2.ech.2
      exact ⟨n, rr, by rw [hsh _ h2.ech.1]; exact he⟩
    · obtain ⟨st, sm, hw, hm⟩ := h2.mode
      exact ⟨st, sm, (hsh _ h2.wg.1).trans hw, mode_mb hm w2⟩
    · have hi'' : f.mb = .park i' := by
        rcases w2 with e | ⟨_, e⟩
        · rw [← e]; exact hi'
        · rw [e] at hi'; cases hi'
      obtain ⟨q', e1, e2, e3, e4⟩ := h2.park i' hi''
      by_cases e : j0 + 1 + i' = j0 + 1 + i
      · refine ⟨q, e1, ?_, ?_, e4⟩
        · show (ConcN.upd f.F (j0 + 1 + i) (g', ⟨m', yx.s⟩) (j0 + 1 + i')).2.s = _
          rw [e, hupd]; exact q1
        · rw [e, hF, q1] at e2; cases e2; exact e3
      · refine ⟨q', e1, ?_, e3, e4⟩
        show (ConcN.upd f.F (j0 + 1 + i) (g', ⟨m', yx.s⟩) (j0 + 1 + i')).2.s = _
        rw [upd_ne _ _ e]; exact e2
    · obtain ⟨op, hop, hoa⟩ := touch_of ha
      rcases getElem?_append_cases hop with ⟨hlt, _⟩ | ⟨_, hou⟩
      · omega
      · obtain ⟨e, he, rfl⟩ := ofEvents_mem hou
        have hwb : f.o.win b ≠ none := by rw [h2.win]; exact hw
        rcases hmay e he _ hoa b hb with (h3 | h3) | ⟨_, ⟨h3, _⟩ | ⟨_, h3⟩⟩ | ⟨h3, _⟩
        · exact absurd (h1.apart.mem _ b h3).2.1 hwb
        · have := (h1.apart.win b hwb).2; omega
        · exact absurd (h1.apart.base b h3).1 hwb
        · rcases h3 with h3 | h3
          · omega
          · have hwn : c.wn = true := by
              cases hh : c.wn with
              | true => rfl
              | false => exact absurd (by rw [h2.wn hh]; rfl) hw
            have hkk : f.k = j0 + 1 + i := by rw [← (h2.wi hwn).1, ← h3]
            cases hcl : q.closed with
            | false => right; rw [hkk, hF, hp]; exact ⟨q, q1, hcl, trivial⟩
            | true =>
              exfalso
              have hpb : pool yx.s b ≠ none := by
                have := (hes e he).1
                rcases this with h5 | h5
                · unfold Peek at h5
                  rcases blk_ofEvent hoa with ⟨k1, k2, _⟩ | ⟨ad', k1, _⟩
                  · rw [k1] at hb
                    split at h5
                    · rename_i ad' hl
                      rw [hl] at hb; cases hb
                      rcases h5 with ⟨h5, _⟩ | h5
                      · exact h5
                      · exact absurd (h1.apart.mem _ _ (by rw [hM]; exact h5)).2.1 hwb
                    · exact h5.elim
                  · rcases k1 with k1 | k1 <;> rw [k1] at h5 <;> exact h5.elim
                · have hm5 := may_mine (o := { f.o with base := Heap.empty, win := Heap.empty, Sh := fun _ => False }) hM.symm h5 hoa b hb
                  rcases hm5 with (h6 | h6) | ⟨_, ⟨h6, _⟩ | ⟨h6, _⟩⟩ | ⟨h6, _⟩
                  · exact absurd (h1.apart.mem _ b h6).2.1 hwb
                  · have := (h1.apart.win b hwb).2; omega
                  · exact absurd rfl h6
                  · exact absurd rfl h6
                  · exact h6.elim
              rw [q1] at hpb
              simp only [pool] at hpb
              cases hf : q.fst with
              | true => rw [(q10 hf).2.2.2] at hcl; cases hcl
              | false => rw [hf] at hpb; exact hpb (by rw [if_neg (by simp), q5, ← h2.base]; cases hB : f.o.base b with
                  | none => rfl
                  | some o => exact absurd (h1.apart.base b (by rw [hB]; simp)).1 hwb)
        · exact absurd h3 (h1.apart.win b hwb).1
    · obtain ⟨e, hee, rfl⟩ := ofEvents_mem hop
      have := (hquiet e hee).2.2 (stA c.wg)
      obtain ⟨loc, w, s⟩ := e
      cases loc <;> first | (simp [MemAct.ofEvent] at he; done) | skip
      · cases w <;> cases s <;> simp [MemAct.ofEvent] at he
      · simp only [MemAct.ofEvent, MemAct.mark.injEq] at he; exact this (by rw [he])
    · have hne : k ≠ j0 + 1 + i := fun e => by rw [e, hp] at hpk; cases hpk
      show ((f.gs.map (woken P r g' w')).setIfInBounds (j0 + 1 + i) g')[k]? = some rr
      rw [get_set_map (Ne.symm hne), hg]
      exact congrArg some (hwk _ _ _)
end
end Go.X
