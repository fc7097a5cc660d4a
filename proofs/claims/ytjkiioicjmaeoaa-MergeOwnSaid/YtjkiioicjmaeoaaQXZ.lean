/- A company: a sender at its select. No program in sight. -/
import Derived.Test.YtjkiioicjmaeoaaQXW
set_option linter.unusedVariables false
set_option linter.unusedSimpArgs false
namespace Go.X
open Go Go.Sx Go.Conc Go.ConcN
open Go.ConcR (KK wgBlock WgAt stA smA rd wr mk Payload Bk)
section
variable {P : Program} {Post : Value → World → Prop} {W0 : World}
theorem offers_main {f : Cf} {a : Goroutine} {x : XW Gh} {c : Co} {j0 : Nat} (h1 : Inv1 P Post W0 f a x) (h2 : Inv2 P f x c j0) (hx : x.s = .co c) {g : Goroutine} (hg : f.gs[0]? = some g) :
    (∀ ch, offersAt g ch true = []) ∧ (∀ ch, (∀ i s, f.mb = .park i → c.snd[i]? = some s → s.ch ≠ ch) → offersAt g ch false = []) := by
  obtain ⟨r0, hr0, hm⟩ := h1.main
  rw [hg] at hr0; cases hr0
  generalize hmb : f.mb = mb at hm
  cases hm with
  | run hl => exact ⟨fun _ => offersAt_of_not_blocked (by rw [hl.run]; simp) _ _, fun _ _ => offersAt_of_not_blocked (by rw [hl.run]; simp) _ _⟩
  | park hs hst hsh hsn hwn hcm hrun =>
    rename_i c' i s z
    rw [hx] at hs; cases hs
    refine ⟨fun ch => offersAt_parked_recv' _ _ _ _ _, fun ch hch => ?_⟩
    rw [offersAt_parked_recv, if_neg (hch i s rfl hsn)]
  | blk hs hst hrun hoff => exact ⟨fun ch => by simp [offersAt, hoff], fun ch _ => by simp [offersAt, hoff]⟩
theorem main_stays {f : Cf} {a : Goroutine} {x : XW Gh} (h1 : Inv1 P Post W0 f a x) {gs' : Array Goroutine} (h : gs'[0]? = f.gs[0]?) : ∃ r, gs'[0]? = some r ∧ MRec P W0 a x f.mb r := by rw [h]; exact h1.main
abbrev selNext (f : Cf) (g' : Goroutine) (j : Nat) (y : Goroutine × XW Gh) (p : Ph) (u : Trace) : Cf :=
  { f with gs := f.gs.setIfInBounds j g', t := f.t ++ u, F := ConcN.upd f.F j y, ph := ConcN.upd f.ph j p }
theorem sel_next {f : Cf} {a g' : Goroutine} {x : XW Gh} {c : Co} {j0 i : Nat} {s : Snd} {pk' : Bool} {q q' : Cs} {y y' : Goroutine} {mj : Heap} {u : Trace}
    (h1 : Inv1 P Post W0 f a x) (h2 : Inv2 P f x c j0) (hx : x.s = .co c) (hs : c.snd[i]? = some s) (hp : f.ph (j0 + 1 + i) = .A false) (hF : f.F (j0 + 1 + i) = (y, ⟨mj, .snd q⟩)) (hcl : q.closed = false)
    (hra : RA P Post W0 (y', ⟨mj, .snd q'⟩) pk' g') (hmi : MIp P Post W0 y' ⟨mj, .snd q'⟩)
    (hu : ∀ op ∈ u, op.g = j0 + 1 + i ∧ op.act.touch? = none ∧ (∀ g d, deafStep g d op = d) ∧ op.act ≠ .mark (.release (stA c.wg)) ∧ op.act.low f.w.heap.size)
    (hq : q'.ty = q.ty ∧ q'.ech = q.ech ∧ q'.wg = q.wg ∧ q'.base = q.base ∧ q'.win = q.win ∧ q'.ch = q.ch ∧ q'.rem = q.rem ∧ q'.closed = q.closed ∧ (q'.fst = true → q.fst = true) ∧ (q'.off = true → c.shut = true) ∧ (q'.off = false → q.off = false)) (hpk : pk' = true → c.shut = false) (hnp : f.mb = .park i → pk' = false) :
    Inv P Post W0 (selNext f g' (j0 + 1 + i) (y', ⟨mj, .snd q'⟩) (.A pk') u) a x := by
  have hlen : i < c.snd.length := (List.getElem?_eq_some_iff.1 hs).1
  have hik : j0 + 1 + i ≤ f.k := by rw [h2.k]; omega
  obtain ⟨q0, q1, q2, q3, q4, q5, q6, q7, q8, q9, q10, q11, q12⟩ := h2.cha i s false hs hp
  rw [hF] at q1; cases q1
  obtain ⟨r0, hr0, hm0⟩ := h1.main
  have hlt : j0 + 1 + i < f.gs.size := by rw [h1.size]; omega
  have hqt : ∀ op ∈ u, ∀ g d, deafStep g d op = d := fun op hop => (hu op hop).2.2.1
  have htok := h1.tok.still (u := u) fun op hop => ⟨by rw [h1.ok, (hu op hop).1]; exact hik, (hu op hop).2.1⟩
  obtain ⟨r1, r2, r3, r4, r5, r6, r7, r8, r9, r10, r11⟩ := hq
  refine ⟨comm1 (j := j0 + 1 + i) (u := u) h1 (by omega) rfl (by simp) h1.env (main_stays h1 (by rw [Array.getElem?_setIfInBounds_ne (by omega)])) (fun k hk hne => by rw [Array.getElem?_setIfInBounds_ne (Ne.symm hne)]) (fun k hk => upd_ne _ _ hk) (fun k hk => upd_ne _ _ hk)
    (.inr ⟨false, pk', hp, ConcN.upd_same _ _ _, ⟨g', by rw [Array.getElem?_setIfInBounds_self_of_lt hlt], ?_⟩, ?_, ?_⟩) rfl hqt rfl rfl (fun _ _ => rfl) h1.oM0 rfl rfl h1.apart h1.mem h1.mbase h1.mwin htok, ?_⟩
  · show RA P Post W0 (ConcN.upd f.F _ _ _) pk' g'
    rw [ConcN.upd_same]; exact hra
  · show MIp P Post W0 (ConcN.upd f.F _ _ _).1 (ConcN.upd f.F _ _ _).2
    rw [ConcN.upd_same]; exact hmi
  · show (ConcN.upd f.F _ _ _).2.m = _
    rw [ConcN.upd_same, hF]
  · rw [hx]
    refine ⟨j0, snd2 (s := s) (u := u) (pk' := pk') h2 hs rfl (.inl rfl) (fun k hk => upd_ne _ _ hk) hp (ConcN.upd_same _ _ _) (fun k hk => upd_ne _ _ hk) ⟨rfl, rfl, rfl, rfl, rfl, rfl⟩ (fun _ _ => rfl) (fun b hb => (h1.apart.base b (by rw [h2.base]; exact hb)).2.1) rfl (fun g => Deaf_quiet fun op hop d => hqt op hop g d) (fun op hop => (hu op hop).1)
      (fun op hop => (hu op hop).2.2.2.1) (fun op hop ad had => by rw [(hu op hop).2.1] at had; cases had) (fun k z gg d hk hpk => by rw [show (selNext f g' (j0 + 1 + i) (y', ⟨mj, .snd q'⟩) (.A pk') u).gs = f.gs.setIfInBounds (j0 + 1 + i) g' from rfl, Array.getElem?_setIfInBounds_ne (fun e => by rw [← e, hp] at hpk; cases hpk)]) hpk (fun hh => ⟨hnp hh, q', ?_, by rw [r8]; exact hcl⟩)
      ⟨q', ?_, by rw [r1]; exact q2, by rw [r2]; exact q3, by rw [r3]; exact q4, by rw [r4]; exact q5, by rw [r6]; exact q6, fun hh => by rw [r7]; exact q7 (r11 hh), r10, fun hh => (by rw [r8, hcl] at hh; cases hh), fun hh => by rw [r5, r8]; exact q10 (r9 hh), by rw [r8]; exact q11, fun hh => by rw [r8, hcl] at hh; cases hh⟩⟩
    · show (ConcN.upd f.F _ _ _).2.s = _
      rw [ConcN.upd_same]
    · show (ConcN.upd f.F _ _ _).2.s = _
      rw [ConcN.upd_same]
theorem snd_sel {f : Cf} {a : Goroutine} {x : XW Gh} {c : Co} {j0 i : Nat} {s : Snd} {q : Cs} {y : Goroutine} {mj : Heap} {v z1 z2 : Value} {vs : List Value} (h1 : Inv1 P Post W0 f a x) (h2 : Inv2 P f x c j0) (hx : x.s = .co c) (hs : c.snd[i]? = some s) (hp : f.ph (j0 + 1 + i) = .A false)
    (hF : f.F (j0 + 1 + i) = (y, ⟨mj, .snd q⟩)) {r : Goroutine} (hr : f.gs[j0 + 1 + i]? = some r) (hl : Like P y r) (hrem : q.rem = v :: vs) (hoff : q.off = false) (hcl : q.closed = false) (hrun : y.status = .running)
    (hcm : ∀ w, Env W0 w → mj.le (rp w) → stepG P false y w = .comm y (two q.ch q.ech v z1 z2) true .select w #[])
    (hA : MIp P Post W0 (y.finishComm P (two q.ch q.ech v z1 z2) .select 0 undef false) ⟨mj, .snd { q with rem := vs, fst := false }⟩)
    (hB : MIp P Post W0 (y.finishComm P (two q.ch q.ech v z1 z2) .select 1 z2 false) ⟨mj, .snd { q with off := true, fst := false }⟩)
    (hT : ∀ f', Inv P Post W0 f' a x → f'.k = f.k → f'.F = ConcN.upd f.F (j0 + 1 + i) (y.finishComm P (two q.ch q.ech v z1 z2) .select 1 z2 false, ⟨mj, .snd { q with off := true, fst := false }⟩) → Ends P Post f')
    (hM : ∀ z, f.mb = .park i → (∀ w, Env W0 w → x.m.le (rp w) → stepG P true a w = .comm a #[rcase s.ch z] true (.recv true) w #[]) → MIp P Post W0 (Go.Conc.served a (.tuple #[v, .bool true])) ⟨join x.m c.win, .co { c with win := Heap.empty, wn := false, snd := c.snd.set i ⟨s.ch, vs⟩ }⟩ ∧ Tm P Post W0 (Go.Conc.served a (.tuple #[v, .bool true])) ⟨join x.m c.win, .co { c with win := Heap.empty, wn := false, snd := c.snd.set i ⟨s.ch, vs⟩ }⟩) :
    EndsR P Post f (j0 + 1 + i) ∨ ∃ f', Waits P Post W0 f f' a x (j0 + 1 + i) := by
  have hlen : i < c.snd.length := (List.getElem?_eq_some_iff.1 hs).1
  have hik : j0 + 1 + i ≤ f.k := by rw [h2.k]; omega
  obtain ⟨k1, k2, k3, k4⟩ := h2.ch i s hs
  obtain ⟨q0, q1, q2, q3, q4, q5, q6, q7, q8, q9, q10, ⟨n, q11⟩, q12⟩ := h2.cha i s false hs hp
  rw [hF] at q1; cases q1
  rw [hcl] at q11
  have hM0 : f.o.M (j0 + 1 + i) = mj := by rw [h1.oMa _ (by omega) hik (by rw [hp]; trivial), hF]
  have hmj : mj.le (rp f.w) := by rw [← hM0]; exact h1.mem _
  have hne0 : ((j0 + 1 + i) == 0) = false := by simp
  have hstep : stepG P ((j0 + 1 + i) == 0) r f.w = .comm y (two q.ch q.ech v z1 z2) true .select f.w #[] := by rw [hne0, hl.step]; exact hcm _ h1.env hmj
  have h0 : 0 < f.gs.size := by rw [h1.size]; omega
  have hlt : j0 + 1 + i < f.gs.size := by rw [h1.size]; omega
  obtain ⟨ne, re, he⟩ := h2.ech.2
  have hother : ∀ {k g}, k ≠ j0 + 1 + i → f.gs[k]? = some g → (∀ ch, (∀ i' s', c.snd[i']? = some s' → k = j0 + 1 + i' → s'.ch ≠ ch) → offersAt g ch true = []) ∧ (∀ ch, ch ≠ c.ech → (k = 0 → ∀ i' s', f.mb = .park i' → c.snd[i']? = some s' → s'.ch ≠ ch) → offersAt g ch false = []) := fun {k g} hk hg => by
    rcases Nat.eq_zero_or_pos k with rfl | hpos
    · obtain ⟨e1, e2⟩ := offers_main h1 h2 hx hg
      exact ⟨fun ch _ => e1 ch, fun ch _ hch => e2 ch (hch rfl)⟩
    · obtain ⟨e1, e2⟩ := offers_snd h1 h2 hpos (size_lt h1 hg) hg
      exact ⟨fun ch hch => e1 ch fun i' s' hs' e _ => hch i' s' hs' e, fun ch hch _ => e2 ch hch⟩
  have hstand : ∀ {ch : Nat} {b : Bool}, (∀ k g, k ≠ j0 + 1 + i → f.gs[k]? = some g → offersAt g ch b = []) → partners (f.gs.setIfInBounds (j0 + 1 + i) ph) ch b = [] := fun {ch b} hh => partners_nil fun k g hg => by
    rcases getElem?_stand _ _ _ _ hg with ⟨_, rfl⟩ | ⟨hne, hg'⟩
    · exact offersAt_ph _ _
    · exact hh k g hne hg'
  have hpe : partners (f.gs.setIfInBounds (j0 + 1 + i) ph) c.ech true = [] := hstand fun k g hk hg => (hother hk hg).1 _ fun i' s' hs' _ => (h2.ch i' s' hs').2.1
  cases hsh : c.shut with
  | true =>
    have hnp : ∀ i', f.mb ≠ .park i' := fun i' hh => by
      obtain ⟨r0, hr0, hm⟩ := h1.main
      rw [hh] at hm
      cases hm with
      | park e1 _ e2 => rw [hx] at e1; cases e1; rw [hsh] at e2; cases e2
    have hps : partners (f.gs.setIfInBounds (j0 + 1 + i) ph) s.ch false = [] := hstand fun k g hk hg => (hother hk hg).2 _ k2 fun _ i' s' hh _ => absurd hh (hnp i')
    rw [hsh] at he
    have hrunT := two_closed (sl := f.sl) hr hstep (by rw [q3]; exact he) (by rw [q6]; exact ways_send_none q11 (by simp) hps) (by rw [q3]; exact hpe)
    rw [ofEvents_nil] at hrunT
    have hinv := sel_next (f := f) (g' := y.finishComm P (two q.ch q.ech v z1 z2) .select 1 z2 false) (y' := y.finishComm P (two q.ch q.ech v z1 z2) .select 1 z2 false) (q' := { q with off := true, fst := false }) (pk' := false) (u := #[{ g := j0 + 1 + i, fn := y.frame.fn, pos := y.frame.place, act := .recvClosed q.ech }])
      h1 h2 hx hs hp hF hcl (.inl ⟨rfl, .refl (mi_running hB)⟩) hB (fun op hop => by
        simp only [List.mem_toArray, List.mem_singleton] at hop; subst hop
        exact ⟨rfl, rfl, fun _ _ => rfl, by simp, by rw [q3]; exact h1.apart.sh _ h2.ech.1⟩) ⟨rfl, rfl, rfl, rfl, rfl, rfl, rfl, rfl, fun hh => (by cases hh), fun _ => hsh, fun hh => (by cases hh)⟩ (fun hh => by cases hh) (fun _ => rfl)
    exact .inl (.of (f' := selNext f _ (j0 + 1 + i) _ (.A false) _) (by simpa using hrunT) rfl (hT _ hinv rfl rfl))
  | false =>
    rw [hsh] at he
    have hne' : NoWays f.w (f.gs.setIfInBounds (j0 + 1 + i) ph) (rcase q.ech z2) := by rw [q3]; exact ways_recv_none he hpe
    by_cases hpk : f.mb = .park i
    · obtain ⟨r0, hr0, hm⟩ := h1.main
      rw [hpk] at hm
      cases hm with
      | park e1 e2 e3 e4 e5 e6 e7 =>
        rename_i c' s' z
        rw [hx] at e1; cases e1
        rw [hs] at e4; cases e4
        have hpart : partners (f.gs.setIfInBounds (j0 + 1 + i) ph) s.ch false = [(0, 0)] := by
          rw [partners_one (stand_get (by omega) hr0) fun k g hk hg => ?_, offersAt_parked_recv, if_pos rfl]; rfl
          rcases getElem?_stand _ _ _ _ hg with ⟨_, rfl⟩ | ⟨hne, hg'⟩
          · exact offersAt_ph _ _
          · exact (hother hne hg').2 _ k2 fun e => absurd e hk
        have hrunT := two_meets_recv (sl := f.sl) hr hstep (by rw [q6]; exact q11) hne' (by omega) (q6 ▸ hr0) (by rw [q6]; exact hpart)
        rw [finishComm_recv, ofEvents_nil] at hrunT
        obtain ⟨hg, hT'⟩ := hM z hpk e6
        have hinv := meet (m := x.m) (fh := y.frame.fn) (ph := y.frame.place) (fj := a.frame.fn) (pj := a.frame.place) (g' := Go.Conc.served a (.tuple #[v, .bool true])) (y' := y.finishComm P (two q.ch q.ech v z1 z2) .select 0 undef false)
          (gs' := (f.gs.setIfInBounds 0 (Go.Conc.served a (.tuple #[v, .bool true]))).setIfInBounds (j0 + 1 + i) (y.finishComm P (two q.ch q.ech v z1 z2) .select 0 undef false)) (n := n) (by rw [← hx]; exact h1) (by rw [← hx]; exact h2) (by rw [hpk]; simp) e2 hsh hs e5 hp (q := q) (by rw [hF]) hrem hoff hcl q11 hA hg (by simp) (by
            rw [Array.getElem?_setIfInBounds_ne (by omega), Array.getElem?_setIfInBounds_self_of_lt h0]) (by rw [Array.getElem?_setIfInBounds_self_of_lt (by simpa using hlt)]) (fun k hk hk' => by rw [Array.getElem?_setIfInBounds_ne (Ne.symm hk'), Array.getElem?_setIfInBounds_ne (Ne.symm hk)])
        exact .inl (.of (f' := meetNext f _ _ _ s.ch n _) (by simpa [recvd, met, q6] using hrunT) rfl (hT' _ hinv))
    · have hps : partners (f.gs.setIfInBounds (j0 + 1 + i) ph) s.ch false = [] := hstand fun k g hk hg => (hother hk hg).2 _ k2 fun _ i' s' hh hs' e => hpk (by rw [hh, k4 i' s' hs' e])
      have hrunT := two_waits (sl := f.sl) hr hstep (by rw [q6]; exact ways_send_none q11 (by simp) hps) hne'
      rw [ofEvents_nil] at hrunT
      have hinv := sel_next (f := f) (g' := parked y (two q.ch q.ech v z1 z2) .select) (y' := y) (q' := q) (pk' := true) (u := #[])
        h1 h2 hx hs hp hF hcl (.inr ⟨rfl, q, v, vs, z1, z2, rfl, hrem, hoff, hcl, hrun, hcm, rfl, hA⟩) (by have := h1.mi _ (by omega) hik (by rw [hp]; trivial); rwa [hF] at this) (fun op hop => by simp at hop) ⟨rfl, rfl, rfl, rfl, rfl, rfl, rfl, rfl, id, fun hh => (by rw [hoff] at hh; cases hh), id⟩ (fun _ => hsh) (fun hh => absurd hh hpk)
      refine .inr ⟨selNext f (parked y (two q.ch q.ech v z1 z2) .select) (j0 + 1 + i) (y, ⟨mj, .snd q⟩) (.A true) #[], hinv, rfl, ?_, ?_, ?_, fun he => .of (ops := #[]) hrunT (by simp) he⟩
      · funext k
        by_cases e : k = j0 + 1 + i
        · subst e; exact (ConcN.upd_same _ _ _).trans hF.symm
        · exact upd_ne _ _ e
      · have := upd_sum (f := f) (ph' := ConcN.upd f.ph (j0 + 1 + i) (.A true)) (φ := Ph.wt) (i := j0 + 1 + i) (by omega) hik fun k hk => upd_ne _ _ hk
        rw [ConcN.upd_same, hp] at this
        exact Nat.add_right_cancel (m := 8) this
      · have := upd_sum (f := f) (ph' := ConcN.upd f.ph (j0 + 1 + i) (.A true)) (φ := Ph.fl) (i := j0 + 1 + i) (by omega) hik fun k hk => upd_ne _ _ hk
        rw [ConcN.upd_same, hp] at this
        have h3 : sumTo f.k (fun k => (ConcN.upd f.ph (j0 + 1 + i) (.A true) (k + 1)).fl) + 1 = sumTo f.k (fun k => (f.ph (k + 1)).fl) + 0 := this
        show sumTo f.k (fun k => (ConcN.upd f.ph (j0 + 1 + i) (.A true) (k + 1)).fl) + f.mb.n < sumTo f.k (fun k => (f.ph (k + 1)).fl) + f.mb.n
        omega
end
end Go.X
