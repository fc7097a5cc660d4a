/- A company: a hand asks, a hand gives. No program in sight. -/
import Derived.Test.YtafhinjggdknjaaDoorPXW
set_option linter.unusedVariables false
set_option linter.unusedSimpArgs false
namespace Go.X
open Go Go.Sx Go.Conc Go.ConcN
open Go.ConcR (KK wgBlock WgAt stA smA rd wr mk Payload Bk)
section
variable {P : Program} {Post : Value → World → Prop} {W0 : World}
theorem main_stays {f : Cf} {a : Goroutine} {x : XW Gh} (h1 : Inv1 P Post W0 f a x) {gs' : Array Goroutine} (h : gs'[0]? = f.gs[0]?) : ∃ r, gs'[0]? = some r ∧ MRec P W0 a x f.mb r := by rw [h]; exact h1.main
abbrev selNext (f : Cf) (g' : Goroutine) (j : Nat) (y : Goroutine × XW Gh) (p : Ph) (d : Nat) (u : Trace) : Cf :=
  { f with gs := f.gs.setIfInBounds j g', w := f.w.at d, t := f.t ++ u, F := ConcN.upd f.F j y, ph := ConcN.upd f.ph j p }
theorem hand_next {f : Cf} {a g' : Goroutine} {x : XW Gh} {c : Co} {j0 i d : Nat} {o : Option Nat} {pk' : Bool} {q q' : Cs} {y y' : Goroutine} {mj : Heap} {u : Trace}
    (h1 : Inv1 P Post W0 f a x) (h2 : Inv2 P f x c j0) (hx : x.s = .co c) (hs : c.wk[i]? = some o) (hp : f.ph (j0 + 1 + i) = .A false) (hF : f.F (j0 + 1 + i) = (y, ⟨mj, .snd q⟩))
    (hra : RA P Post W0 (y', ⟨mj, .snd q'⟩) pk' g') (hmi : MIp P Post W0 y' ⟨mj, .snd q'⟩)
    (hu : ∀ op ∈ u, op.g = j0 + 1 + i ∧ op.act.touch? = none ∧ (∀ g d, deafStep g d op = d) ∧ op.act ≠ .mark (.release (stA c.cy.wg)))
    (hq : q'.cy = q.cy ∧ q'.job = q.job ∧ Fit q' c) (hpk : pk' = true → c.shut = false) (hnp : ∀ live, f.mb = .park live → pk' = true → o = none ∧ live = false) :
    Inv P Post W0 (selNext f g' (j0 + 1 + i) (y', ⟨mj, .snd q'⟩) (.A pk') d u) a x := by
  have hlen : i < c.wk.length := (List.getElem?_eq_some_iff.1 hs).1
  have hik : j0 + 1 + i ≤ f.k := by rw [h2.k]; omega
  obtain ⟨q0, q1, q2, q3, q4⟩ := h2.cha i o false hs hp
  rw [hF] at q1; cases q1
  have hlt : j0 + 1 + i < f.gs.size := by rw [h1.size]; omega
  have hqt : ∀ op ∈ u, ∀ g d, deafStep g d op = d := fun op hop => (hu op hop).2.2.1
  have htok := h1.tok.still (u := u) fun op hop => ⟨by rw [h1.ok, (hu op hop).1]; exact hik, (hu op hop).2.1⟩
  have hMj : f.o.M (j0 + 1 + i) = mj := by rw [h1.oMa _ (by omega) hik (by rw [hp]; trivial), hF]
  refine ⟨comm1 (j := j0 + 1 + i) (u := u) h1 (by omega) hik rfl (by simp) ⟨h1.env.os, h1.env.tape, h1.env.out⟩ (main_stays h1 (by rw [Array.getElem?_setIfInBounds_ne (by omega)])) (fun k hk hne => by rw [Array.getElem?_setIfInBounds_ne (Ne.symm hne)]) (fun k hk => upd_ne _ _ hk) (fun k hk => upd_ne _ _ hk)
    ⟨false, pk', hp, ConcN.upd_same _ _ _, ⟨g', by rw [Array.getElem?_setIfInBounds_self_of_lt hlt], ?_⟩, ?_, ?_⟩ rfl hqt rfl rfl (fun _ _ _ => rfl) h1.oM0 rfl rfl h1.apart h1.mem h1.mbase h1.mwin htok, ?_⟩
  · show RA P Post W0 (ConcN.upd f.F _ _ _) pk' g'
    rw [ConcN.upd_same]; exact hra
  · show MIp P Post W0 (ConcN.upd f.F _ _ _).1 (ConcN.upd f.F _ _ _).2
    rw [ConcN.upd_same]; exact hmi
  · show f.o.M (j0 + 1 + i) = (ConcN.upd f.F _ _ _).2.m
    rw [ConcN.upd_same]; exact hMj
  · rw [hx]
    refine ⟨j0, inv2_nextG (u := u) h2 ⟨rfl, rfl, id⟩ rfl (fun k => ?_) (fun k z pk hz hpz => ?_) ⟨rfl, rfl, rfl, rfl, rfl⟩ (fun _ _ _ _ => rfl) (base_ne h1 h2) h2.dl.2 h2.mode (fun live hm k z hz hpz => ?_) h2.bnd h2.shut h2.idle (fun k hk1 hk2 hpz => ?_) rfl (fun k s g dd hk hpk => Deaf_quiet fun op hop dd' => hqt op hop k dd')
      (fun k r hk hr => relBy_mute hr fun op hop => (hu op hop).2.1) (fun op hop => (hu op hop).2.2.2) (fun k s g dd r hk hpk hg _ => by rw [show (selNext f g' (j0 + 1 + i) (y', ⟨mj, .snd q'⟩) (.A pk') d u).gs = f.gs.setIfInBounds (j0 + 1 + i) g' from rfl, Array.getElem?_setIfInBounds_ne (fun e => by rw [← e, hp] at hpk; cases hpk)]; exact hg) (fun hd k r hr => (h2.acq hd k r hr).app _)⟩
    · by_cases e : k = j0 + 1 + i
      · subst e; exact .inr (.inl ⟨false, pk', hp, ConcN.upd_same _ _ _⟩)
      · exact .inl (upd_ne _ _ e)
    · by_cases e : k = i
      · subst e
        rw [hs] at hz; cases hz
        refine ⟨q', ?_, hq.1.trans q2, hq.2.1.trans q3, hq.2.2⟩
        show (ConcN.upd f.F _ _ _).2.s = _
        rw [ConcN.upd_same]
      · have hpz' : f.ph (j0 + 1 + k) = .A pk := by rw [← hpz]; exact (upd_ne _ _ (by omega)).symm
        obtain ⟨p, p1, p2, p3, p4⟩ := h2.cha k z pk hz hpz'
        refine ⟨p, ?_, p2, p3, p4⟩
        show (ConcN.upd f.F _ _ _).2.s = _
        rw [upd_ne _ _ (by omega)]; exact p1
    · by_cases e : k = i
      · subst e
        rw [hs] at hz; cases hz
        have : (ConcN.upd f.ph (j0 + 1 + k) (.A pk')) (j0 + 1 + k) = .A true := hpz
        rw [ConcN.upd_same] at this
        cases this
        exact hnp live hm rfl
      · have hpz' : f.ph (j0 + 1 + k) = .A true := by rw [← hpz]; exact (upd_ne _ _ (by omega)).symm
        exact h2.park live hm k z hz hpz'
    · by_cases e : k = j0 + 1 + i
      · subst e
        have : (ConcN.upd f.ph (j0 + 1 + i) (.A pk')) (j0 + 1 + i) = .A true := hpz
        rw [ConcN.upd_same] at this
        cases this
        exact hpk rfl
      · have hpz' : f.ph k = .A true := by rw [← hpz]; exact (upd_ne _ _ e).symm
        exact h2.pk k hk1 hk2 hpz'
theorem partner_any {f : Cf} {a : Goroutine} {x : XW Gh} {c : Co} {j0 i : Nat} (h1 : Inv1 P Post W0 f a x) (h2 : Inv2 P f x c j0) (hx : x.s = .co c) {ch k mm : Nat} {b : Bool} (h : (k, mm) ∈ partners (f.gs.setIfInBounds (j0 + 1 + i) ph) ch b) (hb : (ch = c.cy.dl ∧ b = true) ∨ (ch = c.cy.dn ∧ b = false)) :
    k = 0 ∧ ∃ live z1 z2, f.mb = .park live ∧ f.gs[0]? = some (parked a (deals live c.cy (.int .i64 c.nx) z1 z2) .select) ∧ ((ch = c.cy.dl ∧ b = true ∧ live = true ∧ mm = 0) ∨ (ch = c.cy.dn ∧ b = false ∧ mm = 1)) := by
  obtain ⟨g, hg, hm⟩ := mem_partners.1 h
  rcases getElem?_stand _ _ _ _ hg with ⟨_, rfl⟩ | ⟨hne, hg'⟩
  · rw [offersAt_ph] at hm; cases hm
  · rcases Nat.eq_zero_or_pos k with rfl | hpos
    · obtain ⟨live, z1, z2, e1, e2, e3⟩ := offers_main h1 h2 hx hg' hm
      exact ⟨rfl, live, z1, z2, e1, by rw [← e2]; exact hg', e3⟩
    · exfalso
      obtain ⟨i', o', e1, e2, e3, e4, e5⟩ := offers_hand h1 h2 hpos (size_lt h1 hg') hg' hm
      rcases e5 with ⟨k1, k2, _⟩ | ⟨k1, k2, _⟩ <;> rcases hb with ⟨b1, b2⟩ | ⟨b1, b2⟩
      · rw [b2] at k2; cases k2
      · exact h2.ne.1 (k1.symm.trans b1)
      · exact h2.ne.1 (b1.symm.trans k1)
      · rw [b2] at k2; cases k2
theorem main_parked {f : Cf} {a : Goroutine} {x : XW Gh} {c : Co} (h1 : Inv1 P Post W0 f a x) (hx : x.s = .co c) {live : Bool} (hmb : f.mb = .park live) :
    ∃ z1 z2, f.gs[0]? = some (parked a (deals live c.cy (.int .i64 c.nx) z1 z2) .select) ∧ c.st = .run ∧ c.shut = false ∧ (live = true ↔ c.nx < c.cy.lim) ∧ Hope live c ∧ (∀ w, Env W0 w → x.m.le (rp w) → stepG P true a w = .comm a (deals live c.cy (.int .i64 c.nx) z1 z2) true .select w #[]) ∧ a.status = .running := by
  obtain ⟨r0, hr0, hm⟩ := h1.main
  rw [hmb] at hm
  cases hm with
  | park hs hst hsh hlive hope hcm hrun =>
    rename_i c' z1 z2
    rw [hx] at hs; cases hs
    exact ⟨z1, z2, hr0, hst, hsh, hlive, hope, hcm, hrun⟩
theorem park_sum {f : Cf} {i : Nat} (hi : 1 ≤ i) (hik : i ≤ f.k) (hp : f.ph i = .A false) (g' : Goroutine) (y : Goroutine × XW Gh) (d : Nat) (u : Trace) : (selNext f g' i y (.A true) d u).S = f.S ∧ (selNext f g' i y (.A true) d u).N < f.N := by
  constructor
  · have := upd_sum (f := f) (ph' := ConcN.upd f.ph i (.A true)) (φ := Ph.wt) (i := i) hi hik fun k hk => upd_ne _ _ hk
    rw [ConcN.upd_same, hp] at this
    exact Nat.add_right_cancel (m := 8) this
  · have := upd_sum (f := f) (ph' := ConcN.upd f.ph i (.A true)) (φ := Ph.fl) (i := i) hi hik fun k hk => upd_ne _ _ hk
    rw [ConcN.upd_same, hp] at this
    have h3 : sumTo f.k (fun k => (ConcN.upd f.ph i (.A true) (k + 1)).fl) + 1 = sumTo f.k (fun k => (f.ph (k + 1)).fl) + 0 := this
    show sumTo f.k (fun k => (ConcN.upd f.ph i (.A true) (k + 1)).fl) + f.mb.n < sumTo f.k (fun k => (f.ph (k + 1)).fl) + f.mb.n
    omega
theorem upd_id {α : Type} (F : Nat → α) (i : Nat) (y : α) (h : F i = y) : ConcN.upd F i y = F := by
  funext k
  by_cases e : k = i
  · subst e; rw [ConcN.upd_same, h]
  · exact upd_ne _ _ e
theorem met_facts {f : Cf} {wg : Nat} (hh jj ch k : Nat) (fh : FuncId) (p1 : String) (fj : FuncId) (p2 : String) (e1 : hh ≤ f.k) (e2 : jj ≤ f.k) : ∀ op ∈ met hh jj fh p1 fj p2 ch k 0, op.act.touch? = none ∧ (∀ g d, deafStep g d op = d) ∧ op.act ≠ .mark (.release (stA wg)) ∧ op.g ≤ f.k := by
  intro op hop
  refine ⟨met_mute hh jj fh p1 fj p2 ch k 0 op hop, fun g d => met_quiet hh jj fh p1 fj p2 ch k 0 g op hop d, ?_, ?_⟩
  · simp only [met, List.mem_toArray, List.mem_cons, List.not_mem_nil, or_false] at hop
    rcases hop with rfl | rfl | rfl | rfl <;> simp
  · simp only [met, List.mem_toArray, List.mem_cons, List.not_mem_nil, or_false] at hop
    rcases hop with rfl | rfl | rfl | rfl <;> first | exact e1 | exact e2
theorem hand_asks {f : Cf} {a : Goroutine} {x : XW Gh} {c : Co} {j0 i : Nat} {o : Option Nat} {q : Cs} {y : Goroutine} {mj : Heap} {z : Value} (h1 : Inv1 P Post W0 f a x) (h2 : Inv2 P f x c j0) (hx : x.s = .co c) (hs : c.wk[i]? = some o) (hp : f.ph (j0 + 1 + i) = .A false)
    (hF : f.F (j0 + 1 + i) = (y, ⟨mj, .snd q⟩)) {r : Goroutine} (hr : f.gs[j0 + 1 + i]? = some r) (hl : Like P y r) (hjob : q.job = none) (hoff : q.off = false) (hrun : y.status = .running)
    (hcm : ∀ w, Env W0 w → mj.le (rp w) → stepG P false y w = .comm y #[rcase q.cy.dl z] true (.recv true) w #[])
    (hA : ∀ j : Nat, q.lo ≤ j → j < q.cy.lim → MIp P Post W0 (Go.Conc.served y (.tuple #[.int .i64 j, .bool true])) ⟨mj, .snd { q with job := some j, lo := j + 1 }⟩)
    (hB : MIp P Post W0 (Go.Conc.served y (.tuple #[z, .bool false])) ⟨mj, .snd { q with off := true }⟩)
    (hT : ∀ f', Inv P Post W0 f' a x → f'.k = f.k → f'.F = ConcN.upd f.F (j0 + 1 + i) (Go.Conc.served y (.tuple #[z, .bool false]), ⟨mj, .snd { q with off := true }⟩) → Ends P Post f')
    (hM : ∀ z1 z2, c.nx < c.cy.lim → (∀ w, Env W0 w → x.m.le (rp w) → stepG P true a w = .comm a (deals true c.cy (.int .i64 c.nx) z1 z2) true .select w #[]) → c.st = .run → a.status = .running →
      MIp P Post W0 (a.finishComm P (deals true c.cy (.int .i64 c.nx) z1 z2) .select 0 undef false) ⟨x.m, .co { c with nx := c.nx + 1, wk := c.wk.set i (some c.nx) }⟩ ∧ Tm P Post W0 (a.finishComm P (deals true c.cy (.int .i64 c.nx) z1 z2) .select 0 undef false) ⟨x.m, .co { c with nx := c.nx + 1, wk := c.wk.set i (some c.nx) }⟩) :
    EndsR P Post f (j0 + 1 + i) ∨ ∃ f', Waits P Post W0 f f' a x (j0 + 1 + i) := by
  have hlen : i < c.wk.length := (List.getElem?_eq_some_iff.1 hs).1
  have hik : j0 + 1 + i ≤ f.k := by rw [h2.k]; omega
  obtain ⟨q0, q1, q2, q3, q4⟩ := h2.cha i o false hs hp
  rw [hF] at q1; cases q1
  have ho : o = none := q3.symm.trans hjob
  subst ho
  have hM0 : f.o.M (j0 + 1 + i) = mj := by rw [h1.oMa _ (by omega) hik (by rw [hp]; trivial), hF]
  have hmj : mj.le (rp f.w) := by rw [← hM0]; exact h1.mem _
  have hne0 : ((j0 + 1 + i) == 0) = false := by simp
  have hstep : stepG P ((j0 + 1 + i) == 0) r f.w = .comm y #[rcase c.cy.dl z] true (.recv true) f.w #[] := by rw [hne0, hl.step, ← q2]; exact hcm _ h1.env hmj
  have h0 : 0 < f.gs.size := by rw [h1.size]; omega
  have hlt : j0 + 1 + i < f.gs.size := by rw [h1.size]; omega
  obtain ⟨n, hn⟩ := h2.dl.2
  cases hsh : c.shut with
  | true =>
    rw [hsh] at hn
    have hpn : partners (f.gs.setIfInBounds (j0 + 1 + i) ph) c.cy.dl true = [] := List.eq_nil_iff_forall_not_mem.2 fun ⟨k, mm⟩ hmem => by
      obtain ⟨_, live, z1, z2, hmb, _⟩ := partner_any h1 h2 hx hmem (.inl ⟨rfl, rfl⟩)
      obtain ⟨_, _, _, _, e, _⟩ := main_parked h1 hx hmb
      rw [hsh] at e; cases e
    have hrunT := crowd_recv_closed (sl := f.sl) hr hstep hn hpn
    rw [finishComm_recv, ofEvents_nil] at hrunT
    have hinv := hand_next (d := f.w.drawn) (g' := Go.Conc.served y (.tuple #[z, .bool false])) (y' := Go.Conc.served y (.tuple #[z, .bool false])) (q' := { q with off := true }) (pk' := false) (u := #[{ g := j0 + 1 + i, fn := y.frame.fn, pos := y.frame.place, act := .recvClosed c.cy.dl }])
      h1 h2 hx hs hp hF (.run (.refl (mi_running hB))) hB (fun op hop => by
        simp only [List.mem_toArray, List.mem_singleton] at hop; subst hop
        exact ⟨rfl, rfl, fun _ _ => rfl, by simp⟩) ⟨rfl, rfl, ⟨fun _ => hsh, q4.2⟩⟩ (fun hh => by cases hh) (fun _ _ hh => by cases hh)
    exact .inl (.of (f' := selNext f _ (j0 + 1 + i) _ (.A false) f.w.drawn _) (by simp only [recvd, if_true, Array.empty_append] at hrunT; exact hrunT) rfl (hT _ hinv rfl rfl))
  | false =>
    rw [hsh] at hn
    by_cases hpk : f.mb = .park true
    · left
      obtain ⟨z1, z2, hr0, hst, _, hlive, hope, hcm0, hrun0⟩ := main_parked h1 hx hpk
      have hmem : (0, 0) ∈ partners (f.gs.setIfInBounds (j0 + 1 + i) ph) c.cy.dl true := mem_partners.2 ⟨_, stand_get (by omega) hr0, by rw [offers_deals_send]; simp⟩
      obtain ⟨k, cc, way, d, hk, hway, _, r2, _⟩ := comm_goes (sl := f.sl) hr hstep (fun x hx => by
        simp only [List.mem_toArray, List.mem_singleton] at hx; subst hx; exact made_recv _ hn) ⟨rcase c.cy.dl z, by simp, way_of_partner hn hmem⟩
      have hk2 : k < 1 := (Array.getElem?_eq_some_iff.1 hk).1
      obtain rfl : k = 0 := by omega
      simp at hk
      subst hk
      obtain ⟨j, mm, rfl, hjm⟩ := ways_recv_open hn hway
      obtain ⟨rfl, live, z1', z2', hmb', hr0', e3⟩ := partner_any h1 h2 hx hjm (.inl ⟨rfl, rfl⟩)
      obtain rfl : mm = 0 := by
        rcases e3 with ⟨_, _, _, e⟩ | ⟨_, e, _⟩
        · exact e
        · cases e
      have hrunT := r2 rfl rfl hn rfl
      have hov : offeredValue (f.gs.setIfInBounds (j0 + 1 + i) ph) 0 0 = .int .i64 c.nx := by simp [offeredValue, stand_get (i := j0 + 1 + i) (show 0 ≠ j0 + 1 + i by omega) hr0, parked, deals, scase]
      rw [hov, finishPartner_at P _ (stand_get (by omega) hr0) (cs := deals true c.cy (.int .i64 c.nx) z1 z2) (sh := .select) rfl, finishComm_parked, finishComm_recv, ofEvents_nil, set_stand2] at hrunT
      have hgd : (f.gs.setIfInBounds (j0 + 1 + i) ph).getD 0 default = parked a (deals true c.cy (.int .i64 c.nx) z1 z2) .select := by rw [Array.getD_eq_getD_getElem?, stand_get (by omega) hr0]; rfl
      rw [hgd] at hrunT
      obtain ⟨hgm, hTm⟩ := hM z1 z2 (hlive.1 rfl) hcm0 hst hrun0
      have hinv := meet (m := x.m) (d := d) (ch := c.cy.dl) (n := n) (nx := c.nx + 1) (D := Heap.empty) (mj' := mj) (q' := { q with job := some c.nx, lo := c.nx + 1 }) (g' := a.finishComm P (deals true c.cy (.int .i64 c.nx) z1 z2) .select 0 undef false) (y' := Go.Conc.served y (.tuple #[.int .i64 c.nx, .bool true]))
        (u := met 0 (j0 + 1 + i) a.frame.fn a.frame.place y.frame.fn y.frame.place c.cy.dl n 0)
        (gs' := (f.gs.setIfInBounds 0 (a.finishComm P (deals true c.cy (.int .i64 c.nx) z1 z2) .select 0 undef false)).setIfInBounds (j0 + 1 + i) (Go.Conc.served y (.tuple #[.int .i64 c.nx, .bool true])))
        (by rw [← hx]; exact h1) (by rw [← hx]; exact h2) (by rw [hpk]; simp) hst hsh hs hp (q := q) (mj := mj) (by rw [hF]) ⟨rfl, rfl, Nat.le_refl _, Nat.le_succ _⟩ (.inl rfl) hn (le_of_empty _) (.refl _) (disj_of_empty _) (hA _ q4.2 (by rw [q2]; exact hlive.1 rfl)) (by rw [union_empty]; exact hgm) (met_facts _ _ _ _ _ _ _ _ (Nat.zero_le _) hik) (fun y ⟨b, hb⟩ => absurd rfl hb) (by simp) (by
          rw [Array.getElem?_setIfInBounds_ne (by omega), Array.getElem?_setIfInBounds_self_of_lt h0]) (by rw [Array.getElem?_setIfInBounds_self_of_lt (by simpa using hlt)]) (fun k hk hk' => by rw [Array.getElem?_setIfInBounds_ne (Ne.symm hk'), Array.getElem?_setIfInBounds_ne (Ne.symm hk)])
      rw [union_empty] at hinv
      exact .of (f' := meetNext f _ _ _ c.cy.dl n d Heap.empty _) (by simpa [recvd, met, parked, deals, scase] using hrunT) rfl (hTm _ hinv)
    · right
      have hpn : partners (f.gs.setIfInBounds (j0 + 1 + i) ph) c.cy.dl true = [] := List.eq_nil_iff_forall_not_mem.2 fun ⟨k, mm⟩ hmem => by
        obtain ⟨_, live, z1, z2, hmb, _, ⟨_, _, e, _⟩ | ⟨_, e, _⟩⟩ := partner_any h1 h2 hx hmem (.inl ⟨rfl, rfl⟩)
        · subst e; exact hpk hmb
        · cases e
      have hrunT := crowd_waits (sl := f.sl) hr hstep (fun cc hcc => by simp at hcc; subst hcc; exact ways_recv_none hn hpn)
      rw [ofEvents_nil] at hrunT
      have hinv := hand_next (d := f.w.drawn) (g' := parked y #[rcase c.cy.dl z] (.recv true)) (y' := y) (q' := q) (pk' := true) (u := #[])
        h1 h2 hx hs hp hF (by rw [← q2]; exact .ask rfl hjob hoff hrun hcm hA) (by have := h1.mi _ (by omega) hik (by rw [hp]; trivial); rwa [hF] at this) (fun op hop => by simp at hop) ⟨rfl, rfl, q4⟩ (fun _ => hsh) (fun live hm _ => ⟨rfl, by
          cases live with
          | false => rfl
          | true => exact absurd hm hpk⟩)
      obtain ⟨s1, s2⟩ := park_sum (f := f) (by omega) hik hp (parked y #[rcase c.cy.dl z] (.recv true)) (y, ⟨mj, .snd q⟩) f.w.drawn #[]
      exact ⟨selNext f _ (j0 + 1 + i) (y, ⟨mj, .snd q⟩) (.A true) f.w.drawn #[], hinv, rfl, upd_id _ _ _ hF, s1, s2, fun he => .of (ops := #[]) hrunT (by simp) he⟩
theorem hand_gives {f : Cf} {a : Goroutine} {x : XW Gh} {c : Co} {j0 i j : Nat} {o : Option Nat} {q : Cs} {y : Goroutine} {mj mj' D : Heap} {v z : Value} (h1 : Inv1 P Post W0 f a x) (h2 : Inv2 P f x c j0) (hx : x.s = .co c) (hs : c.wk[i]? = some o) (hp : f.ph (j0 + 1 + i) = .A false)
    (hF : f.F (j0 + 1 + i) = (y, ⟨mj, .snd q⟩)) {r : Goroutine} (hr : f.gs[j0 + 1 + i]? = some r) (hl : Like P y r) (hjob : q.job = some j) (hoff : q.off = false) (hrun : y.status = .running)
    (hcm : ∀ w, Env W0 w → mj.le (rp w) → stepG P false y w = .comm y #[scase q.cy.dn v z] true .send w #[]) (b1 : mj'.le mj) (b2 : D.le mj) (b3 : Disj mj' D) (b4 : q.cy.ok j v D)
    (hA : MIp P Post W0 (y.finishComm P #[scase q.cy.dn v z] .send 0 undef false) ⟨mj', .snd { q with job := none }⟩)
    (hM : ∀ live z1 z2, f.mb = .park live → (∀ w, Env W0 w → x.m.le (rp w) → stepG P true a w = .comm a (deals live c.cy (.int .i64 c.nx) z1 z2) true .select w #[]) → c.st = .run → a.status = .running → (live = true ↔ c.nx < c.cy.lim) → c.wk[i]? = some (some j) → c.cy.ok j v D → Disj x.m D → Disj D c.cy.base →
      MIp P Post W0 (a.finishComm P (deals live c.cy (.int .i64 c.nx) z1 z2) .select 1 v true) ⟨union x.m D, .co { c with wk := c.wk.set i none }⟩ ∧ Tm P Post W0 (a.finishComm P (deals live c.cy (.int .i64 c.nx) z1 z2) .select 1 v true) ⟨union x.m D, .co { c with wk := c.wk.set i none }⟩) :
    EndsR P Post f (j0 + 1 + i) ∨ ∃ f', Waits P Post W0 f f' a x (j0 + 1 + i) := by
  have hlen : i < c.wk.length := (List.getElem?_eq_some_iff.1 hs).1
  have hik : j0 + 1 + i ≤ f.k := by rw [h2.k]; omega
  obtain ⟨q0, q1, q2, q3, q4⟩ := h2.cha i o false hs hp
  rw [hF] at q1; cases q1
  have ho : o = some j := q3.symm.trans hjob
  subst ho
  have hMj : f.o.M (j0 + 1 + i) = mj := by rw [h1.oMa _ (by omega) hik (by rw [hp]; trivial), hF]
  have hmj : mj.le (rp f.w) := by rw [← hMj]; exact h1.mem _
  have hne0 : ((j0 + 1 + i) == 0) = false := by simp
  have hstep : stepG P ((j0 + 1 + i) == 0) r f.w = .comm y #[scase c.cy.dn v z] true .send f.w #[] := by rw [hne0, hl.step, ← q2]; exact hcm _ h1.env hmj
  have h0 : 0 < f.gs.size := by rw [h1.size]; omega
  have hlt : j0 + 1 + i < f.gs.size := by rw [h1.size]; omega
  obtain ⟨n, hn⟩ := h2.dn.2
  have hsh : c.shut = false := by
    cases h : c.shut with
    | false => rfl
    | true => have := h2.idle h i _ hs; cases this
  have inM : ∀ {b : Nat}, D b ≠ none → f.o.M (j0 + 1 + i) b ≠ none := fun {b} hb => by
    rw [hMj]
    cases e : D b with
    | none => exact absurd e hb
    | some u => rw [b2 b u e]; simp
  have dmD : Disj x.m D := fun b => by
    by_cases e : D b = none
    · exact .inr e
    · exact .inl (by have := h1.apart.own (j0 + 1 + i) 0 b (by omega) (inM e); rwa [h1.oM0] at this)
  have dDb : Disj D c.cy.base := fun b => by
    by_cases e : D b = none
    · exact .inl e
    · exact .inr (by have := (h1.apart.mem _ b (inM e)).1; rwa [h2.base] at this)
  by_cases hpk : ∃ live, f.mb = .park live
  · left
    obtain ⟨live, hpk⟩ := hpk
    obtain ⟨z1, z2, hr0, hst, _, hlive, hope, hcm0, hrun0⟩ := main_parked h1 hx hpk
    have hmem : (0, 1) ∈ partners (f.gs.setIfInBounds (j0 + 1 + i) ph) c.cy.dn false := mem_partners.2 ⟨_, stand_get (by omega) hr0, by rw [offers_deals_recv]; simp⟩
    obtain ⟨k, cc, way, d, hk, hway, r1, _, _⟩ := comm_goes (sl := f.sl) hr hstep (fun x hx => by
      simp only [List.mem_toArray, List.mem_singleton] at hx; subst hx; exact made_send _ _ hn) ⟨scase c.cy.dn v z, by simp, way_of_partner_send hn hmem⟩
    have hk2 : k < 1 := (Array.getElem?_eq_some_iff.1 hk).1
    obtain rfl : k = 0 := by omega
    simp at hk
    subst hk
    obtain ⟨jj, mm, rfl, hjm⟩ := ways_send_open hn hway
    obtain ⟨rfl, live', z1', z2', hmb', hr0', e3⟩ := partner_any h1 h2 hx hjm (.inr ⟨rfl, rfl⟩)
    obtain rfl : mm = 1 := by
      rcases e3 with ⟨_, e, _⟩ | ⟨_, _, e⟩
      · cases e
      · exact e
    have hrunT := r1 rfl rfl hn rfl
    rw [finishPartner_at P _ (stand_get (by omega) hr0) (cs := deals live c.cy (.int .i64 c.nx) z1 z2) (sh := .select) rfl, finishComm_parked, ofEvents_nil, set_stand2] at hrunT
    have hgd : (f.gs.setIfInBounds (j0 + 1 + i) ph).getD 0 default = parked a (deals live c.cy (.int .i64 c.nx) z1 z2) .select := by rw [Array.getD_eq_getD_getElem?, stand_get (by omega) hr0]; rfl
    rw [hgd] at hrunT
    have hok : c.cy.ok j v D := by rw [← q2]; exact b4
    obtain ⟨hgm, hTm⟩ := hM live z1 z2 hpk hcm0 hst hrun0 hlive hs hok dmD dDb
    have hd0 : Deaf f.t 0 = 0 := by rw [h1.d0, hx]; simp [deafOf, hst]
    have hdj : Deaf f.t (j0 + 1 + i) = 0 := h1.da _ (by omega) hik (by rw [hp]; trivial)
    have hinv := meet (m := x.m) (d := d) (ch := c.cy.dn) (n := n) (nx := c.nx) (D := D) (mj' := mj') (q' := { q with job := none }) (g' := a.finishComm P (deals live c.cy (.int .i64 c.nx) z1 z2) .select 1 v true) (y' := y.finishComm P #[scase c.cy.dn v z] .send 0 undef false)
      (u := met (j0 + 1 + i) 0 y.frame.fn y.frame.place a.frame.fn a.frame.place c.cy.dn n 0)
      (gs' := (f.gs.setIfInBounds 0 (a.finishComm P (deals live c.cy (.int .i64 c.nx) z1 z2) .select 1 v true)).setIfInBounds (j0 + 1 + i) (y.finishComm P #[scase c.cy.dn v z] .send 0 undef false))
      (by rw [← hx]; exact h1) (by rw [← hx]; exact h2) (by rw [hpk]; simp) hst hsh hs hp (q := q) (mj := mj) (by rw [hF]) ⟨rfl, rfl, q4.2, Nat.le_refl _⟩ (.inr rfl) hn b2 b1 b3 (by rw [← q2]; exact hA) hgm (met_facts _ _ _ _ _ _ _ _ hik (Nat.zero_le _)) (fun y _ hk => knows_met hdj hd0 hk) (by simp) (by
        rw [Array.getElem?_setIfInBounds_ne (by omega), Array.getElem?_setIfInBounds_self_of_lt h0]) (by rw [Array.getElem?_setIfInBounds_self_of_lt (by simpa using hlt)]) (fun k hk hk' => by rw [Array.getElem?_setIfInBounds_ne (Ne.symm hk'), Array.getElem?_setIfInBounds_ne (Ne.symm hk)])
    refine .of (f' := meetNext f _ _ _ c.cy.dn n d D _) ?_ rfl (hTm _ hinv)
    simpa [met, parked, deals, rcase] using hrunT
  · right
    have hpn : partners (f.gs.setIfInBounds (j0 + 1 + i) ph) c.cy.dn false = [] := List.eq_nil_iff_forall_not_mem.2 fun ⟨k, mm⟩ hmem => by
      obtain ⟨_, live, z1, z2, hmb, _⟩ := partner_any h1 h2 hx hmem (.inr ⟨rfl, rfl⟩)
      exact hpk ⟨live, hmb⟩
    have hrunT := crowd_waits (sl := f.sl) hr hstep (fun cc hcc => by simp at hcc; subst hcc; exact ways_send_none hn (by simp) hpn)
    rw [ofEvents_nil] at hrunT
    have hinv := hand_next (d := f.w.drawn) (g' := parked y #[scase c.cy.dn v z] .send) (y' := y) (q' := q) (pk' := true) (u := #[])
      h1 h2 hx hs hp hF (by rw [← q2]; exact .give rfl hjob hoff hrun hcm b1 b2 b3 b4 hA) (by have := h1.mi _ (by omega) hik (by rw [hp]; trivial); rwa [hF] at this) (fun op hop => by simp at hop) ⟨rfl, rfl, q4⟩ (fun _ => hsh) (fun live hm _ => absurd ⟨live, hm⟩ hpk)
    obtain ⟨s1, s2⟩ := park_sum (f := f) (by omega) hik hp (parked y #[scase c.cy.dn v z] .send) (y, ⟨mj, .snd q⟩) f.w.drawn #[]
    exact ⟨selNext f _ (j0 + 1 + i) (y, ⟨mj, .snd q⟩) (.A true) f.w.drawn #[], hinv, rfl, upd_id _ _ _ hF, s1, s2, fun he => .of (ops := #[]) hrunT (by simp) he⟩
end
end Go.X
