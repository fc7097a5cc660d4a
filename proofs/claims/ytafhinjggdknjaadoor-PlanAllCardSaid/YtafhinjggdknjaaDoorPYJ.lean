/- A COMPANY's RUN ENDS: the theorem. No program in sight. -/
import Derived.Test.YtafhinjggdknjaaDoorPYH
set_option linter.unusedVariables false
set_option linter.unusedSimpArgs false
namespace Go.X
open Go Go.Sx Go.Conc Go.ConcN
open Go.ConcR (KK wgBlock WgAt stA smA rd wr mk Payload Bk bk_of_mute ofEvent_loc_mark)
section
variable {P : Program} {Post : Value → World → Prop} {W0 : World}
abbrev IT (P : Program) (Post : Value → World → Prop) (W0 : World) (a : Goroutine) (x : XW Gh) : Prop := MIp P Post W0 a x ∧ Tm P Post W0 a x
theorem inv_snd {f : Cf} {a : Goroutine} {m : Heap} {c : Cs} (h : Inv P Post W0 f a ⟨m, .snd c⟩) : False := h.2
theorem inv_co {f : Cf} {a : Goroutine} {m : Heap} {c : Co} (h : Inv P Post W0 f a ⟨m, .co c⟩) : Inv1 P Post W0 f a ⟨m, .co c⟩ ∧ ∃ j0, Inv2 P f ⟨m, .co c⟩ c j0 := h
theorem inv_pool {f : Cf} {a : Goroutine} {x : XW Gh} (h : Inv P Post W0 f a x) : (pool x.s).le (rp f.w) := by
  have h1 := h.1
  obtain ⟨m, s⟩ := x
  cases s with
  | solo => intro b o hb; cases hb
  | snd c => exact (inv_snd h).elim
  | co c =>
    obtain ⟨_, j0, h2⟩ := inv_co h
    intro b o hb
    exact h1.mbase b o (by rw [h2.base]; exact hb)
theorem inv_live {f : Cf} {a : Goroutine} {x : XW Gh} (h : Inv P Post W0 f a x) : ∀ c, x.s = .co c → WgLive c.cy.ty c.cy.wg f.w := by
  obtain ⟨m, s⟩ := x
  intro c hs
  replace hs : s = .co c := hs
  subst hs
  obtain ⟨_, j0, h2⟩ := inv_co h
  obtain ⟨st, sm, hw, _⟩ := h2.mode
  exact ⟨st, sm, hw⟩
theorem peek_low {m p : Heap} {w : World} {e : Event} (hm : m.le (rp w)) (hp : p.le (rp w)) (h : Peek p m e) : EvLow w.heap.size e := by
  obtain ⟨loc, wr, at'⟩ := e
  unfold Peek at h
  unfold EvLow
  cases loc with
  | cell ad =>
    rcases h with ⟨h, _⟩ | h
    · cases hh : p ad.block with
      | none => exact absurd hh h
      | some o => exact (Array.getElem?_eq_some_iff.1 (hp _ o hh)).1
    · cases hh : m ad.block with
      | none => exact absurd hh h
      | some o => exact (Array.getElem?_eq_some_iff.1 (hm _ o hh)).1
  | obj r =>
    cases hh : p r with
    | none => exact absurd hh h.1
    | some o => exact (Array.getElem?_eq_some_iff.1 (hp _ o hh)).1
  | _ => exact h.elim
theorem main_move {f : Cf} {a : Goroutine} {x : XW Gh} (h : Inv P Post W0 f a x) {r : Goroutine} (hr : f.gs[0]? = some r) (hrun : r.status = .running)
    (hx : Own P kd W0 (IT P Post W0) a x ∨ SP P Post W0 (IT P Post W0) a x) : Tm P Post W0 a x ∨ EndsR P Post f 0 ∨ ∃ f', Waits P Post W0 f f' a x 0 := by
  have h1 := h.1
  obtain ⟨r1, hr1, hm⟩ := h1.main
  rw [hr] at hr1; cases hr1
  have hml : f.mb = .run ∧ Like P a r := by
    cases hmb : f.mb with
    | run => rw [hmb] at hm; cases hm with | run hl => exact ⟨rfl, hl⟩
    | park i => rw [hmb] at hm; cases hm; simp [parked] at hrun
    | blk => rw [hmb] at hm; cases hm; simp at hrun
  obtain ⟨hmb, hl⟩ := hml
  have hM0 : f.o.M 0 = x.m := h1.oM0
  have hm0 : x.m.le (rp f.w) := by have := h1.mem 0; rwa [hM0] at this
  have hmain : isMain x.s = true := by
    cases hs : x.s with
    | solo => rfl
    | co c => rfl
    | snd c => exact (inv_snd (m := x.m) (c := c) (by rw [← hs]; exact h)).elim
  have run : ∀ {g' : Goroutine} {w' : World} {es : Array Event}, stepG P true a f.w = .go g' w' es → ∃ ops, ops = MemOp.ofEvents 0 r.frame.fn r.frame.place es ∧ runT P (crowd f.gs f.w f.sl) 0 = (.next (crowd ((f.gs.map (woken P r g' w')).setIfInBounds 0 g') w' f.sl), ops) := fun {g' w' es} hs =>
    ⟨_, rfl, runT_crowd_go (P := P) (sl := f.sl) (i := 0) hr (by rw [show ((0 : Nat) == 0) = true from rfl, hl.step]; exact hs)⟩
  have fin : ∀ {g' : Goroutine} {w' : World} {es : Array Event} {f' : Cf} {x' : XW Gh}, stepG P true a f.w = .go g' w' es → Inv P Post W0 f' g' x' → Tm P Post W0 g' x' → f'.gs = (f.gs.map (woken P r g' w')).setIfInBounds 0 g' → f'.w = w' → f'.sl = f.sl → f'.t = f.t ++ MemOp.ofEvents 0 r.frame.fn r.frame.place es → EndsR P Post f 0 := fun {g' w' es f' x'} hs hi hT e1 e2 e3 e4 => by
    obtain ⟨_, rfl, h3⟩ := run hs
    exact .of (f' := f') (by rw [e1, e2, e3]; exact h3) e4 (hT _ hi)
  rcases hx with ⟨_, ho⟩ | hx
  · obtain ⟨g', w', es, m', e1, e2, e3, e4, e5, e6⟩ := ho f.w h1.env hm0 (inv_pool h)
    rw [show kd.mn x.s = true from hmain] at e1
    exact .inr (.inl (fin e1 (main_own h hr hl hmb e5 e2.frame e2.grows ⟨e2.os.trans h1.env.os, e2.tape.trans h1.env.tape, e2.output.trans h1.env.out⟩ e3 e4 fun e he => ⟨.inr (e2.mine e he), e2.low e he⟩) e6 rfl rfl rfl rfl))
  · cases hx with
    | peek e1 e2 =>
      have hpool := inv_pool h
      obtain ⟨g', es, e3, e4, e5, e6⟩ := e2 f.w h1.env hm0 hpool (inv_live h)
      rw [hmain] at e3
      refine .inr (.inl (fin e3 (main_own (m' := x.m) h hr hl hmb e5 (fun _ _ _ => rfl) (Nat.le_refl _) h1.env hm0 (fun b hb => .inl hb) fun e he => ⟨.inl (e4 e he), peek_low hm0 hpool (e4 e he)⟩) e6 rfl rfl rfl rfl))
    | opn e0 e1 e2 e3 e4 e5 e6 e7 e8 e9 e10 e11 e12 e13 e14 e15 e16 e17 e18 =>
      exact .inl fun f2 hf2 => by
        have := e18.2 _ (main_opn hf2 e1 e2 e4 e5 e6 e7 e8 e9 e10 e11 e12 e13 e14 e15 e16 e17 e18.1)
        exact this
    | mark e1 e2 e3 e4 =>
      obtain ⟨_, j0, h2⟩ := inv_co h
      have hlive : WgLive _ _ f.w := let ⟨st, sm, hw, _⟩ := h2.mode; ⟨st, sm, hw⟩
      exact .inr (.inl (fin (e3 f.w h1.env hm0 hlive) (spc_mark h1 h2 hmb hr hl e1 e4.1) e4.2 rfl rfl rfl rfl))
    | add e1 e2 e3 =>
      obtain ⟨_, j0, h2⟩ := inv_co h
      obtain ⟨st, sm, hw, hmd⟩ := h2.mode
      rw [hmb, e1] at hmd
      obtain ⟨k1, k2, k3, _⟩ := mode_open hmd trivial
      subst k3
      have hv : Vc f.k f.D + pend (tagOf false .off) = Vc f.k f.D := by simp [tagOf, pend]
      rw [show pend (tagOf false .off) = 0 from rfl] at k2
      obtain ⟨g', e4, e5⟩ := e3 (Vc f.k f.D) f.w (vc_bound h2) h1.env hm0 (by rw [k2] at hw; simpa using hw)
      exact .inr (.inl (fin e4 (spc_add h1 h2 hmb hr hl e1 e5.1) e5.2 rfl rfl rfl rfl))
    | go e0 e1 e2 e3 e4 e5 e6 e7 =>
      exact .inr (.inl (main_go h hr hl hmb e0 e1 e2 e5 e6.1 e7.1 e7.2))
    | deal e1 e2 e3 e4 e5 e6 e7 e8 => exact .inr (main_deal h hmb hr hl e1 e2 e3 e4 e5 e6 e7 e8)
    | clos e1 e2 e3 e4 e5 e6 e7 =>
      rename_i c
      obtain ⟨_, j0, h2⟩ := inv_co h
      obtain ⟨n, hch⟩ := h2.dl.2
      rw [e2] at hch
      exact .inr (.inl (fin (e6 f.w n n h1.env hm0 (inv_pool h) hch) (spc_clos h1 h2 hmb hr hl e1 e3 e5 hch e7.1) e7.2 rfl rfl rfl rfl))
    | load e1 e2 e3 =>
      obtain ⟨_, j0, h2⟩ := inv_co h
      obtain ⟨st, sm, hw, hmd⟩ := h2.mode
      rw [hmb, e1] at hmd
      obtain ⟨k1, k2, k3, _⟩ := mode_open hmd trivial
      subst k3
      rw [show pend (tagOf false (.w0 _)) = 0 from rfl] at k2
      obtain ⟨g', e4, e5, e6⟩ := e3 (Vc f.k f.D) f.w (h2.bnd _ e1) h1.env hm0 (by rw [k2] at hw; simpa using hw)
      by_cases hv : Vc f.k f.D = 0
      · exact .inr (.inl (fin e4 (spc_load h1 h2 hmb hr hl e1 (.inl ⟨hv, rfl⟩) (e5 hv).1) (e5 hv).2 rfl rfl rfl rfl))
      · exact .inr (.inl (fin e4 (spc_load h1 h2 hmb hr hl e1 (.inr ⟨hv, rfl⟩) (e6 hv).1) (e6 hv).2 rfl rfl rfl rfl))
    | cas e1 e2 e3 =>
      rename_i u
      obtain ⟨_, j0, h2⟩ := inv_co h
      obtain ⟨st, sm, hw, hmd⟩ := h2.mode
      rw [hmb, e1] at hmd
      obtain ⟨k1, k2, k3, k4⟩ := mode_open hmd trivial
      subst k3
      rw [show pend (tagOf false (.w1 _)) = 0 from rfl] at k2
      obtain ⟨e4, e5⟩ := e3 (Vc f.k f.D) f.w (k4 _ rfl).1 h1.env hm0 (by rw [k2] at hw; simpa using hw)
      by_cases hv : Vc f.k f.D = u
      · obtain ⟨g', e6, e7⟩ := e4 hv
        exact .inr (.inl (fin e6 (spc_cas h1 h2 hmb hr hl e1 hv e7.1) e7.2 rfl rfl rfl rfl))
      · obtain ⟨g', e6, e7⟩ := e5 hv
        exact .inr (.inl (fin e6 (spc_miss h1 h2 hmb hr hl e1 e7.1) e7.2 rfl rfl rfl rfl))
    | sem e1 e2 e3 e4 e5 =>
      obtain ⟨_, j0, h2⟩ := inv_co h
      obtain ⟨st, sm, hw, hmd⟩ := h2.mode
      have hmd' := hmd
      rw [hmb, e1] at hmd
      have wait : sm = 0 → ∃ f', Waits P Post W0 f f' a _ 0 := fun hs => by
        subst hs
        obtain ⟨f', q1, q2, q3, q4, q5, q6, q7⟩ := sem_wait h hmb hr hl e1 e2 e3 (e4 f.w st h1.env hm0 hw) ⟨st, hw⟩
        exact ⟨f', q3, q4, q5, q6, q7, fun he => .of q1 q2 he⟩
      by_cases hsm : sm = 0
      · exact .inr (.inr (wait hsm))
      · have : sm = 1 ∧ st = 0 := by
          generalize tagOf false .reg = tg at hmd
          cases hmd with
          | opn => exact absurd rfl hsm
          | reg => exact absurd rfl hsm
          | last => exact absurd rfl hsm
          | sema => exact ⟨rfl, rfl⟩
          | fin => exact absurd rfl hsm
        obtain ⟨rfl, rfl⟩ := this
        obtain ⟨g', e6, e7⟩ := e5 f.w h1.env hm0 hw
        exact .inr (.inl (fin e6 (spc_sem h1 h2 hmb hr hl e1 hw e7.1) e7.2 rfl rfl rfl rfl))
    | load0 e1 e2 e3 =>
      obtain ⟨_, j0, h2⟩ := inv_co h
      obtain ⟨st, sm, hw, hmd⟩ := h2.mode
      rw [hmb, e1] at hmd
      obtain ⟨k1, rfl, rfl⟩ := mode_fin hmd trivial
      obtain ⟨g', e4, e5⟩ := e3 f.w h1.env hm0 hw
      exact .inr (.inl (fin e4 (spc_load0 h1 h2 hmb hr hl e1 e5.1) e5.2 rfl rfl rfl rfl))
    | back e1 e2 e3 =>
      exact .inl fun f2 hf2 => by
        have := e3.2 _ (main_back hf2 e2 e3.1)
        exact this
    | fin e1 e2 => exact .inr (.inl (main_fin h hr hl e2))
    | ask => exact (inv_snd h).elim
    | give => exact (inv_snd h).elim
    | quit => exact (inv_snd h).elim
theorem deal_inv {f : Cf} {a : Goroutine} {x : XW Gh} {c : Co} {live : Bool} {z1 z2 : Value} (h : Inv P Post W0 f a x) (hxs : x.s = .co c) (hst : c.st = .run) (hlive : live = true ↔ c.nx < c.cy.lim)
    (hcm : ∀ w, Env W0 w → x.m.le (rp w) → stepG P true a w = .comm a (deals live c.cy (.int .i64 c.nx) z1 z2) true .select w #[]) (hx : Own P kd W0 (IT P Post W0) a x ∨ SP P Post W0 (IT P Post W0) a x) :
    (∀ (k : Nat), live = true → c.wk[k]? = some none → IT P Post W0 (a.finishComm P (deals live c.cy (.int .i64 c.nx) z1 z2) .select 0 undef false) ⟨x.m, .co { c with nx := c.nx + 1, wk := c.wk.set k (some c.nx) }⟩) ∧
    (∀ (k j : Nat) (v : Value) (D : Heap), c.wk[k]? = some (some j) → c.cy.ok j v D → Disj x.m D → Disj D c.cy.base → IT P Post W0 (a.finishComm P (deals live c.cy (.int .i64 c.nx) z1 z2) .select 1 v true) ⟨union x.m D, .co { c with wk := c.wk.set k none }⟩) := by
  obtain ⟨m, s'⟩ := x
  replace hxs : s' = .co c := hxs
  subst hxs
  have hpool := inv_pool h
  obtain ⟨h1, j0, h2⟩ := inv_co h
  have hm0 : m.le (rp f.w) := by have := h1.mem 0; rwa [h1.oM0] at this
  have hc := hcm f.w h1.env hm0
  rcases hx with ⟨_, ho⟩ | hx
  · obtain ⟨g', w', es, m', e1, _⟩ := ho f.w h1.env hm0 hpool
    rw [show kd.mn (XW.s ⟨m, Gh.co c⟩) = true from rfl, hc] at e1; cases e1
  · cases hx with
    | peek e1 e2 =>
      obtain ⟨g', es, e3, _⟩ := e2 f.w h1.env hm0 hpool (inv_live h)
      rw [show isMain (XW.s ⟨m, Gh.co c⟩) = true from rfl, hc] at e3; cases e3
    | mark e1 e2 e3 e4 =>
      have := e3 f.w h1.env hm0 (let ⟨st, sm, hw, _⟩ := h2.mode; ⟨st, sm, hw⟩)
      rw [hc] at this; cases this
    | add e1 => rw [hst] at e1; cases e1
    | go e0 e1 => rw [hst] at e1; cases e1
    | deal e1 e2 e3 e4 e5 e6 e7 e8 =>
      rename_i live' z1' z2'
      have := e6 f.w h1.env hm0
      rw [hc] at this
      have hl : live' = live := by
        have ht : (live' = true) ↔ (live = true) := e3.trans hlive.symm
        cases live <;> cases live' <;> first | rfl | exact absurd (ht.1 rfl) (by simp) | exact absurd (ht.2 rfl) (by simp)
      subst hl
      have hcc : deals live' c.cy (.int .i64 c.nx) z1 z2 = deals live' c.cy (.int .i64 c.nx) z1' z2' := by
        simpa only [GStep.comm.injEq, true_and, and_true] using this
      rw [hcc]
      exact ⟨e7, e8⟩
    | clos e1 e2 e3 e4 e5 e6 e7 =>
      obtain ⟨n, hch⟩ := h2.dl.2
      rw [e2] at hch
      have := e6 f.w n n h1.env hm0 hpool hch
      rw [hc] at this; cases this
    | load e1 => rw [hst] at e1; cases e1
    | cas e1 => rw [hst] at e1; cases e1
    | sem e1 => rw [hst] at e1; cases e1
    | load0 e1 => rw [hst] at e1; cases e1
    | back _ e1 => rw [hst] at e1; cases e1
end
end Go.X
namespace Go.X
open Go Go.Sx Go.Conc Go.ConcN
open Go.ConcR (KK wgBlock WgAt stA smA rd wr mk Payload Bk bk_of_mute ofEvent_loc_mark)
section
variable {P : Program} {Post : Value → World → Prop} {W0 : World}
abbrev GX := Goroutine × XW Gh
def StF (P : Program) (Post : Value → World → Prop) (W0 : World) (I : GX → Prop) (y : GX) : Prop := Own P kd W0 (fun g x => I (g, x)) y.1 y.2 ∨ SP P Post W0 (fun g x => I (g, x)) y.1 y.2
theorem snd_move {f : Cf} {a : Goroutine} {x : XW Gh} {F : Nat → GX} {i : Nat} (h : Inv P Post W0 f a x) (hi : i < f.k) (hp : f.ph (i + 1) = .A false) (hFm : ∀ j, f.F (j + 1) = F j)
    (hx : Own P kd W0 (IT P Post W0) a x ∨ SP P Post W0 (IT P Post W0) a x)
    (hs : StF P Post W0 (fun y => MIp P Post W0 y.1 y.2 ∧ ∀ f', Inv P Post W0 f' a x → f'.k = f.k → (∀ j, f'.F (j + 1) = ConcN.upd F i y j) → Ends P Post f') (F i)) :
    (∃ c, (F i).2.s = .snd c ∧ c.off = true ∧ Leaves P c.cy (F i).1) ∨ EndsR P Post f (i + 1) ∨ ∃ f', Waits P Post W0 f f' a x (i + 1) := by
  have h1 := h.1
  cases hxs : x.s with
  | solo =>
    exfalso
    have h2 := h.2
    rw [hxs] at h2
    have := h2.q (i + 1) (by omega) (by omega)
    rw [hp] at this; exact this
  | snd c => have h2 := h.2; rw [hxs] at h2; exact h2.elim
  | co c =>
    have h2 := h.2
    rw [hxs] at h2
    obtain ⟨j0, h2⟩ := h2
    obtain ⟨i', s, hi', hsn⟩ := wk_ix h2 (j := i + 1) (by omega) (by omega) (by rw [hp]; exact id)
    obtain ⟨q, q1, q2, q3, q4⟩ := h2.cha i' s false hsn (by rw [← hi']; exact hp)
    have hFi : f.F (j0 + 1 + i') = F i := by rw [← hi']; exact hFm i
    rw [hFi] at q1
    obtain ⟨r, hr, hc⟩ := h1.ra (i + 1) false (by omega) (by omega) hp
    have hl : Like P (F i).1 r := by
      cases hc with
      | run hl => rw [hFm i] at hl; exact hl
    have hM : f.o.M (i + 1) = (F i).2.m := by rw [h1.oMa _ (by omega) (by omega) (by rw [hp]; trivial), hFm i]
    have hm0 : (F i).2.m.le (rp f.w) := by rw [← hM]; exact h1.mem _
    have hne : (i + 1 == 0) = false := by simp
    have hmain : isMain (F i).2.s = false := by rw [q1]; rfl
    have hupd : ∀ y : GX, ∀ j, ConcN.upd f.F (i + 1) y (j + 1) = ConcN.upd F i y j := fun y j => by
      by_cases e : j = i
      · subst e; rw [ConcN.upd_same, ConcN.upd_same]
      · rw [upd_ne _ _ e, upd_ne _ _ (by omega)]; exact hFm j
    have run : ∀ {g' : Goroutine} {w' : World} {es : Array Event}, stepG P false (F i).1 f.w = .go g' w' es → runT P (crowd f.gs f.w f.sl) (i + 1) = (.next (crowd ((f.gs.map (woken P r g' w')).setIfInBounds (i + 1) g') w' f.sl), MemOp.ofEvents (i + 1) r.frame.fn r.frame.place es) := fun {g' w' es} hs =>
      runT_crowd_go (P := P) (sl := f.sl) (i := i + 1) hr (by rw [hne, hl.step]; exact hs)
    generalize hFe : F i = y at *
    obtain ⟨y, mj, sj⟩ := y
    replace q1 : sj = .snd q := q1
    subst q1
    have hpool : (pool (.snd q)).le (rp f.w) := by
      intro b o hb
      exact h1.mbase b o (by rw [h2.base, ← q2]; exact hb)
    rcases hs with ⟨_, ho⟩ | hs
    · obtain ⟨g', w', es, m', e1, e2, e3, e4, e5, e6⟩ := ho f.w h1.env hm0 hpool
      obtain ⟨f', b1, b2, b3, b4, b5, b6, b7⟩ := snd_own h1 h2 hxs (j := i + 1) (by omega) (by omega) hp (yx := ⟨mj, .snd q⟩) (y := y) (by rw [hFm i, hFe]) hr e5 e2.frame e2.grows ⟨e2.os.trans h1.env.os, e2.tape.trans h1.env.tape, e2.output.trans h1.env.out⟩ e3 e4 fun e he => ⟨.inr (e2.mine e he), e2.low e he⟩
      exact .inr (.inl (.of (f' := f') (by rw [b1, b2, b3]; exact run e1) b4 (e6 f' b7 b5 fun j => by rw [b6]; exact hupd _ j)))
    · cases hs with
      | peek e1 e2 =>
        obtain ⟨g', es, e3, e4, e5, e6⟩ := e2 f.w h1.env hm0 hpool (fun c h => by cases h)
        obtain ⟨f', b1, b2, b3, b4, b5, b6, b7⟩ := snd_own h1 h2 hxs (j := i + 1) (by omega) (by omega) hp (yx := ⟨mj, .snd q⟩) (y := y) (m' := mj) (by rw [hFm i, hFe]) hr e5 (fun _ _ _ => rfl) (Nat.le_refl _) h1.env hm0 (fun b hb => .inl hb) fun e he => ⟨.inl (e4 e he), peek_low hm0 hpool (e4 e he)⟩
        exact .inr (.inl (.of (f' := f') (by rw [b1, b2, b3]; exact run e3) b4 (e6 f' b7 b5 fun j => by rw [b6]; exact hupd _ j)))
      | ask e1 e2 e3 e4 e5 e6 =>
        rename_i z
        have := hand_asks h1 h2 hxs hsn (by rw [← hi']; exact hp) (mj := mj) (y := y) (q := q) hFi (r := r) (by rw [← hi']; exact hr) hl e1 e2 e3 e4 (fun j hlo hj => (e5 j hlo hj).1) e6.1
          (fun f' b1 b2 b3 => e6.2 f' b1 b2 fun j => by rw [b3, ← hi']; exact hupd _ j) (fun z1 z2 hlt hcm hst har => ?_)
        · rw [← hi'] at this; exact .inr this
        · exact (deal_inv (live := true) h hxs hst (by simp [hlt]) hcm hx).1 i' rfl (by rw [hsn, ← q3, e1])
      | give e1 e2 e3 e4 e5 e6 e7 e8 e9 =>
        have := hand_gives h1 h2 hxs hsn (by rw [← hi']; exact hp) (mj := mj) (y := y) (q := q) hFi (r := r) (by rw [← hi']; exact hr) hl e1 e2 e3 e4 e5 e6 e7 e8 e9.1
          (fun live z1 z2 hpk hcm hst har hlv hw hok d1 d2 => (deal_inv h hxs hst hlv hcm hx).2 i' _ _ _ hw hok d1 d2)
        rw [← hi'] at this; exact .inr this
      | quit e1 e2 e3 e4 => exact .inl ⟨_, rfl, e2, e4⟩
theorem company_ends {a : Goroutine} {x : XW Gh} (hmi : MIp P Post W0 a x) : Tm P Post W0 a x := by
  refine MI.induct (sp_mono P Post W0) (T := fun a x => Tm P Post W0 a x) (fun a x hx => ?_) hmi
  intro f0 hinv0
  have key := mi_family (α := GX) (fun y => MIp P Post W0 y.1 y.2) (StF P Post W0)
    (fun T hT y hy => MI.induct (sp_mono P Post W0) (T := fun g x => T (g, x)) (fun g x hgx => hT (g, x) (hgx.elim (fun o => .own (o.mono fun _ _ z => z.1)) fun s => .special (sp_mono P Post W0) (sp_mono P Post W0 _ _ (fun _ _ z => z.1) g x s)) hgx) hy)
    (fun I I' hI y hy => hy.imp (fun o => o.mono fun g x z => hI (g, x) z) fun s => sp_mono P Post W0 _ _ (fun g x z => hI (g, x) z) _ _ s)
    f0.k (fun F => ∀ f, Inv P Post W0 f a x → f.k = f0.k → (∀ i, f.F (i + 1) = F i) → Ends P Post f) ?_ (fun i => f0.F (i + 1))
  · exact key f0 hinv0 rfl fun _ => rfl
  · intro F hs
    have main : ∀ S N f, f.S = S → f.N = N → Inv P Post W0 f a x → f.k = f0.k → (∀ i, f.F (i + 1) = F i) → Ends P Post f := by
      intro S
      induction S using Nat.strongRecOn with
      | _ S ihS =>
        intro N
        induction N using Nat.strongRecOn with
        | _ N ihN =>
          intro f hS hN hinv hk hF
          obtain ⟨i, g, d, sl', hi, hrun, hst⟩ := crowd_pick (P := P) (w := f.w) (sl := f.sl) hinv.awake hinv.progress
          obtain ⟨f1, hf1⟩ : ∃ f1 : Cf, f1 = { f with w := f.w.at d, sl := sl' } := ⟨_, rfl⟩
          have hinv1 : Inv P Post W0 f1 a x := by rw [hf1]; exact hinv.at d sl'
          have hgs : f1.gs = f.gs := by rw [hf1]
          have hk1 : f1.k = f.k := by rw [hf1]
          have hF1 : ∀ i, f1.F (i + 1) = F i := fun i => by rw [hf1]; exact hF i
          have hph1 : f1.ph = f.ph := by rw [hf1]
          have hS1 : f1.S = f.S := by rw [hf1]; rfl
          have hN1 : f1.N = f.N := by rw [hf1]; rfl
          have endsR : ∀ {i}, stepT P (crowd f.gs f.w f.sl) = runT P (crowd f.gs (f.w.at d) sl') i → EndsR P Post f1 i → Ends P Post f := fun {i} hst he => he f (by rw [hf1]) (by rw [hf1]) (by rw [hst, hf1])
          have less : ∀ {f' : Cf}, Inv P Post W0 f' a x → f'.k = f1.k → f'.F = f1.F → (f'.S < f1.S ∨ (f'.S = f1.S ∧ f'.N < f1.N)) → Ends P Post f' := fun {f'} b1 b2 b3 b4 => by
            rw [hS1, hS, hN1, hN] at b4
            have hF' : ∀ i, f'.F (i + 1) = F i := fun i => by rw [b3]; exact hF1 i
            rcases b4 with b4 | ⟨b4, b5⟩
            · exact ihS _ b4 _ f' rfl rfl b1 (b2.trans (hk1.trans hk)) hF'
            · exact ihN _ b5 f' b4 rfl b1 (b2.trans (hk1.trans hk)) hF'
          rcases Nat.eq_zero_or_pos i with rfl | hpos
          · rcases main_move hinv1 (by rw [hgs]; exact hi) hrun hx with h3 | h3 | ⟨f', h3⟩
            · exact h3 f hinv
            · exact endsR hst h3
            · exact endsR hst (h3.ends (less h3.inv h3.k h3.F (.inr ⟨h3.S, h3.N⟩)))
          · obtain ⟨j, rfl⟩ : ∃ j, i = j + 1 := ⟨i - 1, by omega⟩
            have hik : j + 1 ≤ f.k := size_lt hinv.1 hi
            cases hp : f.ph (j + 1) with
            | Q q =>
              obtain ⟨f', h3⟩ := q_move (j := j + 1) (q := q) hinv1 (Nat.le_add_left _ _) (by rw [hk1]; exact hik) (by rw [hph1]; exact hp) (by rw [hgs]; exact hi) hrun
              exact endsR hst (h3.ends (less h3.inv h3.k h3.F h3.S))
            | B s b c =>
              have h1 := hinv1.1
              have h2 := hinv1.2
              cases hxs : x.s with
              | solo =>
                rw [hxs] at h2
                have := h2.q (j + 1) (by omega) (by rw [hk1]; exact hik)
                rw [hph1, hp] at this; exact this.elim
              | snd c => rw [hxs] at h2; exact h2.elim
              | co c =>
                rw [hxs] at h2
                obtain ⟨j0, h2⟩ := h2
                have hj0 : j0 < j + 1 := Nat.lt_of_not_le fun hle => by have := h2.old (j + 1) (by omega) hle; rw [hph1, hp] at this; exact this.elim
                obtain ⟨f', h3⟩ := b_move h1 h2 hxs hj0 (by rw [hk1]; exact hik) (by rw [hph1]; exact hp) (by rw [hgs]; exact hi) hrun
                exact endsR hst (h3.ends (less h3.inv h3.k h3.F h3.S))
            | A pk =>
              cases pk with
              | true =>
                exfalso
                obtain ⟨r, hr, hc⟩ := hinv.1.ra (j + 1) true (by omega) hik hp
                rw [hi] at hr; cases hr
                obtain ⟨cs, sh, e, _⟩ := hc.parked
                rw [e] at hrun; simp [parked] at hrun
              | false =>
                have hok : MIp P Post W0 (F j).1 (F j).2 := by
                  have := hinv.1.mi (j + 1) (by omega) hik (by rw [hp]; trivial)
                  rwa [hF j] at this
                have hsj := hs j (by have := hk ▸ hik; omega) hok
                rcases snd_move (i := j) hinv1 (by have := hk1.symm ▸ hik; omega) (by rw [hph1]; exact hp) hF1 hx (hsj.imp (fun o => o.mono fun g z y => ⟨y.1, fun f' b1 b2 b3 => y.2 f' b1 (b2.trans (hk1.trans hk)) b3⟩) fun s => sp_mono P Post W0 _ _ (fun g z y => ⟨y.1, fun f' b1 b2 b3 => y.2 f' b1 (b2.trans (hk1.trans hk)) b3⟩) _ _ s) with ⟨q, b1, b2, b3⟩ | h3 | ⟨f', h3⟩
                · have h1 := hinv.1
                  have h2 := hinv.2
                  cases hxs : x.s with
                  | solo =>
                    rw [hxs] at h2
                    have := h2.q (j + 1) (by omega) hik
                    rw [hp] at this; exact this.elim
                  | snd c => rw [hxs] at h2; exact h2.elim
                  | co c =>
                    rw [hxs] at h2
                    obtain ⟨j0, h2⟩ := h2
                    obtain ⟨i', s, hi', hsn⟩ := wk_ix h2 (j := j + 1) (by omega) hik (by rw [hp]; exact id)
                    have hFe : f.F (j0 + 1 + i') = ((F j).1, ⟨(F j).2.m, .snd q⟩) := by rw [← hi', hF j, ← b1]
                    obtain ⟨f', c1, c2, c3, c4, c5, c6, c7, c8⟩ := snd_quit h1 h2 hxs hsn (by rw [← hi']; exact hp) hFe b2 b3
                    have he := ihS _ (by rw [← hS]; exact c8) _ f' rfl rfl c7 (c5.trans hk) (fun i => by rw [c6]; exact hF i)
                    unfold Ends at he ⊢
                    rw [c1, c2, c3, c4] at he
                    exact he
                · exact endsR hst h3
                · exact endsR hst (h3.ends (less h3.inv h3.k h3.F (.inr ⟨h3.S, h3.N⟩)))
    exact fun f b1 b2 b3 => main _ _ f rfl rfl b1 b2 b3
end
end Go.X
