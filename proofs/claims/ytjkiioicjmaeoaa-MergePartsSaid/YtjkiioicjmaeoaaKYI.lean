/- A COMPANY's RUN ENDS. No program in sight. -/
import Derived.Test.YtjkiioicjmaeoaaKYH
set_option linter.unusedVariables false
set_option linter.unusedSimpArgs false
namespace Go.X
open Go Go.Sx Go.Conc Go.ConcN
open Go.ConcR (KK wgBlock WgAt stA smA rd wr mk Payload Bk bk_of_mute ofEvent_loc_mark)
section
variable {P : Program} {Post : Value → World → Prop} {W0 : World}
abbrev IT (P : Program) (Post : Value → World → Prop) (W0 : World) (a : Goroutine) (x : XW Gh) : Prop := MIp P Post W0 a x ∧ Tm P Post W0 a x
theorem inv_snd {f : Cf} {a : Goroutine} {m : Heap} {c : Cs} (h : Inv P Post W0 f a ⟨m, .snd c⟩) : False := h.2
theorem inv_co {f : Cf} {a : Goroutine} {m : Heap} {c : Co} (h : Inv P Post W0 f a ⟨m, .co c⟩) : Inv1 P Post W0 f a ⟨m, .co c⟩ ∧ ∃ j0, Inv2 P f ⟨m, .co c⟩ c j0 := h
theorem inv_pool {f : Cf} {a : Goroutine} {x : XW Gh} (h : Inv P Post W0 f a x) : (pool x.s).le (rp f.w) := by
  have h1 := h.1
  obtain ⟨m, s⟩ := x
  cases s with
  | solo => intro b o hb; cases hb
  | snd c => exact (inv_snd h).elim
  | co c =>
    obtain ⟨_, j0, h2⟩ := inv_co h
    intro b o hb
    simp only [pool, join] at hb
    split at hb
    · rename_i o' he; cases hb; exact h1.mbase b o (by rw [h2.base]; exact he)
    · exact h1.mwin b o (by rw [h2.win]; exact hb)
theorem inv_live {f : Cf} {a : Goroutine} {x : XW Gh} (h : Inv P Post W0 f a x) : ∀ c, x.s = .co c → WgLive c.ty c.wg f.w := by
  obtain ⟨m, s⟩ := x
  intro c hs
  replace hs : s = .co c := hs
  subst hs
  obtain ⟨_, j0, h2⟩ := inv_co h
  obtain ⟨st, sm, hw, _⟩ := h2.mode
  exact ⟨st, sm, hw⟩
theorem main_move {f : Cf} {a : Goroutine} {x : XW Gh} (h : Inv P Post W0 f a x) {r : Goroutine} (hr : f.gs[0]? = some r) (hrun : r.status = .running)
    (hx : Own P kd W0 (IT P Post W0) a x ∨ SP P Post W0 (IT P Post W0) a x) : Tm P Post W0 a x ∨ EndsR P Post f 0 ∨ ∃ f', Waits P Post W0 f f' a x 0 := by
  have h1 := h.1
  obtain ⟨r1, hr1, hm⟩ := h1.main
  rw [hr] at hr1; cases hr1
  have hml : f.mb = .run ∧ Like P a r := by
    cases hmb : f.mb with
    | run => rw [hmb] at hm; cases hm with | run hl => exact ⟨rfl, hl⟩
    | park i => rw [hmb] at hm; cases hm; simp [parked] at hrun
    | blk => rw [hmb] at hm; cases hm; simp at hrun
  obtain ⟨hmb, hl⟩ := hml
  have hM0 : f.o.M 0 = x.m := h1.oM0
  have hm0 : x.m.le (rp f.w) := by have := h1.mem 0; rwa [hM0] at this
  have hmain : isMain x.s = true := by
    cases hs : x.s with
    | solo => rfl
    | co c => rfl
    | snd c => exact (inv_snd (m := x.m) (c := c) (by rw [← hs]; exact h)).elim
  have run : ∀ {g' : Goroutine} {w' : World} {es : Array Event}, stepG P true a f.w = .go g' w' es → ∃ ops, ops = MemOp.ofEvents 0 r.frame.fn r.frame.place es ∧ runT P (crowd f.gs f.w f.sl) 0 = (.next (crowd ((f.gs.map (woken P r g' w')).setIfInBounds 0 g') w' f.sl), ops) := fun {g' w' es} hs =>
    ⟨_, rfl, runT_crowd_go (P := P) (sl := f.sl) (i := 0) hr (by rw [show ((0 : Nat) == 0) = true from rfl, hl.step]; exact hs)⟩
  have fin : ∀ {g' : Goroutine} {w' : World} {es : Array Event} {f' : Cf} {x' : XW Gh}, stepG P true a f.w = .go g' w' es → Inv P Post W0 f' g' x' → Tm P Post W0 g' x' → f'.gs = (f.gs.map (woken P r g' w')).setIfInBounds 0 g' → f'.w = w' → f'.sl = f.sl → f'.t = f.t ++ MemOp.ofEvents 0 r.frame.fn r.frame.place es → EndsR P Post f 0 := fun {g' w' es f' x'} hs hi hT e1 e2 e3 e4 => by
    obtain ⟨_, rfl, h3⟩ := run hs
    exact .of (f' := f') (by rw [e1, e2, e3]; exact h3) e4 (hT _ hi)
  rcases hx with ⟨_, ho⟩ | hx
  · obtain ⟨g', w', es, m', e1, e2, e3, e4, e5, e6⟩ := ho f.w h1.env hm0 (inv_pool h)
    rw [show kd.mn x.s = true from hmain] at e1
    exact .inr (.inl (fin e1 (main_own h hr hl hmb e5 e2.frame e2.grows ⟨e2.os.trans h1.env.os, e2.tape.trans h1.env.tape, e2.output.trans h1.env.out⟩ e3 e4 fun e he => ⟨.inr (e2.mine e he), e2.low e he⟩) e6 rfl rfl rfl rfl))
  · cases hx with
    | peek e1 e2 =>
      have hpool : (pool x.s).le (rp f.w) := by
        obtain ⟨m, s⟩ := x
        cases s with
        | solo => intro b o hb; cases hb
        | snd c => exact (inv_snd h).elim
        | co c =>
          obtain ⟨_, j0, h2⟩ := inv_co h
          intro b o hb
          simp only [pool, join] at hb
          split at hb
          · rename_i o' he; cases hb; exact h1.mbase b o (by rw [h2.base]; exact he)
          · exact h1.mwin b o (by rw [h2.win]; exact hb)
      obtain ⟨g', es, e3, e4, e5, e6⟩ := e2 f.w h1.env hm0 hpool (inv_live h)
      rw [hmain] at e3
      refine .inr (.inl (fin e3 (main_own (m' := x.m) h hr hl hmb e5 (fun _ _ _ => rfl) (Nat.le_refl _) h1.env hm0 (fun b hb => .inl hb) fun e he => ⟨.inl (e4 e he), ?_⟩) e6 rfl rfl rfl rfl))
      have h3 := e4 e he
      unfold Peek at h3
      unfold EvLow
      split at h3
      · rename_i ad hl
        rw [hl]
        rcases h3 with ⟨h3, _⟩ | h3
        · cases hp : pool x.s ad.block with
          | none => exact absurd hp h3
          | some o => exact (Array.getElem?_eq_some_iff.1 (hpool _ o hp)).1
        · cases hp : x.m ad.block with
          | none => exact absurd hp h3
          | some o => exact (Array.getElem?_eq_some_iff.1 (hm0 _ o hp)).1
      · exact h3.elim
    | opn e0 e1 e2 e3 e4 e5 e6 e7 e8 e9 e10 e11 e12 e13 e14 e15 =>
      exact .inl fun f2 hf2 => by
        have := e15.2 _ (main_opn hf2 e1 e2 e3 e4 e5 e6 e7 e8 e9 e10 e11 e12 e13 e14 e15.1)
        exact this
    | mark e1 e2 e3 e4 =>
      obtain ⟨_, j0, h2⟩ := inv_co h
      have hlive : WgLive _ _ f.w := let ⟨st, sm, hw, _⟩ := h2.mode; ⟨st, sm, hw⟩
      exact .inr (.inl (fin (e3 f.w h1.env hm0 hlive) (spc_mark h1 h2 hmb hr hl e1 e4.1) e4.2 rfl rfl rfl rfl))
    | add e1 e2 e3 =>
      obtain ⟨_, j0, h2⟩ := inv_co h
      obtain ⟨st, sm, hw, hmd⟩ := h2.mode
      rw [hmb, e1] at hmd
      obtain ⟨k1, k2, k3, _⟩ := mode_open hmd trivial
      subst k3
      have hv : Vc f.k f.D + pend (tagOf false .off) = Vc f.k f.D := by simp [tagOf, pend]
      rw [show pend (tagOf false .off) = 0 from rfl] at k2
      obtain ⟨g', e4, e5⟩ := e3 (Vc f.k f.D) f.w (vc_bound h2) h1.env hm0 (by rw [k2] at hw; simpa using hw)
      exact .inr (.inl (fin e4 (spc_add h1 h2 hmb hr hl e1 e5.1) e5.2 rfl rfl rfl rfl))
    | go e0 e1 e2 e3 e4 e5 e6 e7 e8 e9 e10 e11 e12 e13 e14 =>
      exact .inr (.inl (main_go h hr hl hmb e0 e1 e2 e3 e6 e7 e8 e9 e10 e11 e12 e13.1 e14.1 e14.2))
    | recv e1 e2 e3 e4 e5 e6 e7 e8 => exact .inr (main_recv h hmb hr hl e1 e2 e3 e4 e5 e6 e7 e8)
    | clos e1 e2 e3 e4 e5 e6 e7 =>
      rename_i c
      obtain ⟨_, j0, h2⟩ := inv_co h
      obtain ⟨s, rr, hch⟩ := h2.ech.2
      rw [e2] at hch
      have hpool : (pool (.co c)).le (rp f.w) := by
        intro b o hb
        simp only [pool, join] at hb
        split at hb
        · rename_i o' he; cases hb; exact h1.mbase b o (by rw [h2.base]; exact he)
        · exact h1.mwin b o (by rw [h2.win]; exact hb)
      exact .inr (.inl (fin (e6 f.w s rr h1.env hm0 hpool hch) (spc_clos h1 h2 hmb hr hl e1 e3 e5 hch e7.1) e7.2 rfl rfl rfl rfl))
    | load e1 e2 e3 =>
      obtain ⟨_, j0, h2⟩ := inv_co h
      obtain ⟨st, sm, hw, hmd⟩ := h2.mode
      rw [hmb, e1] at hmd
      obtain ⟨k1, k2, k3, _⟩ := mode_open hmd trivial
      subst k3
      rw [show pend (tagOf false (.w0 _)) = 0 from rfl] at k2
      obtain ⟨g', e4, e5, e6⟩ := e3 (Vc f.k f.D) f.w (h2.bnd _ e1) h1.env hm0 (by rw [k2] at hw; simpa using hw)
      by_cases hv : Vc f.k f.D = 0
      · exact .inr (.inl (fin e4 (spc_load h1 h2 hmb hr hl e1 (.inl ⟨hv, rfl⟩) (e5 hv).1) (e5 hv).2 rfl rfl rfl rfl))
      · exact .inr (.inl (fin e4 (spc_load h1 h2 hmb hr hl e1 (.inr ⟨hv, rfl⟩) (e6 hv).1) (e6 hv).2 rfl rfl rfl rfl))
    | cas e1 e2 e3 =>
      rename_i u
      obtain ⟨_, j0, h2⟩ := inv_co h
      obtain ⟨st, sm, hw, hmd⟩ := h2.mode
      rw [hmb, e1] at hmd
      obtain ⟨k1, k2, k3, k4⟩ := mode_open hmd trivial
      subst k3
      rw [show pend (tagOf false (.w1 _)) = 0 from rfl] at k2
      obtain ⟨e4, e5⟩ := e3 (Vc f.k f.D) f.w (k4 _ rfl).1 h1.env hm0 (by rw [k2] at hw; simpa using hw)
      by_cases hv : Vc f.k f.D = u
      · obtain ⟨g', e6, e7⟩ := e4 hv
        exact .inr (.inl (fin e6 (spc_cas h1 h2 hmb hr hl e1 hv e7.1) e7.2 rfl rfl rfl rfl))
      · obtain ⟨g', e6, e7⟩ := e5 hv
        exact .inr (.inl (fin e6 (spc_miss h1 h2 hmb hr hl e1 e7.1) e7.2 rfl rfl rfl rfl))
    | sem e1 e2 e3 e4 e5 =>
      obtain ⟨_, j0, h2⟩ := inv_co h
      obtain ⟨st, sm, hw, hmd⟩ := h2.mode
      have hmd' := hmd
      rw [hmb, e1] at hmd
      have wait : sm = 0 → ∃ f', Waits P Post W0 f f' a _ 0 := fun hs => by
        subst hs
        obtain ⟨f', q1, q2, q3, q4, q5, q6, q7⟩ := sem_wait h hmb hr hl e1 e2 e3 (e4 f.w st h1.env hm0 hw) ⟨st, hw⟩
        exact ⟨f', q3, q4, q5, q6, q7, fun he => .of q1 q2 he⟩
      by_cases hsm : sm = 0
      · exact .inr (.inr (wait hsm))
      · have : sm = 1 ∧ st = 0 := by
          generalize tagOf false .reg = tg at hmd
          cases hmd with
          | opn => exact absurd rfl hsm
          | reg => exact absurd rfl hsm
          | last => exact absurd rfl hsm
          | sema => exact ⟨rfl, rfl⟩
          | fin => exact absurd rfl hsm
        obtain ⟨rfl, rfl⟩ := this
        obtain ⟨g', e6, e7⟩ := e5 f.w h1.env hm0 hw
        exact .inr (.inl (fin e6 (spc_sem h1 h2 hmb hr hl e1 hw e7.1) e7.2 rfl rfl rfl rfl))
    | load0 e1 e2 e3 =>
      obtain ⟨_, j0, h2⟩ := inv_co h
      obtain ⟨st, sm, hw, hmd⟩ := h2.mode
      rw [hmb, e1] at hmd
      obtain ⟨k1, rfl, rfl⟩ := mode_fin hmd trivial
      obtain ⟨g', e4, e5⟩ := e3 f.w h1.env hm0 hw
      exact .inr (.inl (fin e4 (spc_load0 h1 h2 hmb hr hl e1 e5.1) e5.2 rfl rfl rfl rfl))
    | back e1 e2 e3 =>
      exact .inl fun f2 hf2 => by
        have := e3.2 _ (main_back hf2 e2 e3.1)
        exact this
    | fin e1 e2 => exact .inr (.inl (main_fin h hr hl e2))
    | sel => exact (inv_snd h).elim
    | shut => exact (inv_snd h).elim
    | quit => exact (inv_snd h).elim
theorem recv_inv {f : Cf} {a : Goroutine} {x : XW Gh} {c : Co} {i : Nat} {s : Snd} {z : Value} (h : Inv P Post W0 f a x) (hxs : x.s = .co c) (hst : c.st = .run) (hsh : c.shut = false) (hs : c.snd[i]? = some s)
    (hcm : ∀ w, Env W0 w → x.m.le (rp w) → stepG P true a w = .comm a #[rcase s.ch z] true (.recv true) w #[]) (hx : Own P kd W0 (IT P Post W0) a x ∨ SP P Post W0 (IT P Post W0) a x) {v : Value} {vs : List Value} (hrem : s.rem = v :: vs) :
    IT P Post W0 (Go.Conc.served a (.tuple #[v, .bool true])) ⟨join x.m c.win, .co { c with win := Heap.empty, wn := false, snd := c.snd.set i ⟨s.ch, vs⟩ }⟩ := by
  obtain ⟨m, s'⟩ := x
  replace hxs : s' = .co c := hxs
  subst hxs
  obtain ⟨h1, j0, h2⟩ := inv_co h
  have hm0 : m.le (rp f.w) := by have := h1.mem 0; rwa [h1.oM0] at this
  have hc := hcm f.w h1.env hm0
  have hpool : (pool (.co c)).le (rp f.w) := by
    intro b o hb
    simp only [pool, join] at hb
    split at hb
    · rename_i o' he; cases hb; exact h1.mbase b o (by rw [h2.base]; exact he)
    · exact h1.mwin b o (by rw [h2.win]; exact hb)
  rcases hx with ⟨_, ho⟩ | hx
  · obtain ⟨g', w', es, m', e1, _⟩ := ho f.w h1.env hm0 hpool
    rw [show kd.mn (XW.s ⟨m, Gh.co c⟩) = true from rfl, hc] at e1; cases e1
  · cases hx with
    | peek e1 e2 =>
      obtain ⟨g', es, e3, _⟩ := e2 f.w h1.env hm0 hpool (inv_live h)
      rw [show isMain (XW.s ⟨m, Gh.co c⟩) = true from rfl, hc] at e3; cases e3
    | mark e1 e2 e3 e4 =>
      have := e3 f.w h1.env hm0 (let ⟨st, sm, hw, _⟩ := h2.mode; ⟨st, sm, hw⟩)
      rw [hc] at this; cases this
    | add e1 => rw [hst] at e1; cases e1
    | go e0 e1 => rw [hst] at e1; cases e1
    | recv e1 e2 e3 e4 e5 e6 e7 e8 =>
      rename_i i' s' z'
      have := e6 f.w h1.env hm0
      rw [hc] at this
      simp only [GStep.comm.injEq, true_and, and_true] at this
      have hcc : rcase s.ch z = rcase s'.ch z' := by simpa using this
      have hch : s'.ch = s.ch := by simp [rcase] at hcc; exact hcc.1.symm
      have hi : i' = i := (h2.ch i s hs).2.2.2 i' s' e3 hch
      subst hi
      rw [hs] at e3; cases e3
      exact e8 v vs hrem
    | clos e1 e2 e3 e4 e5 e6 e7 =>
      obtain ⟨s2, r2, hch⟩ := h2.ech.2
      rw [e2] at hch
      have := e6 f.w s2 r2 h1.env hm0 hpool hch
      rw [hc] at this; cases this
    | load e1 => rw [hst] at e1; cases e1
    | cas e1 => rw [hst] at e1; cases e1
    | sem e1 => rw [hst] at e1; cases e1
    | load0 e1 => rw [hst] at e1; cases e1
    | back _ e1 => rw [hst] at e1; cases e1
end
end Go.X
