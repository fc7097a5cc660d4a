/- The law MergeMerges, walked. -/
import Derived.Test.YtjkiioicjmaeoaaQE8
import Derived.Test.YtjkiioicjmaeoaaQMN
import Derived.Test.YtjkiioicjmaeoaaQSx6
import Derived.Test.YtjkiioicjmaeoaaQYI
set_option linter.unusedVariables false
set_option linter.unusedSimpArgs false
namespace Go.X
open Go Go.Sx Go.Conc Go.ConcN
open Go.ConcR (KK wgBlock WgAt stA smA rd wr mk Payload Bk bk_of_mute ofEvent_loc_mark)
section
variable {P : Program} {Post : Value → World → Prop} {W0 : World}
abbrev GX := Goroutine × XW Gh
def StF (P : Program) (Post : Value → World → Prop) (W0 : World) (I : GX → Prop) (y : GX) : Prop := Own P kd W0 (fun g x => I (g, x)) y.1 y.2 ∨ SP P Post W0 (fun g x => I (g, x)) y.1 y.2
theorem snd_move {f : Cf} {a : Goroutine} {x : XW Gh} {F : Nat → GX} {i : Nat} (h : Inv P Post W0 f a x) (hi : i < f.k) (hp : f.ph (i + 1) = .A false) (hFm : ∀ j, f.F (j + 1) = F j)
    (hx : Own P kd W0 (IT P Post W0) a x ∨ SP P Post W0 (IT P Post W0) a x)
    (hs : StF P Post W0 (fun y => MIp P Post W0 y.1 y.2 ∧ ∀ f', Inv P Post W0 f' a x → f'.k = f.k → (∀ j, f'.F (j + 1) = ConcN.upd F i y j) → Ends P Post f') (F i)) :
    (∃ c, (F i).2.s = .snd c ∧ c.closed = true ∧ Leaves P c (F i).1) ∨ EndsR P Post f (i + 1) ∨ ∃ f', Waits P Post W0 f f' a x (i + 1) := by
  have h1 := h.1
  cases hxs : x.s with
  | solo =>
    exfalso
    have h2 := h.2
    rw [hxs] at h2
    have := h2.q (i + 1) (by omega) (by omega)
    rw [hp] at this; exact this
  | snd c => have h2 := h.2; rw [hxs] at h2; exact h2.elim
  | co c =>
    have h2 := h.2
    rw [hxs] at h2
    obtain ⟨j0, h2⟩ := h2
    obtain ⟨i', s, hi', hsn⟩ := snd_ix h2 (j := i + 1) (by omega) (by omega) (by rw [hp]; exact id)
    obtain ⟨q, q1, q2, q3, q4, q5, q6, q7, q8, q9, q10, ⟨n, q11⟩, q12⟩ := h2.cha i' s false hsn (by rw [← hi']; exact hp)
    have hFi : f.F (j0 + 1 + i') = F i := by rw [← hi']; exact hFm i
    rw [hFi] at q1
    obtain ⟨r, hr, hc⟩ := h1.ra (i + 1) false (by omega) (by omega) hp
    have hl : Like P (F i).1 r := by
      rcases hc with ⟨_, hl⟩ | ⟨hf, _⟩
      · rw [hFm i] at hl; exact hl
      · cases hf
    have hM : f.o.M (i + 1) = (F i).2.m := by rw [h1.oMa _ (by omega) (by omega) (by rw [hp]; trivial), hFm i]
    have hm0 : (F i).2.m.le (rp f.w) := by rw [← hM]; exact h1.mem _
    have hne : (i + 1 == 0) = false := by simp
    have hmain : isMain (F i).2.s = false := by rw [q1]; rfl
    have hupd : ∀ y : GX, ∀ j, ConcN.upd f.F (i + 1) y (j + 1) = ConcN.upd F i y j := fun y j => by
      by_cases e : j = i
      · subst e; rw [ConcN.upd_same, ConcN.upd_same]
      · rw [upd_ne _ _ e, upd_ne _ _ (by omega)]; exact hFm j
    have run : ∀ {g' : Goroutine} {w' : World} {es : Array Event}, stepG P false (F i).1 f.w = .go g' w' es → runT P (crowd f.gs f.w f.sl) (i + 1) = (.next (crowd ((f.gs.map (woken P r g' w')).setIfInBounds (i + 1) g') w' f.sl), MemOp.ofEvents (i + 1) r.frame.fn r.frame.place es) := fun {g' w' es} hs =>
      runT_crowd_go (P := P) (sl := f.sl) (i := i + 1) hr (by rw [hne, hl.step]; exact hs)
    generalize hFe : F i = y at *
    obtain ⟨y, mj, sj⟩ := y
    replace q1 : sj = .snd q := q1
    subst q1
    have hpool : (pool (.snd q)).le (rp f.w) := by
      intro b o hb
      have hb2 : q.base b = some o ∨ (q.fst = true ∧ q.win b = some o) := by
        simp only [pool] at hb
        split at hb
        · rename_i hf
          simp only [join] at hb
          split at hb
          · rename_i o' he; cases hb; exact .inl he
          · exact .inr ⟨hf, hb⟩
        · exact .inl hb
      rcases hb2 with he | ⟨hf, he⟩
      · exact h1.mbase b o (by rw [h2.base, ← q5]; exact he)
      · exact h1.mwin b o (by rw [h2.win, ← (q10 hf).2.2.1]; exact he)
    rcases hs with ⟨_, ho⟩ | hs
    · obtain ⟨g', w', es, m', e1, e2, e3, e4, e5, e6⟩ := ho f.w h1.env hm0 hpool
      obtain ⟨f', b1, b2, b3, b4, b5, b6, b7⟩ := snd_own h1 h2 hxs (j := i + 1) (by omega) (by omega) hp (yx := ⟨mj, .snd q⟩) (y := y) (by rw [hFm i, hFe]) hr e5 e2.frame e2.grows ⟨e2.os.trans h1.env.os, e2.tape.trans h1.env.tape, e2.output.trans h1.env.out⟩ e3 e4 fun e he => ⟨.inr (e2.mine e he), e2.low e he⟩
      exact .inr (.inl (.of (f' := f') (by rw [b1, b2, b3]; exact run e1) b4 (e6 f' b7 b5 fun j => by rw [b6]; exact hupd _ j)))
    · cases hs with
      | peek e1 e2 =>
        obtain ⟨g', es, e3, e4, e5, e6⟩ := e2 f.w h1.env hm0 hpool (fun c h => by cases h)
        obtain ⟨f', b1, b2, b3, b4, b5, b6, b7⟩ := snd_own h1 h2 hxs (j := i + 1) (by omega) (by omega) hp (yx := ⟨mj, .snd q⟩) (y := y) (m' := mj) (by rw [hFm i, hFe]) hr e5 (fun _ _ _ => rfl) (Nat.le_refl _) h1.env hm0 (fun b hb => .inl hb) fun e he => ⟨.inl (e4 e he), by
          have h3 := e4 e he
          unfold Peek at h3
          unfold EvLow
          split at h3
          · rename_i ad hl
            rw [hl]
            rcases h3 with ⟨h3, _⟩ | h3
            · cases hpp : pool (.snd q) ad.block with
              | none => exact absurd hpp h3
              | some o => exact (Array.getElem?_eq_some_iff.1 (hpool _ o hpp)).1
            · cases hpp : mj ad.block with
              | none => exact absurd hpp h3
              | some o => exact (Array.getElem?_eq_some_iff.1 (hm0 _ o hpp)).1
          · exact h3.elim⟩
        exact .inr (.inl (.of (f' := f') (by rw [b1, b2, b3]; exact run e3) b4 (e6 f' b7 b5 fun j => by rw [b6]; exact hupd _ j)))
      | sel e1 e2 e3 e4 e5 e6 e7 =>
        have := snd_sel h1 h2 hxs hsn (by rw [← hi']; exact hp) (mj := mj) (y := y) (q := q) hFi (r := r) (by rw [← hi']; exact hr) hl e1 e2 e3 e4 e5 e6.1 e7.1
          (fun f' b1 b2 b3 => e7.2 f' b1 b2 fun j => by rw [b3, ← hi']; exact hupd _ j) (fun z hpk hcm => ?_)
        · rw [← hi'] at this; exact .inr this
        · obtain ⟨r0, hr0, hm⟩ := h1.main
          rw [hpk] at hm
          cases hm with
          | park k1 k2 k3 k4 k5 k6 k7 =>
            rw [hxs] at k1; cases k1
            exact recv_inv h hxs k2 k3 hsn hcm hx (by rw [← q7 e2]; exact e1)
      | shut e1 e2 e3 e4 e5 e6 =>
        rw [e2] at q11
        have hgo := e5 f.w n n h1.env hm0 (by rw [q6]; exact q11)
        rw [q6] at hgo
        obtain ⟨f', b1, b2, b3, b4, b5, b6, b7⟩ := snd_shut h1 h2 hxs hsn (by rw [← hi']; exact hp) (mj := mj) (y := y) (q := q) hFi (r := r) (by rw [← hi']; exact hr) (by rw [hl.wake]; exact e4) e1 e2 q11 e6.1
        rw [← hi'] at b1 b4 b6
        exact .inr (.inl (.of (f' := f') (by rw [b1, b2, b3]; exact run hgo) b4 (e6.2 f' b7 b5 fun j => by rw [b6]; exact hupd _ j)))
      | quit e1 e2 e3 => exact .inl ⟨_, rfl, e2, e3⟩
theorem company_ends {a : Goroutine} {x : XW Gh} (hmi : MIp P Post W0 a x) : Tm P Post W0 a x := by
  refine MI.induct (sp_mono P Post W0) (T := fun a x => Tm P Post W0 a x) (fun a x hx => ?_) hmi
  intro f0 hinv0
  have key := mi_family (α := GX) (fun y => MIp P Post W0 y.1 y.2) (StF P Post W0)
    (fun T hT y hy => MI.induct (sp_mono P Post W0) (T := fun g x => T (g, x)) (fun g x hgx => hT (g, x) (hgx.elim (fun o => .own (o.mono fun _ _ z => z.1)) fun s => .special (sp_mono P Post W0) (sp_mono P Post W0 _ _ (fun _ _ z => z.1) g x s)) hgx) hy)
    (fun I I' hI y hy => hy.imp (fun o => o.mono fun g x z => hI (g, x) z) fun s => sp_mono P Post W0 _ _ (fun g x z => hI (g, x) z) _ _ s)
    f0.k (fun F => ∀ f, Inv P Post W0 f a x → f.k = f0.k → (∀ i, f.F (i + 1) = F i) → Ends P Post f) ?_ (fun i => f0.F (i + 1))
  · exact key f0 hinv0 rfl fun _ => rfl
  · intro F hs
    have main : ∀ S N f, f.S = S → f.N = N → Inv P Post W0 f a x → f.k = f0.k → (∀ i, f.F (i + 1) = F i) → Ends P Post f := by
      intro S
      induction S using Nat.strongRecOn with
      | _ S ihS =>
        intro N
        induction N using Nat.strongRecOn with
        | _ N ihN =>
          intro f hS hN hinv hk hF
          obtain ⟨i, g, d, sl', hi, hrun, hst⟩ := crowd_pick (P := P) (w := f.w) (sl := f.sl) hinv.awake hinv.progress
          obtain ⟨f1, hf1⟩ : ∃ f1 : Cf, f1 = { f with w := f.w.at d, sl := sl' } := ⟨_, rfl⟩
          have hinv1 : Inv P Post W0 f1 a x := by rw [hf1]; exact hinv.at d sl'
          have hgs : f1.gs = f.gs := by rw [hf1]
          have hk1 : f1.k = f.k := by rw [hf1]
          have hF1 : ∀ i, f1.F (i + 1) = F i := fun i => by rw [hf1]; exact hF i
          have hph1 : f1.ph = f.ph := by rw [hf1]
          have hS1 : f1.S = f.S := by rw [hf1]; rfl
          have hN1 : f1.N = f.N := by rw [hf1]; rfl
          have endsR : ∀ {i}, stepT P (crowd f.gs f.w f.sl) = runT P (crowd f.gs (f.w.at d) sl') i → EndsR P Post f1 i → Ends P Post f := fun {i} hst he => he f (by rw [hf1]) (by rw [hf1]) (by rw [hst, hf1])
          have less : ∀ {f' : Cf}, Inv P Post W0 f' a x → f'.k = f1.k → f'.F = f1.F → (f'.S < f1.S ∨ (f'.S = f1.S ∧ f'.N < f1.N)) → Ends P Post f' := fun {f'} b1 b2 b3 b4 => by
            rw [hS1, hS, hN1, hN] at b4
            have hF' : ∀ i, f'.F (i + 1) = F i := fun i => by rw [b3]; exact hF1 i
            rcases b4 with b4 | ⟨b4, b5⟩
            · exact ihS _ b4 _ f' rfl rfl b1 (b2.trans (hk1.trans hk)) hF'
            · exact ihN _ b5 f' b4 rfl b1 (b2.trans (hk1.trans hk)) hF'
          rcases Nat.eq_zero_or_pos i with rfl | hpos
          · rcases main_move hinv1 (by rw [hgs]; exact hi) hrun hx with h3 | h3 | ⟨f', h3⟩
            · exact h3 f hinv
            · exact endsR hst h3
            · exact endsR hst (h3.ends (less h3.inv h3.k h3.F (.inr ⟨h3.S, h3.N⟩)))
          · obtain ⟨j, rfl⟩ : ∃ j, i = j + 1 := ⟨i - 1, by omega⟩
            have hik : j + 1 ≤ f.k := size_lt hinv.1 hi
            cases hp : f.ph (j + 1) with
            | Q q =>
              obtain ⟨f', h3⟩ := q_move (j := j + 1) (q := q) hinv1 (Nat.le_add_left _ _) (by rw [hk1]; exact hik) (by rw [hph1]; exact hp) (by rw [hgs]; exact hi) hrun
              exact endsR hst (h3.ends (less h3.inv h3.k h3.F h3.S))
            | B s b c =>
              have h1 := hinv1.1
              have h2 := hinv1.2
              cases hxs : x.s with
              | solo =>
                rw [hxs] at h2
                have := h2.q (j + 1) (by omega) (by rw [hk1]; exact hik)
                rw [hph1, hp] at this; exact this.elim
              | snd c => rw [hxs] at h2; exact h2.elim
              | co c =>
                rw [hxs] at h2
                obtain ⟨j0, h2⟩ := h2
                have hj0 : j0 < j + 1 := Nat.lt_of_not_le fun hle => by have := h2.old (j + 1) (by omega) hle; rw [hph1, hp] at this; exact this.elim
                obtain ⟨f', h3⟩ := b_move h1 h2 hxs hj0 (by rw [hk1]; exact hik) (by rw [hph1]; exact hp) (by rw [hgs]; exact hi) hrun
                exact endsR hst (h3.ends (less h3.inv h3.k h3.F h3.S))
            | A pk =>
              cases pk with
              | true =>
                exfalso
                obtain ⟨r, hr, hc⟩ := hinv.1.ra (j + 1) true (by omega) hik hp
                rw [hi] at hr; cases hr
                rcases hc with ⟨hf, _⟩ | ⟨_, c, v, vs, z1, z2, _, _, _, _, _, _, e, _⟩
                · cases hf
                · rw [e] at hrun; simp [parked] at hrun
              | false =>
                have hok : MIp P Post W0 (F j).1 (F j).2 := by
                  have := hinv.1.mi (j + 1) (by omega) hik (by rw [hp]; trivial)
                  rwa [hF j] at this
                have hsj := hs j (by have := hk ▸ hik; omega) hok
                rcases snd_move (i := j) hinv1 (by have := hk1.symm ▸ hik; omega) (by rw [hph1]; exact hp) hF1 hx (hsj.imp (fun o => o.mono fun g z y => ⟨y.1, fun f' b1 b2 b3 => y.2 f' b1 (b2.trans (hk1.trans hk)) b3⟩) fun s => sp_mono P Post W0 _ _ (fun g z y => ⟨y.1, fun f' b1 b2 b3 => y.2 f' b1 (b2.trans (hk1.trans hk)) b3⟩) _ _ s) with ⟨q, b1, b2, b3⟩ | h3 | ⟨f', h3⟩
                · have h1 := hinv.1
                  have h2 := hinv.2
                  cases hxs : x.s with
                  | solo =>
                    rw [hxs] at h2
                    have := h2.q (j + 1) (by omega) hik
                    rw [hp] at this; exact this.elim
                  | snd c => rw [hxs] at h2; exact h2.elim
                  | co c =>
                    rw [hxs] at h2
                    obtain ⟨j0, h2⟩ := h2
                    obtain ⟨i', s, hi', hsn⟩ := snd_ix h2 (j := j + 1) (by omega) hik (by rw [hp]; exact id)
                    have hFe : f.F (j0 + 1 + i') = ((F j).1, ⟨(F j).2.m, .snd q⟩) := by rw [← hi', hF j, ← b1]
                    obtain ⟨f', c1, c2, c3, c4, c5, c6, c7, c8⟩ := snd_quit h1 h2 hxs hsn (by rw [← hi']; exact hp) hFe b2 b3
                    have he := ihS _ (by rw [← hS]; exact c8) _ f' rfl rfl c7 (c5.trans hk) (fun i => by rw [c6]; exact hF i)
                    unfold Ends at he ⊢
                    rw [c1, c2, c3, c4] at he
                    exact he
                · exact endsR hst h3
                · exact endsR hst (h3.ends (less h3.inv h3.k h3.F (.inr ⟨h3.S, h3.N⟩)))
    exact fun f b1 b2 b3 => main _ _ f rfl rfl b1 b2 b3
end
end Go.X
namespace Go.X
open Go Go.Sx Go.Conc Go.ConcN
section
variable {P : Program} {Post : Value → World → Prop} {W0 : World}
theorem stepG_done {main : Bool} {b : Frame} {a : Act} {w : World} {fn : Func} {todo : List Item} {v : Value} (hm : main = true) (hn : b.kind = .normal) (hd : a.defers = []) (hf : P.funcs[b.fn]? = some fn) (hr : (results fn a.tmps).run P w = .ok v w) (hi : P.inits.idxOf? b.fn = none) :
    stepG P main (G { b.at a todo with mode := .returning } []) w = .ended (.done v) w (seen P b.fn ((results fn a.tmps).events P w #[])) := by
  subst hm
  simp [G, stepG, unwind, doReturn, Frame.at, hn, hd, hf, hr, hi, GStep.after]
theorem mi_root {f : FuncId} {fn : Func} {c : Code} {args : Array Value} {x : XW Gh} (hf : P.funcs[f]? = some fn) (hb : fn.body = some c) (hi : P.inits.idxOf? f = none)
    (h : c.wpX P kd W0 (SP P Post W0) (fun e a x => (e = .normal ∨ e = .ret) ∧ a.defers = [] ∧ x.s = .solo ∧ ∀ w, Env W0 w → x.m.le (rp w) → ∃ v, (results fn a.tmps).run P w = .ok v w ∧ (∀ e ∈ (results fn a.tmps).events P w #[], Mine x.m w.heap.size e ∧ EvLow w.heap.size e) ∧ Post v w)
      { tmps := args ++ Array.replicate (fn.ntmps - args.size) undef, defers := [] } x) : MIp P Post W0 (G (Frame.enter P f args .normal) []) x := by
  rw [enter_at args hf hb]
  have leave : ∀ (a : Act) (x : XW Gh) (todo : List Item), a.defers = [] → x.s = .solo → (∀ w, Env W0 w → x.m.le (rp w) → ∃ v, (results fn a.tmps).run P w = .ok v w ∧ (∀ e ∈ (results fn a.tmps).events P w #[], Mine x.m w.heap.size e ∧ EvLow w.heap.size e) ∧ Post v w) →
      MIp P Post W0 (G { (base f).at a todo with mode := .returning } []) x := by
    intro a x todo hd hs hx
    obtain ⟨m, s⟩ := x
    replace hs : s = .solo := hs
    subst hs
    refine MI.special (sp_mono P Post W0) (.fin rfl fun w he hl => ?_)
    obtain ⟨v, h1, h2, h3⟩ := hx w he hl
    exact ⟨v, _, stepG_done (b := base f) rfl rfl hd hf h1 hi, fun e he => h2 e (mem_seen he), h3⟩
  refine h (base f) [] [] (by simp [base]) fun e a' x' q => ?_
  obtain ⟨he, hd, hs, hx⟩ := q
  rcases he with rfl | rfl
  · exact .ctl rfl (fun _ _ => stepG_end) (leave a' x' [] hd hs hx)
  · exact fun todo => leave a' x' todo hd hs hx
def startCf (g : Goroutine) (W : World) : Cf :=
  ⟨#[g], W, none, #[], 0, .run, fun _ => (g, ⟨Heap.empty, .solo⟩), fun _ => .Q 0, ⟨0, fun i => if i = 0 then rp W else Heap.empty, Heap.empty, Heap.empty, 0, fun _ => False, fun _ => False, fun _ => False, fun _ _ => False, fun _ _ => False⟩⟩
theorem start_inv {g : Goroutine} {W : World} (hmi : MIp P Post W0 g ⟨rp W, .solo⟩) (he : Env W0 W) : Inv P Post W0 (startCf g W) g ⟨rp W, .solo⟩ := by
  have hr := mi_running hmi
  refine ⟨⟨rfl, he, ⟨g, rfl, .run (.refl hr)⟩, fun i pk h1 h2 => ?_, fun i q h1 h2 => ?_, fun i h1 h2 => ?_, rfl, fun i h1 h2 => ?_, rfl, rfl, fun i h1 h2 => ?_, fun i h1 h2 => ?_, fun i => ⟨fun h => h.elim, fun ⟨a, b, c⟩ => c⟩, fun i => ⟨fun h => h.elim, fun ⟨a, b, c⟩ => c trivial⟩, ⟨fun a b x hne hx => ?_, fun a x hx => ?_, fun x hx => absurd rfl hx, fun x hx => absurd rfl hx, fun a h => h, fun x h => h.elim, fun a x h => h⟩, fun i => ?_, fun b o h => (by cases h), fun b o h => (by cases h), ?_⟩, ⟨fun i a b => trivial, rfl, rfl, fun i r h => h⟩⟩
  · exact absurd (Nat.le_trans h1 h2) (show ¬ 1 ≤ 0 by decide)
  · exact absurd (Nat.le_trans h1 h2) (show ¬ 1 ≤ 0 by decide)
  · exact absurd (Nat.le_trans h1 h2) (show ¬ 1 ≤ 0 by decide)
  · exact absurd (Nat.le_trans h1 h2) (show ¬ 1 ≤ 0 by decide)
  · exact absurd (Nat.le_trans h1 h2) (show ¬ 1 ≤ 0 by decide)
  · show (if i = 0 then rp W else Heap.empty) = Heap.empty
    rw [if_neg (by omega)]
  · show (if b = 0 then rp W else Heap.empty) x = none
    replace hx : (if a = 0 then rp W else Heap.empty) x ≠ none := hx
    by_cases e : a = 0
    · rw [if_neg (by omega)]; rfl
    · rw [if_neg e] at hx; exact absurd rfl hx
  · replace hx : (if a = 0 then rp W else Heap.empty) x ≠ none := hx
    by_cases e : a = 0
    · rw [if_pos e] at hx
      refine ⟨rfl, rfl, id, ?_⟩
      cases h : rp W x with
      | none => exact absurd h hx
      | some o => exact (Array.getElem?_eq_some_iff.1 h).1
    · rw [if_neg e] at hx; exact absurd rfl hx
  · show (if i = 0 then rp W else Heap.empty).le (rp W)
    split
    · exact .refl _
    · intro b o h; cases h
  · have no : ∀ {i : Nat} {a : Touch}, touchAt #[] i = some a → False := fun {i a} h => by simp [touchAt, Trace.act?] at h
    refine ⟨fun said ⟨i, j, _, ⟨a, b, ha, _⟩, _⟩ => no ha, fun op h => by simp [startCf] at h, fun op h => by simp [startCf] at h, fun g i a b ha => (no ha).elim, fun g i a b _ ha => (no ha).elim, fun i a b ha => (no ha).elim, fun g i a b _ ha => (no ha).elim, fun i a b ha => (no ha).elim, fun i a b ha => (no ha).elim, fun i a ha => (no ha).elim, fun i g h => by simp [startCf, Trace.g?] at h⟩
theorem good_start {g : Goroutine} {W : World} (hmi : MIp P Post W0 g ⟨rp W, .solo⟩) (he : Env W0 W) :
    ∃ n last o w' t', runNT P (n + 1) (solo g W) #[] = (.ended o w', t') ∧ runN P n (solo g W) = .next last ∧ step P last = .ended o w' ∧ Conc.Good P Post last o w' t' :=
  company_ends hmi (startCf g W) (start_inv hmi he)
end
end Go.X
namespace Go.X
open Go Go.Sx Go.Conc Go.ConcN
theorem frOk_enter {n : Nat} {fn : Func} {vs : List Value} {F : Slots} (hn : fn.ntmps = n) (hF : Params 0 vs F) (hl : Nat.ble vs.length n = true) :
    FrOk ⟨n, []⟩ { tmps := vs.toArray ++ Array.replicate (fn.ntmps - vs.toArray.size) undef, defers := [] } F := by
  have hl' : vs.length ≤ n := by simpa using hl
  refine ⟨by simp [hn]; omega, rfl, ?_⟩
  have key : ∀ i vs F, Params i vs F → ∀ t v, fget F t = some v → i ≤ t ∧ vs[t - i]? = some v := by
    intro i vs F hp
    induction hp with
    | nil => intro t v h; simp [fget] at h
    | @cons i v vs F _ ih =>
      intro t u h
      rw [fget_cons] at h
      by_cases e : i = t
      · subst e; simp at h; subst h; simp
      · simp only [e, if_false] at h
        have h1 := ih t u h
        refine ⟨by omega, ?_⟩
        have h2 : t - i = (t - (i + 1)) + 1 := by omega
        rw [h2]; simpa using h1.2
  intro t v ht
  have h1 := key 0 vs F hF t v ht
  have h2 : vs[t]? = some v := by simpa using h1.2
  have h3 : t < vs.length := (List.getElem?_eq_some_iff.1 h2).1
  rw [Array.getElem?_append]
  have h4 : vs[t] = v := by rw [List.getElem?_eq_getElem h3] at h2; exact Option.some.inj h2
  simp [h3, h4]
def CtR (P : Program) (f : FuncId) (vs : Array Value) (W0 : GW) (H : Heap) (A : List HProp) (Post : Value → Heap → List HProp → Prop) : Prop :=
  ∀ (w : GW) R, StG W0 H w (A ++ R) → w.s = .solo → P.inits.idxOf? f = none → ∀ Wr : BW, Sm Wr w → (∀ r H' B, H.le H' → Post r H' B → ∀ w1, Env Wr.toWorld w1 → H'.le (rp w1) → Wr.post r w1) →
    MIp P Wr.post Wr.toWorld (G (Frame.enter P f vs .normal) []) (xw w)
theorem CtR.go {P : Program} {n : Nat} {W0 : GW} {H : Heap} {f : FuncId} {fn : Func} {c : Code} {vs : List Value} {A : List HProp} {Post : Value → Heap → List HProp → Prop} [hb : TBody P f fn c n]
    (h : ∀ R, Ex P ⟨n, []⟩ W0 (bodyPostV P fn (RetOk W0 H Post R)) (parF 0 vs) H (A ++ R) c []) (hl : Nat.ble vs.length n = true := by rfl) : CtR P f vs.toArray W0 H A Post := by
  intro w R hS hs hi Wr hsm hp
  refine mi_root hb.get hb.body hi (wpX_mono ((h R).run _ w (frOk_enter hb.ntmps (parF_params 0 vs) hl) hS Wr hsm) ?_)
  rintro e a x ⟨w', hr, he, hd, v, hrd, r, H', B, er, hle, hpo, hS'⟩
  cases er
  refine ⟨he, hd, ?_, fun w1 hen hl1 => ?_⟩
  · rw [← hr.s, hS'.sh, ← hS.sh]; exact hs
  · have e2 := hr.eq
    subst e2
    obtain ⟨k1, k2⟩ := hrd Wr hr.sm w1 hen hl1
    exact ⟨v, k1, k2, hp v H' B hle hpo w1 hen (hS'.ro.trans hl1)⟩
def startG (W : World) (post : Value → World → Prop) : GW := { W with output := #[], post := post, s := .solo }
theorem hp_start (W : World) (post : Value → World → Prop) : hp (startG W post).toWorld = rp W := by
  funext b
  simp [hp, hid, startG, rp]
theorem good_law {P : Program} {f : FuncId} {vs : Array Value} {Post : Value → Heap → List HProp → Prop} {W : World} {post : Value → World → Prop} (h : CtR P f vs (startG W post) (rp W) [] Post) (hi : P.inits.idxOf? f = none)
    (hp : ∀ r H' B, (rp W).le H' → Post r H' B → ∀ w1, Env W w1 → H'.le (rp w1) → post r w1) :
    ∃ n last o w' t', runNT P (n + 1) (Conc.solo (G (Frame.enter P f vs .normal) []) W) #[] = (.ended o w', t') ∧ runN P n (Conc.solo (G (Frame.enter P f vs .normal) []) W) = .next last ∧ step P last = .ended o w' ∧ Conc.Good P post last o w' t' := by
  have hst : StG (startG W post) (rp W) (startG W post) ([] ++ []) := by
    refine ⟨⟨⟨rfl, rfl, rfl, fun p hp => by simp [startG] at hp⟩, ?_, Heap.empty, trivial, fun b o h => (by cases h), fun b => .inr rfl⟩, rfl, rfl, fun b => .inr rfl⟩
    rw [hp_start]; exact .refl _
  have := h (startG W post) [] hst rfl hi ⟨W, post⟩ ⟨rfl, rfl, rfl⟩ (fun r H' B h1 h2 w1 h3 h4 => hp r H' B h1 h2 w1 h3 h4)
  unfold xw at this
  rw [hp_start] at this
  exact good_start (W0 := W) (Post := post) this ⟨rfl, rfl, rfl⟩
end Go.X
namespace Go.Proofs.Ytjkiioicjmaeoaa
open Go Go.Sx Go.X Go.Proofs
theorem tot_le {ls : List (List Entry)} (h : ∀ l ∈ ls, l.length ≤ 60) : tot ls ≤ ls.length * 60 := by
  induction ls with
  | nil => simp [tot]
  | cons a t ih =>
    have h1 := ih fun l hl => h l (List.mem_cons_of_mem _ hl)
    have h2 := h a (List.mem_cons_self ..)
    simp only [tot, List.map_cons, List.sum_cons, List.length_cons] at h1 ⊢
    omega
theorem cutL_len {ls : List (List Entry)} : (cutL ls).length ≤ 8 := by simp only [cutL, List.length_map, List.length_take]; omega
theorem cutL_el {ls : List (List Entry)} : ∀ l ∈ cutL ls, l.length ≤ 60 := fun l hl => by
  obtain ⟨x, _, rfl⟩ := List.mem_map.1 hl
  simp only [List.length_take]; omega
theorem cutL_tot {ls : List (List Entry)} : tot (cutL ls) * 48 ≤ cap47 := by
  have h1 := tot_le (cutL_el (ls := ls))
  have h2 := cutL_len (ls := ls)
  unfold cap47; omega
theorem cutL_few {ls : List (List Entry)} : (cutL ls).length + 2 < 2147483648 := by
  have h2 := cutL_len (ls := ls)
  omega
end Go.Proofs.Ytjkiioicjmaeoaa
