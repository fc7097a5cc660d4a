/- A company: a receive of the starter's. No program in sight. -/
import Derived.Test.YtjkiioicjmaeoaaQXN
import Derived.Conc.Token
set_option linter.unusedVariables false
set_option linter.unusedSimpArgs false
namespace Go.X
open Go Go.Sx Go.Conc Go.ConcN
open Go.ConcR (KK wgBlock WgAt stA smA rd wr mk Payload Bk)
section
variable {P : Program} {Post : Value → World → Prop} {W0 : World}
def unpark : Ph → Ph
  | .A true => .A false
  | p => p
theorem spc_clos {f : Cf} {a g' : Goroutine} {m : Heap} {c : Co} {j0 : Nat} (h1 : Inv1 P Post W0 f a ⟨m, .co c⟩) (h2 : Inv2 P f ⟨m, .co c⟩ c j0) (hmb : f.mb = .run) {r : Goroutine} (hr : f.gs[0]? = some r) (hl : Like P a r) (hst : c.st = .run) (hwn : c.wn = false) (hmw : mayWake P a = true) {s rr : Nat} (hch : f.w.heap[c.ech]? = some (.chan 0 #[] false s rr false))
    (hg' : MIp P Post W0 g' ⟨m, .co { c with shut := true }⟩) :
    Inv P Post W0 (mainNext P f r g' (f.w.setChan c.ech 0 #[] true s rr false) #[⟨.obj c.ech, false, true⟩, ⟨.obj c.ech, true, true⟩] (fun j => if 1 ≤ j ∧ j ≤ f.k then unpark (f.ph j) else f.ph j) m) g' ⟨m, .co { c with shut := true }⟩ := by
  obtain ⟨s0, sm0, hw, hm⟩ := h2.mode
  rw [hmb, hst] at hm
  have hrun := mi_running hg'
  have hne : ∀ b, b ≠ c.ech → (f.w.setChan c.ech 0 #[] true s rr false).heap[b]? = f.w.heap[b]? := fun b hb => heap_setChan_ne _ _ _ _ _ _ _ (Ne.symm hb)
  have hself : (f.w.setChan c.ech 0 #[] true s rr false).heap[c.ech]? = some (.chan 0 #[] true s rr false) := heap_setChan_self _ hch _ _ _ _ _ _
  refine main_spc (c' := { c with shut := true }) h1 h2 hr hl hg' (fun j hj hjk => ?_) (fun j hj => if_neg (by omega)) ⟨h1.env.os, h1.env.tape, h1.env.out⟩ (fun b _ hb => hne b hb) (by simp [World.setChan]) (fun e he => ?_) (by simp [deafOf, deafBehind, hst]) ⟨rfl, rfl, rfl, rfl, rfl, rfl, rfl, fun _ => rfl⟩ ⟨_, _, hself⟩ ⟨s0, sm0, (hne _ h2.wg.2).trans hw, by show ConcN.Mode f.k f.D (tagOf false c.st) s0 sm0; rw [hst]; exact hm⟩
    (fun n hn => by rw [show _ = c.st from rfl, hst] at hn; cases hn) ?_ ?_ (fun i a b hp => ?_) (fun hh => ?_)
  · simp only [hj, hjk, and_self, if_true]
    cases hp : f.ph j with
    | A pk =>
      cases pk with
      | false => exact .inl ⟨rfl, fun _ _ hh _ => by cases hh⟩
      | true =>
        refine .inr ⟨rfl, rfl, fun a' cs hg => ?_⟩
        obtain ⟨rj, hrj, hc⟩ := h1.ra j true hj hjk hp
        rcases hc with ⟨hf, _⟩ | ⟨_, q, v, vs, z1, z2, q1, q2, q3, q4, q5, q6, e, q7⟩
        · cases hf
        rw [hg] at hrj; cases hrj
        have hj0 : j0 < j := Nat.lt_of_not_le fun hle => by have := h2.old j hj hle; rw [hp] at this; exact this.elim
        have hi : j0 + 1 + (j - j0 - 1) = j := by omega
        have hlen : j - j0 - 1 < c.snd.length := by have := h2.k; omega
        obtain ⟨q', p1, p2, p3, _⟩ := h2.cha (j - j0 - 1) c.snd[j - j0 - 1] true (List.getElem?_eq_getElem hlen) (by rw [hi]; exact hp)
        rw [hi, q1] at p1
        cases p1
        rw [e]
        unfold Go.Conc.woken
        rw [if_pos (by rw [hl.wake, hmw, hrun]; rfl)]
        exact again_two_closed (s' := s) (r' := rr) (tm' := false) (by rw [p3]; exact hself)
    | B _ _ _ => exact .inl ⟨rfl, fun _ _ hh _ => by cases hh⟩
    | Q _ => exact .inl ⟨rfl, fun _ _ hh _ => by cases hh⟩
  · simp only [List.mem_toArray, List.mem_cons, List.not_mem_nil, or_false] at he
    rcases he with rfl | rfl
    · exact .inr (.inl ⟨_, rfl⟩)
    · exact .inr (.inl ⟨_, rfl⟩)
  · show shutAt true c.st
    rw [hst]; trivial
  · show openAt true c.wn c.st
    rw [hst]; trivial
  · exfalso
    simp only [a, b, and_self, if_true] at hp
    cases hh : f.ph i with
    | A pk => rw [hh] at hp; cases pk <;> cases hp
    | B _ _ _ => rw [hh] at hp; cases hp
    | Q _ => rw [hh] at hp; cases hp
  · rw [show _ = c.st from rfl, hst] at hh; cases hh
theorem main_wait1 {f : Cf} {a : Goroutine} {x : XW Gh} (h : Inv1 P Post W0 f a x) {r' : Goroutine} {mb' : MB} (hm : MRec P W0 a x mb' r') (fn : FuncId) (pos : String) :
    Inv1 P Post W0 { f with gs := f.gs.setIfInBounds 0 r', t := f.t ++ MemOp.ofEvents 0 fn pos #[], mb := mb' } a x := by
  have e : f.t ++ MemOp.ofEvents 0 fn pos #[] = f.t := by rw [ofEvents_eq]; simp
  have h0 : 0 < f.gs.size := by rw [h.size]; omega
  rw [e]
  refine ⟨by simp [h.size], h.env, ⟨r', by simp [h0], hm⟩, fun i pk h1 h2 hp => ?_, fun i q h1 h2 hp => ?_, h.mi, h.d0, h.da, h.ok, h.oM0, h.oMa, h.oMn, h.lv, h.cp, h.apart, h.mem, h.mbase, h.mwin, h.tok⟩
  · obtain ⟨ri, hri, hc⟩ := h.ra i pk h1 h2 hp
    exact ⟨ri, by show (f.gs.setIfInBounds 0 r')[i]? = _; rw [Array.getElem?_setIfInBounds_ne (by omega)]; exact hri, hc⟩
  · obtain ⟨ri, hri, hc⟩ := h.rq i q h1 h2 hp
    exact ⟨ri, by show (f.gs.setIfInBounds 0 r')[i]? = _; rw [Array.getElem?_setIfInBounds_ne (by omega)]; exact hri, hc⟩
theorem main_wait2 {f : Cf} {x : XW Gh} {c : Co} {j0 : Nat} (h : Inv2 P f x c j0) {r' : Goroutine} {mb' : MB} (fn : FuncId) (pos : String)
    (hmode : ∃ st sm, WgAt c.ty c.wg f.w st sm ∧ ConcN.Mode f.k f.D (tagOf (match mb' with | .blk => true | _ => false) c.st) st sm) (hpark : ∀ i, mb' = .park i → ∃ q, f.ph (j0 + 1 + i) = .A false ∧ (f.F (j0 + 1 + i)).2.s = .snd q ∧ q.closed = false ∧ i < c.snd.length) :
    Inv2 P { f with gs := f.gs.setIfInBounds 0 r', t := f.t ++ MemOp.ofEvents 0 fn pos #[], mb := mb' } x c j0 := by
  have e : f.t ++ MemOp.ofEvents 0 fn pos #[] = f.t := by rw [ofEvents_eq]; simp
  rw [e]
  refine ⟨h.k, h.old, h.base, h.win, h.wi, h.wn, h.ech, h.wg, hmode, hpark, h.bnd, h.shut, h.open_, h.ch, h.pk, h.cha, h.chb, fun i s g d hp hj hi => ?_, h.b7, h.rel, h.nor, h.acq, h.few, h.ac⟩
  obtain ⟨b1, r, b2, b3⟩ := h.b i s g d hp hj hi
  exact ⟨b1, r, by show (f.gs.setIfInBounds 0 r')[i]? = _; rw [Array.getElem?_setIfInBounds_ne (by omega)]; exact b2, b3⟩
end
end Go.X
namespace Go.X
open Go Go.Sx Go.Conc Go.ConcN
open Go.ConcR (KK wgBlock WgAt stA smA rd wr mk Payload Bk)
section
variable {P : Program} {Post : Value → World → Prop} {W0 : World}
theorem not_blocked {g : Goroutine} (h : g.status = .running ∨ g.status = .finished) : g.status ≠ .blocked := by rcases h with h | h <;> rw [h] <;> simp
theorem offers_snd {f : Cf} {a : Goroutine} {x : XW Gh} {c : Co} {j0 : Nat} (h1 : Inv1 P Post W0 f a x) (h2 : Inv2 P f x c j0) {j : Nat} (hj : 1 ≤ j) (hk : j ≤ f.k) {g : Goroutine} (hg : f.gs[j]? = some g) :
    (∀ ch, (∀ (i : Nat) (s : Snd), c.snd[i]? = some s → j = j0 + 1 + i → f.ph j = .A true → s.ch ≠ ch) → offersAt g ch true = []) ∧ (∀ ch, ch ≠ c.ech → offersAt g ch false = []) := by
  cases hp : f.ph j with
  | A pk =>
    obtain ⟨r, hr, hc⟩ := h1.ra j pk hj hk hp
    rw [hg] at hr; cases hr
    rcases hc with ⟨_, hl⟩ | ⟨rfl, q, v, vs, z1, z2, q1, q2, q3, q4, q5, q6, rfl, q7⟩
    · exact ⟨fun _ _ => offersAt_of_not_blocked (not_blocked (.inl hl.run)) _ _, fun _ _ => offersAt_of_not_blocked (not_blocked (.inl hl.run)) _ _⟩
    · have hj0 : j0 < j := Nat.lt_of_not_le fun hle => by have := h2.old j hj hle; rw [hp] at this; exact this.elim
      have hi : j0 + 1 + (j - j0 - 1) = j := by omega
      have hlen : j - j0 - 1 < c.snd.length := by have := h2.k; omega
      obtain ⟨q', p1, p2, p3, p4, p5, p6, _⟩ := h2.cha (j - j0 - 1) c.snd[j - j0 - 1] true (List.getElem?_eq_getElem hlen) (by rw [hi]; exact hp)
      rw [hi, q1] at p1
      cases p1
      refine ⟨fun ch hch => ?_, fun ch hch => ?_⟩
      · rw [offers_two_send, if_neg]
        rw [p6]
        exact hch _ _ (List.getElem?_eq_getElem hlen) hi.symm rfl
      · rw [offers_two_recv, if_neg]
        rw [p3]; exact Ne.symm hch
  | Q q =>
    obtain ⟨r, hr, hq⟩ := h1.rq j q hj hk hp
    rw [hg] at hr; cases hr
    exact ⟨fun _ _ => offersAt_of_not_blocked (not_blocked hq.status) _ _, fun _ _ => offersAt_of_not_blocked (not_blocked hq.status) _ _⟩
  | B s b d =>
    have hj0 : j0 < j := Nat.lt_of_not_le fun hle => by have := h2.old j hj hle; rw [hp] at this; exact this.elim
    obtain ⟨_, r, hr, hb⟩ := h2.b j s b d hp hj0 hk
    rw [hg] at hr; cases hr
    exact ⟨fun _ _ => offersAt_of_not_blocked (not_blocked hb.status) _ _, fun _ _ => offersAt_of_not_blocked (not_blocked hb.status) _ _⟩
theorem size_lt {f : Cf} {a : Goroutine} {x : XW Gh} (h1 : Inv1 P Post W0 f a x) {j : Nat} {g : Goroutine} (hg : f.gs[j]? = some g) : j ≤ f.k := by
  have := (Array.getElem?_eq_some_iff.1 hg).1
  have := h1.size
  omega
theorem senders_none {f : Cf} {a : Goroutine} {x : XW Gh} {c : Co} {j0 : Nat} (h1 : Inv1 P Post W0 f a x) (h2 : Inv2 P f x c j0) {ch : Nat} (hch : ∀ (i : Nat) (s : Snd), c.snd[i]? = some s → f.ph (j0 + 1 + i) = .A true → s.ch ≠ ch) : partners (f.gs.setIfInBounds 0 ph) ch true = [] :=
  partners_nil fun j g hg => by
    rcases getElem?_stand _ _ _ _ hg with ⟨_, rfl⟩ | ⟨hne, hg'⟩
    · exact offersAt_ph _ _
    · exact (offers_snd h1 h2 (by omega) (size_lt h1 hg') hg').1 ch fun i s hs e hp => hch i s hs (e ▸ hp)
theorem recv_wait {f : Cf} {a : Goroutine} {m : Heap} {c : Co} {i : Nat} {s : Snd} {z : Value} (h : Inv P Post W0 f a ⟨m, .co c⟩) (hmb : f.mb = .run) {r : Goroutine} (hr : f.gs[0]? = some r) (hl : Like P a r)
    (hst : c.st = .run) (hsh : c.shut = false) (hs : c.snd[i]? = some s) (hwn : c.wn = true → i + 1 = c.snd.length) (hrun : a.status = .running)
    (hcm : ∀ w, Env W0 w → m.le (rp w) → stepG P true a w = .comm a #[rcase s.ch z] true (.recv true) w #[])
    (hph : ∀ j0, Inv2 P f ⟨m, .co c⟩ c j0 → ∃ q, f.ph (j0 + 1 + i) = .A false ∧ (f.F (j0 + 1 + i)).2.s = .snd q ∧ q.closed = false) :
    ∃ f', runT P (crowd f.gs f.w f.sl) 0 = (.next (crowd f'.gs f'.w f'.sl), MemOp.ofEvents 0 r.frame.fn r.frame.place #[]) ∧ f'.t = f.t ++ MemOp.ofEvents 0 r.frame.fn r.frame.place #[] ∧ Inv P Post W0 f' a ⟨m, .co c⟩ ∧ f'.k = f.k ∧ f'.F = f.F ∧ f'.S = f.S ∧ f'.N < f.N := by
  obtain ⟨h1, j0, h2⟩ := h
  obtain ⟨q, p1, p2, p3⟩ := hph j0 h2
  have hlen : i < c.snd.length := (List.getElem?_eq_some_iff.1 hs).1
  obtain ⟨q', b1, b2, b3, b4, b5, b6, b7, b8, b9, b10, ⟨n, b11⟩, b12⟩ := h2.cha i s false hs p1
  rw [p2] at b1; cases b1
  rw [p3] at b11
  have hm0 : m.le (rp f.w) := by have := h1.mem 0; rwa [h1.oM0] at this
  have hstep : stepG P (0 == 0) r f.w = .comm a #[rcase s.ch z] true (.recv true) f.w #[] := by rw [show ((0 : Nat) == 0) = true from rfl, hl.step]; exact hcm _ h1.env hm0
  have hno : NoWays f.w (f.gs.setIfInBounds 0 ph) (rcase s.ch z) := ways_recv_none b11 (senders_none h1 h2 fun i' s' hs' hp' e => by
    have := (h2.ch i s hs).2.2.2 i' s' hs' e
    subst this
    rw [p1] at hp'; cases hp')
  have hrunT := crowd_waits (sl := f.sl) hr hstep (fun cc hcc => by simp at hcc; subst hcc; exact hno)
  have hmrec : MRec P W0 a ⟨m, .co c⟩ (.park i) (parked a #[rcase s.ch z] (.recv true)) := .park rfl hst hsh hs hwn hcm hrun
  obtain ⟨s0, sm0, hw, hm⟩ := h2.mode
  refine ⟨{ f with gs := f.gs.setIfInBounds 0 (parked a #[rcase s.ch z] (.recv true)), t := f.t ++ MemOp.ofEvents 0 r.frame.fn r.frame.place #[], mb := .park i }, hrunT, rfl, ⟨main_wait1 h1 hmrec r.frame.fn r.frame.place, j0, main_wait2 h2 r.frame.fn r.frame.place ⟨s0, sm0, hw, by rw [hmb] at hm; exact hm⟩ fun i' hi' => ?_⟩, rfl, rfl, rfl, ?_⟩
  · cases hi'
    exact ⟨q, p1, p2, p3, hlen⟩
  · show sumTo f.k (fun i => (f.ph (i + 1)).fl) + 0 < sumTo f.k (fun i => (f.ph (i + 1)).fl) + f.mb.n
    rw [hmb]; exact Nat.lt_succ_self _
theorem sem_wait {f : Cf} {a : Goroutine} {m : Heap} {c : Co} (h : Inv P Post W0 f a ⟨m, .co c⟩) (hmb : f.mb = .run) {r : Goroutine} (hr : f.gs[0]? = some r) (hl : Like P a r) (hst : c.st = .reg) (hrun : a.status = .running) (hoff : a.offers = none)
    (hgo : stepG P true a f.w = .go { a with status := .blocked } f.w #[]) (hsm : ∃ st, WgAt c.ty c.wg f.w st 0) :
    ∃ f', runT P (crowd f.gs f.w f.sl) 0 = (.next (crowd f'.gs f'.w f'.sl), MemOp.ofEvents 0 r.frame.fn r.frame.place #[]) ∧ f'.t = f.t ++ MemOp.ofEvents 0 r.frame.fn r.frame.place #[] ∧ Inv P Post W0 f' a ⟨m, .co c⟩ ∧ f'.k = f.k ∧ f'.F = f.F ∧ f'.S = f.S ∧ f'.N < f.N := by
  obtain ⟨h1, j0, h2⟩ := h
  obtain ⟨s0, sm0, hw, hm⟩ := h2.mode
  obtain ⟨st, hw'⟩ := hsm
  obtain ⟨rfl, rfl⟩ := hw.unique hw'
  have hstep : stepG P (0 == 0) r f.w = .go { a with status := .blocked } f.w #[] := by rw [show ((0 : Nat) == 0) = true from rfl, hl.step]; exact hgo
  have hrunT := runT_crowd_go (P := P) (sl := f.sl) hr hstep
  have hid : (f.gs.map (woken P r { a with status := .blocked } f.w)) = f.gs := by
    have : woken P r { a with status := .blocked } f.w = id := by
      funext o
      unfold Go.Conc.woken
      rw [if_neg (by simp)]; rfl
    rw [this, Array.map_id]
  rw [hid] at hrunT
  have hmrec : MRec P W0 a ⟨m, .co c⟩ .blk { a with status := .blocked } := .blk rfl hst hrun hoff
  refine ⟨{ f with gs := f.gs.setIfInBounds 0 { a with status := .blocked }, t := f.t ++ MemOp.ofEvents 0 r.frame.fn r.frame.place #[], mb := .blk }, hrunT, rfl, ⟨main_wait1 h1 hmrec r.frame.fn r.frame.place, j0, main_wait2 h2 r.frame.fn r.frame.place ⟨_, 0, hw, ?_⟩ fun i' hi' => by cases hi'⟩, rfl, rfl, rfl, ?_⟩
  · rw [hmb, hst] at hm
    rw [hst]
    generalize hz : (0 : Int) = zz at hm
    cases hm with
    | opn h _ _ => exact h.elim
    | reg _ k2 k3 => exact .reg trivial k2 k3
    | last L _ k2 k3 k4 => exact .last L trivial k2 k3 k4
    | sema _ => cases hz
    | fin h _ => exact h.elim
  · show sumTo f.k (fun i => (f.ph (i + 1)).fl) + 0 < sumTo f.k (fun i => (f.ph (i + 1)).fl) + f.mb.n
    rw [hmb]; exact Nat.lt_succ_self _
end
end Go.X
