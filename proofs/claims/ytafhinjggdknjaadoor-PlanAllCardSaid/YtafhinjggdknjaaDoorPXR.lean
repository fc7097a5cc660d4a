/- A company: who offers what; waiting. No program in sight. -/
import Derived.Test.YtafhinjggdknjaaDoorPXE
import Derived.Test.YtafhinjggdknjaaDoorPXN
import Derived.Conc.Token
set_option linter.unusedVariables false
set_option linter.unusedSimpArgs false
namespace Go.X
open Go Go.Conc
theorem run_select {β : Type} {P : Program} {n : Nat} (hn : 0 < n) (k : Nat → Sem β) (w : World) : ∃ a d, a < n ∧ (Sem.choose (.select n) k).run P w = (k a).run P (w.at d) := by
  simp only [Sem.run]
  by_cases h : (Question.select n).forced = true
  · rw [if_pos h]; exact ⟨0, w.drawn, hn, rfl⟩
  · rw [if_neg h]; exact ⟨_, w.drawn + 1, Nat.mod_lt _ hn, rfl⟩
theorem run_extern {β : Type} {P : Program} {n : Nat} {s : String} (hn : 0 < n) (k : Nat → Sem β) (w : World) : ∃ a d, a < n ∧ (Sem.choose (.extern s n) k).run P w = (k a).run P (w.at d) := by
  simp only [Sem.run]
  by_cases h : (Question.extern s n).forced = true
  · rw [if_pos h]; exact ⟨0, w.drawn, hn, rfl⟩
  · rw [if_neg h]
    refine ⟨(Question.extern s n).cut (w.tape w.drawn (.extern s n)), w.drawn + 1, ?_, rfl⟩
    simp only [Question.cut]
    rw [if_neg (by omega)]; exact Nat.mod_lt _ hn
section
variable {P : Program} {gs : Array Goroutine} {w w₁ : World} {sl : Option (Nat × Nat)} {i : Nat} {g g₂ : Goroutine} {es : Array Event} {cases : Array CommCase} {shape : CommShape}
theorem comm_goes (hi : gs[i]? = some g) (h : stepG P (i == 0) g w = .comm g₂ cases true shape w₁ es) (hmade : ∀ x ∈ cases, illMade w₁ x = false) (hne : ∃ cc ∈ cases, ways w₁ (gs.setIfInBounds i ph) cc ≠ []) :
    ∃ (k : Nat) (cc : CommCase) (way : Way) (d : Nat), cases[k]? = some cc ∧ way ∈ ways w₁ (gs.setIfInBounds i ph) cc ∧
      (∀ {c cap s r j m : Nat} {buf : Array Value} {closed tm : Bool} {v : Value}, way = .partner j m → cc.chan = .chan (some c) → w₁.heap[c]? = some (.chan cap buf closed s r tm) → cc.send = some v →
        runT P (crowd gs w sl) i = (.next (crowd ((finishPartner P (gs.setIfInBounds i ph) j m v).setIfInBounds i (g₂.finishComm P cases shape k undef false)) ((w₁.at d).setChan c cap buf closed (s + 1) (r + 1) tm) sl),
          MemOp.ofEvents i g.frame.fn g.frame.place es ++ #[{ g := i, fn := g₂.frame.fn, pos := g₂.frame.place, act := .send c s }, { g := j, fn := ((gs.setIfInBounds i ph).getD j default).frame.fn, pos := ((gs.setIfInBounds i ph).getD j default).frame.place, act := .recv c r cap },
            { g := i, fn := g₂.frame.fn, pos := g₂.frame.place, act := .sendDone c s }, { g := j, fn := ((gs.setIfInBounds i ph).getD j default).frame.fn, pos := ((gs.setIfInBounds i ph).getD j default).frame.place, act := .recvDone c r }])) ∧
      (∀ {c cap s r j m : Nat} {buf : Array Value} {closed tm : Bool}, way = .partner j m → cc.chan = .chan (some c) → w₁.heap[c]? = some (.chan cap buf closed s r tm) → cc.send = none →
        runT P (crowd gs w sl) i = (.next (crowd ((finishPartner P (gs.setIfInBounds i ph) j m undef).setIfInBounds i (g₂.finishComm P cases shape k (offeredValue (gs.setIfInBounds i ph) j m) true)) ((w₁.at d).setChan c cap buf closed (s + 1) (r + 1) tm) sl),
          MemOp.ofEvents i g.frame.fn g.frame.place es ++ #[{ g := j, fn := ((gs.setIfInBounds i ph).getD j default).frame.fn, pos := ((gs.setIfInBounds i ph).getD j default).frame.place, act := .send c s }, { g := i, fn := g₂.frame.fn, pos := g₂.frame.place, act := .recv c r cap },
            { g := j, fn := ((gs.setIfInBounds i ph).getD j default).frame.fn, pos := ((gs.setIfInBounds i ph).getD j default).frame.place, act := .sendDone c s }, { g := i, fn := g₂.frame.fn, pos := g₂.frame.place, act := .recvDone c r }])) ∧
      (∀ {c : Nat}, way = .closed → cc.chan = .chan (some c) →
        runT P (crowd gs w sl) i = (.next (crowd (gs.setIfInBounds i (g₂.finishComm P cases shape k cc.zero false)) (w₁.at d) sl), MemOp.ofEvents i g.frame.fn g.frame.place es ++ #[{ g := i, fn := g₂.frame.fn, pos := g₂.frame.place, act := .recvClosed c }])) := by
  have hill : (cases.any fun c => illMade w₁ c) = false := any_ill hmade
  have hR : ∃ R : List (Nat × CommCase × List Way), R = ((cases.zipIdx.toList.map fun (c, k) => (k, c, ways w₁ (gs.setIfInBounds i ph) c)).filter fun (_, _, ws) => !ws.isEmpty) := ⟨_, rfl⟩
  obtain ⟨R, hR⟩ := hR
  have hmem : ∀ k c ws, (k, c, ws) ∈ R → cases[k]? = some c ∧ ws = ways w₁ (gs.setIfInBounds i ph) c ∧ ws ≠ [] := by
    intro k c ws hm
    rw [hR, List.mem_filter] at hm
    obtain ⟨hm, hw⟩ := hm
    simp only [List.mem_map, Prod.mk.injEq, Prod.exists] at hm
    obtain ⟨c', k', hm', rfl, rfl, rfl⟩ := hm
    exact ⟨mem_of_zipIdx hm', rfl, by simpa using hw⟩
  have hne' : R ≠ [] := by
    obtain ⟨cc, hcc, hw⟩ := hne
    obtain ⟨k, hk, rfl⟩ := Array.mem_iff_getElem.1 hcc
    intro e
    have : (k, cases[k], ways w₁ (gs.setIfInBounds i ph) cases[k]) ∈ R := by
      rw [hR, List.mem_filter]
      refine ⟨List.mem_map.2 ⟨(cases[k], k), ?_, rfl⟩, by simpa using hw⟩
      rw [Array.mem_toList_iff]
      exact Array.mem_zipIdx_iff_getElem?.2 (by simp [hk])
    rw [e] at this; cases this
  have hlen : 0 < R.length := List.length_pos_iff.2 hne'
  have hemp : R.isEmpty = false := by cases R with | nil => exact absurd rfl hne' | cons _ _ => rfl
  obtain ⟨a, d1, ha, hrun1⟩ := run_select (P := P) hlen (fun a => (Sem.choose (.extern "which waiting goroutine is the partner" (R.getD a (0, default, [])).2.2.length) fun b => .pure ((R.getD a (0, default, [])).1, (R.getD a (0, default, [])).2.1, (R.getD a (0, default, [])).2.2.getD b .closed) : Sem (Nat × CommCase × Way))) w₁
  obtain ⟨k, c0, ws, hRa⟩ : ∃ k c0 ws, R[a] = (k, c0, ws) := ⟨_, _, _, rfl⟩
  have hRg : R.getD a (0, default, []) = (k, c0, ws) := by rw [List.getD_eq_getElem?_getD, List.getElem?_eq_getElem ha, hRa]; rfl
  obtain ⟨hk, hws, hwne⟩ := hmem k c0 ws (by rw [← hRa]; exact List.getElem_mem ha)
  rw [hRg] at hrun1
  obtain ⟨b, d, hb, hrun2⟩ := run_extern (P := P) (s := "which waiting goroutine is the partner") (List.length_pos_iff.2 hwne) (fun b => (.pure (k, c0, ws.getD b .closed) : Sem (Nat × CommCase × Way))) (w₁.at d1)
  have hpick := hrun1.trans hrun2
  rw [show ∀ x : Nat × CommCase × Way, (Sem.pure x).run P ((w₁.at d1).at d) = .ok x (w₁.at d) from fun _ => rfl] at hpick
  have hway : ws.getD b .closed ∈ ws := by rw [List.getD_eq_getElem?_getD, List.getElem?_eq_getElem hb]; exact List.getElem_mem hb
  have hbind : ∀ {β : Type} (n : Nat) (f : Nat → Sem β), (choose (.select n) >>= f) = Sem.choose (.select n) f := fun n f => rfl
  have hbind2 : ∀ {β : Type} (s : String) (n : Nat) (f : Nat → Sem β), (choose (.extern s n) >>= f) = Sem.choose (.extern s n) f := fun s n f => rfl
  refine ⟨k, c0, ws.getD b .closed, d, hk, by rw [← hws]; exact hway, ?_, ?_, ?_⟩
  · intro c cap s r j m buf closed tm v e1 e2 e3 e4
    rw [runT_crowd_comm hi h]
    unfold communicate
    simp only [← hR, hemp]
    rw [if_neg (by rw [Bool.not_eq_true]; exact hill)]
    simp only [Bool.false_eq_true, if_false, hbind, hbind2, pure]
    have e5 : (w₁.at d).heap[c]? = some (.chan cap buf closed s r tm) := e3
    rw [hpick]
    simp only [e1, e2, e4, e5]
    rfl
  · intro c cap s r j m buf closed tm e1 e2 e3 e4
    rw [runT_crowd_comm hi h]
    unfold communicate
    simp only [← hR, hemp]
    rw [if_neg (by rw [Bool.not_eq_true]; exact hill)]
    simp only [Bool.false_eq_true, if_false, hbind, hbind2, pure]
    have e5 : (w₁.at d).heap[c]? = some (.chan cap buf closed s r tm) := e3
    rw [hpick]
    simp only [e1, e2, e4, e5]
    rfl
  · intro c e1 e2
    rw [runT_crowd_comm hi h]
    unfold communicate
    simp only [← hR, hemp]
    rw [if_neg (by rw [Bool.not_eq_true]; exact hill)]
    simp only [Bool.false_eq_true, if_false, hbind, hbind2, pure]
    rw [hpick]
    simp only [e1, e2]
    rw [set_stand]
    rfl
end
end Go.X
namespace Go.X
open Go Go.Sx Go.Conc Go.ConcN
open Go.ConcR (KK wgBlock WgAt stA smA rd wr mk Payload Bk)
section
variable {P : Program} {Post : Value → World → Prop} {W0 : World}
def unpark : Ph → Ph
  | .A true => .A false
  | p => p
theorem spc_clos {f : Cf} {a g' : Goroutine} {m : Heap} {c : Co} {j0 : Nat} (h1 : Inv1 P Post W0 f a ⟨m, .co c⟩) (h2 : Inv2 P f ⟨m, .co c⟩ c j0) (hmb : f.mb = .run) {r : Goroutine} (hr : f.gs[0]? = some r) (hl : Like P a r) (hst : c.st = .run) (hidle : ∀ (i : Nat) (o : Option Nat), c.wk[i]? = some o → o = none) (hmw : mayWake P a = true) {s : Nat} (hch : f.w.heap[c.cy.dl]? = some (.chan 0 #[] false s s false))
    (hg' : MIp P Post W0 g' ⟨m, .co { c with shut := true }⟩) :
    Inv P Post W0 (mainNext P f r g' (f.w.setChan c.cy.dl 0 #[] true s s false) #[⟨.obj c.cy.dl, false, true⟩, ⟨.obj c.cy.dl, true, true⟩] (fun j => if 1 ≤ j ∧ j ≤ f.k then unpark (f.ph j) else f.ph j) m) g' ⟨m, .co { c with shut := true }⟩ := by
  obtain ⟨s0, sm0, hw, hm⟩ := h2.mode
  rw [hmb, hst] at hm
  have hrun := mi_running hg'
  have hne : ∀ b, b ≠ c.cy.dl → (f.w.setChan c.cy.dl 0 #[] true s s false).heap[b]? = f.w.heap[b]? := fun b hb => heap_setChan_ne _ _ _ _ _ _ _ (Ne.symm hb)
  have hself : (f.w.setChan c.cy.dl 0 #[] true s s false).heap[c.cy.dl]? = some (.chan 0 #[] true s s false) := heap_setChan_self _ hch _ _ _ _ _ _
  refine main_spc (c' := { c with shut := true }) h1 h2 hr hl hg' (fun j hj hjk => ?_) (fun j hj => if_neg (by omega)) ⟨h1.env.os, h1.env.tape, h1.env.out⟩ (fun b _ hb => hne b hb) (by simp [World.setChan]) (fun e he => ?_) (by simp [deafOf, deafBehind, hst]) ⟨rfl, rfl, fun _ => rfl⟩ ⟨_, hself⟩ ⟨s0, sm0, (hne _ h2.ne.2.1).trans hw, by show ConcN.Mode f.k f.D (tagOf false c.st) s0 sm0; rw [hst]; exact hm⟩
    (fun n hn => by rw [show _ = c.st from rfl, hst] at hn; cases hn) ?_ (fun _ => hidle) (fun i a b hp => ?_) (fun hh => ?_)
  · simp only [hj, hjk, and_self, if_true]
    cases hp : f.ph j with
    | A pk =>
      cases pk with
      | false => exact .inl ⟨rfl, fun _ _ _ hh _ => by cases hh⟩
      | true =>
        refine .inr ⟨rfl, rfl, fun a' cs sh hg => ?_⟩
        obtain ⟨i, o, rfl, ho⟩ := wk_ix h2 hj hjk (by rw [hp]; exact id)
        rcases parked_hand h1 h2 ho hp hg with ⟨_, z, e⟩ | ⟨jj, v, z, e0, _⟩
        · rw [e]
          unfold Go.Conc.woken
          rw [if_pos (by rw [hl.wake, hmw, hrun]; rfl)]
          exact again_shut (b := c.cy.dl) rfl hself
        · rw [hidle i o ho] at e0; cases e0
    | B _ _ _ => exact .inl ⟨rfl, fun _ _ _ hh _ => by cases hh⟩
    | Q _ => exact .inl ⟨rfl, fun _ _ _ hh _ => by cases hh⟩
  · simp only [List.mem_toArray, List.mem_cons, List.not_mem_nil, or_false] at he
    rcases he with rfl | rfl
    · exact .inr (.inl ⟨_, rfl⟩)
    · exact .inr (.inl ⟨_, rfl⟩)
  · show shutAt true c.st
    rw [hst]; trivial
  · exfalso
    simp only [a, b, and_self, if_true] at hp
    cases hh : f.ph i with
    | A pk => rw [hh] at hp; cases pk <;> cases hp
    | B _ _ _ => rw [hh] at hp; cases hp
    | Q _ => rw [hh] at hp; cases hp
  · rw [show _ = c.st from rfl, hst] at hh; cases hh
theorem main_wait1 {f : Cf} {a : Goroutine} {x : XW Gh} (h : Inv1 P Post W0 f a x) {r' : Goroutine} {mb' : MB} (hm : MRec P W0 a x mb' r') (fn : FuncId) (pos : String) :
    Inv1 P Post W0 { f with gs := f.gs.setIfInBounds 0 r', t := f.t ++ MemOp.ofEvents 0 fn pos #[], mb := mb' } a x := by
  have e : f.t ++ MemOp.ofEvents 0 fn pos #[] = f.t := by rw [ofEvents_eq]; simp
  have h0 : 0 < f.gs.size := by rw [h.size]; omega
  rw [e]
  refine ⟨by simp [h.size], h.env, ⟨r', by simp [h0], hm⟩, fun i pk h1 h2 hp => ?_, fun i q h1 h2 hp => ?_, h.mi, h.d0, h.da, h.ok, h.oM0, h.oMa, h.oMn, h.lv, h.cp, h.apart, h.mem, h.mbase, h.mwin, h.tok⟩
  · obtain ⟨ri, hri, hc⟩ := h.ra i pk h1 h2 hp
    exact ⟨ri, by show (f.gs.setIfInBounds 0 r')[i]? = _; rw [Array.getElem?_setIfInBounds_ne (by omega)]; exact hri, hc⟩
  · obtain ⟨ri, hri, hc⟩ := h.rq i q h1 h2 hp
    exact ⟨ri, by show (f.gs.setIfInBounds 0 r')[i]? = _; rw [Array.getElem?_setIfInBounds_ne (by omega)]; exact hri, hc⟩
theorem main_wait2 {f : Cf} {x : XW Gh} {c : Co} {j0 : Nat} (h : Inv2 P f x c j0) {r' : Goroutine} {mb' : MB} (fn : FuncId) (pos : String)
    (hmode : ∃ st sm, WgAt c.cy.ty c.cy.wg f.w st sm ∧ ConcN.Mode f.k f.D (tagOf (match mb' with | .blk => true | _ => false) c.st) st sm) (hpark : ∀ live, mb' = .park live → ∀ (i : Nat) (o : Option Nat), c.wk[i]? = some o → f.ph (j0 + 1 + i) = .A true → o = none ∧ live = false) :
    Inv2 P { f with gs := f.gs.setIfInBounds 0 r', t := f.t ++ MemOp.ofEvents 0 fn pos #[], mb := mb' } x c j0 := by
  have e : f.t ++ MemOp.ofEvents 0 fn pos #[] = f.t := by rw [ofEvents_eq]; simp
  rw [e]
  refine ⟨h.k, h.old, h.base, h.win, h.dl, h.dn, h.wg, h.ne, hmode, hpark, h.bnd, h.shut, h.pk, h.idle, h.cha, h.chb, fun i s g d hp hj hi => ?_, h.b7, h.rel, h.nor, h.acq, h.few, h.ac⟩
  obtain ⟨b1, r, b2, b3⟩ := h.b i s g d hp hj hi
  exact ⟨b1, r, by show (f.gs.setIfInBounds 0 r')[i]? = _; rw [Array.getElem?_setIfInBounds_ne (by omega)]; exact b2, b3⟩
end
end Go.X
namespace Go.X
open Go Go.Sx Go.Conc Go.ConcN
open Go.ConcR (KK wgBlock WgAt stA smA rd wr mk Payload Bk)
theorem offers_rcase (g : Goroutine) (c r : Nat) (z : Value) (sh : CommShape) (b : Bool) : offersAt (parked g #[rcase c z] sh) r b = if b = false ∧ c = r then [0] else [] := by
  by_cases h : c = r <;> cases b <;> simp [offersAt, parked, rcase, h, Array.zipIdx]
theorem offers_scase (g : Goroutine) (c r : Nat) (v z : Value) (sh : CommShape) (b : Bool) : offersAt (parked g #[scase c v z] sh) r b = if b = true ∧ c = r then [0] else [] := by
  by_cases h : c = r <;> cases b <;> simp [offersAt, parked, scase, h, Array.zipIdx]
theorem offers_deals_send (g : Goroutine) (live : Bool) (c : Cy) (v z1 z2 : Value) (sh : CommShape) (r : Nat) : offersAt (parked g (deals live c v z1 z2) sh) r true = if live = true ∧ c.dl = r then [0] else [] := by
  cases live
  · simp [offersAt, parked, deals, scaseNil, rcase, Array.zipIdx]
  · by_cases h : c.dl = r <;> simp [offersAt, parked, deals, scase, rcase, h, Array.zipIdx]
theorem offers_deals_recv (g : Goroutine) (live : Bool) (c : Cy) (v z1 z2 : Value) (sh : CommShape) (r : Nat) : offersAt (parked g (deals live c v z1 z2) sh) r false = if c.dn = r then [1] else [] := by
  by_cases h : c.dn = r <;> cases live <;> simp [offersAt, parked, deals, scase, scaseNil, rcase, h, Array.zipIdx]
section
variable {P : Program} {Post : Value → World → Prop} {W0 : World}
theorem not_blocked {g : Goroutine} (h : g.status = .running ∨ g.status = .finished) : g.status ≠ .blocked := by rcases h with h | h <;> rw [h] <;> simp
theorem size_lt {f : Cf} {a : Goroutine} {x : XW Gh} (h1 : Inv1 P Post W0 f a x) {j : Nat} {g : Goroutine} (hg : f.gs[j]? = some g) : j ≤ f.k := by
  have := (Array.getElem?_eq_some_iff.1 hg).1
  have := h1.size
  omega
theorem offers_hand {f : Cf} {a : Goroutine} {x : XW Gh} {c : Co} {j0 : Nat} (h1 : Inv1 P Post W0 f a x) (h2 : Inv2 P f x c j0) {j : Nat} (hj : 1 ≤ j) (hk : j ≤ f.k) {g : Goroutine} (hg : f.gs[j]? = some g) {ch : Nat} {b : Bool} {m : Nat} (hm : m ∈ offersAt g ch b) :
    ∃ (i : Nat) (o : Option Nat), j = j0 + 1 + i ∧ c.wk[i]? = some o ∧ f.ph j = .A true ∧ m = 0 ∧ ((ch = c.cy.dl ∧ b = false ∧ o = none ∧ ∃ z, g = parked (f.F j).1 #[rcase c.cy.dl z] (.recv true)) ∨ (ch = c.cy.dn ∧ b = true ∧ ∃ jj v z, o = some jj ∧ g = parked (f.F j).1 #[scase c.cy.dn v z] .send)) := by
  have none_of : g.status ≠ .blocked → False := fun h => by rw [offersAt_of_not_blocked h] at hm; cases hm
  cases hp : f.ph j with
  | A pk =>
    cases pk with
    | false =>
      obtain ⟨r, hr, hc⟩ := h1.ra j false hj hk hp
      rw [hg] at hr; cases hr
      cases hc with
      | run hl => exact (none_of (not_blocked (.inl hl.run))).elim
    | true =>
      obtain ⟨i, o, rfl, ho⟩ := wk_ix h2 hj hk (by rw [hp]; exact id)
      rcases parked_hand h1 h2 ho hp hg with ⟨e0, z, e⟩ | ⟨jj, v, z, e0, e⟩
      · rw [e, offers_rcase] at hm
        split at hm
        · rename_i hh
          rw [List.mem_singleton] at hm
          exact ⟨i, o, rfl, ho, rfl, hm, .inl ⟨hh.2.symm, hh.1, e0, z, e⟩⟩
        · cases hm
      · rw [e, offers_scase] at hm
        split at hm
        · rename_i hh
          rw [List.mem_singleton] at hm
          exact ⟨i, o, rfl, ho, rfl, hm, .inr ⟨hh.2.symm, hh.1, jj, v, z, e0, e⟩⟩
        · cases hm
  | Q q =>
    obtain ⟨r, hr, hq⟩ := h1.rq j q hj hk hp
    rw [hg] at hr; cases hr
    exact (none_of (not_blocked hq.status)).elim
  | B s bb d =>
    have hj0 : j0 < j := Nat.lt_of_not_le fun hle => by have := h2.old j hj hle; rw [hp] at this; exact this.elim
    obtain ⟨_, r, hr, hb⟩ := h2.b j s bb d hp hj0 hk
    rw [hg] at hr; cases hr
    exact (none_of (not_blocked hb.status)).elim
theorem offers_main {f : Cf} {a : Goroutine} {x : XW Gh} {c : Co} {j0 : Nat} (h1 : Inv1 P Post W0 f a x) (h2 : Inv2 P f x c j0) (hx : x.s = .co c) {g : Goroutine} (hg : f.gs[0]? = some g) {ch : Nat} {b : Bool} {m : Nat} (hm : m ∈ offersAt g ch b) :
    ∃ live z1 z2, f.mb = .park live ∧ g = parked a (deals live c.cy (.int .i64 c.nx) z1 z2) .select ∧ ((ch = c.cy.dl ∧ b = true ∧ live = true ∧ m = 0) ∨ (ch = c.cy.dn ∧ b = false ∧ m = 1)) := by
  obtain ⟨r, hr, hrec⟩ := h1.main
  rw [hg] at hr; cases hr
  have none_of : g.status ≠ .blocked → False := fun h => by rw [offersAt_of_not_blocked h] at hm; cases hm
  generalize hmb : f.mb = mb at hrec
  cases hrec with
  | run hl => exact (none_of (not_blocked (.inl hl.run))).elim
  | park hs hst hsh hlive hope hstep hrun =>
    rename_i c0 live z1 z2
    rw [hx] at hs; cases hs
    refine ⟨live, z1, z2, rfl, rfl, ?_⟩
    cases b with
    | true =>
      rw [offers_deals_send] at hm
      split at hm
      · rename_i hh
        rw [List.mem_singleton] at hm
        exact .inl ⟨hh.2.symm, rfl, hh.1, hm⟩
      · cases hm
    | false =>
      rw [offers_deals_recv] at hm
      split at hm
      · rename_i hh
        rw [List.mem_singleton] at hm
        exact .inr ⟨hh.symm, rfl, hm⟩
      · cases hm
  | blk hs hst hrun hoff =>
    exfalso
    simp only [offersAt, hoff] at hm
    cases hm
theorem sem_wait {f : Cf} {a : Goroutine} {m : Heap} {c : Co} (h : Inv P Post W0 f a ⟨m, .co c⟩) (hmb : f.mb = .run) {r : Goroutine} (hr : f.gs[0]? = some r) (hl : Like P a r) (hst : c.st = .reg) (hrun : a.status = .running) (hoff : a.offers = none)
    (hgo : stepG P true a f.w = .go { a with status := .blocked } f.w #[]) (hsm : ∃ st, WgAt c.cy.ty c.cy.wg f.w st 0) :
    ∃ f', runT P (crowd f.gs f.w f.sl) 0 = (.next (crowd f'.gs f'.w f'.sl), MemOp.ofEvents 0 r.frame.fn r.frame.place #[]) ∧ f'.t = f.t ++ MemOp.ofEvents 0 r.frame.fn r.frame.place #[] ∧ Inv P Post W0 f' a ⟨m, .co c⟩ ∧ f'.k = f.k ∧ f'.F = f.F ∧ f'.S = f.S ∧ f'.N < f.N := by
  obtain ⟨h1, j0, h2⟩ := h
  obtain ⟨s0, sm0, hw, hm⟩ := h2.mode
  obtain ⟨st, hw'⟩ := hsm
  obtain ⟨rfl, rfl⟩ := hw.unique hw'
  have hstep : stepG P (0 == 0) r f.w = .go { a with status := .blocked } f.w #[] := by rw [show ((0 : Nat) == 0) = true from rfl, hl.step]; exact hgo
  have hrunT := runT_crowd_go (P := P) (sl := f.sl) hr hstep
  have hid : (f.gs.map (woken P r { a with status := .blocked } f.w)) = f.gs := by
    have : woken P r { a with status := .blocked } f.w = id := by
      funext o
      unfold Go.Conc.woken
      rw [if_neg (by simp)]; rfl
    rw [this, Array.map_id]
  rw [hid] at hrunT
  have hmrec : MRec P W0 a ⟨m, .co c⟩ .blk { a with status := .blocked } := .blk rfl hst hrun hoff
  refine ⟨{ f with gs := f.gs.setIfInBounds 0 { a with status := .blocked }, t := f.t ++ MemOp.ofEvents 0 r.frame.fn r.frame.place #[], mb := .blk }, hrunT, rfl, ⟨main_wait1 h1 hmrec r.frame.fn r.frame.place, j0, main_wait2 h2 r.frame.fn r.frame.place ⟨_, 0, hw, ?_⟩ fun i' hi' => by cases hi'⟩, rfl, rfl, rfl, ?_⟩
  · rw [hmb, hst] at hm
    rw [hst]
    generalize hz : (0 : Int) = zz at hm
    cases hm with
    | opn h _ _ => exact h.elim
    | reg _ k2 k3 => exact .reg trivial k2 k3
    | last L _ k2 k3 k4 => exact .last L trivial k2 k3 k4
    | sema _ => cases hz
    | fin h _ => exact h.elim
  · show sumTo f.k (fun i => (f.ph (i + 1)).fl) + 0 < sumTo f.k (fun i => (f.ph (i + 1)).fl) + f.mb.n
    rw [hmb]; exact Nat.lt_succ_self _
end
end Go.X
