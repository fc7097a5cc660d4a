/- A company: a sender's own step, its look, its select. No program in sight. -/
import Derived.Test.YtafhinjggdknjaaDoorPXU
set_option linter.unusedVariables false
set_option linter.unusedSimpArgs false
namespace Go.X
open Go Go.Sx Go.Conc Go.ConcN
open Go.ConcR (KK wgBlock WgAt stA smA rd wr mk Payload Bk)
section
variable {P : Program} {Post : Value → World → Prop} {W0 : World}
def EndsR (P : Program) (Post : Value → World → Prop) (f : Cf) (i : Nat) : Prop := ∀ f0 : Cf, f0.gs = f.gs → f0.t = f.t → stepT P (crowd f0.gs f0.w f0.sl) = runT P (crowd f.gs f.w f.sl) i → Ends P Post f0
theorem EndsR.of {f f' : Cf} {i : Nat} {ops : Trace} (h : runT P (crowd f.gs f.w f.sl) i = (.next (crowd f'.gs f'.w f'.sl), ops)) (ht : f'.t = f.t ++ ops) (he : Ends P Post f') : EndsR P Post f i :=
  fun f0 _ e hs => ends_step (hs.trans h) (by rw [ht, e]) he
structure Waits (P : Program) (Post : Value → World → Prop) (W0 : World) (f f' : Cf) (a : Goroutine) (x : XW Gh) (i : Nat) : Prop where
  inv : Inv P Post W0 f' a x
  k : f'.k = f.k
  F : f'.F = f.F
  S : f'.S = f.S
  N : f'.N < f.N
  ends : Ends P Post f' → EndsR P Post f i
abbrev Tm (P : Program) (Post : Value → World → Prop) (W0 : World) (a : Goroutine) (x : XW Gh) : Prop := ∀ f, Inv P Post W0 f a x → Ends P Post f
theorem ofEvents_nil (g : Nat) (fn : FuncId) (pos : String) : MemOp.ofEvents g fn pos #[] = #[] := by rw [ofEvents_eq]; simp
theorem union_empty (m : Heap) : union m Heap.empty = m := by funext b; cases h : m b <;> simp [union, h, Heap.empty]
theorem le_of_empty (m : Heap) : Heap.empty.le m := fun _ _ h => by cases h
theorem disj_of_empty (m : Heap) : Disj m Heap.empty := fun _ => .inr rfl
theorem ways_recv_open {w : World} {gs : Array Goroutine} {c s r : Nat} {z : Value} {tm : Bool} (hc : w.heap[c]? = some (.chan 0 #[] false s r tm)) {way : Way} (h : way ∈ ways w gs (rcase c z)) : ∃ j m, way = .partner j m ∧ (j, m) ∈ partners gs c true := by
  simp only [ways, rcase, hc] at h
  simp only [List.size_toArray, List.length_nil, Nat.lt_irrefl, if_false, gt_iff_lt, Bool.false_eq_true] at h
  cases hp : partners gs c true with
  | nil => rw [hp] at h; simp at h
  | cons x xs =>
    rw [hp] at h
    simp only [List.mem_map] at h
    obtain ⟨⟨j, m⟩, h1, h2⟩ := h
    exact ⟨j, m, h2.symm, h1⟩
theorem ways_send_open {w : World} {gs : Array Goroutine} {c s r : Nat} {v z : Value} {tm : Bool} (hc : w.heap[c]? = some (.chan 0 #[] false s r tm)) {way : Way} (h : way ∈ ways w gs (scase c v z)) : ∃ j m, way = .partner j m ∧ (j, m) ∈ partners gs c false := by
  simp only [ways, scase, hc] at h
  simp only [List.size_toArray, List.length_nil, Nat.lt_irrefl, if_false, Bool.false_eq_true] at h
  cases hp : partners gs c false with
  | nil => rw [hp] at h; simp at h
  | cons x xs =>
    rw [hp] at h
    simp only [List.mem_map] at h
    obtain ⟨⟨j, m⟩, h1, h2⟩ := h
    exact ⟨j, m, h2.symm, h1⟩
theorem ways_nil_send {w : World} {gs : Array Goroutine} {v z : Value} : ways w gs (scaseNil v z) = [] := rfl
theorem way_of_partner {w : World} {gs : Array Goroutine} {c s r j m : Nat} {z : Value} {tm : Bool} (hc : w.heap[c]? = some (.chan 0 #[] false s r tm)) (h : (j, m) ∈ partners gs c true) : ways w gs (rcase c z) ≠ [] := by
  intro e
  simp only [ways, rcase, hc] at e
  simp only [List.size_toArray, List.length_nil, Nat.lt_irrefl, if_false, gt_iff_lt, Bool.false_eq_true] at e
  cases hp : partners gs c true with
  | nil => rw [hp] at h; cases h
  | cons x xs => rw [hp] at e; simp at e
theorem way_of_partner_send {w : World} {gs : Array Goroutine} {c s r j m : Nat} {v z : Value} {tm : Bool} (hc : w.heap[c]? = some (.chan 0 #[] false s r tm)) (h : (j, m) ∈ partners gs c false) : ways w gs (scase c v z) ≠ [] := by
  intro e
  simp only [ways, scase, hc] at e
  simp only [List.size_toArray, List.length_nil, Nat.lt_irrefl, if_false, Bool.false_eq_true] at e
  cases hp : partners gs c false with
  | nil => rw [hp] at h; cases h
  | cons x xs => rw [hp] at e; simp at e
theorem hand_ask {f : Cf} {a : Goroutine} {x : XW Gh} {c : Co} {j0 i : Nat} (h1 : Inv1 P Post W0 f a x) (h2 : Inv2 P f x c j0) (ho : c.wk[i]? = some none) (hp : f.ph (j0 + 1 + i) = .A true) :
    ∃ q z mj, (f.F (j0 + 1 + i)).2 = ⟨mj, .snd q⟩ ∧ q.cy = c.cy ∧ q.job = none ∧ f.gs[j0 + 1 + i]? = some (parked (f.F (j0 + 1 + i)).1 #[rcase c.cy.dl z] (.recv true)) ∧
      q.lo ≤ c.nx ∧ ∀ j : Nat, q.lo ≤ j → j < c.cy.lim → MIp P Post W0 (Go.Conc.served (f.F (j0 + 1 + i)).1 (.tuple #[.int .i64 j, .bool true])) ⟨mj, .snd { q with job := some j, lo := j + 1 }⟩ := by
  have hik : j0 + 1 + i ≤ f.k := by rw [h2.k]; have := (List.getElem?_eq_some_iff.1 ho).1; omega
  obtain ⟨q0, p1, p2, p3, p4⟩ := h2.cha i none true ho hp
  obtain ⟨rj, hrj, hc⟩ := h1.ra (j0 + 1 + i) true (by omega) hik hp
  cases hc with
  | ask q1 q2 q3 q4 q5 q6 =>
    rename_i c' z
    rw [q1] at p1; cases p1
    refine ⟨q0, z, (f.F (j0 + 1 + i)).2.m, ?_, p2, p3, by rw [← p2]; exact hrj, p4.2, fun j hlo hj => q6 j hlo (by rw [p2]; exact hj)⟩
    rw [← q1]
  | give q1 q2 q3 q4 q5 q6 q7 q8 q9 q10 =>
    rw [q1] at p1; cases p1
    rw [q2] at p3; cases p3
theorem hand_give {f : Cf} {a : Goroutine} {x : XW Gh} {c : Co} {j0 i j : Nat} (h1 : Inv1 P Post W0 f a x) (h2 : Inv2 P f x c j0) (ho : c.wk[i]? = some (some j)) (hp : f.ph (j0 + 1 + i) = .A true) :
    ∃ q v z mj mj' D, (f.F (j0 + 1 + i)).2 = ⟨mj, .snd q⟩ ∧ q.cy = c.cy ∧ q.job = some j ∧ f.gs[j0 + 1 + i]? = some (parked (f.F (j0 + 1 + i)).1 #[scase c.cy.dn v z] .send) ∧ mj'.le mj ∧ D.le mj ∧ Disj mj' D ∧ c.cy.ok j v D ∧ q.lo ≤ c.nx ∧
      MIp P Post W0 ((f.F (j0 + 1 + i)).1.finishComm P #[scase c.cy.dn v z] .send 0 undef false) ⟨mj', .snd { q with job := none }⟩ := by
  have hik : j0 + 1 + i ≤ f.k := by rw [h2.k]; have := (List.getElem?_eq_some_iff.1 ho).1; omega
  obtain ⟨q0, p1, p2, p3, p4⟩ := h2.cha i (some j) true ho hp
  obtain ⟨rj, hrj, hc⟩ := h1.ra (j0 + 1 + i) true (by omega) hik hp
  cases hc with
  | ask q1 q2 q3 q4 q5 q6 =>
    rw [q1] at p1; cases p1
    rw [q2] at p3; cases p3
  | give q1 q2 q3 q4 q5 q6 q7 q8 q9 q10 =>
    rename_i c' jj v z m' D
    rw [q1] at p1; cases p1
    rw [q2] at p3; cases p3
    refine ⟨q0, v, z, (f.F (j0 + 1 + i)).2.m, m', D, ?_, p2, q2, by rw [← p2]; exact hrj, q6, q7, q8, by rw [← p2]; exact q9, p4.2, by rw [← p2]; exact q10⟩
    rw [← q1]
theorem partner_hand {f : Cf} {a : Goroutine} {x : XW Gh} {c : Co} {j0 : Nat} (h1 : Inv1 P Post W0 f a x) (h2 : Inv2 P f x c j0) {ch j mm : Nat} {b : Bool} (h : (j, mm) ∈ partners (f.gs.setIfInBounds 0 ph) ch b) :
    ∃ (i : Nat) (o : Option Nat), j = j0 + 1 + i ∧ c.wk[i]? = some o ∧ f.ph j = .A true ∧ mm = 0 ∧ ((ch = c.cy.dl ∧ b = false ∧ o = none) ∨ (ch = c.cy.dn ∧ b = true ∧ ∃ jj, o = some jj)) := by
  obtain ⟨g, hg, hm⟩ := mem_partners.1 h
  rcases getElem?_stand _ _ _ _ hg with ⟨_, rfl⟩ | ⟨hne, hg'⟩
  · rw [offersAt_ph] at hm; cases hm
  · obtain ⟨i, o, e1, e2, e3, e4, e5⟩ := offers_hand h1 h2 (by omega) (size_lt h1 hg') hg' hm
    refine ⟨i, o, e1, e2, e3, e4, ?_⟩
    rcases e5 with ⟨k1, k2, k3, _⟩ | ⟨k1, k2, jj, v, z, k3, _⟩
    · exact .inl ⟨k1, k2, k3⟩
    · exact .inr ⟨k1, k2, jj, k3⟩
theorem hand_partner {f : Cf} {a : Goroutine} {x : XW Gh} {c : Co} {j0 i : Nat} {o : Option Nat} (h1 : Inv1 P Post W0 f a x) (h2 : Inv2 P f x c j0) (ho : c.wk[i]? = some o) (hp : f.ph (j0 + 1 + i) = .A true) :
    (o = none → (j0 + 1 + i, 0) ∈ partners (f.gs.setIfInBounds 0 ph) c.cy.dl false) ∧ (∀ j, o = some j → (j0 + 1 + i, 0) ∈ partners (f.gs.setIfInBounds 0 ph) c.cy.dn true) := by
  constructor
  · rintro rfl
    obtain ⟨q, z, mj, _, _, _, hg, _⟩ := hand_ask h1 h2 ho hp
    exact mem_partners.2 ⟨_, stand_get (by omega) hg, by rw [offers_rcase]; simp⟩
  · rintro j rfl
    obtain ⟨q, v, z, mj, mj', D, _, _, _, hg, _⟩ := hand_give h1 h2 ho hp
    exact mem_partners.2 ⟨_, stand_get (by omega) hg, by rw [offers_scase]; simp⟩
theorem main_deal {f : Cf} {a : Goroutine} {m : Heap} {c : Co} {live : Bool} {z1 z2 : Value} (h : Inv P Post W0 f a ⟨m, .co c⟩) (hmb : f.mb = .run) {r : Goroutine} (hr : f.gs[0]? = some r) (hl : Like P a r)
    (hst : c.st = .run) (hsh : c.shut = false) (hlive : live = true ↔ c.nx < c.cy.lim) (hope : Hope live c) (hrun : a.status = .running)
    (hcm : ∀ w, Env W0 w → m.le (rp w) → stepG P true a w = .comm a (deals live c.cy (.int .i64 c.nx) z1 z2) true .select w #[])
    (hdeal : ∀ k : Nat, live = true → c.wk[k]? = some none → MIp P Post W0 (a.finishComm P (deals live c.cy (.int .i64 c.nx) z1 z2) .select 0 undef false) ⟨m, .co { c with nx := c.nx + 1, wk := c.wk.set k (some c.nx) }⟩ ∧ Tm P Post W0 (a.finishComm P (deals live c.cy (.int .i64 c.nx) z1 z2) .select 0 undef false) ⟨m, .co { c with nx := c.nx + 1, wk := c.wk.set k (some c.nx) }⟩)
    (hdone : ∀ (k j : Nat) (v : Value) (D : Heap), c.wk[k]? = some (some j) → c.cy.ok j v D → Disj m D → Disj D c.cy.base → MIp P Post W0 (a.finishComm P (deals live c.cy (.int .i64 c.nx) z1 z2) .select 1 v true) ⟨union m D, .co { c with wk := c.wk.set k none }⟩ ∧ Tm P Post W0 (a.finishComm P (deals live c.cy (.int .i64 c.nx) z1 z2) .select 1 v true) ⟨union m D, .co { c with wk := c.wk.set k none }⟩) :
    EndsR P Post f 0 ∨ ∃ f', Waits P Post W0 f f' a ⟨m, .co c⟩ 0 := by
  obtain ⟨h1, j0, h2⟩ := id h
  have hm0 : m.le (rp f.w) := by have := h1.mem 0; rwa [h1.oM0] at this
  have hstep : stepG P (0 == 0) r f.w = .comm a (deals live c.cy (.int .i64 c.nx) z1 z2) true .select f.w #[] := by rw [show ((0 : Nat) == 0) = true from rfl, hl.step]; exact hcm _ h1.env hm0
  have hmb' : f.mb ≠ .blk := by rw [hmb]; simp
  have h0 : 0 < f.gs.size := by rw [h1.size]; omega
  obtain ⟨n1, hn1⟩ := h2.dl.2
  rw [hsh] at hn1
  obtain ⟨n2, hn2⟩ := h2.dn.2
  have hmade : ∀ x ∈ deals live c.cy (.int .i64 c.nx) z1 z2, illMade f.w x = false := by
    intro x hx
    simp only [deals, List.mem_toArray, List.mem_cons, List.not_mem_nil, or_false] at hx
    rcases hx with rfl | rfl
    · cases live
      · rfl
      · exact made_send _ _ hn1
    · exact made_recv _ hn2
  have met_facts : ∀ (hh jj ch k : Nat) (fh : FuncId) (p1 : String) (fj : FuncId) (p2 : String), hh ≤ f.k → jj ≤ f.k → ∀ op ∈ met hh jj fh p1 fj p2 ch k 0, op.act.touch? = none ∧ (∀ g d, deafStep g d op = d) ∧ op.act ≠ .mark (.release (stA c.cy.wg)) ∧ op.g ≤ f.k := by
    intro hh jj ch k fh p1 fj p2 e1 e2 op hop
    refine ⟨met_mute hh jj fh p1 fj p2 ch k 0 op hop, fun g d => met_quiet hh jj fh p1 fj p2 ch k 0 g op hop d, ?_, ?_⟩
    · simp only [met, List.mem_toArray, List.mem_cons, List.not_mem_nil, or_false] at hop
      rcases hop with rfl | rfl | rfl | rfl <;> simp
    · simp only [met, List.mem_toArray, List.mem_cons, List.not_mem_nil, or_false] at hop
      rcases hop with rfl | rfl | rfl | rfl <;> first | exact e1 | exact e2
  by_cases hw : ∃ cc ∈ deals live c.cy (.int .i64 c.nx) z1 z2, ways f.w (f.gs.setIfInBounds 0 ph) cc ≠ []
  · left
    obtain ⟨k, cc, way, d, hk, hway, r1, r2, _⟩ := comm_goes (sl := f.sl) hr hstep hmade hw
    have hk2 : k < 2 := (Array.getElem?_eq_some_iff.1 hk).1
    rcases (show k = 0 ∨ k = 1 by omega) with rfl | rfl
    · cases live with
      | false =>
        simp [deals] at hk
        subst hk
        rw [ways_nil_send] at hway; cases hway
      | true =>
        simp [deals] at hk
        subst hk
        obtain ⟨j, mm, rfl, hjm⟩ := ways_send_open hn1 hway
        obtain ⟨i, o, rfl, ho, hp, rfl, ⟨_, _, rfl⟩ | ⟨_, e, _⟩⟩ := partner_hand h1 h2 hjm
        · have hik : j0 + 1 + i ≤ f.k := by rw [h2.k]; have := (List.getElem?_eq_some_iff.1 ho).1; omega
          obtain ⟨q, z, mj, hF, q1, q2, hg, hlo, hy⟩ := hand_ask h1 h2 ho hp
          obtain ⟨hgm, hT⟩ := hdeal i rfl ho
          have hrunT := r1 rfl rfl hn1 rfl
          rw [finishPartner_at P _ (stand_get (by omega) hg) (cs := #[rcase c.cy.dl z]) (sh := .recv true) rfl, finishComm_parked, finishComm_recv, ofEvents_nil, set_stand2] at hrunT
          have hgd : (f.gs.setIfInBounds 0 ph).getD (j0 + 1 + i) default = parked (f.F (j0 + 1 + i)).1 #[rcase c.cy.dl z] (.recv true) := by rw [Array.getD_eq_getD_getElem?, stand_get (by omega) hg]; rfl
          rw [hgd] at hrunT
          have hinv := meet (d := d) (ch := c.cy.dl) (n := n1) (nx := c.nx + 1) (D := Heap.empty) (mj' := mj) (q' := { q with job := some c.nx, lo := c.nx + 1 }) (g' := a.finishComm P (deals true c.cy (.int .i64 c.nx) z1 z2) .select 0 undef false) (y' := Go.Conc.served (f.F (j0 + 1 + i)).1 (.tuple #[.int .i64 c.nx, .bool true]))
            (u := met 0 (j0 + 1 + i) a.frame.fn a.frame.place (f.F (j0 + 1 + i)).1.frame.fn (f.F (j0 + 1 + i)).1.frame.place c.cy.dl n1 0)
            (gs' := (f.gs.setIfInBounds (j0 + 1 + i) (Go.Conc.served (f.F (j0 + 1 + i)).1 (.tuple #[.int .i64 c.nx, .bool true]))).setIfInBounds 0 (a.finishComm P (deals true c.cy (.int .i64 c.nx) z1 z2) .select 0 undef false))
            h1 h2 hmb' hst hsh ho hp hF ⟨rfl, rfl, Nat.le_refl _, Nat.le_succ _⟩ (.inl rfl) hn1 (le_of_empty _) (.refl _) (disj_of_empty _) (hy _ hlo (hlive.1 rfl)) (by rw [union_empty]; exact hgm) (met_facts _ _ _ _ _ _ _ _ (Nat.zero_le _) hik) (fun y ⟨b, hb⟩ => absurd rfl hb) (by simp) (by simp [h0]) (by
              have hlt := (Array.getElem?_eq_some_iff.1 hg).1
              rw [Array.getElem?_setIfInBounds_ne (by omega), Array.getElem?_setIfInBounds_self_of_lt hlt]) (fun k hk hk' => by rw [Array.getElem?_setIfInBounds_ne (Ne.symm hk), Array.getElem?_setIfInBounds_ne (Ne.symm hk')])
          rw [union_empty] at hinv
          exact .of (f' := meetNext f _ _ _ c.cy.dl n1 d Heap.empty _) (by simpa [recvd, met, parked, rcase] using hrunT) rfl (hT _ hinv)
        · cases e
    · simp [deals] at hk
      subst hk
      obtain ⟨j, mm, rfl, hjm⟩ := ways_recv_open hn2 hway
      obtain ⟨i, o, rfl, ho, hp, rfl, ⟨_, e, _⟩ | ⟨_, _, jj, rfl⟩⟩ := partner_hand h1 h2 hjm
      · cases e
      · have hik : j0 + 1 + i ≤ f.k := by rw [h2.k]; have := (List.getElem?_eq_some_iff.1 ho).1; omega
        obtain ⟨q, v, z, mj, mj', D, hF, q1, q2, hg, b1, b2, b3, b4, hlo, hy⟩ := hand_give h1 h2 ho hp
        have hMj : f.o.M (j0 + 1 + i) = mj := by rw [h1.oMa _ (by omega) hik (by rw [hp]; trivial), hF]
        have inM : ∀ {b : Nat}, D b ≠ none → f.o.M (j0 + 1 + i) b ≠ none := fun {b} hb => by
          rw [hMj]
          cases e : D b with
          | none => exact absurd e hb
          | some u => rw [b2 b u e]; simp
        have dmD : Disj m D := fun b => by
          by_cases e : D b = none
          · exact .inr e
          · exact .inl (by have := h1.apart.own (j0 + 1 + i) 0 b (by omega) (inM e); rwa [h1.oM0] at this)
        have dDb : Disj D c.cy.base := fun b => by
          by_cases e : D b = none
          · exact .inl e
          · exact .inr (by have := (h1.apart.mem _ b (inM e)).1; rwa [h2.base] at this)
        obtain ⟨hgm, hT⟩ := hdone i jj v D ho b4 dmD dDb
        have hrunT := r2 rfl rfl hn2 rfl
        have hov : offeredValue (f.gs.setIfInBounds 0 ph) (j0 + 1 + i) 0 = v := by simp [offeredValue, stand_get (i := 0) (show j0 + 1 + i ≠ 0 by omega) hg, parked, scase]
        rw [hov, finishPartner_at P _ (stand_get (by omega) hg) (cs := #[scase c.cy.dn v z]) (sh := .send) rfl, finishComm_parked, ofEvents_nil, set_stand2] at hrunT
        have hgd : (f.gs.setIfInBounds 0 ph).getD (j0 + 1 + i) default = parked (f.F (j0 + 1 + i)).1 #[scase c.cy.dn v z] .send := by rw [Array.getD_eq_getD_getElem?, stand_get (by omega) hg]; rfl
        rw [hgd] at hrunT
        have hd0 : Deaf f.t 0 = 0 := by rw [h1.d0]; simp [deafOf, hst]
        have hdj : Deaf f.t (j0 + 1 + i) = 0 := h1.da _ (by omega) hik (by rw [hp]; trivial)
        have hinv := meet (d := d) (ch := c.cy.dn) (n := n2) (nx := c.nx) (D := D) (mj' := mj') (q' := { q with job := none }) (g' := a.finishComm P (deals live c.cy (.int .i64 c.nx) z1 z2) .select 1 v true) (y' := (f.F (j0 + 1 + i)).1.finishComm P #[scase c.cy.dn v z] .send 0 undef false)
          (u := met (j0 + 1 + i) 0 (f.F (j0 + 1 + i)).1.frame.fn (f.F (j0 + 1 + i)).1.frame.place a.frame.fn a.frame.place c.cy.dn n2 0)
          (gs' := (f.gs.setIfInBounds (j0 + 1 + i) ((f.F (j0 + 1 + i)).1.finishComm P #[scase c.cy.dn v z] .send 0 undef false)).setIfInBounds 0 (a.finishComm P (deals live c.cy (.int .i64 c.nx) z1 z2) .select 1 v true))
          h1 h2 hmb' hst hsh ho hp hF ⟨rfl, rfl, hlo, Nat.le_refl _⟩ (.inr rfl) hn2 b2 b1 b3 hy hgm (met_facts _ _ _ _ _ _ _ _ hik (Nat.zero_le _)) (fun y _ hk => knows_met hdj hd0 hk) (by simp) (by simp [h0]) (by
            have hlt := (Array.getElem?_eq_some_iff.1 hg).1
            rw [Array.getElem?_setIfInBounds_ne (by omega), Array.getElem?_setIfInBounds_self_of_lt hlt]) (fun k hk hk' => by rw [Array.getElem?_setIfInBounds_ne (Ne.symm hk), Array.getElem?_setIfInBounds_ne (Ne.symm hk')])
        refine .of (f' := meetNext f _ _ _ c.cy.dn n2 d D _) ?_ rfl (hT _ hinv)
        simpa [met, parked, scase] using hrunT
  · right
    have hnone : ∀ cc ∈ deals live c.cy (.int .i64 c.nx) z1 z2, ways f.w (f.gs.setIfInBounds 0 ph) cc = [] := fun cc hcc => Classical.byContradiction fun hh => hw ⟨cc, hcc, hh⟩
    have hrunT := crowd_waits (sl := f.sl) hr hstep (fun cc hcc => ⟨hmade cc hcc, hnone cc hcc⟩)
    have hmrec : MRec P W0 a ⟨m, .co c⟩ (.park live) (parked a (deals live c.cy (.int .i64 c.nx) z1 z2) .select) := .park rfl hst hsh hlive hope hcm hrun
    obtain ⟨s0, sm0, hwg, hm⟩ := h2.mode
    refine ⟨{ f with gs := f.gs.setIfInBounds 0 (parked a (deals live c.cy (.int .i64 c.nx) z1 z2) .select), t := f.t ++ MemOp.ofEvents 0 r.frame.fn r.frame.place #[], mb := .park live }, ⟨⟨main_wait1 h1 hmrec r.frame.fn r.frame.place, j0, main_wait2 h2 r.frame.fn r.frame.place ⟨s0, sm0, hwg, by rw [hmb] at hm; exact hm⟩ fun lv' hi' i o ho hp => ?_⟩, rfl, rfl, rfl, ?_, fun he => .of hrunT rfl he⟩⟩
    · cases hi'
      obtain ⟨p1, p2⟩ := hand_partner h1 h2 ho hp
      cases o with
      | some j => exact absurd (hnone _ (by simp [deals])) (way_of_partner (z := z2) hn2 (p2 j rfl))
      | none =>
        refine ⟨rfl, ?_⟩
        cases live with
        | false => rfl
        | true => exact absurd (hnone (scase c.cy.dl (.int .i64 c.nx) z1) (by simp [deals])) (way_of_partner_send (v := .int .i64 c.nx) (z := z1) hn1 (p1 rfl))
    · show sumTo f.k (fun i => (f.ph (i + 1)).fl) + 0 < sumTo f.k (fun i => (f.ph (i + 1)).fl) + f.mb.n
      rw [hmb]; exact Nat.lt_succ_self _
end
end Go.X
namespace Go.X
open Go Go.Sx Go.Conc Go.ConcN
open Go.ConcR (KK wgBlock WgAt stA smA rd wr mk Payload Bk)
section
variable {P : Program} {Post : Value → World → Prop} {W0 : World}
theorem mode_mb {k : Nat} {D : Nat → WD} {st : Stg} {mb mb' : MB} {s0 sm0 : Int} (h : ConcN.Mode k D (tagOf (match mb with | .blk => true | _ => false) st) s0 sm0) : (mb' = mb ∨ (mb = .blk ∧ mb' = .run)) → ConcN.Mode k D (tagOf (match mb' with | .blk => true | _ => false) st) s0 sm0 := by
  intro e
  rcases e with rfl | ⟨rfl, rfl⟩
  · cases mb' <;> exact h
  · cases st <;> first | exact h | exact h.retag (.inr ⟨rfl, rfl⟩)
end
end Go.X
namespace Go.X
open Go Go.Sx Go.Conc Go.ConcN
open Go.ConcR (KK wgBlock WgAt stA smA rd wr mk Payload Bk)
section
variable {P : Program} {Post : Value → World → Prop} {W0 : World}
theorem again_deals {g : Goroutine} {live : Bool} {c : Cy} {v z1 z2 : Value} {sh : CommShape} {w : World} {s r s' r' : Nat} {tm tm' : Bool} (h1 : w.heap[c.dl]? = some (.chan 0 #[] false s r tm)) (h2 : w.heap[c.dn]? = some (.chan 0 #[] false s' r' tm')) : (parked g (deals live c v z1 z2) sh).again w = parked g (deals live c v z1 z2) sh := by
  cases live <;> simp [Goroutine.again, parked, deals, scase, scaseNil, rcase, h1, h2]
theorem wake_main {f : Cf} {a : Goroutine} {x : XW Gh} {c : Co} {j0 : Nat} (h1 : Inv1 P Post W0 f a x) (h2 : Inv2 P f x c j0) (hx : x.s = .co c) {r g' : Goroutine} {w' : World} (hg : g'.status ≠ .blocked ∧ g'.status ≠ .waiting) (hch : (∃ live, f.mb = .park live) → ∀ b, (b = c.cy.dl ∨ b = c.cy.dn) → w'.heap[b]? = f.w.heap[b]?) :
    ∃ mb', (∀ r0, f.gs[0]? = some r0 → MRec P W0 a x f.mb r0 → MRec P W0 a x mb' (woken P r g' w' r0)) ∧ (mb' = f.mb ∨ (f.mb = .blk ∧ mb' = .run)) ∧ (mayWake P r = true → mb' ≠ .blk) := by
  obtain ⟨r0, hr0, hm⟩ := h1.main
  have uniq : ∀ {mb'}, MRec P W0 a x mb' (woken P r g' w' r0) → ∀ r1, f.gs[0]? = some r1 → MRec P W0 a x f.mb r1 → MRec P W0 a x mb' (woken P r g' w' r1) := fun {mb'} h r1 hr1 _ => by
    rw [hr0] at hr1; cases hr1; exact h
  cases hmb : f.mb with
  | run =>
    rw [hmb] at hm uniq
    refine ⟨.run, uniq ?_, .inl rfl, fun _ => by simp⟩
    cases hm with
    | run hl => rw [woken_run hl.run]; exact .run hl
  | park live =>
    have hm' := hm
    rw [hmb] at hm uniq
    refine ⟨.park live, uniq ?_, .inl rfl, fun _ => by simp⟩
    cases hm with
    | park hs hst hsh hlive hope hcm hrun =>
      rename_i c' z1 z2
      rw [hx] at hs; cases hs
      obtain ⟨n1, hn1⟩ := h2.dl.2
      rw [hsh] at hn1
      obtain ⟨n2, hn2⟩ := h2.dn.2
      rw [woken_of (again_deals (s := n1) (r := n1) (s' := n2) (r' := n2) (tm := false) (tm' := false) (by rw [hch ⟨live, hmb⟩ _ (.inl rfl)]; exact hn1) (by rw [hch ⟨live, hmb⟩ _ (.inr rfl)]; exact hn2))]
      exact .park hx hst hsh hlive hope hcm hrun
  | blk =>
    rw [hmb] at hm uniq
    cases hm with
    | blk hs hst hrun hoff =>
      cases hw : mayWake P r with
      | false =>
        refine ⟨.blk, uniq ?_, .inl rfl, fun hh => by cases hh⟩
        have : woken P r g' w' { a with status := .blocked } = { a with status := .blocked } := by unfold Go.Conc.woken; rw [hw]; rfl
        rw [this]; exact .blk hs hst hrun hoff
      | true =>
        refine ⟨.run, uniq ?_, .inr ⟨rfl, rfl⟩, fun _ => by simp⟩
        have : woken P r g' w' { a with status := .blocked } = a := by
          unfold Go.Conc.woken; rw [if_pos (by simp [hw, hg.1, hg.2])]
          simp only [Goroutine.again, hoff]
          cases a; simp at hrun hoff; subst hrun; subst hoff; rfl
        rw [this]; exact .run (.refl hrun)
theorem wakes_snd {f : Cf} {a : Goroutine} {x : XW Gh} {c : Co} {j0 : Nat} (h1 : Inv1 P Post W0 f a x) (h2 : Inv2 P f x c j0) {j : Nat} {r g' : Goroutine} {w' : World} (hh : ∀ b, (b = c.cy.dl ∨ b = c.cy.dn) → w'.heap[b]? = f.w.heap[b]?) :
    ∀ k a cs sh, k ≠ j → f.ph k = .A true → 1 ≤ k → f.gs[k]? = some (parked a cs sh) → woken P r g' w' (parked a cs sh) = parked a cs sh := by
  intro k a' cs sh hk hp hk1 hg
  have hkk := size_lt h1 hg
  obtain ⟨i, o, rfl, ho⟩ := wk_ix h2 hk1 hkk (by rw [hp]; exact id)
  obtain ⟨n1, hn1⟩ := h2.dl.2
  rw [h2.pk _ hk1 hkk hp] at hn1
  obtain ⟨n2, hn2⟩ := h2.dn.2
  refine woken_of ?_
  rcases parked_hand h1 h2 ho hp hg with ⟨_, z, e⟩ | ⟨jj, v, z, _, e⟩
  · rw [e]; exact again_open (b := c.cy.dl) rfl ((hh _ (.inl rfl)).trans hn1)
  · rw [e]; exact again_open (b := c.cy.dn) rfl ((hh _ (.inr rfl)).trans hn2)
abbrev sndNext (P : Program) (f : Cf) (r g' : Goroutine) (w' : World) (es : Array Event) (i : Nat) (ph' : Nat → Ph) (F' : Nat → Goroutine × XW Gh) (mb' : MB) (m' : Heap) (rl' : Nat → Nat → Prop) : Cf :=
  { f with gs := (f.gs.map (woken P r g' w')).setIfInBounds i g', w := w', t := f.t ++ MemOp.ofEvents i r.frame.fn r.frame.place es, mb := mb', F := F', ph := ph', o := { f.o with M := ConcN.upd f.o.M i m', lv := fun j => 1 ≤ j ∧ j ≤ f.k ∧ (ph' j).isL, cp := fun j => 1 ≤ j ∧ j ≤ f.k ∧ ¬ (ph' j).isQ, rl := rl' } }
theorem snd_own {f : Cf} {a g' : Goroutine} {x yx : XW Gh} {y : Goroutine} {c : Co} {j0 j : Nat} {m' : Heap} (h1 : Inv1 P Post W0 f a x) (h2 : Inv2 P f x c j0) (hx : x.s = .co c) (hj : 1 ≤ j) (hk : j ≤ f.k) (hp : f.ph j = .A false) (hF : f.F j = (y, yx)) {r : Goroutine} (hr : f.gs[j]? = some r) {w' : World} {es : Array Event}
    (hg' : MIp P Post W0 g' ⟨m', yx.s⟩) (hframe : ∀ b, b < f.w.heap.size → yx.m b = none → w'.heap[b]? = f.w.heap[b]?) (hsz : f.w.heap.size ≤ w'.heap.size) (henv : Env W0 w') (hm' : m'.le (rp w')) (hnew : ∀ b, m' b ≠ none → yx.m b ≠ none ∨ f.w.heap.size ≤ b)
    (hes : ∀ e ∈ es, (Peek (pool yx.s) yx.m e ∨ MineP yx.m (pool yx.s) f.w.heap.size e) ∧ EvLow w'.heap.size e) :
    ∃ f', f'.gs = (f.gs.map (woken P r g' w')).setIfInBounds j g' ∧ f'.w = w' ∧ f'.sl = f.sl ∧ f'.t = f.t ++ MemOp.ofEvents j r.frame.fn r.frame.place es ∧ f'.k = f.k ∧ f'.F = ConcN.upd f.F j (g', ⟨m', yx.s⟩) ∧ Inv P Post W0 f' a x := by
  obtain ⟨i, o, rfl, hs⟩ := wk_ix h2 hj hk (by rw [hp]; exact id)
  obtain ⟨q, q1, q2, q3, q4⟩ := h2.cha i o false hs hp
  rw [hF] at q1
  have hM : f.o.M (j0 + 1 + i) = yx.m := by rw [h1.oMa _ hj hk (by rw [hp]; trivial), hF]
  have hquiet : ∀ e ∈ es, e.loc ≠ .mark .disable ∧ e.loc ≠ .mark .enable ∧ ∀ a, e.loc ≠ .mark (.release a) := fun e he => by
    rcases (hes e he).1 with h3 | h3
    · unfold Peek at h3
      refine ⟨fun hl => ?_, fun hl => ?_, fun a hl => ?_⟩ <;> rw [hl] at h3 <;> exact h3.elim
    · exact (mineP_quiet h3).1
  have hlv : f.o.lv (j0 + 1 + i) := (h1.lv _).2 ⟨hj, hk, by rw [hp]; trivial⟩
  have hpool : ∀ b, pool yx.s b ≠ none → f.o.base b ≠ none := by
    intro b hb
    rw [q1] at hb
    simp only [pool] at hb
    rw [h2.base, ← q2]; exact hb
  have hmay : ∀ e ∈ es, ∀ t, (MemAct.ofEvent e).touch? = some t → f.o.May f.w.heap.size (j0 + 1 + i) t := fun e he t ht => by
    rcases (hes e he).1 with h3 | h3
    · exact may_peek hM.symm hpool (.inr hlv) h3 ht
    · exact may_mineP hM.symm hpool (.inr hlv) h3 ht
  have hlow : ∀ e ∈ es, (MemAct.ofEvent e).low w'.heap.size := fun e he => by
    rcases (hes e he).1 with h3 | h3
    · exact low_peek h3 (hes e he).2
    · exact low_mineP h3 (hes e he).2
  have hsd : ∀ e ∈ es, ∀ t, (MemAct.ofEvent e).touch? = some t → t.kind ≠ .said := fun e he t ht hk => by
    obtain ⟨ad, hl⟩ := said_loc ht hk
    rcases (hes e he).1 with h3 | h3
    · unfold Peek at h3
      rcases hl with hl | hl <;> rw [hl] at h3 <;> exact h3.elim
    · have := (mineP_quiet h3).2 ad
      rcases hl with hl | hl
      · exact this.1 hl
      · exact this.2 hl
  have hdf : deafBehind 0 es = 0 := deaf_mute (fun e he => ⟨(hquiet e he).1, (hquiet e he).2.1⟩) _
  have hsh : ∀ b, f.o.Sh b → w'.heap[b]? = f.w.heap[b]? := fun b hb => hframe b (h1.apart.sh b hb) (by
    cases hm : yx.m b with
    | none => rfl
    | some o => exact absurd hb (h1.apart.mem (j0 + 1 + i) b (by rw [hM, hm]; simp)).2.2.1)
  have hbs : ∀ b, f.o.base b ≠ none → w'.heap[b]? = f.w.heap[b]? := fun b hb => hframe b (h1.apart.base b hb).2.2 (by
    cases hm : yx.m b with
    | none => rfl
    | some o => exact absurd (h1.apart.mem (j0 + 1 + i) b (by rw [hM, hm]; simp)).1 hb)
  obtain ⟨mb', w1, w2, _⟩ := wake_main (r := r) (w' := w') h1 h2 hx (by rw [mi_running hg']; simp) fun _ b hb => by rcases hb with e | e <;> subst e; exact hsh _ h2.dl.1; exact hsh _ h2.dn.1
  have hops : ∀ op ∈ MemOp.ofEvents (j0 + 1 + i) r.frame.fn r.frame.place es, op.g = j0 + 1 + i := fun op hop => by obtain ⟨e, _, rfl⟩ := ofEvents_mem hop; rfl
  have hupd : ConcN.upd f.F (j0 + 1 + i) (g', ⟨m', yx.s⟩) (j0 + 1 + i) = (g', ⟨m', yx.s⟩) := ConcN.upd_same _ _ _
  refine ⟨sndNext P f r g' w' es (j0 + 1 + i) f.ph (ConcN.upd f.F (j0 + 1 + i) (g', ⟨m', yx.s⟩)) mb' m' f.o.rl, rfl, rfl, rfl, rfl, rfl, rfl, snd_go1 (ph' := f.ph) (F' := ConcN.upd f.F (j0 + 1 + i) (g', ⟨m', yx.s⟩)) (mb' := mb') (m' := m') (rl' := f.o.rl) h1 hj hk hr (fun _ _ => rfl) (wakes_snd h1 h2 (j := j0 + 1 + i) fun b hb => by rcases hb with e | e <;> subst e; exact hsh _ h2.dl.1; exact hsh _ h2.dn.1) (fun k hk => upd_ne _ _ hk) w1 henv (fun b hb hn _ => hframe b hb (by rw [← hM]; exact hn)) hsz hm' (fun b hb => by rw [hM]; exact hnew b hb) hmay hsd (fun e he => .of (hlow e he)) (.inl hlv) (fun _ _ h => h)
    (.inl (by rw [hp]; trivial)) (fun hh => absurd (by rw [hp]; trivial) hh) id id id ⟨fun pk hpk => ?_, fun hh => absurd (by rw [hp]; trivial) hh, fun q hq => by rw [hp] at hq; cases hq⟩, ?_⟩
  · rw [hp] at hpk; cases hpk
    rw [hupd]
    exact ⟨rfl, rfl, hg', rfl, hdf⟩
  · rw [hx]
    refine ⟨j0, inv2_next (u := MemOp.ofEvents (j0 + 1 + i) r.frame.fn r.frame.place es) h2 ⟨rfl, rfl, id⟩ rfl (fun k => .inl rfl) (fun k _ => ?_) ⟨rfl, rfl, rfl, rfl, rfl⟩ (fun b hb _ _ => hb.elim (hsh b) (hbs b)) (base_ne h1 h2) ?_ ?_ (fun live hi' => ?_) h2.bnd h2.shut h2.idle h2.pk rfl
      (fun k s' g d hk hpk => Deaf_other _ (g' := j0 + 1 + i) (fun e => by rw [← e, hp] at hpk; cases hpk) _ hops) (fun k rr hi hrel => hrel.appOther hops fun e => (h2.rel k rr hi).2.2.1 (by rw [← e, hp]; trivial)) (fun op hop he => ?_) (fun k s' g d rr hk hpk hg hwk => ?_) (fun hd k rr hi => (h2.acq hd k rr hi).app _)⟩
    · show (ConcN.upd f.F (j0 + 1 + i) (g', ⟨m', yx.s⟩) k).2.s = _
      by_cases e : k = j0 + 1 + i
      · subst e; rw [hupd, hF]
      · rw [upd_ne _ _ e]
    · obtain ⟨n, he⟩ := h2.dl.2
      exact ⟨n, by rw [hsh _ h2.dl.1]; exact he⟩
    · obtain ⟨st, sm, hw, hm⟩ := h2.mode
      exact ⟨st, sm, (hsh _ h2.wg).trans hw, mode_mb hm w2⟩
    · have hi'' : f.mb = .park live := by
        rcases w2 with e | ⟨_, e⟩
        · rw [← e]; exact hi'
        · rw [e] at hi'; cases hi'
      exact h2.park live hi''
    · obtain ⟨e, hee, rfl⟩ := ofEvents_mem hop
      have := (hquiet e hee).2.2 (stA c.cy.wg)
      obtain ⟨loc, w, s⟩ := e
      cases loc <;> first | (simp [MemAct.ofEvent] at he; done) | skip
      · cases w <;> cases s <;> simp [MemAct.ofEvent] at he
      · simp only [MemAct.ofEvent, MemAct.mark.injEq] at he; exact this (by rw [he])
    · have hne : k ≠ j0 + 1 + i := fun e => by rw [e, hp] at hpk; cases hpk
      show ((f.gs.map (woken P r g' w')).setIfInBounds (j0 + 1 + i) g')[k]? = some rr
      rw [get_set_map (Ne.symm hne), hg]
      exact congrArg some (hwk _ _ _)
end
end Go.X
