/- Rounds end everything. No program in sight. -/
import Derived.Test.YtpphdbnifbjfmaaGreatDoorJYL
set_option linter.unusedVariables false
set_option linter.unusedSimpArgs false
namespace Go.Proofs.YtpphdbnifbjfmaaGreatDoor
open Go Go.Sx Go.Proofs
inductive Dels (m : Nat) (w : PW) : Nat → PW → Prop
  | nil : Dels m w 0 w
  | more {j : Nat} {w' w'' : PW} {e : Int} (h : Dels m w j w') (hn : w'.net ≠ []) (hp : PPlay m w' 2 0 [] w'' e) : Dels m w (j + 1) w''
def RoundR (m : Nat) (w w' : PW) : Prop := ∃ w1 w2 w3 w4 e1 e2 e3 e4, PPlay m w 6 8 [] w1 e1 ∧ PPlay m w1 5 0 [] w2 e2 ∧ PPlay m w2 5 1 [] w3 e3 ∧ PPlay m w3 5 2 [] w4 e4 ∧ ∃ j, Dels m w4 j w' ∧ (j = 2000 ∨ w'.net = [])
theorem PPlay.first {m : Nat} {w w' : PW} {e : Int} (h : PPlay m w 2 0 [] w' e) {g : Message} {r : List Message} (hn : w.net = g :: r) : ∃ w1 out, PHear { w with net := r } g w1 out ∧ w' = { w1 with net := sendL r out } := by
  cases h with
  | bad h => exact absurd (.inr (.inr (.inr (.inl rfl)))) h
  | begin h => exact absurd h (by decide)
  | none _ h => exact absurd ⟨Int.le_refl 0, by rw [hn]; simp only [List.length_cons]; omega⟩ h
  | deliver _ j ha hj w1 out hh =>
    obtain rfl : j = 0 := by omega
    have e1 : delM w.net 0 = r := by rw [hn]; rfl
    have e2 : w.net[0] = g := by simp [hn]
    rw [e1, e2] at hh
    refine ⟨w1, out, hh, ?_⟩
    have hnet : w1.net = r := by cases hh <;> rfl
    rw [hnet]
  | fail h => exact absurd h (by decide)
  | drop h => exact absurd h (by decide)
  | copy h => exact absurd h (by decide)
  | full h => exact absurd h (by decide)
  | step h => exact absurd h (by decide)
  | tick h => exact absurd h (by decide)
  | crash h => exact absurd h (by decide)
def potL (l : List Message) : Nat := (l.map pot).sum
theorem pot_le {m : Message} : pot m ≤ 3 := by unfold pot; split; omega; split; omega; split <;> omega
theorem pot_pos {m : Message} : 1 ≤ pot m := by unfold pot; split; omega; split; omega; split <;> omega
theorem potL_le {l : List Message} : potL l ≤ 3 * l.length := by
  induction l with
  | nil => simp [potL]
  | cons m l ih =>
    have := pot_le (m := m)
    have e : potL (m :: l) = pot m + potL l := rfl
    rw [e, List.length_cons]; omega
theorem potL_app {a b : List Message} : potL (a ++ b) = potL a + potL b := by simp [potL, List.map_append, List.sum_append]
theorem WInv.one {n K m : Nat} {B : List BT} {w w' : PW} {e : Int} (I : WInv n K B w) (Q : Quiet w) (h : PPlay m w 2 0 [] w' e) {g : Message} {r : List Message} (hn : w.net = g :: r) :
    WInv n K B w' ∧ ∃ out, Dlv w w' g out ∧ w'.net = r ++ out := by
  obtain ⟨w1, out, hh, e1⟩ := h.first hn
  have hm : g ∈ w.net := by rw [hn]; exact List.mem_cons_self ..
  have hl : r.length < 64 := by have := I.nl; rw [hn, List.length_cons] at this; omega
  have I1 : WInv n K B { w with net := r } := I.less (fun x hx => by rw [hn]; exact List.mem_cons_of_mem _ hx) (by omega)
  have D := I1.dlv Q (I.J g hm).1 hh
  have ho : out.length ≤ 1 := by rcases D.len with h | ⟨r, h, _⟩ <;> rw [h] <;> simp
  have e2 : sendL r out = r ++ out := by rw [sendL_eq, List.take_of_length_le (by omega)]
  rw [e2] at e1
  subst e1
  exact ⟨I.quiet (by decide) h, out, ⟨D.q, D.len, D.u, D.v, D.k3, D.k4, D.k5⟩, rfl⟩
theorem dels_q {n K m : Nat} {B : List BT} {w : PW} (I : WInv n K B w) (Q : Quiet w) {j : Nat} {w' : PW} (h : Dels m w j w') : WInv n K B w' ∧ Quiet w' ∧ potL w'.net + j ≤ potL w.net := by
  induction h with
  | nil => exact ⟨I, Q, Nat.le_refl _⟩
  | @more j w1 w2 e hd hne hp ih =>
    obtain ⟨I1, Q1, h1⟩ := ih
    obtain ⟨g, r, hn⟩ := List.exists_cons_of_ne_nil hne
    obtain ⟨I2, out, D, e2⟩ := I1.one Q1 hp hn
    refine ⟨I2, D.q, ?_⟩
    have h3 : potL w1.net = pot g + potL r := by rw [hn]; rfl
    have h4 : potL out < pot g := by
      rcases D.len with h | ⟨o, h, hl, _⟩
      · rw [h]; have := pot_pos (m := g); exact this
      · rw [h]; show pot o + 0 < pot g; omega
    rw [e2, potL_app]
    omega
theorem dels_end {n K m : Nat} {B : List BT} {w : PW} (I : WInv n K B w) (Q : Quiet w) {j : Nat} {w' : PW} (h : Dels m w j w') (he : j = 2000 ∨ w'.net = []) : w'.net = [] := by
  obtain ⟨I', _, hp⟩ := dels_q I Q h
  have h1 := potL_le (l := w.net)
  have h2 := I.nl
  rcases he with rfl | he
  · omega
  · exact he
structure Cov (N0 : List Message) (w0 w : PW) : Prop where
  k1 : ∀ g ∈ w.net, g.Kind ≠ 1
  u : ∀ x p, PU (absW w) x p → PU (absW w0) x p
  v : ∀ x p, PV (absW w) x p → PV (absW w0) x p
  cu : ∀ x p, yesM x p ∈ N0 → PU (absW w) x p → ∃ g ∈ w.net, (g.Kind = 3 ∧ g.To = p ∧ g.Txn = x) ∨ (g.Kind = 4 ∧ g.From = p ∧ g.Txn = x)
  cv : ∀ x p, askX x p ∈ N0 → PV (absW w) x p → ∃ g ∈ w.net, (g.Kind = 5 ∧ g.From = p ∧ g.Txn = x) ∨ (g.Kind = 3 ∧ g.To = p ∧ g.Txn = x)
theorem dels_cov {n K m : Nat} {B : List BT} {N0 : List Message} {w0 w : PW} (I : WInv n K B w) (Q : Quiet w) (C : Cov N0 w0 w) {j : Nat} {w' : PW} (h : Dels m w j w') : Cov N0 w0 w' := by
  induction h with
  | nil => exact C
  | @more j w1 w2 e hd hne hp ih =>
    obtain ⟨I1, Q1, _⟩ := dels_q I Q hd
    obtain ⟨g, r, hn⟩ := List.exists_cons_of_ne_nil hne
    obtain ⟨I2, out, D, e2⟩ := I1.one Q1 hp hn
    have hg1 : g.Kind ≠ 1 := ih.k1 g (by rw [hn]; exact List.mem_cons_self ..)
    refine ⟨fun o ho => ?_, fun x p h => ih.u x p (D.u hg1 x p h), fun x p h => ih.v x p (D.v hg1 x p h), fun x p hN hU => ?_, fun x p hN hV => ?_⟩
    · rw [e2] at ho
      rcases List.mem_append.1 ho with ho | ho
      · exact ih.k1 o (by rw [hn]; exact List.mem_cons_of_mem _ ho)
      · rcases D.len with h | ⟨o', h, _, h1⟩
        · rw [h] at ho; cases ho
        · rw [h, List.mem_singleton] at ho; rw [ho]; exact h1
    · obtain ⟨o, ho, hk⟩ := ih.cu x p hN (D.u hg1 x p hU)
      rw [hn] at ho
      rcases List.mem_cons.1 ho with rfl | ho
      · rcases hk with ⟨k3, h1, h2⟩ | ⟨k4, h1, h2⟩
        · obtain ⟨_, a, ha, a1, a2, a3⟩ := D.k3 k3
          exact ⟨a, by rw [e2, ha]; simp, .inr ⟨a1, by rw [a2, h1], by rw [a3, h2]⟩⟩
        · have := D.k4 k4
          rw [h1, h2] at this
          exact absurd hU this
      · exact ⟨o, by rw [e2]; exact List.mem_append_left _ ho, hk⟩
    · obtain ⟨o, ho, hk⟩ := ih.cv x p hN (D.v hg1 x p hV)
      rw [hn] at ho
      rcases List.mem_cons.1 ho with rfl | ho
      · rcases hk with ⟨k5, h1, h2⟩ | ⟨k3, h1, h2⟩
        · obtain ⟨a, ha, a1, a2, a3⟩ := D.k5 k5
          exact ⟨a, by rw [e2, ha]; simp, .inr ⟨a1, by rw [a2, h1], by rw [a3, h2]⟩⟩
        · have := (D.k3 k3).1
          rw [h1, h2] at this
          exact absurd hV this
      · exact ⟨o, by rw [e2]; exact List.mem_append_left _ ho, hk⟩
theorem PPlay.isStep {m : Nat} {w w' : PW} {i : Nat} {e : Int} (h : PPlay m w 5 i [] w' e) (hi : i < w.ns.length) : w' = { setN w i ⟨w.ns[i].ps, stepS w.ns[i].cs w.now⟩ with net := sendL (sendL w.net (stepOut w.ns[i].cs w.now)) (askL w.ns[i].ps) } := by
  cases h with
  | bad h => exact absurd (.inr (.inl ⟨.inl rfl, by unfold isNode; omega⟩)) h
  | begin h => exact absurd h (by decide)
  | none h => exact absurd h (by decide)
  | deliver h => exact absurd h (by decide)
  | fail h => exact absurd h (by decide)
  | drop h => exact absurd h (by decide)
  | copy h => exact absurd h (by decide)
  | full h => exact absurd h (by decide)
  | step _ j ha hj =>
    obtain rfl : j = i := by omega
    rfl
  | tick h => exact absurd h (by decide)
  | crash h => exact absurd h (by decide)
theorem PPlay.isTick {m : Nat} {w w' : PW} {e : Int} (h : PPlay m w 6 8 [] w' e) : w' = { w with now := w'.now } ∧ (w'.now = w.now + 8 ∨ (w' = w ∧ 1073741824 < w.now + 8)) := by
  cases h with
  | bad h => exact ⟨rfl, .inr ⟨rfl, by refine Classical.byContradiction fun hc => h (.inr (.inr (.inl ⟨rfl, by decide, by omega⟩)))⟩⟩
  | begin h => exact absurd h (by decide)
  | none h => exact absurd h (by decide)
  | deliver h => exact absurd h (by decide)
  | fail h => exact absurd h (by decide)
  | drop h => exact absurd h (by decide)
  | copy h => exact absurd h (by decide)
  | full h => exact absurd h (by decide)
  | step h => exact absurd h (by decide)
  | tick _ h0 h => exact ⟨rfl, .inl rfl⟩
  | crash h => exact absurd h (by decide)
def QN (w : PW) (i : Nat) : Prop := ∀ q, w.ns[i]? = some q → ∀ k t, mget k q.cs.ts = some t → t.op = true
theorem quiet_of {n K : Nat} {B : List BT} {w : PW} (I : WInv n K B w) (h : ∀ i, i < w.ns.length → QN w i) : Quiet w := fun x t ht => by
  obtain ⟨b, hb, e, _⟩ := I.S.sb x t ht
  obtain ⟨i, hi, h1, _⟩ := I.bx b hb
  rw [st_at hi (by rw [← e]; exact h1)] at ht
  obtain ⟨t', ht', rfl⟩ := Option.map_eq_some_iff.1 ht
  exact h i hi _ (List.getElem?_eq_getElem hi) _ _ ht'
theorem step_qn {n K : Nat} {B : List BT} {w : PW} (I : WInv n K B w) {i : Nat} (hi : i < w.ns.length) {t0 : Int} (hb : ∀ k t, mget k w.ns[i].cs.ts = some t → t.op = false → t.began ≤ t0) (hl : t0 + 8 ≤ w.now) {k : K3} {t : TX} (hg : mget k (stepS w.ns[i].cs w.now).ts = some t) : t.op = true := by
  obtain ⟨h1, h2⟩ := (mget_filterT (I.N.C i hi).nd).1 hg
  cases ho : t.op with
  | true => rfl
  | false =>
    have h3 := hb k t h1 ho
    have : gaveUp t w.now := ⟨ho, by unfold lateT; omega⟩
    rw [decide_eq_true this] at h2
    cases h2
theorem round1 {n K m : Nat} {B : List BT} {w w' : PW} (I : WInv n K B w) (hn : n = 3) (hT : w.now + 8 ≤ 1073741824) (h : RoundR m w w') : WInv n K B w' ∧ Quiet w' ∧ w'.net = [] := by
  obtain ⟨w1, w2, w3, w4, e1, e2, e3, e4, p1, p2, p3, p4, j, hd, he⟩ := h
  have hlen := I.len
  obtain ⟨q1, q2⟩ := p1.isTick
  have hnow : w1.now = w.now + 8 := q2.resolve_right fun h => by omega
  have I1 := I.quiet (by decide) p1
  have I2 := I1.quiet (by decide) p2
  have I3 := I2.quiet (by decide) p3
  have I4 := I3.quiet (by decide) p4
  have hns : w1.ns = w.ns := by rw [q1]
  have hb0 : ∀ i (h : i < w1.ns.length) k t, mget k w1.ns[i].cs.ts = some t → t.op = false → t.began ≤ w.now := fun i h k t hg ho => by
    simp only [hns] at hg
    exact I.bg i (by rw [← hns]; exact h) k t hg ho
  have s2 := p2.isStep (i := 0) (by rw [I1.len, hn]; decide)
  have hw2 : w2.now = w1.now := by rw [s2]; rfl
  have h20 : QN w2 0 := fun q hq k t hg => by
    rw [s2] at hq
    have hq' : (w1.ns.set 0 _)[0]? = some q := hq
    rw [List.getElem?_set_self (by rw [I1.len, hn]; decide)] at hq'
    cases hq'
    exact step_qn I1 (by rw [I1.len, hn]; decide) (hb0 0 (by rw [I1.len, hn]; decide)) (by omega) hg
  have hb2 : ∀ i, i ≠ 0 → w2.ns[i]? = w1.ns[i]? := fun i hi => by
    rw [s2]
    exact List.getElem?_set_ne (Ne.symm hi)
  have s3 := p3.isStep (i := 1) (by rw [I2.len, hn]; decide)
  have hw3 : w3.now = w2.now := by rw [s3]; rfl
  have h31 : QN w3 1 := fun q hq k t hg => by
    rw [s3] at hq
    have hq' : (w2.ns.set 1 _)[1]? = some q := hq
    rw [List.getElem?_set_self (by rw [I2.len, hn]; decide)] at hq'
    cases hq'
    refine step_qn I2 (by rw [I2.len, hn]; decide) (t0 := w.now) (fun k t hg ho => ?_) (by omega) hg
    have h12 := hb2 1 (by decide)
    rw [List.getElem?_eq_getElem (by rw [I2.len, hn]; decide), List.getElem?_eq_getElem (by rw [I1.len, hn]; decide)] at h12
    rw [Option.some.inj h12] at hg
    exact hb0 1 _ k t hg ho
  have hb3 : ∀ i, i ≠ 1 → w3.ns[i]? = w2.ns[i]? := fun i hi => by
    rw [s3]
    exact List.getElem?_set_ne (Ne.symm hi)
  have s4 := p4.isStep (i := 2) (by rw [I3.len, hn]; decide)
  have h42 : QN w4 2 := fun q hq k t hg => by
    rw [s4] at hq
    have hq' : (w3.ns.set 2 _)[2]? = some q := hq
    rw [List.getElem?_set_self (by rw [I3.len, hn]; decide)] at hq'
    cases hq'
    refine step_qn I3 (by rw [I3.len, hn]; decide) (t0 := w.now) (fun k t hg ho => ?_) (by omega) hg
    have h12 := (hb3 2 (by decide)).trans (hb2 2 (by decide))
    rw [List.getElem?_eq_getElem (by rw [I3.len, hn]; decide), List.getElem?_eq_getElem (by rw [I1.len, hn]; decide)] at h12
    rw [Option.some.inj h12] at hg
    exact hb0 2 _ k t hg ho
  have hb4 : ∀ i, i ≠ 2 → w4.ns[i]? = w3.ns[i]? := fun i hi => by
    rw [s4]
    exact List.getElem?_set_ne (Ne.symm hi)
  have Q4 : Quiet w4 := quiet_of I4 fun i hi => by
    rw [I4.len, hn] at hi
    match i, hi with
    | 0, _ => exact fun q hq => h20 q (by rw [← hb3 0 (by decide), ← hb4 0 (by decide)]; exact hq)
    | 1, _ => exact fun q hq => h31 q (by rw [← hb4 1 (by decide)]; exact hq)
    | 2, _ => exact h42
    | _ + 3, h => omega
  obtain ⟨I5, Q5, _⟩ := dels_q I4 Q4 hd
  exact ⟨I5, Q5, dels_end I4 Q4 hd he⟩
theorem step_q {n K m : Nat} {B : List BT} {w w' : PW} (I : WInv n K B w) (Q : Quiet w) {i : Nat} (hi : i < w.ns.length) {e : Int} (h : PPlay m w 5 i [] w' e) : w' = { w with net := sendL w.net (sayN w.ns[i]) } := by
  rw [h.isStep hi]
  have ho := Q.op I hi
  have e1 : stepS w.ns[i].cs w.now = w.ns[i].cs := by
    unfold stepS
    have : (w.ns[i].cs.ts.filter fun q => !decide (gaveUp q.2 w.now)) = w.ns[i].cs.ts := List.filter_eq_self.2 fun q hq => by
      have := ho q.1 q.2 (mget_of_mem (I.N.C i hi).nd hq)
      simp only [Bool.not_eq_true', decide_eq_false_iff_not]
      intro hg
      rw [hg.1] at this; cases this
    rw [this]
  have e2 : stepOut w.ns[i].cs w.now = (allC w.ns[i].cs).flatMap fun k => againL w.ns[i].cs.node (toTx k) ((mget k w.ns[i].cs.ts).getD zTX) := by
    unfold stepOut
    rw [List.flatMap_def, List.flatMap_def]
    congr 1
    refine List.map_congr_left fun k hk => ?_
    rw [mem_allC] at hk
    obtain ⟨t, ht⟩ := Option.isSome_iff_exists.1 hk
    unfold stepOut1
    rw [if_neg]
    rw [ht, Option.getD_some]
    intro hg
    have := ho k t ht
    rw [hg.1] at this; cases this
  rw [e1, set_self hi, e2]
  have : ∀ {a b c : List Message}, sendL (sendL a b) c = sendL a (b ++ c) := fun {a b c} => by unfold sendL; rw [List.foldl_append]
  rw [this]
  rfl
theorem round2 {n K m : Nat} {B : List BT} {w w' : PW} (I : WInv n K B w) (hn : n = 3) (Q : Quiet w) (h0 : w.net = []) (h : RoundR m w w') : WInv n K B w' ∧ Quiet w' ∧ w'.net = [] ∧ (sayW w').length ≤ (sayW w).length - 64 := by
  obtain ⟨w1, w2, w3, w4, e1, e2, e3, e4, p1, p2, p3, p4, j, hd, he⟩ := h
  have hlen := I.len
  obtain ⟨q1, _⟩ := p1.isTick
  have I1 := I.quiet (by decide) p1
  have hns : w1.ns = w.ns := by rw [q1]
  have habs : absW w1 = absW w := by rw [q1]; rfl
  have Q1 : Quiet w1 := fun x t ht => Q x t (by rw [← habs]; exact ht)
  have hnet1 : w1.net = [] := by rw [q1]; exact h0
  have s2 := step_q I1 Q1 (i := 0) (by rw [I1.len, hn]; decide) p2
  have I2 := I1.quiet (by decide) p2
  have Q2 : Quiet w2 := by rw [s2]; exact Q1
  have s3 := step_q I2 Q2 (i := 1) (by rw [I2.len, hn]; decide) p3
  have I3 := I2.quiet (by decide) p3
  have Q3 : Quiet w3 := by rw [s3]; exact Q2
  have s4 := step_q I3 Q3 (i := 2) (by rw [I3.len, hn]; decide) p4
  have I4 := I3.quiet (by decide) p4
  have Q4 : Quiet w4 := by rw [s4]; exact Q3
  have hns2 : w2.ns = w.ns := by rw [s2]; exact hns
  have hns3 : w3.ns = w.ns := by rw [s3]; exact hns2
  have hns4 : w4.ns = w.ns := by rw [s4]; exact hns3
  have h2 : absW w2 = absW w1 := by rw [s2]; rfl
  have h3 : absW w3 = absW w2 := by rw [s3]; rfl
  have h4 : absW w4 = absW w := (show absW w4 = absW w3 by rw [s4]; rfl).trans (h3.trans (h2.trans habs))
  obtain ⟨a, b, c, habc⟩ : ∃ a b c, w.ns = [a, b, c] := by
    have h3 : w.ns.length = 3 := hlen.trans hn
    match w.ns, h3 with
    | [a, b, c], _ => exact ⟨a, b, c, rfl⟩
  have hnet : w4.net = (sayW w).take 64 := by
    have f1 : w2.net = sendL [] (sayN a) := by rw [s2]; simp only [hnet1, hns, habc, List.getElem_cons_zero]
    have f2 : w3.net = sendL (sendL [] (sayN a)) (sayN b) := by rw [s3]; simp only [f1, hns2, habc, List.getElem_cons_succ, List.getElem_cons_zero]
    have f3 : w4.net = sendL (sendL (sendL [] (sayN a)) (sayN b)) (sayN c) := by rw [s4]; simp only [f2, hns3, habc, List.getElem_cons_succ, List.getElem_cons_zero]
    have f4 : sendL (sendL (sendL [] (sayN a)) (sayN b)) (sayN c) = sendL [] (sayN a ++ sayN b ++ sayN c) := by unfold sendL; rw [List.foldl_append, List.foldl_append]
    rw [f3, f4, sendL_eq]
    unfold sayW
    rw [habc]
    simp
  have C0 : Cov ((sayW w).take 64) w w4 := by
    refine ⟨fun g hg => ?_, fun x p h => by rw [← h4]; exact h, fun x p h => by rw [← h4]; exact h, fun x p hN _ => ⟨_, by rw [hnet]; exact hN, .inl ⟨rfl, rfl, rfl⟩⟩, fun x p hN _ => ⟨_, by rw [hnet]; exact hN, .inl ⟨rfl, rfl, rfl⟩⟩⟩
    rw [hnet] at hg
    obtain ⟨x, p, ⟨_, rfl⟩ | ⟨_, rfl⟩⟩ := (mem_sayW I Q).1 (List.mem_of_mem_take hg)
    · show (3 : Int) ≠ 1; decide
    · show (5 : Int) ≠ 1; decide
  have C := dels_cov I4 Q4 C0 hd
  obtain ⟨I5, Q5, _⟩ := dels_q I4 Q4 hd
  have hend := dels_end I4 Q4 hd he
  refine ⟨I5, Q5, hend, ?_⟩
  have hsub : ∀ g ∈ sayW w', g ∈ (sayW w).drop 64 := fun g hg => by
    have hin : g ∈ sayW w ∧ g ∉ (sayW w).take 64 := by
      obtain ⟨x, p, ⟨hU, rfl⟩ | ⟨hV, rfl⟩⟩ := (mem_sayW I5 Q5).1 hg
      · refine ⟨(mem_sayW I Q).2 ⟨x, p, .inl ⟨C.u x p hU, rfl⟩⟩, fun hN => ?_⟩
        obtain ⟨o, ho, _⟩ := C.cu x p hN hU
        rw [hend] at ho; cases ho
      · refine ⟨(mem_sayW I Q).2 ⟨x, p, .inr ⟨C.v x p hV, rfl⟩⟩, fun hN => ?_⟩
        obtain ⟨o, ho, _⟩ := C.cv x p hN hV
        rw [hend] at ho; cases ho
    have h9 := hin.1
    rw [← List.take_append_drop 64 (sayW w)] at h9
    exact (List.mem_append.1 h9).resolve_left hin.2
  have := nodup_sub_len (sayW_nodup I5 Q5) hsub
  rwa [List.length_drop] at this
inductive Rounds (m : Nat) (w : PW) : Nat → PW → Prop
  | nil : Rounds m w 0 w
  | more {k : Nat} {w' w'' : PW} (h : Rounds m w k w') (hr : RoundR m w' w'') : Rounds m w (k + 1) w''
theorem PPlay.nowUp {m : Nat} {w w' : PW} {k a e : Int} {works : List Work} (h : PPlay m w k a works w' e) : w.now ≤ w'.now ∧ (k ≠ 6 → w'.now = w.now) := by
  cases h with
  | deliver h1 j ha hj w1 out hh => cases hh <;> exact ⟨Int.le_refl _, fun _ => rfl⟩
  | fail h1 j ha hj w1 w2 out hh i hi hc => cases hc; cases hh <;> exact ⟨Int.le_refl _, fun _ => rfl⟩
  | crash h1 i ha hi _ hc => cases hc; exact ⟨Int.le_refl _, fun _ => rfl⟩
  | tick hk h0 h => exact ⟨by simp only; omega, fun h => absurd hk h⟩
  | _ => exact ⟨Int.le_refl _, fun _ => rfl⟩
theorem Dels.now {m : Nat} {w w' : PW} {j : Nat} (h : Dels m w j w') : w.now ≤ w'.now := by
  induction h with
  | nil => exact Int.le_refl _
  | more _ _ hp ih => exact Int.le_trans ih hp.nowUp.1
theorem RoundR.now {m : Nat} {w w' : PW} (h : RoundR m w w') : w.now ≤ w'.now := by
  obtain ⟨w1, w2, w3, w4, e1, e2, e3, e4, p1, p2, p3, p4, j, hd, _⟩ := h
  have := p1.nowUp.1; have := p2.nowUp.1; have := p3.nowUp.1; have := p4.nowUp.1; have := hd.now
  omega
theorem Rounds.now {m : Nat} {w w' : PW} {k : Nat} (h : Rounds m w k w') : w.now ≤ w'.now := by
  induction h with
  | nil => exact Int.le_refl _
  | more _ hp ih => exact Int.le_trans ih hp.now
theorem rounds_q {n K m : Nat} {B : List BT} {w w' : PW} (I : WInv n K B w) (hn : n = 3) (hT : w.now + 8 ≤ 1073741824) {k : Nat} (h : Rounds m w (k + 1) w') : WInv n K B w' ∧ Quiet w' ∧ w'.net = [] ∧ (sayW w').length ≤ 2 * n * B.length - 64 * k := by
  induction k generalizing w' with
  | zero =>
    cases h with
    | more h0 hr =>
      cases h0
      obtain ⟨a, b, c⟩ := round1 I hn hT hr
      exact ⟨a, b, c, say_len a b⟩
  | succ k ih =>
    cases h with
    | more h0 hr =>
      obtain ⟨a, b, c, d⟩ := ih h0
      obtain ⟨a', b', c', d'⟩ := round2 a hn b c hr
      exact ⟨a', b', c', by omega⟩
theorem settled {n K : Nat} {B : List BT} {w : PW} (I : WInv n K B w) (Q : Quiet w) (h : sayW w = []) {i : Nat} (hi : i < w.ns.length) : votingL w.ns[i].cs = [] ∧ openL w.ns[i].cs = [] ∧ prepL w.ns[i].ps.t = [] := by
  have ho := Q.op I hi
  have hno : ∀ m, m ∉ sayN w.ns[i] := fun m hm => by
    have : m ∈ sayW w := List.mem_flatMap.2 ⟨_, List.getElem_mem hi, hm⟩
    rw [h] at this; cases this
  have hts : ∀ k, mget k w.ns[i].cs.ts = none := fun k => by
    cases hg : mget k w.ns[i].cs.ts with
    | none => rfl
    | some t =>
      have T := (I.N.C i hi).ti k t hg
      have hn : ¬ t.parts.length ≤ t.heard.length := by have := T.hl; omega
      rw [all_heard (t := t) T.parts_nodup T.hn fun q hq => (T.hp q hq).1] at hn
      obtain ⟨p, hp⟩ := Classical.not_forall.1 hn
      rw [Classical.not_imp] at hp
      exfalso
      refine hno (decM w.ns[i].cs.node (toTx k) p true) (List.mem_append_left _ (List.mem_flatMap.2 ⟨k, mem_allC.2 (by rw [hg]; rfl), ?_⟩))
      rw [hg, Option.getD_some, mem_again (ho k t hg)]
      exact ⟨p, hp.1, by unfold TX.hd; simpa using hp.2, rfl⟩
  have hall : allC w.ns[i].cs = [] := List.eq_nil_iff_forall_not_mem.2 fun k hk => by
    rw [mem_allC, hts k] at hk; cases hk
  refine ⟨by unfold votingL; rw [hall]; rfl, by unfold openL; rw [hall]; rfl, ?_⟩
  have ha : askL w.ns[i].ps = [] := List.eq_nil_iff_forall_not_mem.2 fun m hm => hno m (List.mem_append_right _ hm)
  unfold askL at ha
  exact List.map_eq_nil_iff.1 ha
end Go.Proofs.YtpphdbnifbjfmaaGreatDoor
