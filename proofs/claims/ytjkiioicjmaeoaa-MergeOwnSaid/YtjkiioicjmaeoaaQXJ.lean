/- A company: what a goroutine's own step leaves of what is held. No program in sight. -/
import Derived.Test.YtjkiioicjmaeoaaQXI
set_option linter.unusedVariables false
set_option linter.unusedSimpArgs false
namespace Go.X
open Go Go.Sx Go.Conc Go.ConcN
open Go.ConcR (KK wgBlock WgAt stA smA rd wr mk Payload Bk)
section
variable {P : Program} {Post : Value → World → Prop} {W0 : World}
theorem own_mem {f : Cf} {a : Goroutine} {x : XW Gh} (h : Inv1 P Post W0 f a x) {i : Nat} (hi : i ≤ f.k) {w' : World} {u : Trace} {m' : Heap} (hfr : ∀ b, b < f.w.heap.size → f.o.M i b = none → ¬ f.o.Sh b → w'.heap[b]? = f.w.heap[b]?)
    (hsz : f.w.heap.size ≤ w'.heap.size) (hm' : m'.le (rp w')) (hnew : ∀ b, m' b ≠ none → f.o.M i b ≠ none ∨ f.w.heap.size ≤ b) (hu : ∀ op ∈ u, op.g = i) (hmay : ∀ op ∈ u, ∀ t, op.act.touch? = some t → f.o.May f.w.heap.size i t)
    (hsd : ∀ op ∈ u, ∀ a, op.act.touch? = some a → a.kind = .said → i = 0) (hlow : ∀ op ∈ u, LowT w'.heap.size op.act) (hc : i = 0 ∨ f.o.lv i ∨ ∀ y, f.t.size ≤ y → (f.t ++ u).g? y = some i → ¬ (f.t ++ u).counts y) :
    Own4.Apart { f.o with M := ConcN.upd f.o.M i m' } w'.heap.size ∧ (∀ j, (ConcN.upd f.o.M i m' j).le (rp w')) ∧ f.o.base.le (rp w') ∧ f.o.win.le (rp w') ∧ TOk { f.o with M := ConcN.upd f.o.M i m' } w'.heap.size (f.t ++ u) := by
  have hA := h.apart
  have hlt : ∀ b, m' b ≠ none → b < w'.heap.size := fun b hb => by
    cases hmb : m' b with
    | none => exact absurd hmb hb
    | some o => exact (Array.getElem?_eq_some_iff.1 (hm' b o hmb)).1
  have keep : ∀ (H : Heap), H.le (rp f.w) → (∀ b, H b ≠ none → f.o.M i b = none ∧ ¬ f.o.Sh b) → H.le (rp w') := fun H hH hd b o hb => by
    have hne : H b ≠ none := by rw [hb]; simp
    have hl := (Array.getElem?_eq_some_iff.1 (hH b o hb)).1
    show w'.heap[b]? = some o
    rw [hfr b hl (hd b hne).1 (hd b hne).2]
    exact hH b o hb
  refine ⟨⟨fun g g' b hne hb => ?_, fun g b hb => ?_, fun b hb => ⟨(hA.base b hb).1, (hA.base b hb).2.1, by have := (hA.base b hb).2.2; omega⟩, fun b hb => ⟨(hA.win b hb).1, by have := (hA.win b hb).2; omega⟩, hA.lv, fun b hb => by have := hA.sh b hb; omega, hA.ac⟩, fun j => ?_, ?_, ?_, ?_⟩
  · simp only [ConcN.upd] at hb ⊢
    by_cases e : g = i
    · subst e
      rw [if_pos rfl] at hb
      rw [if_neg (Ne.symm hne)]
      rcases hnew b hb with h1 | h1
      · exact hA.own g g' b hne h1
      · cases hM : f.o.M g' b with
        | none => rfl
        | some o => have := (hA.mem g' b (by rw [hM]; simp)).2.2.2; omega
    · rw [if_neg e] at hb
      by_cases e' : g' = i
      · subst e'
        rw [if_pos rfl]
        cases hmb : m' b with
        | none => rfl
        | some o =>
          rcases hnew b (by rw [hmb]; simp) with h1 | h1
          · exact absurd (hA.own g' g b (Ne.symm hne) h1) hb
          · have := (hA.mem g b hb).2.2.2; omega
      · rw [if_neg e']; exact hA.own g g' b hne hb
  · simp only [ConcN.upd] at hb
    by_cases e : g = i
    · subst e
      rw [if_pos rfl] at hb
      have hl := hlt b hb
      rcases hnew b hb with h1 | h1
      · have := hA.mem g b h1; exact ⟨this.1, this.2.1, this.2.2.1, hl⟩
      · refine ⟨?_, ?_, fun hs => ?_, hl⟩
        · cases hB : f.o.base b with
          | none => rfl
          | some o => have := (hA.base b (by rw [hB]; simp)).2.2; omega
        · cases hB : f.o.win b with
          | none => rfl
          | some o => have := (hA.win b (by rw [hB]; simp)).2; omega
        · have := hA.sh b hs; omega
    · rw [if_neg e] at hb
      have := hA.mem g b hb
      exact ⟨this.1, this.2.1, this.2.2.1, by omega⟩
  · simp only [ConcN.upd]
    split
    · exact hm'
    · rename_i e
      exact keep _ (h.mem j) fun b hb => ⟨by
        cases hM : f.o.M i b with
        | none => rfl
        | some o => exact absurd (hA.own i j b (Ne.symm e) (by rw [hM]; simp)) hb, (hA.mem j b hb).2.2.1⟩
  · exact keep _ h.mbase fun b hb => ⟨by
      cases hM : f.o.M i b with
      | none => rfl
      | some o => exact absurd (hA.mem i b (by rw [hM]; simp)).1 hb, (hA.base b hb).2.1⟩
  · exact keep _ h.mwin fun b hb => ⟨by
      cases hM : f.o.M i b with
      | none => rfl
      | some o => exact absurd (hA.mem i b (by rw [hM]; simp)).2.1 hb, (hA.win b hb).1⟩
  · exact h.tok.app hA (by rw [h.ok]; exact hi) hu hmay hsd hlow hsz hnew hc
theorem blk_ofEvent {e : Event} {t : Touch} (h : (MemAct.ofEvent e).touch? = some t) : (t.loc = e.loc ∧ t.write = e.write ∧ t.kind ≠ .said) ∨ (∃ a, (e.loc = .mark (.read a) ∨ e.loc = .mark (.write a)) ∧ t.loc = .cell a ∧ t.kind = .said) := by
  obtain ⟨loc, w, s⟩ := e
  cases loc with
  | mark m =>
    cases m <;> simp [MemAct.ofEvent, MemAct.touch?] at h
    all_goals (subst h; right; exact ⟨_, by simp, rfl, rfl⟩)
  | obj r => cases w <;> cases s <;> simp [MemAct.ofEvent, MemAct.touch?] at h <;> subst h <;> simp
  | _ => cases s <;> simp [MemAct.ofEvent, MemAct.touch?] at h <;> subst h <;> simp
theorem may_mine {o : Own4} {sz i : Nat} {m : Heap} {e : Event} (hm : m = o.M i) (h : Mine m sz e) {t : Touch} (ht : (MemAct.ofEvent e).touch? = some t) : o.May sz i t := by
  intro b hb
  subst hm
  rcases blk_ofEvent ht with ⟨h1, _, _⟩ | ⟨a, h1, h2, _⟩
  · rw [h1] at hb
    unfold Mine at h
    split at h
    · rename_i a hl; rw [hl] at hb; cases hb; exact .inl h
    · rename_i r hl; rw [hl] at hb; cases hb; exact .inl h
    · rename_i k hl; rw [hl] at hb; cases hb
    · exact h.elim
  · unfold Mine at h
    rcases h1 with h1 | h1 <;> rw [h1] at h <;> cases h
theorem said_loc {e : Event} {t : Touch} (ht : (MemAct.ofEvent e).touch? = some t) (h : t.kind = .said) : ∃ a, e.loc = .mark (.read a) ∨ e.loc = .mark (.write a) := by
  rcases blk_ofEvent ht with ⟨_, _, h1⟩ | ⟨a, h1, _⟩
  · exact absurd h h1
  · exact ⟨a, h1⟩
theorem mine_quiet {m : Heap} {sz : Nat} {e : Event} (h : Mine m sz e) : e.loc ≠ .mark .disable ∧ e.loc ≠ .mark .enable ∧ ∀ a, e.loc ≠ .mark (.release a) := by
  unfold Mine at h
  refine ⟨fun hl => ?_, fun hl => ?_, fun a hl => ?_⟩ <;> rw [hl] at h <;> cases h
theorem ofEvents_mem {g : Nat} {fn : FuncId} {pos : String} {es : Array Event} {op : MemOp} (h : op ∈ MemOp.ofEvents g fn pos es) : ∃ e ∈ es, op = { g, fn, pos, act := .ofEvent e } := Go.Conc.mem_ofEvents h
theorem mode7 {k : Nat} {D : Nat → WD} {tag : CTag} {st sm : Int} (h : ConcN.Mode k D tag st sm) {i : Nat} (hi : i < k) (h7 : (D i).stage = 7) : sm = 0 := by
  cases h with
  | opn => rfl
  | reg => rfl
  | last L _ h2 h3 h4 => rfl
  | sema h2 => have := h2 i hi; omega
  | fin _ h2 => rfl
theorem BSit.rely {c : Co} {s g d : Nat} {r : Goroutine} {w w' : World} (h : BSit P c s g d r w) (hb : ∀ b, c.base b ≠ none → w'.heap[b]? = w.heap[b]?) (hl : WgLive c.ty c.wg w → WgLive c.ty c.wg w') (h7 : s = 7 → w'.cell? (smA c.wg) = w.cell? (smA c.wg) ∧ WgLive c.ty c.wg w) : BSit P c s g d r w' := by
  obtain ⟨C, cs, T, fz, v, h1, h2, h3, h4⟩ := h
  have e := hb C (by rw [h1]; simp)
  refine ⟨C, cs, T, fz, v, h1, h2, h3.rely ⟨fun b hb => by omega, hl, fun ⟨cs', h4, h5⟩ => ⟨cs', e.trans h4, h5⟩, ?_⟩, fun hs => (h4 hs).rely ⟨fun b hb => by omega, hl, fun ⟨cs', h6, h7'⟩ => ?_, (h7 hs).1⟩⟩
  · simp [World.cell?, e]
  · obtain ⟨st, sm, h8⟩ := (h7 hs).2
    rw [h8] at h6
    simp only [wgBlock, Option.some.injEq, Obj.cells.injEq] at h6
    rw [← h6.1] at h7'
    simp at h7'
theorem BSit.status {c : Co} {s g d : Nat} {r : Goroutine} {w : World} (h : BSit P c s g d r w) : r.status = .running ∨ r.status = .finished := let ⟨_, _, _, _, _, _, _, h3, _⟩ := h; h3.status
theorem BSit.woken {c : Co} {s g d : Nat} {r : Goroutine} {w : World} (h : BSit P c s g d r w) (a a' : Goroutine) (w' : World) : Go.Conc.woken P a a' w' r = r := let ⟨_, _, _, _, _, _, _, h3, _⟩ := h; h3.woken a a' w'
theorem sm_same {ty : TypeId} {wg k : Nat} {D D' : Nat → WD} {tag tag' : CTag} {w w' : World} {i : Nat} (hi : i < k) (h7 : (D i).stage = 7) (h : ∃ st sm, WgAt ty wg w st sm ∧ ConcN.Mode k D tag st sm) (h' : ∃ st sm, WgAt ty wg w' st sm ∧ ConcN.Mode k D' tag' st sm) (hD : (D' i).stage = (D i).stage := by rfl) : w'.cell? (smA wg) = w.cell? (smA wg) ∧ WgLive ty wg w := by
  obtain ⟨st, sm, h1, h2⟩ := h
  obtain ⟨st', sm', h1', h2'⟩ := h'
  refine ⟨?_, st, sm, h1⟩
  have e1 := h1.cellSm
  have e2 := h1'.cellSm
  rw [mode7 h2 hi h7] at e1
  rw [mode7 h2' hi (hD.trans h7)] at e2
  exact e2.trans e1.symm
theorem Inv2.rel_lt {f : Cf} {x : XW Gh} {c : Co} {j0 : Nat} (h : Inv2 P f x c j0) {i r : Nat} (hr : f.o.rl i r) : r < f.t.size := lt_of_act? (h.rel i r hr).2.2.2.act
theorem inv2_next {f f' : Cf} {x x' : XW Gh} {c c' : Co} {j0 : Nat} {u : Trace} (h : Inv2 P f x c j0) (hc : c'.ty = c.ty ∧ c'.ech = c.ech ∧ c'.wg = c.wg ∧ c'.base = c.base ∧ c'.win = c.win ∧ c'.wn = c.wn ∧ c'.snd = c.snd ∧ (c.shut = true → c'.shut = true))
    (hk : f'.k = f.k) (hph : ∀ i, f'.ph i = f.ph i ∨ (∃ p p', f.ph i = .A p ∧ f'.ph i = .A p') ∨ ∃ q q', f.ph i = .Q q ∧ f'.ph i = .Q q') (hF : ∀ i, 1 ≤ i → (f'.F i).2.s = (f.F i).2.s)
    (ho : f'.o.base = f.o.base ∧ f'.o.win = f.o.win ∧ f'.o.wi = f.o.wi ∧ f'.o.Sh = f.o.Sh ∧ f'.o.rl = f.o.rl ∧ f'.o.ac = f.o.ac)
    (hheap : ∀ b, (f.o.Sh b ∨ f.o.base b ≠ none) → b ≠ c.wg → b ≠ c.ech → f'.w.heap[b]? = f.w.heap[b]?) (hbase : ∀ b, c.base b ≠ none → b ≠ c.wg ∧ b ≠ c.ech)
    (hech : ∃ s r, f'.w.heap[c.ech]? = some (.chan 0 #[] c'.shut s r false))
    (hmode : ∃ st sm, WgAt c.ty c.wg f'.w st sm ∧ ConcN.Mode f.k f.D (tagOf (match f'.mb with | .blk => true | _ => false) c'.st) st sm) (hpark : ∀ i, f'.mb = .park i → ∃ q, f'.ph (j0 + 1 + i) = .A false ∧ (f'.F (j0 + 1 + i)).2.s = .snd q ∧ q.closed = false ∧ i < c.snd.length) (hbnd : ∀ n, c'.st = .w0 n → Vc f.k f.D ≤ n)
    (hshut : shutAt c'.shut c'.st) (hopen : openAt c'.shut c'.wn c'.st)
    (hpk : ∀ i, 1 ≤ i → i ≤ f.k → f'.ph i = .A true → c'.shut = false) (ht : f'.t = f.t ++ u) (hdf : ∀ i s g d, 1 ≤ i → f.ph i = .B s g d → Deaf (f.t ++ u) i = Deaf f.t i)
    (hwin : ∀ y a b, f.t.size ≤ y → touchAt (f.t ++ u) y = some a → blk a.loc = some b → c.win b ≠ none → Knows (f.t ++ u) 0 y ∨ (∃ q, (f.F f.k).2.s = .snd q ∧ q.closed = false ∧ (f.ph f.k).isA))
    (hrel : ∀ i r, f.o.rl i r → RelBy (stA c.wg) f.t i r → RelBy (stA c.wg) (f.t ++ u) i r) (hnor : ∀ op ∈ u, op.act ≠ .mark (.release (stA c.wg)))
    (hgs : ∀ i s g d r, 1 ≤ i → f.ph i = .B s g d → f.gs[i]? = some r → (∀ a a' w', Go.Conc.woken P a a' w' r = r) → f'.gs[i]? = some r) (hacq : c'.st = .done → ∀ i r, f.o.rl i r → Knows (f.t ++ u) 0 r) : Inv2 P f' x' c' j0 := by
  obtain ⟨e1, e2, e3, e4, e5, e6, e7, e8⟩ := hc
  obtain ⟨o1, o2, o3, o4, o5, o6⟩ := ho
  have hL : ∀ i, (f'.ph i).isL ↔ (f.ph i).isL := fun i => by
    rcases hph i with h1 | ⟨p, p', h1, h2⟩ | ⟨p, p', h1, h2⟩
    · rw [h1]
    · rw [h1, h2]; exact Iff.rfl
    · rw [h1, h2]; exact Iff.rfl
  have hA : ∀ i, (f'.ph i).isA ↔ (f.ph i).isA := fun i => by
    rcases hph i with h1 | ⟨p, p', h1, h2⟩ | ⟨p, p', h1, h2⟩
    · rw [h1]
    · rw [h1, h2]; exact Iff.rfl
    · rw [h1, h2]; exact Iff.rfl
  have hD : f'.D = f.D := by
    funext i
    rcases hph (i + 1) with h1 | ⟨p, p', h1, h2⟩ | ⟨p, p', h1, h2⟩
    · simp [Cf.D, h1]
    · simp [Cf.D, h1, h2, Ph.wd]
    · simp [Cf.D, h1, h2, Ph.wd]
  have hlive : WgLive c.ty c.wg f'.w := let ⟨st, sm, h1, _⟩ := hmode; ⟨st, sm, h1⟩
  have clos : ∀ {ch i : Nat}, (∃ p, f.t.act? p = some (.close ch) ∧ f.t.heard p ∧ (c.wn = true → i + 1 = c.snd.length → ∀ y a b, touchAt f.t y = some a → blk a.loc = some b → c.win b ≠ none → Knows f.t 0 y ∨ Before f.t y p)) →
      (c.wn = true → i + 1 = c.snd.length → ¬ ∃ q, (f.F f.k).2.s = .snd q ∧ q.closed = false ∧ (f.ph f.k).isA) →
      ∃ p, f'.t.act? p = some (.close ch) ∧ f'.t.heard p ∧ (c.wn = true → i + 1 = c.snd.length → ∀ y a b, touchAt f'.t y = some a → blk a.loc = some b → c.win b ≠ none → Knows f'.t 0 y ∨ Before f'.t y p) := by
    rintro ch i ⟨p, h1, h2, h3⟩ hno
    have hp := lt_of_act? h1
    rw [ht]
    refine ⟨p, by rw [act?_old hp]; exact h1, (heard_old hp).2 h2, fun hw hl y a b ha hb hbb => ?_⟩
    rcases touch_cases ha with ⟨hlt, ha'⟩ | ⟨hge, _⟩
    · exact (h3 hw hl y a b ha' hb hbb).imp (·.app u) (·.app u)
    · exact (hwin y a b hge ha hb hbb).imp id fun hq => absurd hq (hno hw hl)
  refine ⟨by rw [hk, e7]; exact h.k, fun i hi hj => ?_, by rw [o1, e4]; exact h.base, by rw [o2, e5]; exact h.win, fun hw => by rw [o3, hk, e7]; exact h.wi (e6 ▸ hw), fun hw => by rw [e5]; exact h.wn (e6 ▸ hw), ⟨by rw [o4, e2]; exact h.ech.1, by rw [e2]; exact hech⟩, by rw [o4, e3, e2]; exact h.wg,
    by rw [hk, hD, e1, e3]; exact hmode, fun i hi => by rw [e7]; exact hpark i hi, fun n hn => by rw [hk, hD]; exact hbnd n hn, hshut, hopen, fun i s hs => ?_, fun i h1 h2 h3 => hpk i h1 (hk ▸ h2) h3, fun i s pk hs hp => ?_, fun i s hs hp => ?_, fun i s g d hp hj hi => ?_, fun i s g d hp hj hi hs => ?_, fun i r hr => ?_, ?_, fun hd i r hr => ?_, by rw [e7]; exact h.few, fun i s hs => by rw [e7] at hs; rw [o6, e2, e3]; exact h.ac i s hs⟩
  · rcases hph i with h1 | ⟨p, p', h1, h2⟩ | ⟨p, p', h1, h2⟩
    rotate_right
    · rw [h2]; trivial
    · rw [h1]; exact h.old i hi hj
    · have := h.old i hi hj; rw [h1] at this; exact this.elim
  · rw [e7] at hs ⊢; rw [o4, e2, e3]; exact h.ch i s hs
  · rw [e7] at hs
    have hAi : (f.ph (j0 + 1 + i)).isA := (hA _).1 (by rw [hp]; trivial)
    obtain ⟨pk', hpk'⟩ : ∃ pk', f.ph (j0 + 1 + i) = .A pk' := by
      cases hh : f.ph (j0 + 1 + i) with
      | A p => exact ⟨p, rfl⟩
      | B _ _ _ => rw [hh] at hAi; exact hAi.elim
      | Q _ => rw [hh] at hAi; exact hAi.elim
    obtain ⟨q, q1, q2, q3, q4, q5, q6, q7, q8, q9, q10, q11, q12⟩ := h.cha i s pk' hs hpk'
    obtain ⟨k1, k2, k3, _⟩ := h.ch i s hs
    refine ⟨q, by rw [hF _ (by omega)]; exact q1, by rw [e1]; exact q2, by rw [e2]; exact q3, by rw [e3]; exact q4, by rw [e4]; exact q5, q6, q7, fun hh => e8 (q8 hh), q9, fun hh => by rw [e6, e7, e5]; exact q10 hh, ?_, fun hq => ?_⟩
    · rw [hheap _ (.inl k1) k3 k2]; exact q11
    · rw [e6, e7, e5]
      refine clos (q12 hq) fun hw hl ⟨q', h1, h2, h3⟩ => ?_
      have hkk : f.k = j0 + 1 + i := by rw [h.k, ← hl]; omega
      rw [hkk, q1] at h1
      cases h1
      rw [hq] at h2; cases h2
  · rw [e7] at hs
    obtain ⟨b1, b2, b3⟩ := h.chb i s hs fun hh => hp ((hA _).2 hh)
    obtain ⟨k1, k2, k3, _⟩ := h.ch i s hs
    refine ⟨b1.imp id e8, by rw [hheap _ (.inl k1) k3 k2]; exact b2, ?_⟩
    rw [e6, e7, e5]
    refine clos b3 fun hw hl ⟨q', h1, h2, h3⟩ => ?_
    have hkk : f.k = j0 + 1 + i := by rw [h.k, ← hl]; omega
    rw [hkk] at h3
    exact hp ((hA _).2 h3)
  · have hp' : f.ph i = .B s g d := by
      rcases hph i with h1 | ⟨p, p', h1, h2⟩ | ⟨p, p', h1, h2⟩
      · rw [← h1]; exact hp
      · rw [h2] at hp; cases hp
      · rw [h2] at hp; cases hp
    obtain ⟨b1, r, b2, b3⟩ := h.b i s g d hp' hj (hk ▸ hi)
    refine ⟨by rw [ht, hdf i s g d (by omega) hp']; exact b1, r, hgs i s g d r (by omega) hp' b2 fun a a' w' => b3.woken a a' w', ?_⟩
    have b4 := b3.rely (w' := f'.w) (fun b hb => hheap b (.inr (by rw [h.base]; exact hb)) (hbase b hb).1 (hbase b hb).2) (fun _ => hlive) fun h7 => sm_same (i := i - 1) (by omega) (by subst h7; simp only [Cf.D, Nat.sub_add_cancel (show 1 ≤ i by omega), hp', Ph.wd]) h.mode hmode
    obtain ⟨C, cs, T, fz, v, y1, y2, y3, y4⟩ := b4
    exact ⟨C, cs, T, fz, v, by rw [e4]; exact y1, y2, by rw [e1, e3]; exact y3, by rw [e1, e3]; exact y4⟩
  · have hp' : f.ph i = .B s g d := by
      rcases hph i with h1 | ⟨p, p', h1, h2⟩ | ⟨p, p', h1, h2⟩
      · rw [← h1]; exact hp
      · rw [h2] at hp; cases hp
      · rw [h2] at hp; cases hp
    rw [o5]; exact h.b7 i s g d hp' hj (hk ▸ hi) hs
  · rw [o5] at hr
    obtain ⟨r1, r2, r3, r4⟩ := h.rel i r hr
    refine ⟨r1, by rw [hk]; exact r2, fun hh => r3 ((hL _).1 hh), by rw [ht, e3]; exact hrel i r hr r4⟩
  · rw [e3]; exact h.nor.app ht (fun i r hr => by rw [o5] at hr; exact hr) (fun i r hr => h.rel_lt hr) hnor
  · rw [o5] at hr; rw [ht]; exact hacq hd i r hr
end
end Go.X
