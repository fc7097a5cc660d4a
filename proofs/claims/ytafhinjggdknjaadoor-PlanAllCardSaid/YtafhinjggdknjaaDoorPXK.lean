/- A company: a step of the starter's, a step of a sender's: what is held stays held. No program in sight. -/
import Derived.Test.YtafhinjggdknjaaDoorPXI
set_option linter.unusedVariables false
set_option linter.unusedSimpArgs false
namespace Go.X
open Go Go.Sx Go.Conc Go.ConcN
open Go.ConcR (KK wgBlock WgAt stA smA rd wr mk Payload Bk)
section
variable {P : Program} {Post : Value → World → Prop} {W0 : World}
theorem own_mem {f : Cf} {a : Goroutine} {x : XW Gh} (h : Inv1 P Post W0 f a x) {i : Nat} (hi : i ≤ f.k) {w' : World} {u : Trace} {m' : Heap} (hfr : ∀ b, b < f.w.heap.size → f.o.M i b = none → ¬ f.o.Sh b → w'.heap[b]? = f.w.heap[b]?)
    (hsz : f.w.heap.size ≤ w'.heap.size) (hm' : m'.le (rp w')) (hnew : ∀ b, m' b ≠ none → f.o.M i b ≠ none ∨ f.w.heap.size ≤ b) (hu : ∀ op ∈ u, op.g = i) (hmay : ∀ op ∈ u, ∀ t, op.act.touch? = some t → f.o.May f.w.heap.size i t)
    (hsd : ∀ op ∈ u, ∀ a, op.act.touch? = some a → a.kind = .said → i = 0) (hlow : ∀ op ∈ u, LowT w'.heap.size op.act) (hc : i = 0 ∨ f.o.lv i ∨ ∀ y, f.t.size ≤ y → (f.t ++ u).g? y = some i → ¬ (f.t ++ u).counts y) :
    Own4.Apart { f.o with M := ConcN.upd f.o.M i m' } w'.heap.size ∧ (∀ j, (ConcN.upd f.o.M i m' j).le (rp w')) ∧ f.o.base.le (rp w') ∧ f.o.win.le (rp w') ∧ TOk { f.o with M := ConcN.upd f.o.M i m' } w'.heap.size (f.t ++ u) := by
  have hA := h.apart
  have hlt : ∀ b, m' b ≠ none → b < w'.heap.size := fun b hb => by
    cases hmb : m' b with
    | none => exact absurd hmb hb
    | some o => exact (Array.getElem?_eq_some_iff.1 (hm' b o hmb)).1
  have keep : ∀ (H : Heap), H.le (rp f.w) → (∀ b, H b ≠ none → f.o.M i b = none ∧ ¬ f.o.Sh b) → H.le (rp w') := fun H hH hd b o hb => by
    have hne : H b ≠ none := by rw [hb]; simp
    have hl := (Array.getElem?_eq_some_iff.1 (hH b o hb)).1
    show w'.heap[b]? = some o
    rw [hfr b hl (hd b hne).1 (hd b hne).2]
    exact hH b o hb
  refine ⟨⟨fun g g' b hne hb => ?_, fun g b hb => ?_, fun b hb => ⟨(hA.base b hb).1, (hA.base b hb).2.1, by have := (hA.base b hb).2.2; omega⟩, fun b hb => ⟨(hA.win b hb).1, by have := (hA.win b hb).2; omega⟩, hA.lv, fun b hb => by have := hA.sh b hb; omega, hA.ac⟩, fun j => ?_, ?_, ?_, ?_⟩
  · simp only [ConcN.upd] at hb ⊢
    by_cases e : g = i
    · subst e
      rw [if_pos rfl] at hb
      rw [if_neg (Ne.symm hne)]
      rcases hnew b hb with h1 | h1
      · exact hA.own g g' b hne h1
      · cases hM : f.o.M g' b with
        | none => rfl
        | some o => have := (hA.mem g' b (by rw [hM]; simp)).2.2.2; omega
    · rw [if_neg e] at hb
      by_cases e' : g' = i
      · subst e'
        rw [if_pos rfl]
        cases hmb : m' b with
        | none => rfl
        | some o =>
          rcases hnew b (by rw [hmb]; simp) with h1 | h1
          · exact absurd (hA.own g' g b (Ne.symm hne) h1) hb
          · have := (hA.mem g b hb).2.2.2; omega
      · rw [if_neg e']; exact hA.own g g' b hne hb
  · simp only [ConcN.upd] at hb
    by_cases e : g = i
    · subst e
      rw [if_pos rfl] at hb
      have hl := hlt b hb
      rcases hnew b hb with h1 | h1
      · have := hA.mem g b h1; exact ⟨this.1, this.2.1, this.2.2.1, hl⟩
      · refine ⟨?_, ?_, fun hs => ?_, hl⟩
        · cases hB : f.o.base b with
          | none => rfl
          | some o => have := (hA.base b (by rw [hB]; simp)).2.2; omega
        · cases hB : f.o.win b with
          | none => rfl
          | some o => have := (hA.win b (by rw [hB]; simp)).2; omega
        · have := hA.sh b hs; omega
    · rw [if_neg e] at hb
      have := hA.mem g b hb
      exact ⟨this.1, this.2.1, this.2.2.1, by omega⟩
  · simp only [ConcN.upd]
    split
    · exact hm'
    · rename_i e
      exact keep _ (h.mem j) fun b hb => ⟨by
        cases hM : f.o.M i b with
        | none => rfl
        | some o => exact absurd (hA.own i j b (Ne.symm e) (by rw [hM]; simp)) hb, (hA.mem j b hb).2.2.1⟩
  · exact keep _ h.mbase fun b hb => ⟨by
      cases hM : f.o.M i b with
      | none => rfl
      | some o => exact absurd (hA.mem i b (by rw [hM]; simp)).1 hb, (hA.base b hb).2.1⟩
  · exact keep _ h.mwin fun b hb => ⟨by
      cases hM : f.o.M i b with
      | none => rfl
      | some o => exact absurd (hA.mem i b (by rw [hM]; simp)).2.1 hb, (hA.win b hb).1⟩
  · exact h.tok.app hA (by rw [h.ok]; exact hi) hu hmay hsd hlow hsz hnew hc
theorem blk_ofEvent {e : Event} {t : Touch} (h : (MemAct.ofEvent e).touch? = some t) : (t.loc = e.loc ∧ t.write = e.write ∧ t.kind ≠ .said) ∨ (∃ a, (e.loc = .mark (.read a) ∨ e.loc = .mark (.write a)) ∧ t.loc = .cell a ∧ t.kind = .said) := by
  obtain ⟨loc, w, s⟩ := e
  cases loc with
  | mark m =>
    cases m <;> simp [MemAct.ofEvent, MemAct.touch?] at h
    all_goals (subst h; right; exact ⟨_, by simp, rfl, rfl⟩)
  | obj r => cases w <;> cases s <;> simp [MemAct.ofEvent, MemAct.touch?] at h <;> subst h <;> simp
  | _ => cases s <;> simp [MemAct.ofEvent, MemAct.touch?] at h <;> subst h <;> simp
theorem may_mine {o : Own4} {sz i : Nat} {m : Heap} {e : Event} (hm : m = o.M i) (h : Mine m sz e) {t : Touch} (ht : (MemAct.ofEvent e).touch? = some t) : o.May sz i t := by
  intro b hb
  subst hm
  rcases blk_ofEvent ht with ⟨h1, _, _⟩ | ⟨a, h1, h2, _⟩
  · rw [h1] at hb
    unfold Mine at h
    split at h
    · rename_i a hl; rw [hl] at hb; cases hb; exact .inl h
    · rename_i r hl; rw [hl] at hb; cases hb; exact .inl h
    · rename_i k hl; rw [hl] at hb; cases hb
    · exact h.elim
  · unfold Mine at h
    rcases h1 with h1 | h1 <;> rw [h1] at h <;> cases h
theorem may_mineP {o : Own4} {sz i : Nat} {m p : Heap} {e : Event} (hm : m = o.M i) (hp : ∀ b, p b ≠ none → o.base b ≠ none) (hi : i = 0 ∨ o.lv i) (h : MineP m p sz e) {t : Touch} (ht : (MemAct.ofEvent e).touch? = some t) : o.May sz i t := by
  rcases h with h | ⟨ad, h1, h2, h3⟩
  · exact may_mine hm h ht
  · intro b hb
    rcases blk_ofEvent ht with ⟨e1, e2, _⟩ | ⟨a, e1, _, _⟩
    · rw [e1, h1] at hb
      cases hb
      exact .inr (.inl ⟨e2.trans h3, .inl ⟨hp _ h2, hi⟩⟩)
    · rw [h1] at e1; rcases e1 with e1 | e1 <;> cases e1
theorem mineP_quiet {m p : Heap} {sz : Nat} {e : Event} (h : MineP m p sz e) : (e.loc ≠ .mark .disable ∧ e.loc ≠ .mark .enable ∧ ∀ a, e.loc ≠ .mark (.release a)) ∧ ∀ a, e.loc ≠ .mark (.read a) ∧ e.loc ≠ .mark (.write a) := by
  rcases h with h | ⟨ad, h1, _, _⟩
  · unfold Mine at h
    refine ⟨⟨fun hl => ?_, fun hl => ?_, fun a hl => ?_⟩, fun a => ⟨fun hl => ?_, fun hl => ?_⟩⟩ <;> rw [hl] at h <;> cases h
  · rw [h1]; simp
theorem said_loc {e : Event} {t : Touch} (ht : (MemAct.ofEvent e).touch? = some t) (h : t.kind = .said) : ∃ a, e.loc = .mark (.read a) ∨ e.loc = .mark (.write a) := by
  rcases blk_ofEvent ht with ⟨_, _, h1⟩ | ⟨a, h1, _⟩
  · exact absurd h h1
  · exact ⟨a, h1⟩
theorem ofEvents_mem {g : Nat} {fn : FuncId} {pos : String} {es : Array Event} {op : MemOp} (h : op ∈ MemOp.ofEvents g fn pos es) : ∃ e ∈ es, op = { g, fn, pos, act := .ofEvent e } := Go.Conc.mem_ofEvents h
theorem mode7 {k : Nat} {D : Nat → WD} {tag : CTag} {st sm : Int} (h : ConcN.Mode k D tag st sm) {i : Nat} (hi : i < k) (h7 : (D i).stage = 7) : sm = 0 := by
  cases h with
  | opn => rfl
  | reg => rfl
  | last L _ h2 h3 h4 => rfl
  | sema h2 => have := h2 i hi; omega
  | fin _ h2 => rfl
theorem BSit.rely {c : Cy} {s g d : Nat} {r : Goroutine} {w w' : World} (h : BSit P c s g d r w) (hb : ∀ b, c.base b ≠ none → w'.heap[b]? = w.heap[b]?) (hl : WgLive c.ty c.wg w → WgLive c.ty c.wg w') (h7 : s = 7 → w'.cell? (smA c.wg) = w.cell? (smA c.wg) ∧ WgLive c.ty c.wg w) : BSit P c s g d r w' := by
  obtain ⟨C, cs, T, fz, v, h1, h2, h3, h4⟩ := h
  have e := hb C (by rw [h1]; simp)
  refine ⟨C, cs, T, fz, v, h1, h2, h3.rely ⟨fun b hb => by omega, hl, fun ⟨cs', h4, h5⟩ => ⟨cs', e.trans h4, h5⟩, ?_⟩, fun hs => (h4 hs).rely ⟨fun b hb => by omega, hl, fun ⟨cs', h6, h7'⟩ => ?_, (h7 hs).1⟩⟩
  · simp [World.cell?, e]
  · obtain ⟨st, sm, h8⟩ := (h7 hs).2
    rw [h8] at h6
    simp only [wgBlock, Option.some.injEq, Obj.cells.injEq] at h6
    rw [← h6.1] at h7'
    simp at h7'
theorem BSit.status {c : Cy} {s g d : Nat} {r : Goroutine} {w : World} (h : BSit P c s g d r w) : r.status = .running ∨ r.status = .finished := let ⟨_, _, _, _, _, _, _, h3, _⟩ := h; h3.status
theorem BSit.woken {c : Cy} {s g d : Nat} {r : Goroutine} {w : World} (h : BSit P c s g d r w) (a a' : Goroutine) (w' : World) : Go.Conc.woken P a a' w' r = r := let ⟨_, _, _, _, _, _, _, h3, _⟩ := h; h3.woken a a' w'
theorem sm_same {ty : TypeId} {wg k : Nat} {D D' : Nat → WD} {tag tag' : CTag} {w w' : World} {i : Nat} (hi : i < k) (h7 : (D i).stage = 7) (h : ∃ st sm, WgAt ty wg w st sm ∧ ConcN.Mode k D tag st sm) (h' : ∃ st sm, WgAt ty wg w' st sm ∧ ConcN.Mode k D' tag' st sm) (hD : (D' i).stage = (D i).stage := by rfl) : w'.cell? (smA wg) = w.cell? (smA wg) ∧ WgLive ty wg w := by
  obtain ⟨st, sm, h1, h2⟩ := h
  obtain ⟨st', sm', h1', h2'⟩ := h'
  refine ⟨?_, st, sm, h1⟩
  have e1 := h1.cellSm
  have e2 := h1'.cellSm
  rw [mode7 h2 hi h7] at e1
  rw [mode7 h2' hi (hD.trans h7)] at e2
  exact e2.trans e1.symm
theorem Inv2.rel_lt {f : Cf} {x : XW Gh} {c : Co} {j0 : Nat} (h : Inv2 P f x c j0) {i r : Nat} (hr : f.o.rl i r) : r < f.t.size := lt_of_act? (h.rel i r hr).2.2.2.act
theorem inv2_nextG {f f' : Cf} {x x' : XW Gh} {c c' : Co} {j0 : Nat} {u : Trace} (h : Inv2 P f x c j0) (hc : c'.cy = c.cy ∧ c'.wk = c.wk ∧ (c.shut = true → c'.shut = true))
    (hk : f'.k = f.k) (hph : ∀ i, f'.ph i = f.ph i ∨ (∃ p p', f.ph i = .A p ∧ f'.ph i = .A p') ∨ ∃ q q', f.ph i = .Q q ∧ f'.ph i = .Q q') (hcha : ∀ (i : Nat) (o : Option Nat) pk, c.wk[i]? = some o → f'.ph (j0 + 1 + i) = .A pk → ∃ q, (f'.F (j0 + 1 + i)).2.s = .snd q ∧ q.cy = c.cy ∧ q.job = o ∧ Fit q c')
    (ho : f'.o.base = f.o.base ∧ f'.o.win = f.o.win ∧ f'.o.Sh = f.o.Sh ∧ f'.o.rl = f.o.rl ∧ f'.o.ac = f.o.ac)
    (hheap : ∀ b, (f.o.Sh b ∨ f.o.base b ≠ none) → b ≠ c.cy.wg → b ≠ c.cy.dl → f'.w.heap[b]? = f.w.heap[b]?) (hbase : ∀ b, c.cy.base b ≠ none → b ≠ c.cy.wg ∧ b ≠ c.cy.dl)
    (hdl : ∃ n, f'.w.heap[c.cy.dl]? = some (.chan 0 #[] c'.shut n n false))
    (hmode : ∃ st sm, WgAt c.cy.ty c.cy.wg f'.w st sm ∧ ConcN.Mode f.k f.D (tagOf (match f'.mb with | .blk => true | _ => false) c'.st) st sm)
    (hpark : ∀ live, f'.mb = .park live → ∀ (i : Nat) (o : Option Nat), c.wk[i]? = some o → f'.ph (j0 + 1 + i) = .A true → o = none ∧ live = false) (hbnd : ∀ n, c'.st = .w0 n → Vc f.k f.D ≤ n)
    (hshut : shutAt c'.shut c'.st) (hidle : c'.shut = true → ∀ (i : Nat) (o : Option Nat), c.wk[i]? = some o → o = none)
    (hpk : ∀ i, 1 ≤ i → i ≤ f.k → f'.ph i = .A true → c'.shut = false) (ht : f'.t = f.t ++ u) (hdf : ∀ i s g d, 1 ≤ i → f.ph i = .B s g d → Deaf (f.t ++ u) i = Deaf f.t i)
    (hrel : ∀ i r, f.o.rl i r → RelBy (stA c.cy.wg) f.t i r → RelBy (stA c.cy.wg) (f.t ++ u) i r) (hnor : ∀ op ∈ u, op.act ≠ .mark (.release (stA c.cy.wg)))
    (hgs : ∀ i s g d r, 1 ≤ i → f.ph i = .B s g d → f.gs[i]? = some r → (∀ a a' w', Go.Conc.woken P a a' w' r = r) → f'.gs[i]? = some r) (hacq : c'.st = .done → ∀ i r, f.o.rl i r → Knows (f.t ++ u) 0 r) : Inv2 P f' x' c' j0 := by
  obtain ⟨e1, e7, e8⟩ := hc
  obtain ⟨o1, o2, o4, o5, o6⟩ := ho
  have hL : ∀ i, (f'.ph i).isL ↔ (f.ph i).isL := fun i => by
    rcases hph i with h1 | ⟨p, p', h1, h2⟩ | ⟨p, p', h1, h2⟩
    · rw [h1]
    · rw [h1, h2]; exact Iff.rfl
    · rw [h1, h2]; exact Iff.rfl
  have hA : ∀ i, (f'.ph i).isA ↔ (f.ph i).isA := fun i => by
    rcases hph i with h1 | ⟨p, p', h1, h2⟩ | ⟨p, p', h1, h2⟩
    · rw [h1]
    · rw [h1, h2]; exact Iff.rfl
    · rw [h1, h2]; exact Iff.rfl
  have hD : f'.D = f.D := by
    funext i
    rcases hph (i + 1) with h1 | ⟨p, p', h1, h2⟩ | ⟨p, p', h1, h2⟩
    · simp [Cf.D, h1]
    · simp [Cf.D, h1, h2, Ph.wd]
    · simp [Cf.D, h1, h2, Ph.wd]
  have hlive : WgLive c.cy.ty c.cy.wg f'.w := let ⟨st, sm, h1, _⟩ := hmode; ⟨st, sm, h1⟩
  have hB : ∀ {i s g d}, f'.ph i = .B s g d → f.ph i = .B s g d := fun {i s g d} hp => by
    rcases hph i with h1 | ⟨p, p', h1, h2⟩ | ⟨p, p', h1, h2⟩
    · rw [← h1]; exact hp
    · rw [h2] at hp; cases hp
    · rw [h2] at hp; cases hp
  refine ⟨by rw [hk, e7]; exact h.k, fun i hi hj => ?_, by rw [o1, e1]; exact h.base, by rw [o2]; exact h.win, ⟨by rw [o4, e1]; exact h.dl.1, by rw [e1]; exact hdl⟩, ⟨by rw [o4, e1]; exact h.dn.1, ?_⟩, by rw [o4, e1]; exact h.wg, by rw [e1]; exact h.ne,
    by rw [hk, hD, e1]; exact hmode, fun live hm i o => by rw [e7]; exact hpark live hm i o, fun n hn => by rw [hk, hD]; exact hbnd n hn, hshut, fun i h1 h2 h3 => hpk i h1 (hk ▸ h2) h3, fun hs i o => by rw [e7]; exact hidle hs i o, fun i o pk hs hp => ?_, fun i o hs hp => ?_, fun i s g d hp hj hi => ?_, fun i s g d hp hj hi hs => ?_, fun i r hr => ?_, ?_, fun hd i r hr => ?_, by rw [e7]; exact h.few, fun i hi => by rw [e7] at hi; rw [o6, e1]; exact h.ac i hi⟩
  · rcases hph i with h1 | ⟨p, p', h1, h2⟩ | ⟨p, p', h1, h2⟩
    rotate_right
    · rw [h2]; trivial
    · rw [h1]; exact h.old i hi hj
    · have := h.old i hi hj; rw [h1] at this; exact this.elim
  · rw [e1, hheap _ (.inl h.dn.1) (Ne.symm h.ne.2.2) (Ne.symm h.ne.1)]; exact h.dn.2
  · rw [e7] at hs
    rw [e1]
    exact hcha i o pk hs hp
  · rw [e7] at hs
    exact e8 (h.chb i o hs fun hh => hp ((hA _).2 hh))
  · have hp' := hB hp
    obtain ⟨b1, r, b2, b3⟩ := h.b i s g d hp' hj (hk ▸ hi)
    refine ⟨by rw [ht, hdf i s g d (by omega) hp']; exact b1, r, hgs i s g d r (by omega) hp' b2 fun a a' w' => b3.woken a a' w', ?_⟩
    have b4 := b3.rely (w' := f'.w) (fun b hb => hheap b (.inr (by rw [h.base]; exact hb)) (hbase b hb).1 (hbase b hb).2) (fun _ => hlive) fun h7 => sm_same (i := i - 1) (by omega) (by subst h7; simp only [Cf.D, Nat.sub_add_cancel (show 1 ≤ i by omega), hp', Ph.wd]) h.mode hmode
    rw [e1]; exact b4
  · rw [o5]; exact h.b7 i s g d (hB hp) hj (hk ▸ hi) hs
  · rw [o5] at hr
    obtain ⟨r1, r2, r3, r4⟩ := h.rel i r hr
    refine ⟨r1, by rw [hk]; exact r2, fun hh => r3 ((hL _).1 hh), by rw [ht, e1]; exact hrel i r hr r4⟩
  · rw [e1]; exact h.nor.app ht (fun i r hr => by rw [o5] at hr; exact hr) (fun i r hr => h.rel_lt hr) hnor
  · rw [o5] at hr; rw [ht]; exact hacq hd i r hr
theorem inv2_next {f f' : Cf} {x x' : XW Gh} {c c' : Co} {j0 : Nat} {u : Trace} (h : Inv2 P f x c j0) (hc : c'.cy = c.cy ∧ c'.wk = c.wk ∧ (c.shut = true → c'.shut = true))
    (hk : f'.k = f.k) (hph : ∀ i, f'.ph i = f.ph i ∨ (∃ p p', f.ph i = .A p ∧ f'.ph i = .A p') ∨ ∃ q q', f.ph i = .Q q ∧ f'.ph i = .Q q') (hF : ∀ i, 1 ≤ i → (f'.F i).2.s = (f.F i).2.s)
    (ho : f'.o.base = f.o.base ∧ f'.o.win = f.o.win ∧ f'.o.Sh = f.o.Sh ∧ f'.o.rl = f.o.rl ∧ f'.o.ac = f.o.ac)
    (hheap : ∀ b, (f.o.Sh b ∨ f.o.base b ≠ none) → b ≠ c.cy.wg → b ≠ c.cy.dl → f'.w.heap[b]? = f.w.heap[b]?) (hbase : ∀ b, c.cy.base b ≠ none → b ≠ c.cy.wg ∧ b ≠ c.cy.dl)
    (hdl : ∃ n, f'.w.heap[c.cy.dl]? = some (.chan 0 #[] c'.shut n n false))
    (hmode : ∃ st sm, WgAt c.cy.ty c.cy.wg f'.w st sm ∧ ConcN.Mode f.k f.D (tagOf (match f'.mb with | .blk => true | _ => false) c'.st) st sm)
    (hpark : ∀ live, f'.mb = .park live → ∀ (i : Nat) (o : Option Nat), c.wk[i]? = some o → f'.ph (j0 + 1 + i) = .A true → o = none ∧ live = false) (hbnd : ∀ n, c'.st = .w0 n → Vc f.k f.D ≤ n)
    (hshut : shutAt c'.shut c'.st) (hidle : c'.shut = true → ∀ (i : Nat) (o : Option Nat), c.wk[i]? = some o → o = none)
    (hpk : ∀ i, 1 ≤ i → i ≤ f.k → f'.ph i = .A true → c'.shut = false) (ht : f'.t = f.t ++ u) (hdf : ∀ i s g d, 1 ≤ i → f.ph i = .B s g d → Deaf (f.t ++ u) i = Deaf f.t i)
    (hrel : ∀ i r, f.o.rl i r → RelBy (stA c.cy.wg) f.t i r → RelBy (stA c.cy.wg) (f.t ++ u) i r) (hnor : ∀ op ∈ u, op.act ≠ .mark (.release (stA c.cy.wg)))
    (hgs : ∀ i s g d r, 1 ≤ i → f.ph i = .B s g d → f.gs[i]? = some r → (∀ a a' w', Go.Conc.woken P a a' w' r = r) → f'.gs[i]? = some r) (hacq : c'.st = .done → ∀ i r, f.o.rl i r → Knows (f.t ++ u) 0 r) (hnx : c'.nx = c.nx := by rfl) : Inv2 P f' x' c' j0 := by
  refine inv2_nextG h hc hk hph (fun i o pk hs hp => ?_) ho hheap hbase hdl hmode hpark hbnd hshut hidle hpk ht hdf hrel hnor hgs hacq
  have hAi : (f.ph (j0 + 1 + i)).isA := by
    rcases hph (j0 + 1 + i) with h1 | ⟨p, p', h1, h2⟩ | ⟨p, p', h1, h2⟩
    · rw [← h1, hp]; trivial
    · rw [h1]; trivial
    · rw [h2] at hp; cases hp
  obtain ⟨pk', hpk'⟩ : ∃ pk', f.ph (j0 + 1 + i) = .A pk' := by
    cases hh : f.ph (j0 + 1 + i) with
    | A p => exact ⟨p, rfl⟩
    | B _ _ _ => rw [hh] at hAi; exact hAi.elim
    | Q _ => rw [hh] at hAi; exact hAi.elim
  obtain ⟨q, q1, q2, q3, q4⟩ := h.cha i o pk' hs hpk'
  exact ⟨q, by rw [hF _ (by omega)]; exact q1, q2, q3, ⟨fun hh => hc.2.2 (q4.1 hh), by rw [hnx]; exact q4.2⟩⟩
end
end Go.X
namespace Go.X
open Go Go.Sx Go.Conc Go.ConcN
open Go.ConcR (KK wgBlock WgAt stA smA rd wr mk Payload Bk)
section
variable {P : Program} {Post : Value → World → Prop} {W0 : World}
theorem get_set_map {gs : Array Goroutine} {φ : Goroutine → Goroutine} {i j : Nat} {x : Goroutine} (h : i ≠ j) : ((gs.map φ).setIfInBounds i x)[j]? = (gs[j]?).map φ := by
  rw [Array.getElem?_setIfInBounds_ne h, Array.getElem?_map]
theorem get_set_self {gs : Array Goroutine} {φ : Goroutine → Goroutine} {i : Nat} {x : Goroutine} (h : i < gs.size) : ((gs.map φ).setIfInBounds i x)[i]? = some x := by
  rw [Array.getElem?_setIfInBounds_self_of_lt (by simpa using h)]
theorem isA_iff {p p' : Ph} (h : p' = p ∨ (p = .A true ∧ p' = .A false)) : (p'.isA ↔ p.isA) ∧ (p'.isQ ↔ p.isQ) ∧ (p'.isL ↔ p.isL) := by
  rcases h with rfl | ⟨rfl, rfl⟩
  · exact ⟨Iff.rfl, Iff.rfl, Iff.rfl⟩
  · exact ⟨Iff.rfl, Iff.rfl, Iff.rfl⟩
def Wakes (P : Program) (f : Cf) (r g' : Goroutine) (w' : World) (ph' : Nat → Ph) : Prop :=
  ∀ j, 1 ≤ j → j ≤ f.k → (ph' j = f.ph j ∧ ∀ a cs sh, f.ph j = .A true → f.gs[j]? = some (parked a cs sh) → woken P r g' w' (parked a cs sh) = parked a cs sh) ∨
    (f.ph j = .A true ∧ ph' j = .A false ∧ ∀ a cs sh, f.gs[j]? = some (parked a cs sh) → woken P r g' w' (parked a cs sh) = { parked a cs sh with status := .running })
theorem Wakes.ph {f : Cf} {r g' : Goroutine} {w' : World} {ph' : Nat → Ph} (h : Wakes P f r g' w' ph') {j : Nat} (hj : 1 ≤ j) (hk : j ≤ f.k) : ph' j = f.ph j ∨ (f.ph j = .A true ∧ ph' j = .A false) :=
  (h j hj hk).imp (fun x => x.1) fun x => ⟨x.1, x.2.1⟩
theorem RA.parked {y : Goroutine × XW Gh} {r : Goroutine} (h : RA P Post W0 y true r) : ∃ cs sh, r = Go.Conc.parked y.1 cs sh ∧ y.1.status = .running := by
  cases h with
  | ask _ _ _ h4 _ _ => exact ⟨_, _, rfl, h4⟩
  | give _ _ _ h4 _ _ _ _ _ _ => exact ⟨_, _, rfl, h4⟩
theorem main_go1 {f : Cf} {a g' : Goroutine} {x x' : XW Gh} (h : Inv1 P Post W0 f a x) {r : Goroutine} (hr : f.gs[0]? = some r) (hl : Like P a r) {w' : World} {es : Array Event} {ph' : Nat → Ph} (hg' : g'.status = .running)
    (hwk : Wakes P f r g' w' ph') (henv : Env W0 w') (hfr : ∀ b, b < f.w.heap.size → x.m b = none → ¬ f.o.Sh b → w'.heap[b]? = f.w.heap[b]?) (hsz : f.w.heap.size ≤ w'.heap.size) (hm' : x'.m.le (rp w')) (hnew : ∀ b, x'.m b ≠ none → x.m b ≠ none ∨ f.w.heap.size ≤ b)
    (hmay : ∀ e ∈ es, ∀ t, (MemAct.ofEvent e).touch? = some t → f.o.May f.w.heap.size 0 t) (hlow : ∀ e ∈ es, LowT w'.heap.size (MemAct.ofEvent e)) (hd : deafBehind (deafOf x.s) es = deafOf x'.s) :
    Inv1 P Post W0 { f with gs := (f.gs.map (woken P r g' w')).setIfInBounds 0 g', w := w', t := f.t ++ MemOp.ofEvents 0 r.frame.fn r.frame.place es, mb := .run, ph := ph', o := { f.o with M := ConcN.upd f.o.M 0 x'.m } } g' x' := by
  have hops : ∀ op ∈ MemOp.ofEvents 0 r.frame.fn r.frame.place es, op.g = 0 := fun op hop => by obtain ⟨e, _, rfl⟩ := ofEvents_mem hop; rfl
  obtain ⟨m1, m2, m3, m4, m5⟩ := own_mem h (i := 0) (Nat.zero_le _) (w' := w') (u := MemOp.ofEvents 0 r.frame.fn r.frame.place es) (m' := x'.m) (by rw [h.oM0]; exact hfr) hsz hm' (by rw [h.oM0]; exact hnew) hops
    (fun op hop t ht => by obtain ⟨e, he, rfl⟩ := ofEvents_mem hop; exact hmay e he t ht) (fun _ _ _ _ _ => rfl) (fun op hop => by obtain ⟨e, he, rfl⟩ := ofEvents_mem hop; exact hlow e he) (.inl rfl)
  have h0 : 0 < f.gs.size := by rw [h.size]; omega
  have hdo : ∀ j, 1 ≤ j → Deaf (f.t ++ MemOp.ofEvents 0 r.frame.fn r.frame.place es) j = Deaf f.t j := fun j hj => Deaf_other _ (g' := 0) (by omega) _ hops
  have hA := fun {j : Nat} (hj : 1 ≤ j) (hk : j ≤ f.k) => isA_iff (hwk.ph hj hk)
  refine ⟨by simp [h.size], henv, ⟨g', get_set_self h0, .run (.refl hg')⟩, fun i pk h1 h2 hp => ?_, fun i q h1 h2 hp => ?_, fun i h1 h2 hp => h.mi i h1 h2 ((hA h1 h2).1.1 hp), ?_, fun i h1 h2 hp => ?_, h.ok, by simp [ConcN.upd], fun i h1 h2 hp => ?_, fun i h1 h2 => ?_,
    fun i => ?_, fun i => ?_, m1, m2, m3, m4, m5⟩
  · replace hp : ph' i = .A pk := hp
    show ∃ r', ((f.gs.map (woken P r g' w')).setIfInBounds 0 g')[i]? = some r' ∧ _
    rw [get_set_map (by omega)]
    rcases hwk i h1 h2 with ⟨e1, e2⟩ | ⟨e1, e2, e3⟩
    · obtain ⟨ri, hri, hc⟩ := h.ra i pk h1 h2 (e1 ▸ hp)
      refine ⟨_, by rw [hri]; rfl, ?_⟩
      cases pk with
      | false =>
        cases hc with
        | run hlk =>
          have : woken P r g' w' ri = ri := woken_run hlk.run
          rw [this]; exact .run hlk
      | true =>
        obtain ⟨cs, sh, hpk, _⟩ := hc.parked
        subst hpk
        rw [e2 _ _ _ (e1 ▸ hp) hri]
        exact hc
    · rw [e2] at hp
      cases hp
      obtain ⟨ri, hri, hc⟩ := h.ra i true h1 h2 e1
      obtain ⟨cs, sh, hpk, hst⟩ := hc.parked
      subst hpk
      refine ⟨_, by rw [hri]; rfl, .run ?_⟩
      rw [e3 _ _ _ hri]; exact .tries hst _ _
  · replace hp : ph' i = .Q q := hp
    show ∃ r', ((f.gs.map (woken P r g' w')).setIfInBounds 0 g')[i]? = some r' ∧ _
    rw [get_set_map (by omega)]
    have hp' : f.ph i = .Q q := by
      rcases hwk.ph h1 h2 with e | ⟨_, e⟩
      · rw [← e]; exact hp
      · rw [e] at hp; cases hp
    obtain ⟨ri, hri, hq⟩ := h.rq i q h1 h2 hp'
    refine ⟨_, by rw [hri]; rfl, ?_⟩
    rw [woken_quitsD hq]
    show QuitsD P q (Deaf (f.t ++ _) i) ri
    rw [hdo i h1]; exact hq
  · show Deaf (f.t ++ _) 0 = _
    rw [Deaf_own, h.d0]; exact hd
  · show Deaf (f.t ++ _) i = 0
    rw [hdo i h1]; exact h.da i h1 h2 ((hA h1 h2).1.1 hp)
  · show ConcN.upd f.o.M 0 x'.m i = _
    rw [upd_ne _ _ (by omega)]; exact h.oMa i h1 h2 ((hA h1 h2).1.1 hp)
  · show ConcN.upd f.o.M 0 x'.m i = _
    rw [upd_ne _ _ (by omega)]; rcases Nat.lt_or_ge f.k i with hlt | hge
    · exact h.oMn i h1 (.inl hlt)
    · exact h.oMn i h1 (h2.imp id fun hh hp => hh ((hA h1 hge).1.2 hp))
  · show f.o.lv i ↔ _
    rw [h.lv i]
    constructor
    · rintro ⟨a1, a2, a3⟩; exact ⟨a1, a2, (hA a1 a2).2.2.2 a3⟩
    · rintro ⟨a1, a2, a3⟩; exact ⟨a1, a2, (hA a1 a2).2.2.1 a3⟩
  · show f.o.cp i ↔ _
    rw [h.cp i]
    constructor
    · rintro ⟨a1, a2, a3⟩; exact ⟨a1, a2, fun hh => a3 ((hA a1 a2).2.1.1 hh)⟩
    · rintro ⟨a1, a2, a3⟩; exact ⟨a1, a2, fun hh => a3 ((hA a1 a2).2.1.2 hh)⟩
theorem snd_go1 {f : Cf} {a g' : Goroutine} {x : XW Gh} (h : Inv1 P Post W0 f a x) {i : Nat} (hi1 : 1 ≤ i) (hik : i ≤ f.k) {r : Goroutine} (hr : f.gs[i]? = some r) {w' : World} {es : Array Event} {ph' : Nat → Ph} {F' : Nat → Goroutine × XW Gh} {mb' : MB} {m' : Heap} {rl' : Nat → Nat → Prop}
    (hph : ∀ j, j ≠ i → ph' j = f.ph j) (hwk : ∀ j a cs sh, j ≠ i → f.ph j = .A true → 1 ≤ j → f.gs[j]? = some (parked a cs sh) → woken P r g' w' (parked a cs sh) = parked a cs sh) (hF : ∀ j, j ≠ i → F' j = f.F j)
    (hmb : ∀ r0, f.gs[0]? = some r0 → MRec P W0 a x f.mb r0 → MRec P W0 a x mb' (woken P r g' w' r0))
    (henv : Env W0 w') (hfr : ∀ b, b < f.w.heap.size → f.o.M i b = none → ¬ f.o.Sh b → w'.heap[b]? = f.w.heap[b]?) (hsz : f.w.heap.size ≤ w'.heap.size) (hm' : m'.le (rp w')) (hnew : ∀ b, m' b ≠ none → f.o.M i b ≠ none ∨ f.w.heap.size ≤ b)
    (hmay : ∀ e ∈ es, ∀ t, (MemAct.ofEvent e).touch? = some t → f.o.May f.w.heap.size i t) (hsd : ∀ e ∈ es, ∀ t, (MemAct.ofEvent e).touch? = some t → t.kind ≠ .said) (hlow : ∀ e ∈ es, LowT w'.heap.size (MemAct.ofEvent e))
    (hc : f.o.lv i ∨ ∀ y, f.t.size ≤ y → (f.t ++ MemOp.ofEvents i r.frame.fn r.frame.place es).g? y = some i → ¬ (f.t ++ MemOp.ofEvents i r.frame.fn r.frame.place es).counts y)
    (hrl : ∀ g r, f.o.rl g r → rl' g r) (hlv : (ph' i).isL ∨ ¬ (f.ph i).isL ∨ ∃ r', rl' i r' ∧ ∀ y, (f.t ++ MemOp.ofEvents i r.frame.fn r.frame.place es).g? y = some i → y ≤ r')
    (hlb : ¬ (ph' i).isL → (f.ph i).isL → ∃ r', rl' i r' ∧ ∀ y, Knows (f.t ++ MemOp.ofEvents i r.frame.fn r.frame.place es) i y → Before (f.t ++ MemOp.ofEvents i r.frame.fn r.frame.place es) y r')
    (hAA : (ph' i).isA → (f.ph i).isA) (hLL : (ph' i).isL → (f.ph i).isL) (hQQ : (f.ph i).isQ → (ph' i).isQ)
    (hown : (∀ pk, ph' i = .A pk → pk = false ∧ (F' i).1 = g' ∧ MIp P Post W0 (F' i).1 (F' i).2 ∧ (F' i).2.m = m' ∧ deafBehind 0 es = 0) ∧ (¬ (ph' i).isA → m' = Heap.empty) ∧ (∀ q, ph' i = .Q q → QuitsD P q (Deaf (f.t ++ MemOp.ofEvents i r.frame.fn r.frame.place es) i) g')) :
    Inv1 P Post W0 { f with gs := (f.gs.map (woken P r g' w')).setIfInBounds i g', w := w', t := f.t ++ MemOp.ofEvents i r.frame.fn r.frame.place es, mb := mb', F := F', ph := ph', o := { f.o with M := ConcN.upd f.o.M i m', lv := fun j => 1 ≤ j ∧ j ≤ f.k ∧ (ph' j).isL, cp := fun j => 1 ≤ j ∧ j ≤ f.k ∧ ¬ (ph' j).isQ, rl := rl' } } a x := by
  have hops : ∀ op ∈ MemOp.ofEvents i r.frame.fn r.frame.place es, op.g = i := fun op hop => by obtain ⟨e, _, rfl⟩ := ofEvents_mem hop; rfl
  obtain ⟨m1, m2, m3, m4, m5⟩ := own_mem h (i := i) hik (w' := w') (u := MemOp.ofEvents i r.frame.fn r.frame.place es) (m' := m') hfr hsz hm' hnew hops
    (fun op hop t ht => by obtain ⟨e, he, rfl⟩ := ofEvents_mem hop; exact hmay e he t ht) (fun op hop t ht hk => by obtain ⟨e, he, rfl⟩ := ofEvents_mem hop; exact absurd hk (hsd e he t ht)) (fun op hop => by obtain ⟨e, he, rfl⟩ := ofEvents_mem hop; exact hlow e he) (.inr hc)
  have hlt : i < f.gs.size := by rw [h.size]; omega
  have hdo : ∀ j, j ≠ i → Deaf (f.t ++ MemOp.ofEvents i r.frame.fn r.frame.place es) j = Deaf f.t j := fun j hj => Deaf_other _ (g' := i) (Ne.symm hj) _ hops
  have hL : ∀ j, (ph' j).isL → (f.ph j).isL := fun j hj => by
    by_cases e : j = i
    · subst e; exact hLL hj
    · rw [← hph j e]; exact hj
  have hA : ∀ j, (ph' j).isA → (f.ph j).isA := fun j hj => by
    by_cases e : j = i
    · subst e; exact hAA hj
    · rw [← hph j e]; exact hj
  have hQ : ∀ j, (f.ph j).isQ → (ph' j).isQ := fun j hj => by
    by_cases e : j = i
    · subst e; exact hQQ hj
    · rw [hph j e]; exact hj
  have m1' : Own4.Apart { f.o with M := ConcN.upd f.o.M i m', lv := fun j => 1 ≤ j ∧ j ≤ f.k ∧ (ph' j).isL, cp := fun j => 1 ≤ j ∧ j ≤ f.k ∧ ¬ (ph' j).isQ, rl := rl' } w'.heap.size :=
    ⟨m1.own, m1.mem, m1.base, m1.win, fun g ⟨a1, a2, a3⟩ => ⟨a1, a2, fun hq => by cases hp : ph' g <;> rw [hp] at a3 hq <;> first | exact a3.elim | exact hq.elim⟩, m1.sh, m1.ac⟩
  have m5' : TOk { f.o with M := ConcN.upd f.o.M i m', lv := fun j => 1 ≤ j ∧ j ≤ f.k ∧ (ph' j).isL, cp := fun j => 1 ≤ j ∧ j ≤ f.k ∧ ¬ (ph' j).isQ, rl := rl' } w'.heap.size (f.t ++ MemOp.ofEvents i r.frame.fn r.frame.place es) := by
    refine m5.turn (Nat.le_refl _) (fun g b hb => .inl hb) (fun b hb => .inl ⟨hb, fun g ⟨a1, a2, a3⟩ => .inl ((h.lv g).2 ⟨a1, a2, hL g a3⟩), fun g hg => ?_, hrl⟩) (fun b hb => .inl ⟨hb, rfl⟩) (fun b hb => .inl ⟨hb, fun g ⟨⟨a1, a2, a3⟩, ha⟩ => .inl ⟨(h.cp g).2 ⟨a1, a2, fun hq => a3 (hQ g hq)⟩, ha⟩⟩) (fun g hg => ?_) hrl
    · obtain ⟨a1, a2, a3⟩ := (h.lv g).1 hg
      by_cases e : g = i
      · subst e
        by_cases hp : (ph' g).isL
        · exact .inl ⟨a1, a2, hp⟩
        · exact .inr (hlb hp a3)
      · exact .inl ⟨a1, a2, by rw [hph g e]; exact a3⟩
    · obtain ⟨a1, a2, a3⟩ := (h.lv g).1 hg
      by_cases e : g = i
      · subst e
        rcases hlv with h1 | h1 | h1
        · exact .inl ⟨a1, a2, h1⟩
        · exact absurd a3 h1
        · exact .inr h1
      · exact .inl ⟨a1, a2, by rw [hph g e]; exact a3⟩
  obtain ⟨w1, w2, w3⟩ := hown
  refine ⟨by simp [h.size], henv, ?_, fun j pk h1 h2 hp => ?_, fun j q h1 h2 hp => ?_, fun j h1 h2 hp => ?_, ?_, fun j h1 h2 hp => ?_, h.ok, ?_, fun j h1 h2 hp => ?_, fun j h1 h2 => ?_, fun j => Iff.rfl, fun j => Iff.rfl, m1', m2, m3, m4, m5'⟩
  · obtain ⟨r0, hr0, hm0⟩ := h.main
    exact ⟨_, by show ((f.gs.map (woken P r g' w')).setIfInBounds i g')[0]? = _; rw [get_set_map (by omega), hr0]; rfl, hmb r0 hr0 hm0⟩
  · replace hp : ph' j = .A pk := hp
    show ∃ r', ((f.gs.map (woken P r g' w')).setIfInBounds i g')[j]? = some r' ∧ RA P Post W0 (F' j) pk r'
    by_cases e : j = i
    · subst e
      obtain ⟨rfl, b1, b2, b3, b4⟩ := w1 pk hp
      refine ⟨g', get_set_self hlt, .run ?_⟩
      rw [b1]
      have := mi_running b2
      rw [b1] at this
      exact .refl this
    · rw [get_set_map (Ne.symm e), hF j e]
      obtain ⟨rj, hrj, hcj⟩ := h.ra j pk h1 h2 (by rw [← hph j e]; exact hp)
      refine ⟨_, by rw [hrj]; rfl, ?_⟩
      cases pk with
      | false =>
        cases hcj with
        | run hlk =>
          have : woken P r g' w' rj = rj := woken_run hlk.run
          rw [this]; exact .run hlk
      | true =>
        obtain ⟨cs, sh, hpk, _⟩ := hcj.parked
        subst hpk
        rw [hwk j _ _ _ e (by rw [← hph j e]; exact hp) h1 hrj]
        exact hcj
  · replace hp : ph' j = .Q q := hp
    show ∃ r', ((f.gs.map (woken P r g' w')).setIfInBounds i g')[j]? = some r' ∧ QuitsD P q (Deaf (f.t ++ _) j) r'
    by_cases e : j = i
    · subst e
      exact ⟨g', get_set_self hlt, w3 q hp⟩
    · rw [get_set_map (Ne.symm e)]
      obtain ⟨rj, hrj, hq⟩ := h.rq j q h1 h2 (by rw [← hph j e]; exact hp)
      refine ⟨_, by rw [hrj]; rfl, ?_⟩
      rw [woken_quitsD hq, hdo j e]; exact hq
  · replace hp : (ph' j).isA := hp
    show MIp P Post W0 (F' j).1 (F' j).2
    by_cases e : j = i
    · subst e
      cases hpj : ph' j with
      | A pk => exact (w1 pk hpj).2.2.1
      | B _ _ _ => rw [hpj] at hp; exact hp.elim
      | Q _ => rw [hpj] at hp; exact hp.elim
    · rw [hF j e]; exact h.mi j h1 h2 (hA j hp)
  · show Deaf (f.t ++ _) 0 = _
    rw [hdo 0 (by omega)]; exact h.d0
  · replace hp : (ph' j).isA := hp
    show Deaf (f.t ++ _) j = 0
    by_cases e : j = i
    · subst e
      rw [Deaf_own, h.da j h1 h2 (hA j hp)]
      cases hpj : ph' j with
      | A pk => exact (w1 pk hpj).2.2.2.2
      | B _ _ _ => rw [hpj] at hp; exact hp.elim
      | Q _ => rw [hpj] at hp; exact hp.elim
    · rw [hdo j e]; exact h.da j h1 h2 (hA j hp)
  · show ConcN.upd f.o.M i m' 0 = _
    rw [upd_ne _ _ (by omega)]; exact h.oM0
  · replace hp : (ph' j).isA := hp
    show ConcN.upd f.o.M i m' j = (F' j).2.m
    by_cases e : j = i
    · subst e
      rw [ConcN.upd_same]
      cases hpj : ph' j with
      | A pk => exact (w1 pk hpj).2.2.2.1.symm
      | B _ _ _ => rw [hpj] at hp; exact hp.elim
      | Q _ => rw [hpj] at hp; exact hp.elim
    · rw [upd_ne _ _ e, hF j e]; exact h.oMa j h1 h2 (hA j hp)
  · show ConcN.upd f.o.M i m' j = _
    by_cases e : j = i
    · subst e
      rw [ConcN.upd_same]
      rcases h2 with h2 | h2
      · replace h2 : f.k < j := h2
        omega
      · exact w2 h2
    · rw [upd_ne _ _ e]
      refine h.oMn j h1 (h2.imp id fun hh hp => hh ?_)
      show (ph' j).isA
      rw [hph j e]; exact hp
end
end Go.X
