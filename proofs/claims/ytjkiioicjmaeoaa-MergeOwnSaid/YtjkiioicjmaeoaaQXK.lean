/- A company: a step of the starter's, a step of a sender's: what is held stays held. No program in sight. -/
import Derived.Test.YtjkiioicjmaeoaaQXJ
set_option linter.unusedVariables false
set_option linter.unusedSimpArgs false
namespace Go.X
open Go Go.Sx Go.Conc Go.ConcN
open Go.ConcR (KK wgBlock WgAt stA smA rd wr mk Payload Bk)
section
variable {P : Program} {Post : Value → World → Prop} {W0 : World}
theorem get_set_map {gs : Array Goroutine} {φ : Goroutine → Goroutine} {i j : Nat} {x : Goroutine} (h : i ≠ j) : ((gs.map φ).setIfInBounds i x)[j]? = (gs[j]?).map φ := by
  rw [Array.getElem?_setIfInBounds_ne h, Array.getElem?_map]
theorem get_set_self {gs : Array Goroutine} {φ : Goroutine → Goroutine} {i : Nat} {x : Goroutine} (h : i < gs.size) : ((gs.map φ).setIfInBounds i x)[i]? = some x := by
  rw [Array.getElem?_setIfInBounds_self_of_lt (by simpa using h)]
theorem isA_iff {p p' : Ph} (h : p' = p ∨ (p = .A true ∧ p' = .A false)) : (p'.isA ↔ p.isA) ∧ (p'.isQ ↔ p.isQ) ∧ (p'.isL ↔ p.isL) := by
  rcases h with rfl | ⟨rfl, rfl⟩
  · exact ⟨Iff.rfl, Iff.rfl, Iff.rfl⟩
  · exact ⟨Iff.rfl, Iff.rfl, Iff.rfl⟩
def Wakes (P : Program) (f : Cf) (r g' : Goroutine) (w' : World) (ph' : Nat → Ph) : Prop :=
  ∀ j, 1 ≤ j → j ≤ f.k → (ph' j = f.ph j ∧ ∀ a cs, f.ph j = .A true → f.gs[j]? = some (parked a cs .select) → woken P r g' w' (parked a cs .select) = parked a cs .select) ∨
    (f.ph j = .A true ∧ ph' j = .A false ∧ ∀ a cs, f.gs[j]? = some (parked a cs .select) → woken P r g' w' (parked a cs .select) = { parked a cs .select with status := .running })
theorem Wakes.ph {f : Cf} {r g' : Goroutine} {w' : World} {ph' : Nat → Ph} (h : Wakes P f r g' w' ph') {j : Nat} (hj : 1 ≤ j) (hk : j ≤ f.k) : ph' j = f.ph j ∨ (f.ph j = .A true ∧ ph' j = .A false) :=
  (h j hj hk).imp (fun x => x.1) fun x => ⟨x.1, x.2.1⟩
theorem main_go1 {f : Cf} {a g' : Goroutine} {x x' : XW Gh} (h : Inv1 P Post W0 f a x) {r : Goroutine} (hr : f.gs[0]? = some r) (hl : Like P a r) {w' : World} {es : Array Event} {ph' : Nat → Ph} (hg' : g'.status = .running)
    (hwk : Wakes P f r g' w' ph') (henv : Env W0 w') (hfr : ∀ b, b < f.w.heap.size → x.m b = none → ¬ f.o.Sh b → w'.heap[b]? = f.w.heap[b]?) (hsz : f.w.heap.size ≤ w'.heap.size) (hm' : x'.m.le (rp w')) (hnew : ∀ b, x'.m b ≠ none → x.m b ≠ none ∨ f.w.heap.size ≤ b)
    (hmay : ∀ e ∈ es, ∀ t, (MemAct.ofEvent e).touch? = some t → f.o.May f.w.heap.size 0 t) (hlow : ∀ e ∈ es, LowT w'.heap.size (MemAct.ofEvent e)) (hd : deafBehind (deafOf x.s) es = deafOf x'.s) :
    Inv1 P Post W0 { f with gs := (f.gs.map (woken P r g' w')).setIfInBounds 0 g', w := w', t := f.t ++ MemOp.ofEvents 0 r.frame.fn r.frame.place es, mb := .run, ph := ph', o := { f.o with M := ConcN.upd f.o.M 0 x'.m } } g' x' := by
  have hops : ∀ op ∈ MemOp.ofEvents 0 r.frame.fn r.frame.place es, op.g = 0 := fun op hop => by obtain ⟨e, _, rfl⟩ := ofEvents_mem hop; rfl
  obtain ⟨m1, m2, m3, m4, m5⟩ := own_mem h (i := 0) (Nat.zero_le _) (w' := w') (u := MemOp.ofEvents 0 r.frame.fn r.frame.place es) (m' := x'.m) (by rw [h.oM0]; exact hfr) hsz hm' (by rw [h.oM0]; exact hnew) hops
    (fun op hop t ht => by obtain ⟨e, he, rfl⟩ := ofEvents_mem hop; exact hmay e he t ht) (fun _ _ _ _ _ => rfl) (fun op hop => by obtain ⟨e, he, rfl⟩ := ofEvents_mem hop; exact hlow e he) (.inl rfl)
  have h0 : 0 < f.gs.size := by rw [h.size]; omega
  have hdo : ∀ j, 1 ≤ j → Deaf (f.t ++ MemOp.ofEvents 0 r.frame.fn r.frame.place es) j = Deaf f.t j := fun j hj => Deaf_other _ (g' := 0) (by omega) _ hops
  have hA := fun {j : Nat} (hj : 1 ≤ j) (hk : j ≤ f.k) => isA_iff (hwk.ph hj hk)
  refine ⟨by simp [h.size], henv, ⟨g', get_set_self h0, .run (.refl hg')⟩, fun i pk h1 h2 hp => ?_, fun i q h1 h2 hp => ?_, fun i h1 h2 hp => h.mi i h1 h2 ((hA h1 h2).1.1 hp), ?_, fun i h1 h2 hp => ?_, h.ok, by simp [ConcN.upd], fun i h1 h2 hp => ?_, fun i h1 h2 => ?_,
    fun i => ?_, fun i => ?_, m1, m2, m3, m4, m5⟩
  · replace hp : ph' i = .A pk := hp
    show ∃ r', ((f.gs.map (woken P r g' w')).setIfInBounds 0 g')[i]? = some r' ∧ _
    rw [get_set_map (by omega)]
    rcases hwk i h1 h2 with ⟨e1, e2⟩ | ⟨e1, e2, e3⟩
    · obtain ⟨ri, hri, hc⟩ := h.ra i pk h1 h2 (e1 ▸ hp)
      refine ⟨_, by rw [hri]; rfl, ?_⟩
      rcases hc with ⟨rfl, hlk⟩ | ⟨rfl, c, y, ys, z1, z2, q1, q2, q3, q4, q5, q6, rfl, q7⟩
      · left
        have : woken P r g' w' ri = ri := woken_run hlk.run
        rw [this]; exact ⟨rfl, hlk⟩
      · right
        rw [e2 _ _ (e1 ▸ hp) hri]
        exact ⟨rfl, c, y, ys, z1, z2, q1, q2, q3, q4, q5, q6, rfl, q7⟩
    · rw [e2] at hp
      cases hp
      obtain ⟨ri, hri, hc⟩ := h.ra i true h1 h2 e1
      refine ⟨_, by rw [hri]; rfl, .inl ⟨rfl, ?_⟩⟩
      rcases hc with ⟨hf, _⟩ | ⟨_, c, y, ys, z1, z2, q1, q2, q3, q4, q5, q6, rfl, q7⟩
      · cases hf
      · rw [e3 _ _ hri]; exact .tries q5 _ _
  · replace hp : ph' i = .Q q := hp
    show ∃ r', ((f.gs.map (woken P r g' w')).setIfInBounds 0 g')[i]? = some r' ∧ _
    rw [get_set_map (by omega)]
    have hp' : f.ph i = .Q q := by
      rcases hwk.ph h1 h2 with e | ⟨_, e⟩
      · rw [← e]; exact hp
      · rw [e] at hp; cases hp
    obtain ⟨ri, hri, hq⟩ := h.rq i q h1 h2 hp'
    refine ⟨_, by rw [hri]; rfl, ?_⟩
    rw [woken_quitsD hq]
    show QuitsD P q (Deaf (f.t ++ _) i) ri
    rw [hdo i h1]; exact hq
  · show Deaf (f.t ++ _) 0 = _
    rw [Deaf_own, h.d0]; exact hd
  · show Deaf (f.t ++ _) i = 0
    rw [hdo i h1]; exact h.da i h1 h2 ((hA h1 h2).1.1 hp)
  · show ConcN.upd f.o.M 0 x'.m i = _
    rw [upd_ne _ _ (by omega)]; exact h.oMa i h1 h2 ((hA h1 h2).1.1 hp)
  · show ConcN.upd f.o.M 0 x'.m i = _
    rw [upd_ne _ _ (by omega)]; rcases Nat.lt_or_ge f.k i with hlt | hge
    · exact h.oMn i h1 (.inl hlt)
    · exact h.oMn i h1 (h2.imp id fun hh hp => hh ((hA h1 hge).1.2 hp))
  · show f.o.lv i ↔ _
    rw [h.lv i]
    constructor
    · rintro ⟨a1, a2, a3⟩; exact ⟨a1, a2, (hA a1 a2).2.2.2 a3⟩
    · rintro ⟨a1, a2, a3⟩; exact ⟨a1, a2, (hA a1 a2).2.2.1 a3⟩
  · show f.o.cp i ↔ _
    rw [h.cp i]
    constructor
    · rintro ⟨a1, a2, a3⟩; exact ⟨a1, a2, fun hh => a3 ((hA a1 a2).2.1.1 hh)⟩
    · rintro ⟨a1, a2, a3⟩; exact ⟨a1, a2, fun hh => a3 ((hA a1 a2).2.1.2 hh)⟩
theorem snd_go1 {f : Cf} {a g' : Goroutine} {x : XW Gh} (h : Inv1 P Post W0 f a x) {i : Nat} (hi1 : 1 ≤ i) (hik : i ≤ f.k) {r : Goroutine} (hr : f.gs[i]? = some r) {w' : World} {es : Array Event} {ph' : Nat → Ph} {F' : Nat → Goroutine × XW Gh} {mb' : MB} {m' : Heap} {rl' : Nat → Nat → Prop}
    (hph : ∀ j, j ≠ i → ph' j = f.ph j) (hwk : ∀ j a cs, j ≠ i → f.ph j = .A true → f.gs[j]? = some (parked a cs .select) → woken P r g' w' (parked a cs .select) = parked a cs .select) (hF : ∀ j, j ≠ i → F' j = f.F j)
    (hmb : ∀ r0, f.gs[0]? = some r0 → MRec P W0 a x f.mb r0 → MRec P W0 a x mb' (woken P r g' w' r0))
    (henv : Env W0 w') (hfr : ∀ b, b < f.w.heap.size → f.o.M i b = none → ¬ f.o.Sh b → w'.heap[b]? = f.w.heap[b]?) (hsz : f.w.heap.size ≤ w'.heap.size) (hm' : m'.le (rp w')) (hnew : ∀ b, m' b ≠ none → f.o.M i b ≠ none ∨ f.w.heap.size ≤ b)
    (hmay : ∀ e ∈ es, ∀ t, (MemAct.ofEvent e).touch? = some t → f.o.May f.w.heap.size i t) (hsd : ∀ e ∈ es, ∀ t, (MemAct.ofEvent e).touch? = some t → t.kind ≠ .said) (hlow : ∀ e ∈ es, LowT w'.heap.size (MemAct.ofEvent e))
    (hc : f.o.lv i ∨ ∀ y, f.t.size ≤ y → (f.t ++ MemOp.ofEvents i r.frame.fn r.frame.place es).g? y = some i → ¬ (f.t ++ MemOp.ofEvents i r.frame.fn r.frame.place es).counts y)
    (hrl : ∀ g r, f.o.rl g r → rl' g r) (hlv : (ph' i).isL ∨ ¬ (f.ph i).isL ∨ ∃ r', rl' i r' ∧ ∀ y, (f.t ++ MemOp.ofEvents i r.frame.fn r.frame.place es).g? y = some i → y ≤ r')
    (hlb : ¬ (ph' i).isL → (f.ph i).isL → ∃ r', rl' i r' ∧ ∀ y, Knows (f.t ++ MemOp.ofEvents i r.frame.fn r.frame.place es) i y → Before (f.t ++ MemOp.ofEvents i r.frame.fn r.frame.place es) y r')
    (hAA : (ph' i).isA → (f.ph i).isA) (hLL : (ph' i).isL → (f.ph i).isL) (hQQ : (f.ph i).isQ → (ph' i).isQ)
    (hown : (∀ pk, ph' i = .A pk → pk = false ∧ (F' i).1 = g' ∧ MIp P Post W0 (F' i).1 (F' i).2 ∧ (F' i).2.m = m' ∧ deafBehind 0 es = 0) ∧ (¬ (ph' i).isA → m' = Heap.empty) ∧ (∀ q, ph' i = .Q q → QuitsD P q (Deaf (f.t ++ MemOp.ofEvents i r.frame.fn r.frame.place es) i) g')) :
    Inv1 P Post W0 { f with gs := (f.gs.map (woken P r g' w')).setIfInBounds i g', w := w', t := f.t ++ MemOp.ofEvents i r.frame.fn r.frame.place es, mb := mb', F := F', ph := ph', o := { f.o with M := ConcN.upd f.o.M i m', lv := fun j => 1 ≤ j ∧ j ≤ f.k ∧ (ph' j).isL, cp := fun j => 1 ≤ j ∧ j ≤ f.k ∧ ¬ (ph' j).isQ, rl := rl' } } a x := by
  have hops : ∀ op ∈ MemOp.ofEvents i r.frame.fn r.frame.place es, op.g = i := fun op hop => by obtain ⟨e, _, rfl⟩ := ofEvents_mem hop; rfl
  obtain ⟨m1, m2, m3, m4, m5⟩ := own_mem h (i := i) hik (w' := w') (u := MemOp.ofEvents i r.frame.fn r.frame.place es) (m' := m') hfr hsz hm' hnew hops
    (fun op hop t ht => by obtain ⟨e, he, rfl⟩ := ofEvents_mem hop; exact hmay e he t ht) (fun op hop t ht hk => by obtain ⟨e, he, rfl⟩ := ofEvents_mem hop; exact absurd hk (hsd e he t ht)) (fun op hop => by obtain ⟨e, he, rfl⟩ := ofEvents_mem hop; exact hlow e he) (.inr hc)
  have hlt : i < f.gs.size := by rw [h.size]; omega
  have hdo : ∀ j, j ≠ i → Deaf (f.t ++ MemOp.ofEvents i r.frame.fn r.frame.place es) j = Deaf f.t j := fun j hj => Deaf_other _ (g' := i) (Ne.symm hj) _ hops
  have hL : ∀ j, (ph' j).isL → (f.ph j).isL := fun j hj => by
    by_cases e : j = i
    · subst e; exact hLL hj
    · rw [← hph j e]; exact hj
  have hA : ∀ j, (ph' j).isA → (f.ph j).isA := fun j hj => by
    by_cases e : j = i
    · subst e; exact hAA hj
    · rw [← hph j e]; exact hj
  have hQ : ∀ j, (f.ph j).isQ → (ph' j).isQ := fun j hj => by
    by_cases e : j = i
    · subst e; exact hQQ hj
    · rw [hph j e]; exact hj
  have m1' : Own4.Apart { f.o with M := ConcN.upd f.o.M i m', lv := fun j => 1 ≤ j ∧ j ≤ f.k ∧ (ph' j).isL, cp := fun j => 1 ≤ j ∧ j ≤ f.k ∧ ¬ (ph' j).isQ, rl := rl' } w'.heap.size :=
    ⟨m1.own, m1.mem, m1.base, m1.win, fun g ⟨a1, a2, a3⟩ => ⟨a1, a2, fun hq => by cases hp : ph' g <;> rw [hp] at a3 hq <;> first | exact a3.elim | exact hq.elim⟩, m1.sh, m1.ac⟩
  have m5' : TOk { f.o with M := ConcN.upd f.o.M i m', lv := fun j => 1 ≤ j ∧ j ≤ f.k ∧ (ph' j).isL, cp := fun j => 1 ≤ j ∧ j ≤ f.k ∧ ¬ (ph' j).isQ, rl := rl' } w'.heap.size (f.t ++ MemOp.ofEvents i r.frame.fn r.frame.place es) := by
    refine m5.turn (Nat.le_refl _) (fun g b hb => .inl hb) (fun b hb => .inl ⟨hb, fun g ⟨a1, a2, a3⟩ => .inl ((h.lv g).2 ⟨a1, a2, hL g a3⟩), fun g hg => ?_, hrl⟩) (fun b hb => .inl ⟨hb, rfl⟩) (fun b hb => .inl ⟨hb, fun g ⟨⟨a1, a2, a3⟩, ha⟩ => .inl ⟨(h.cp g).2 ⟨a1, a2, fun hq => a3 (hQ g hq)⟩, ha⟩⟩) (fun g hg => ?_) hrl
    · obtain ⟨a1, a2, a3⟩ := (h.lv g).1 hg
      by_cases e : g = i
      · subst e
        by_cases hp : (ph' g).isL
        · exact .inl ⟨a1, a2, hp⟩
        · exact .inr (hlb hp a3)
      · exact .inl ⟨a1, a2, by rw [hph g e]; exact a3⟩
    · obtain ⟨a1, a2, a3⟩ := (h.lv g).1 hg
      by_cases e : g = i
      · subst e
        rcases hlv with h1 | h1 | h1
        · exact .inl ⟨a1, a2, h1⟩
        · exact absurd a3 h1
        · exact .inr h1
      · exact .inl ⟨a1, a2, by rw [hph g e]; exact a3⟩
  obtain ⟨w1, w2, w3⟩ := hown
  refine ⟨by simp [h.size], henv, ?_, fun j pk h1 h2 hp => ?_, fun j q h1 h2 hp => ?_, fun j h1 h2 hp => ?_, ?_, fun j h1 h2 hp => ?_, h.ok, ?_, fun j h1 h2 hp => ?_, fun j h1 h2 => ?_, fun j => Iff.rfl, fun j => Iff.rfl, m1', m2, m3, m4, m5'⟩
  · obtain ⟨r0, hr0, hm0⟩ := h.main
    exact ⟨_, by show ((f.gs.map (woken P r g' w')).setIfInBounds i g')[0]? = _; rw [get_set_map (by omega), hr0]; rfl, hmb r0 hr0 hm0⟩
  · replace hp : ph' j = .A pk := hp
    show ∃ r', ((f.gs.map (woken P r g' w')).setIfInBounds i g')[j]? = some r' ∧ RA P Post W0 (F' j) pk r'
    by_cases e : j = i
    · subst e
      obtain ⟨rfl, b1, b2, b3, b4⟩ := w1 pk hp
      refine ⟨g', get_set_self hlt, .inl ⟨rfl, ?_⟩⟩
      rw [b1]
      have := mi_running b2
      rw [b1] at this
      exact .refl this
    · rw [get_set_map (Ne.symm e), hF j e]
      obtain ⟨rj, hrj, hcj⟩ := h.ra j pk h1 h2 (by rw [← hph j e]; exact hp)
      refine ⟨_, by rw [hrj]; rfl, ?_⟩
      rcases hcj with ⟨rfl, hlk⟩ | ⟨rfl, c, y, ys, z1, z2, q1, q2, q3, q4, q5, q6, rfl, q7⟩
      · left
        have : woken P r g' w' rj = rj := woken_run hlk.run
        rw [this]; exact ⟨rfl, hlk⟩
      · right
        rw [hwk j _ _ e (by rw [← hph j e]; exact hp) hrj]
        exact ⟨rfl, c, y, ys, z1, z2, q1, q2, q3, q4, q5, q6, rfl, q7⟩
  · replace hp : ph' j = .Q q := hp
    show ∃ r', ((f.gs.map (woken P r g' w')).setIfInBounds i g')[j]? = some r' ∧ QuitsD P q (Deaf (f.t ++ _) j) r'
    by_cases e : j = i
    · subst e
      exact ⟨g', get_set_self hlt, w3 q hp⟩
    · rw [get_set_map (Ne.symm e)]
      obtain ⟨rj, hrj, hq⟩ := h.rq j q h1 h2 (by rw [← hph j e]; exact hp)
      refine ⟨_, by rw [hrj]; rfl, ?_⟩
      rw [woken_quitsD hq, hdo j e]; exact hq
  · replace hp : (ph' j).isA := hp
    show MIp P Post W0 (F' j).1 (F' j).2
    by_cases e : j = i
    · subst e
      cases hpj : ph' j with
      | A pk => exact (w1 pk hpj).2.2.1
      | B _ _ _ => rw [hpj] at hp; exact hp.elim
      | Q _ => rw [hpj] at hp; exact hp.elim
    · rw [hF j e]; exact h.mi j h1 h2 (hA j hp)
  · show Deaf (f.t ++ _) 0 = _
    rw [hdo 0 (by omega)]; exact h.d0
  · replace hp : (ph' j).isA := hp
    show Deaf (f.t ++ _) j = 0
    by_cases e : j = i
    · subst e
      rw [Deaf_own, h.da j h1 h2 (hA j hp)]
      cases hpj : ph' j with
      | A pk => exact (w1 pk hpj).2.2.2.2
      | B _ _ _ => rw [hpj] at hp; exact hp.elim
      | Q _ => rw [hpj] at hp; exact hp.elim
    · rw [hdo j e]; exact h.da j h1 h2 (hA j hp)
  · show ConcN.upd f.o.M i m' 0 = _
    rw [upd_ne _ _ (by omega)]; exact h.oM0
  · replace hp : (ph' j).isA := hp
    show ConcN.upd f.o.M i m' j = (F' j).2.m
    by_cases e : j = i
    · subst e
      rw [ConcN.upd_same]
      cases hpj : ph' j with
      | A pk => exact (w1 pk hpj).2.2.2.1.symm
      | B _ _ _ => rw [hpj] at hp; exact hp.elim
      | Q _ => rw [hpj] at hp; exact hp.elim
    · rw [upd_ne _ _ e, hF j e]; exact h.oMa j h1 h2 (hA j hp)
  · show ConcN.upd f.o.M i m' j = _
    by_cases e : j = i
    · subst e
      rw [ConcN.upd_same]
      rcases h2 with h2 | h2
      · replace h2 : f.k < j := h2
        omega
      · exact w2 h2
    · rw [upd_ne _ _ e]
      refine h.oMn j h1 (h2.imp id fun hh hp => hh ?_)
      show (ph' j).isA
      rw [hph j e]; exact hp
end
end Go.X
