/- A company: the starter starts one more. No program in sight. -/
import Derived.Test.YtafhinjggdknjaaDoorPYF
set_option linter.unusedVariables false
set_option linter.unusedSimpArgs false
namespace Go.X
open Go Go.Sx Go.Conc Go.ConcN
open Go.ConcR (KK wgBlock WgAt stA smA rd wr mk Payload Bk bk_of_mute ofEvent_loc_mark)
section
variable {P : Program} {Post : Value → World → Prop} {W0 : World}
def leavesP : Ph → Ph
  | .B _ q _ => .Q q
  | p => p
theorem main_back {f : Cf} {a : Goroutine} {m : Heap} {c : Co} (h : Inv P Post W0 f a ⟨m, .co c⟩) (hst : c.st = .done) (hmi : MIp P Post W0 a ⟨union m c.cy.base, .solo⟩) :
    Inv P Post W0 { f with ph := fun i => if 1 ≤ i ∧ i ≤ f.k then leavesP (f.ph i) else f.ph i, o := ⟨f.o.k, ConcN.upd f.o.M 0 (union m c.cy.base), Heap.empty, Heap.empty, 0, fun _ => False, fun _ => False, fun _ => False, fun _ _ => False, fun _ _ => False⟩ } a ⟨union m c.cy.base, .solo⟩ := by
  obtain ⟨h1, j0, h2⟩ := h
  obtain ⟨r, hr, hm⟩ := h1.main
  have hmb : f.mb = .run ∧ Like P a r := by
    cases hmb : f.mb with
    | run => rw [hmb] at hm; cases hm with | run hl => exact ⟨rfl, hl⟩
    | park i => rw [hmb] at hm; cases hm with | park e1 e2 => cases e1; rw [hst] at e2; cases e2
    | blk => rw [hmb] at hm; cases hm with | blk e1 e2 => cases e1; rw [hst] at e2; cases e2
  obtain ⟨hmb, hl⟩ := hmb
  obtain ⟨st, sm, hw, hmode⟩ := h2.mode
  rw [hmb, hst] at hmode
  obtain ⟨hall, _, _⟩ := mode_fin hmode trivial
  have hph : ∀ i, 1 ≤ i → i ≤ f.k → (∃ q, f.ph i = .Q q) ∨ ∃ q d, f.ph i = .B 1 q d := fun i a b => by
    have := hall (i - 1) (by omega)
    simp only [Cf.D, Nat.sub_add_cancel a] at this
    cases hp : f.ph i with
    | A pk => rw [hp] at this; cases this
    | B s q d => rw [hp] at this; replace this : s = 1 := this; subst this; exact .inr ⟨q, d, rfl⟩
    | Q q => exact .inl ⟨q, rfl⟩
  obtain ⟨ph', hph'⟩ : ∃ ph', ph' = fun i => if 1 ≤ i ∧ i ≤ f.k then leavesP (f.ph i) else f.ph i := ⟨_, rfl⟩
  rw [← hph']
  have pin : ∀ i, 1 ≤ i → i ≤ f.k → ph' i = leavesP (f.ph i) := fun i a b => by rw [hph']; exact if_pos ⟨a, b⟩
  have hQ : ∀ i, 1 ≤ i → i ≤ f.k → (ph' i).isQ := fun i a b => by
    rw [pin i a b]
    rcases hph i a b with ⟨q, e⟩ | ⟨q, d, e⟩ <;> rw [e] <;> trivial
  have hnL : ∀ g, ¬ f.o.lv g := fun g hg => by
    obtain ⟨a1, a2, a3⟩ := (h1.lv g).1 hg
    rcases hph g a1 a2 with ⟨q, e⟩ | ⟨q, d, e⟩
    · rw [e] at a3; exact a3
    · rw [e] at a3; replace a3 : 1 = 7 := a3; omega
  have hwin : f.o.win = Heap.empty := h2.win
  have hM0 : f.o.M 0 = m := h1.oM0
  have hbase : f.o.base = c.cy.base := h2.base
  have hj : ∀ b, union m c.cy.base b ≠ none → f.o.M 0 b ≠ none ∨ f.o.base b ≠ none := fun b hb => by
    rw [hM0, hbase]
    exact union_ne hb
  have hknow : ∀ i ad b, touchAt f.t i = some ad → blk ad.loc = some b → f.o.base b ≠ none → Knows f.t 0 i := fun i ad b ha hb hB => by
    rcases h1.tok.baseAll i ad b ha hb hB with h3 | ⟨g, h3, _⟩ | ⟨g, rr, h3, h4⟩
    · exact h3
    · exact absurd h3 (hnL g)
    · exact Knows.of_before h4 (h2.acq hst g rr h3)
  have hMn : ∀ {g b}, ConcN.upd f.o.M 0 (union m c.cy.base) g b ≠ none → (g = 0 ∧ (f.o.M 0 b ≠ none ∨ f.o.base b ≠ none)) ∨ (g ≠ 0 ∧ f.o.M g b ≠ none) := fun {g b} hb => by
    by_cases e : g = 0
    · subst e; rw [ConcN.upd_same] at hb; exact .inl ⟨rfl, hj b hb⟩
    · rw [upd_ne _ _ e] at hb; exact .inr ⟨e, hb⟩
  refine ⟨⟨h1.size, h1.env, ⟨r, hr, by show MRec P W0 a _ f.mb r; rw [hmb]; exact .run hl⟩, fun i pk a b hh => ?_, fun i q a b hh => ?_, fun i a b hh => ?_, ?_, fun i a b hh => ?_, h1.ok, (by show ConcN.upd f.o.M 0 (union m c.cy.base) 0 = union m c.cy.base; rw [ConcN.upd_same]), fun i a b hh => ?_, fun i a b => ?_, fun i => ⟨fun hh => hh.elim, fun ⟨a, b, hh⟩ => ?_⟩, fun i => ⟨fun hh => hh.elim, fun ⟨a, b, hh⟩ => absurd (hQ i a b) hh⟩, ⟨fun g g' b hne hb => ?_, fun g b hb => ⟨rfl, rfl, id, ?_⟩, fun b hb => absurd rfl hb, fun b hb => absurd rfl hb, fun g hg => hg, fun b hb => hb.elim, fun g b hg => hg.elim⟩, fun i => ?_, fun b o hb => (by cases hb), fun b o hb => (by cases hb), ?_⟩, ?_⟩
  · have := hQ i a b
    replace hh : ph' i = .A pk := hh
    rw [hh] at this; exact this.elim
  · replace hh : ph' i = .Q q := hh
    rw [pin i a b] at hh
    rcases hph i a b with ⟨q', e⟩ | ⟨q', d, e⟩
    · rw [e] at hh; cases hh; exact h1.rq i _ a b e
    · rw [e] at hh; cases hh
      have hj0 : j0 < i := Nat.lt_of_not_le fun hle => by have := h2.old i a hle; rw [e] at this; exact this.elim
      obtain ⟨hd, r', hr', C, cs, T, fz, v, _, _, hsit, _⟩ := h2.b i 1 _ d e hj0 b
      refine ⟨r', hr', ?_⟩
      show QuitsD P _ (Deaf f.t i) r'
      rw [hd]
      cases hsit with
      | quit hq => exact hq
  · have := hQ i a b
    replace hh : (ph' i).isA := hh
    cases hp : ph' i <;> rw [hp] at this hh <;> first | exact this.elim | exact hh.elim
  · rw [h1.d0]; simp [deafOf, hst]
  · have := hQ i a b
    replace hh : (ph' i).isA := hh
    cases hp : ph' i <;> rw [hp] at this hh <;> first | exact this.elim | exact hh.elim
  · have := hQ i a b
    replace hh : (ph' i).isA := hh
    cases hp : ph' i <;> rw [hp] at this hh <;> first | exact this.elim | exact hh.elim
  · show ConcN.upd f.o.M 0 _ i = _
    rw [upd_ne _ _ (by omega)]
    rcases Nat.lt_or_ge f.k i with hlt | hge
    · exact h1.oMn i a (.inl hlt)
    · refine h1.oMn i a (.inr ?_)
      rcases hph i a hge with ⟨q, e⟩ | ⟨q, d, e⟩ <;> rw [e] <;> exact id
  · have := hQ i a b
    replace hh : (ph' i).isL := hh
    cases hp : ph' i <;> rw [hp] at this hh <;> first | exact this.elim | exact hh.elim
  · show ConcN.upd f.o.M 0 (union m c.cy.base) g' b = none
    rcases hMn hb with ⟨rfl, hb'⟩ | ⟨hg, hb'⟩
    · rw [upd_ne _ _ (Ne.symm hne)]
      rcases hb' with hb' | hb'
      · exact h1.apart.own 0 g' b hne hb'
      · cases hM : f.o.M g' b with
        | none => rfl
        | some v => exact absurd (h1.apart.mem g' b (by rw [hM]; simp)).1 hb'
    · by_cases e' : g' = 0
      · subst e'
        rw [ConcN.upd_same]
        have e1 := h1.apart.own g 0 b hg hb'
        have e2 := (h1.apart.mem g b hb').1
        rw [hM0] at e1
        rw [hbase] at e2
        simp [union, e1, e2]
      · rw [upd_ne _ _ e']; exact h1.apart.own g g' b hne hb'
  · rcases hMn hb with ⟨rfl, hb' | hb'⟩ | ⟨hg, hb'⟩
    · exact (h1.apart.mem 0 b hb').2.2.2
    · exact (h1.apart.base b hb').2.2
    · exact (h1.apart.mem g b hb').2.2.2
  · intro b o hb
    replace hb : ConcN.upd f.o.M 0 (union m c.cy.base) i b = some o := hb
    by_cases e : i = 0
    · subst e
      rw [ConcN.upd_same] at hb
      rcases union_cases hb with he | ⟨_, he⟩
      · exact h1.mem 0 b o (by rw [hM0]; exact he)
      · exact h1.mbase b o (by rw [hbase]; exact he)
    · rw [upd_ne _ _ e] at hb; exact h1.mem i b o hb
  · refine ⟨h1.tok.nr, h1.tok.low, h1.tok.gs, fun g i ad b ha hb hM => ?_, fun g i ad b hg ha hb hB => absurd rfl hB, fun i ad b ha hb hB => absurd rfl hB, fun g i ad b hg ha hb hB => absurd rfl hB, fun i ad b ha hb hB => absurd rfl hB, fun i ad b ha hb hS => hS.elim, h1.tok.said, fun i g hi hne hc => ?_⟩
    · rcases hMn hM with ⟨rfl, hb' | hb'⟩ | ⟨hg, hb'⟩
      · exact h1.tok.own 0 i ad b ha hb hb'
      · exact hknow i ad b ha hb hb'
      · exact h1.tok.own g i ad b ha hb hb'
    · rcases h1.tok.hand i g hi hne hc with h3 | h3 | ⟨rr, h3, h4⟩
      · exact .inl h3
      · exact absurd h3 (hnL g)
      · refine .inl (Knows.of_before ?_ (h2.acq hst g rr h3))
        obtain ⟨_, _, _, hrel⟩ := h2.rel g rr h3
        rcases Nat.lt_or_ge i rr with hlt | hge
        · exact .inr (.single (.inl ⟨hlt, g, hi, hrel.g⟩))
        · exact .inl (by omega)
  · exact ⟨hQ, rfl, rfl, fun _ _ => id⟩
end
end Go.X
namespace Go.X
open Go Go.Sx Go.Conc Go.ConcN
open Go.ConcR (KK wgBlock WgAt stA smA rd wr mk Payload Bk bk_of_mute ofEvent_loc_mark)
section
variable {P : Program} {Post : Value → World → Prop} {W0 : World}
theorem fork_all {t : Trace} {k : Nat} {x y : MemOp} (hx : x.g = 0 ∧ x.act = .go k) (hy : y.g = k ∧ y.act = .start) (hk1 : 1 ≤ k) (h0 : Deaf t 0 = 0) (hk : Deaf t k = 0) {i : Nat} (h : Knows (t ++ #[x, y]) 0 i) : Knows (t ++ #[x, y]) k i := by
  have hxp : (t ++ #[x, y])[t.size]? = some x := by rw [Array.getElem?_append_right (Nat.le_refl _)]; simp
  have hyp : (t ++ #[x, y])[t.size + 1]? = some y := by rw [Array.getElem?_append_right (by omega)]; simp
  have e0 : (t ++ #[x, y]).heard t.size := ⟨0, by simp [Trace.g?, hx.1], by rw [deaf_old (Nat.le_refl _)]; exact h0⟩
  have e1 : (t ++ #[x, y]).heard (t.size + 1) := ⟨k, by simp [Trace.g?, hy.1], by rw [deaf_succ hxp, deaf_old (Nat.le_refl _)]; simp only [deafStep, hx.2]; exact hk⟩
  have edge : HappensBefore (t ++ #[x, y]) t.size (t.size + 1) := .single (.inr ⟨.spawn (child := k) (by rw [act?_of hxp, hx.2]) (by rw [act?_of hyp, hy.2]) (by simp [Trace.g?, hy.1]), e0, e1⟩)
  obtain ⟨q, z, hz, hzg, hb⟩ := h
  have hlt := lt_size_of_getElem? hz
  simp at hlt
  have hqle : q ≤ t.size := Nat.le_of_not_lt fun hh => by
    have : q = t.size + 1 := by omega
    rw [this, hyp] at hz; cases hz
    rw [hy.1] at hzg; omega
  refine ⟨t.size + 1, y, hyp, hy.1, .inr (hb.hb ?_)⟩
  rcases Nat.lt_or_ge q t.size with h1 | h1
  · exact .trans (.single (.inl ⟨h1, 0, by simp [Trace.g?, hz, hzg], by simp [Trace.g?, hx.1]⟩)) edge
  · have : q = t.size := by omega
    rw [this]; exact edge
theorem main_go {f : Cf} {a g' child : Goroutine} {m : Heap} {c : Co} (h : Inv P Post W0 f a ⟨m, .co c⟩) {r : Goroutine} (hr : f.gs[0]? = some r) (hl : Like P a r) (hmb : f.mb = .run) (hfew : c.wk.length + 2 < 2147483648) (hst : c.st = .pend) (hsh : c.shut = false)
    (hstep : ∀ w, Env W0 w → m.le (rp w) → stepG P true a w = .spawn g' child w #[])
    (hc : MIp P Post W0 child ⟨Heap.empty, .snd ⟨c.cy, none, false, 0⟩⟩) (hg : MIp P Post W0 g' ⟨m, .co { c with st := .run, wk := c.wk ++ [none] }⟩)
    (hT : Tm P Post W0 g' ⟨m, .co { c with st := .run, wk := c.wk ++ [none] }⟩) : EndsR P Post f 0 := by
  obtain ⟨h1, j0, h2⟩ := h
  have hM0 : f.o.M 0 = m := h1.oM0
  have hm0 : m.le (rp f.w) := by have := h1.mem 0; rwa [hM0] at this
  have hrunT := runT_crowd_spawn (P := P) (sl := f.sl) (i := 0) hr (show stepG P (0 == 0) r f.w = .spawn g' child f.w #[] by rw [show ((0 : Nat) == 0) = true from rfl, hl.step]; exact hstep _ h1.env hm0)
  rw [ofEvents_nil] at hrunT
  have hsize := h1.size
  have hd0 : Deaf f.t 0 = 0 := by rw [h1.d0]; simp [deafOf, hst]
  have hgs' : ∀ op ∈ f.t, op.g ≤ f.k := fun op hop => by have := h1.tok.gs op hop; rwa [h1.ok] at this
  have hdk : Deaf f.t (f.k + 1) = 0 := Deaf_absent fun i op hi e => by have := hgs' op (Array.mem_of_getElem? hi); omega
  obtain ⟨x, hxd⟩ : ∃ x : MemOp, x = { g := 0, fn := r.frame.fn, pos := r.frame.place, act := .go f.gs.size } := ⟨_, rfl⟩
  obtain ⟨y, hyd⟩ : ∃ y : MemOp, y = { g := f.gs.size, fn := child.frame.fn, pos := r.frame.place, act := .start } := ⟨_, rfl⟩
  have hx : x.g = 0 ∧ x.act = .go (f.k + 1) := by rw [hxd, hsize]; exact ⟨rfl, rfl⟩
  have hy : y.g = f.k + 1 ∧ y.act = .start := by rw [hyd, hsize]; exact ⟨rfl, rfl⟩
  have hnt : ∀ op ∈ #[x, y], op.act.touch? = none := fun op hop => by
    simp only [List.mem_toArray, List.mem_cons, List.not_mem_nil, or_false] at hop
    rcases hop with rfl | rfl
    · rw [hx.2]; rfl
    · rw [hy.2]; rfl
  have hquiet : ∀ g, ∀ op ∈ #[x, y], ∀ d, deafStep g d op = d := fun g op hop d => by
    simp only [List.mem_toArray, List.mem_cons, List.not_mem_nil, or_false] at hop
    rcases hop with rfl | rfl
    · simp only [deafStep, hx.2]
    · simp only [deafStep, hy.2]
  have hDf : ∀ g, Deaf (f.t ++ #[x, y]) g = Deaf f.t g := fun g => Deaf_quiet (hquiet g)
  have fork : ∀ {i : Nat}, Knows (f.t ++ #[x, y]) 0 i → Knows (f.t ++ #[x, y]) (f.k + 1) i := fun {i} hi => fork_all hx hy (by omega) hd0 hdk hi
  have hn1 : ¬ f.o.lv (f.k + 1) := fun hg => by have := (h1.lv _).1 hg; omega
  obtain ⟨q, hq⟩ : ∃ q : Cs, q = ⟨c.cy, none, false, 0⟩ := ⟨_, rfl⟩
  rw [← hq] at hc
  obtain ⟨F', hF'⟩ : ∃ F', F' = ConcN.upd f.F (f.k + 1) (child, (⟨Heap.empty, .snd q⟩ : XW Gh)) := ⟨_, rfl⟩
  obtain ⟨ph', hph'⟩ : ∃ ph', ph' = ConcN.upd f.ph (f.k + 1) (.A false) := ⟨_, rfl⟩
  have F1 : F' (f.k + 1) = (child, ⟨Heap.empty, .snd q⟩) := by rw [hF']; exact ConcN.upd_same _ _ _
  have F2 : ∀ i, i ≠ f.k + 1 → F' i = f.F i := fun i hi => by rw [hF']; exact upd_ne _ _ hi
  have p1 : ph' (f.k + 1) = .A false := by rw [hph']; exact ConcN.upd_same _ _ _
  have p2 : ∀ i, i ≠ f.k + 1 → ph' i = f.ph i := fun i hi => by rw [hph']; exact upd_ne _ _ hi
  obtain ⟨o', ho'⟩ : ∃ o' : Own4, o' = ⟨f.k + 1, f.o.M, f.o.base, f.o.win, 0, f.o.Sh, fun j => 1 ≤ j ∧ j ≤ f.k + 1 ∧ (ph' j).isL, fun j => 1 ≤ j ∧ j ≤ f.k + 1 ∧ ¬ (ph' j).isQ, f.o.rl, fun g b => f.o.ac g b ∨ (g = f.k + 1 ∧ (b = c.cy.dl ∨ b = c.cy.dn ∨ b = c.cy.wg))⟩ := ⟨_, rfl⟩
  have hwin : f.o.win = Heap.empty := h2.win
  have lv_old : ∀ {g}, o'.lv g → g = f.k + 1 ∨ f.o.lv g := fun {g} hg => by
    rw [ho'] at hg
    obtain ⟨a1, a2, a3⟩ := hg
    by_cases e : g = f.k + 1
    · exact .inl e
    · exact .inr ((h1.lv g).2 ⟨a1, by omega, by rw [← p2 g e]; exact a3⟩)
  have cp_old : ∀ {g}, o'.cp g → g = f.k + 1 ∨ f.o.cp g := fun {g} hg => by
    rw [ho'] at hg
    obtain ⟨a1, a2, a3⟩ := hg
    by_cases e : g = f.k + 1
    · exact .inl e
    · exact .inr ((h1.cp g).2 ⟨a1, by omega, by rw [← p2 g e]; exact a3⟩)
  have lv_new : ∀ {g}, f.o.lv g → o'.lv g := fun {g} hg => by
    obtain ⟨a1, a2, a3⟩ := (h1.lv g).1 hg
    rw [ho']
    exact ⟨a1, by omega, by rw [p2 g (by omega)]; exact a3⟩
  have hap : o'.Apart f.w.heap.size := by
    rw [ho'] at *
    refine ⟨h1.apart.own, h1.apart.mem, h1.apart.base, h1.apart.win, fun g ⟨a1, a2, a3⟩ => ⟨a1, a2, fun hq => by cases hp : ph' g <;> rw [hp] at a3 hq <;> first | exact a3.elim | exact hq.elim⟩, h1.apart.sh, fun g b hb => ?_⟩
    rcases hb with hb | ⟨_, rfl | rfl | rfl⟩
    · exact h1.apart.ac g b hb
    · exact h2.dl.1
    · exact h2.dn.1
    · exact h2.wg
  have htok : TOk o' f.w.heap.size (f.t ++ #[x, y]) := by
    have t1 : TOk { f.o with k := f.k + 1 } f.w.heap.size (f.t ++ #[x, y]) := by
      refine TOk.still (h1.tok.turn (o' := { f.o with k := f.k + 1 }) (by rw [h1.ok]; exact Nat.le_succ _) (fun g b hb => .inl hb) (fun b hb => .inl ⟨hb, fun g hg => .inl hg, fun g hg => .inl hg, fun g r hr => hr⟩) (fun b hb => .inl ⟨hb, rfl⟩) (fun b hb => .inl ⟨hb, fun g hg => .inl hg⟩) (fun g hg => .inl hg) (fun g r hr => hr)) fun op hop => ⟨?_, hnt op hop⟩
      simp only [List.mem_toArray, List.mem_cons, List.not_mem_nil, or_false] at hop
      rcases hop with rfl | rfl
      · rw [hx.1]; exact Nat.zero_le _
      · rw [hy.1]; exact Nat.le_refl _
    refine t1.turn (by rw [ho']; exact Nat.le_refl _) (fun g b hb => .inl (by rw [ho'] at hb; exact hb)) (fun b hb => .inl ⟨?_, fun g hg => ?_, fun g hg => .inl (lv_new hg), fun g r hr => ?_⟩) (fun b hb => ?_) (fun b hb => ?_) (fun g hg => .inl (lv_new hg)) (fun g r hr => ?_)
    · rw [ho'] at hb; exact hb
    · rcases lv_old hg with rfl | hg'
      · exact .inr fun i => fork
      · exact .inl hg'
    · rw [ho']; exact hr
    · rw [ho'] at hb
      exact absurd (show f.o.win b = none by rw [hwin]; rfl) hb
    · rw [ho'] at hb
      refine .inl ⟨hb, fun g ⟨hg, ha⟩ => ?_⟩
      rcases cp_old hg with rfl | hg'
      · exact .inr fun i => fork
      · rw [ho'] at ha
        rcases ha with ha | ⟨e, _⟩
        · exact .inl ⟨hg', ha⟩
        · rw [e]; exact .inr fun i => fork
    · rw [ho']; exact hr
  have hget : ∀ i, 1 ≤ i → i ≤ f.k → ((f.gs.setIfInBounds 0 g').push child)[i]? = f.gs[i]? := fun i a b => by
    rw [Array.getElem?_push, if_neg (by simp [hsize]; omega), Array.getElem?_setIfInBounds_ne (by omega)]
  have hget1 : ((f.gs.setIfInBounds 0 g').push child)[f.k + 1]? = some child := by
    rw [Array.getElem?_push, if_pos (by simp [hsize])]
  have hget0 : ((f.gs.setIfInBounds 0 g').push child)[0]? = some g' := by
    rw [Array.getElem?_push, if_neg (by simp [hsize]), Array.getElem?_setIfInBounds_self_of_lt (by omega)]
  obtain ⟨f', hf'⟩ : ∃ f' : Cf, f' = ⟨(f.gs.setIfInBounds 0 g').push child, f.w, f.sl, f.t ++ #[x, y], f.k + 1, .run, F', ph', o'⟩ := ⟨_, rfl⟩
  have hlast : f.k + 1 = j0 + 1 + c.wk.length := by rw [h2.k]; omega
  have hnw : ∀ {i : Nat} {s : Option Nat}, (c.wk ++ [(none : Option Nat)])[i]? = some s → (i = c.wk.length ∧ s = none) ∨ (i < c.wk.length ∧ c.wk[i]? = some s) := fun {i s} hs => by
    rw [List.getElem?_append] at hs
    split at hs
    · exact .inr ⟨by assumption, hs⟩
    · rename_i hge
      have : i - c.wk.length = 0 := by
        rcases Nat.eq_zero_or_pos (i - c.wk.length) with e | e
        · exact e
        · rw [List.getElem?_eq_none (by simp; omega)] at hs; cases hs
      rw [this] at hs
      simp at hs
      exact .inl ⟨by omega, hs.symm⟩
  have hinv : Inv P Post W0 f' g' ⟨m, .co { c with st := .run, wk := c.wk ++ [none] }⟩ := by
    rw [hf']
    refine ⟨⟨by simp [hsize], h1.env, ⟨g', hget0, .run (.refl (mi_running hg))⟩, fun i pk a b hh => ?_, fun i q2 a b hh => ?_, fun i a b hh => ?_, ?_, fun i a b hh => ?_, by rw [ho'], by rw [ho']; exact hM0, fun i a b hh => ?_, fun i a b => ?_, fun i => by rw [ho'], fun i => by rw [ho'], hap, fun i => by rw [ho']; exact h1.mem i, by rw [ho']; exact h1.mbase, by rw [ho']; exact h1.mwin, htok⟩, j0, ?_⟩
    · show ∃ r, ((f.gs.setIfInBounds 0 g').push child)[i]? = some r ∧ RA P Post W0 (F' i) pk r
      replace hh : ph' i = .A pk := hh
      replace b : i ≤ f.k + 1 := b
      by_cases e : i = f.k + 1
      · subst e
        rw [p1] at hh; cases hh
        exact ⟨child, hget1, .run (by rw [F1]; exact .refl (mi_running hc))⟩
      · rw [hget i a (by omega), F2 i e]
        exact h1.ra i pk a (by omega) (by rw [← p2 i e]; exact hh)
    · show ∃ r, ((f.gs.setIfInBounds 0 g').push child)[i]? = some r ∧ QuitsD P q2 (Deaf (f.t ++ #[x, y]) i) r
      replace hh : ph' i = .Q q2 := hh
      replace b : i ≤ f.k + 1 := b
      by_cases e : i = f.k + 1
      · subst e; rw [p1] at hh; cases hh
      · rw [hget i a (by omega), hDf]
        exact h1.rq i q2 a (by omega) (by rw [← p2 i e]; exact hh)
    · show MIp P Post W0 (F' i).1 (F' i).2
      replace hh : (ph' i).isA := hh
      replace b : i ≤ f.k + 1 := b
      by_cases e : i = f.k + 1
      · subst e; rw [F1]; exact hc
      · rw [F2 i e]; exact h1.mi i a (by omega) (by rw [← p2 i e]; exact hh)
    · show Deaf (f.t ++ #[x, y]) 0 = _
      rw [hDf, hd0]; rfl
    · show Deaf (f.t ++ #[x, y]) i = 0
      replace hh : (ph' i).isA := hh
      replace b : i ≤ f.k + 1 := b
      rw [hDf]
      by_cases e : i = f.k + 1
      · subst e; exact hdk
      · exact h1.da i a (by omega) (by rw [← p2 i e]; exact hh)
    · show o'.M i = (F' i).2.m
      replace hh : (ph' i).isA := hh
      replace b : i ≤ f.k + 1 := b
      rw [ho']
      show f.o.M i = _
      by_cases e : i = f.k + 1
      · subst e; rw [F1]; exact h1.oMn _ a (.inl (by omega))
      · rw [F2 i e]; exact h1.oMa i a (by omega) (by rw [← p2 i e]; exact hh)
    · show o'.M i = Heap.empty
      rw [ho']
      show f.o.M i = _
      by_cases e : i = f.k + 1
      · rw [e]; exact h1.oMn _ (by omega) (.inl (by omega))
      · refine h1.oMn i a (b.imp (fun hh => by replace hh : f.k + 1 < i := hh; omega) fun hh hp => hh ?_)
        show (ph' i).isA
        rw [p2 i e]; exact hp
    · obtain ⟨st, sm, hw, hm⟩ := h2.mode
      rw [hmb, hst] at hm
      obtain ⟨k1, rfl, rfl, k4⟩ := mode_open hm trivial
      refine ⟨?_, fun i a b => ?_, by rw [ho']; exact h2.base, by rw [ho']; exact hwin, by rw [ho']; exact h2.dl, by rw [ho']; exact h2.dn, by rw [ho']; exact h2.wg, h2.ne, ⟨_, 0, hw, ?_⟩, fun live hh => (by cases hh), fun n hn => (by cases hn), trivial, fun i a b hh => ?_, fun hh => absurd (hh.symm.trans hsh) (by simp), fun i s pk hs hh => ?_, fun i s hs hh => ?_, fun i s g d hh a b => ?_, fun i s g d hh a b hz => ?_, fun i rr hrr => ?_, ?_, fun hd => (by cases hd), ?_, fun i hi => ?_⟩
      · show f.k + 1 = j0 + (c.wk ++ [_]).length
        rw [List.length_append, h2.k]; rfl
      · show (ph' i).isQ
        rw [p2 i (by have := h2.k; omega)]; exact h2.old i a b
      · show ConcN.Mode (f.k + 1) (fun i => (ph' (i + 1)).wd) (.sp 0 4) _ 0
        have e1 : Vc (f.k + 1) (fun i => (ph' (i + 1)).wd) = Vc f.k f.D + 1 := by
          have : Vc f.k (fun i => (ph' (i + 1)).wd) = Vc f.k f.D := sumTo_congr fun i hi => by
            show cnt ((ph' (i + 1)).wd) = cnt ((f.ph (i + 1)).wd)
            rw [p2 _ (by omega)]
          simp only [Vc, sumTo] at this ⊢
          rw [this, p1]; rfl
        have := Mode.opn (j := f.k + 1) (D := fun i => (ph' (i + 1)).wd) (tag := .sp 0 4) trivial (fun i hi => ?_) (fun vs e => by cases e)
        · rw [e1] at this
          simpa [pend, tagOf] using this
        · show ((ph' (i + 1)).wd).stage = 7 ∨ ((ph' (i + 1)).wd).stage = 6 ∨ ((ph' (i + 1)).wd).stage = 5 ∨ ((ph' (i + 1)).wd).stage = 1
          by_cases e : i = f.k
          · subst e; rw [p1]; exact .inl rfl
          · have := k1 i (by omega)
            rw [p2 (i + 1) (by omega)]; exact this
      · exact hsh
      · replace hh : ph' (j0 + 1 + i) = .A pk := hh
        show ∃ q, (F' (j0 + 1 + i)).2.s = .snd q ∧ _
        rcases hnw hs with ⟨rfl, rfl⟩ | ⟨hlt, hs'⟩
        · rw [← hlast, F1]
          exact ⟨q, rfl, by rw [hq], by rw [hq], ⟨fun hh => (by rw [hq] at hh; cases hh), by rw [hq]; exact Nat.zero_le _⟩⟩
        · have hne : j0 + 1 + i ≠ f.k + 1 := by omega
          rw [F2 _ hne]
          rw [p2 _ hne] at hh
          exact h2.cha i s pk hs' hh
      · replace hh : ¬ (ph' (j0 + 1 + i)).isA := hh
        rcases hnw hs with ⟨rfl, rfl⟩ | ⟨hlt, hs'⟩
        · rw [← hlast, p1] at hh; exact absurd trivial hh
        · have hne : j0 + 1 + i ≠ f.k + 1 := by omega
          rw [p2 _ hne] at hh
          exact h2.chb i s hs' hh
      · replace hh : ph' i = .B s g d := hh
        replace b : i ≤ f.k + 1 := b
        have hne : i ≠ f.k + 1 := fun e => by rw [e, p1] at hh; cases hh
        rw [p2 i hne] at hh
        obtain ⟨b1, r', b2, b3⟩ := h2.b i s g d hh a (by omega)
        refine ⟨by show Deaf (f.t ++ #[x, y]) i = d; rw [hDf]; exact b1, r', by show ((f.gs.setIfInBounds 0 g').push child)[i]? = _; rw [hget i (by omega) (by omega)]; exact b2, ?_⟩
        obtain ⟨C, cs, T, fz, v, y1, y2, y3, y4⟩ := b3
        exact ⟨C, cs, T, fz, v, y1, y2, y3, y4⟩
      · replace hh : ph' i = .B s g d := hh
        replace b : i ≤ f.k + 1 := b
        have hne : i ≠ f.k + 1 := fun e => by rw [e, p1] at hh; cases hh
        rw [p2 i hne] at hh
        rw [ho']; exact h2.b7 i s g d hh a (by omega) hz
      · rw [ho'] at hrr
        obtain ⟨r1, r2, r3, r4⟩ := h2.rel i rr hrr
        refine ⟨r1, by show i ≤ f.k + 1; omega, ?_, relBy_mute r4 hnt⟩
        show ¬ (ph' i).isL
        rw [p2 i (by omega)]; exact r3
      · refine h2.nor.app rfl (fun i rr hrr => by rw [ho'] at hrr; exact hrr) (fun i rr hrr => h2.rel_lt hrr) fun op hop => ?_
        simp only [List.mem_toArray, List.mem_cons, List.not_mem_nil, or_false] at hop
        rcases hop with rfl | rfl
        · rw [hx.2]; simp
        · rw [hy.2]; simp
      · show (c.wk ++ [_]).length + 1 < 2147483648
        rw [List.length_append]; exact hfew
      · replace hi : i < (c.wk ++ [none]).length := hi
        rw [List.length_append] at hi
        rw [ho']
        by_cases e : i = c.wk.length
        · subst e; rw [← hlast]
          exact ⟨.inr ⟨rfl, .inl rfl⟩, .inr ⟨rfl, .inr (.inl rfl)⟩, .inr ⟨rfl, .inr (.inr rfl)⟩⟩
        · obtain ⟨y1, y2, y3⟩ := h2.ac i (by simp at hi; omega)
          exact ⟨.inl y1, .inl y2, .inl y3⟩
  refine EndsR.of (f' := f') (ops := #[x, y]) ?_ (by rw [hf']) (hT f' hinv)
  rw [hrunT, hf', hxd, hyd]
  rfl
end
end Go.X
