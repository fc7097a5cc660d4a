/- A COMPANY's RUN ENDS. No program in sight. -/
import Derived.Test.YtjkiioicjmaeoaaQYG
set_option linter.unusedVariables false
set_option linter.unusedSimpArgs false
namespace Go.X
open Go Go.Sx Go.Conc Go.ConcN
open Go.ConcR (KK wgBlock WgAt stA smA rd wr mk Payload Bk bk_of_mute ofEvent_loc_mark)
section
variable {P : Program} {Post : Value → World → Prop} {W0 : World}
theorem fork_all {t : Trace} {k : Nat} {x y : MemOp} (hx : x.g = 0 ∧ x.act = .go k) (hy : y.g = k ∧ y.act = .start) (hk1 : 1 ≤ k) (h0 : Deaf t 0 = 0) (hk : Deaf t k = 0) {i : Nat} (h : Knows (t ++ #[x, y]) 0 i) : Knows (t ++ #[x, y]) k i := by
  have hxp : (t ++ #[x, y])[t.size]? = some x := by rw [Array.getElem?_append_right (Nat.le_refl _)]; simp
  have hyp : (t ++ #[x, y])[t.size + 1]? = some y := by rw [Array.getElem?_append_right (by omega)]; simp
  have e0 : (t ++ #[x, y]).heard t.size := ⟨0, by simp [Trace.g?, hx.1], by rw [deaf_old (Nat.le_refl _)]; exact h0⟩
  have e1 : (t ++ #[x, y]).heard (t.size + 1) := ⟨k, by simp [Trace.g?, hy.1], by rw [deaf_succ hxp, deaf_old (Nat.le_refl _)]; simp only [deafStep, hx.2]; exact hk⟩
  have edge : HappensBefore (t ++ #[x, y]) t.size (t.size + 1) := .single (.inr ⟨.spawn (child := k) (by rw [act?_of hxp, hx.2]) (by rw [act?_of hyp, hy.2]) (by simp [Trace.g?, hy.1]), e0, e1⟩)
  obtain ⟨q, z, hz, hzg, hb⟩ := h
  have hlt := lt_size_of_getElem? hz
  simp at hlt
  have hqle : q ≤ t.size := Nat.le_of_not_lt fun hh => by
    have : q = t.size + 1 := by omega
    rw [this, hyp] at hz; cases hz
    rw [hy.1] at hzg; omega
  refine ⟨t.size + 1, y, hyp, hy.1, .inr (hb.hb ?_)⟩
  rcases Nat.lt_or_ge q t.size with h1 | h1
  · exact .trans (.single (.inl ⟨h1, 0, by simp [Trace.g?, hz, hzg], by simp [Trace.g?, hx.1]⟩)) edge
  · have : q = t.size := by omega
    rw [this]; exact edge
theorem main_go {f : Cf} {a g' child : Goroutine} {m m' D : Heap} {c : Co} {ch : Nat} {ys : List Value} (h : Inv P Post W0 f a ⟨m, .co c⟩) {r : Goroutine} (hr : f.gs[0]? = some r) (hl : Like P a r) (hmb : f.mb = .run) (hfew : c.snd.length + 2 < 2147483648) (hst : c.st = .pend) (hwn : c.wn = false) (hsh : c.shut = false)
    (hstep : ∀ w, Env W0 w → m.le (rp w) → stepG P true a w = .spawn g' child w #[]) (hm' : m'.le m) (hD : D.le m) (hdis : Disj m' D) (hch : m ch = some (.chan 0 #[] false 0 0 false)) (hch1 : m' ch = none) (hch2 : D ch = none)
    (hc : MIp P Post W0 child ⟨Heap.empty, .snd ⟨c.ty, c.ech, c.wg, c.base, D, ch, ys, true, false, false⟩⟩) (hg : MIp P Post W0 g' ⟨m', .co { c with st := .run, win := D, wn := true, snd := c.snd ++ [⟨ch, ys⟩] }⟩)
    (hT : Tm P Post W0 g' ⟨m', .co { c with st := .run, win := D, wn := true, snd := c.snd ++ [⟨ch, ys⟩] }⟩) : EndsR P Post f 0 := by
  obtain ⟨h1, j0, h2⟩ := h
  have hM0 : f.o.M 0 = m := h1.oM0
  have hm0 : m.le (rp f.w) := by have := h1.mem 0; rwa [hM0] at this
  have hrunT := runT_crowd_spawn (P := P) (sl := f.sl) (i := 0) hr (show stepG P (0 == 0) r f.w = .spawn g' child f.w #[] by rw [show ((0 : Nat) == 0) = true from rfl, hl.step]; exact hstep _ h1.env hm0)
  rw [ofEvents_nil] at hrunT
  have hsize := h1.size
  have some_of : ∀ {H : Heap} {b : Nat}, H.le m → H b ≠ none → m b ≠ none := fun {H b} hle hb => by
    cases hh : H b with
    | none => exact absurd hh hb
    | some o => rw [hle b o hh]; simp
  have hchm : m ch ≠ none := by rw [hch]; simp
  have hmem0 : ∀ {b : Nat}, m b ≠ none → f.o.base b = none ∧ f.o.win b = none ∧ ¬ f.o.Sh b ∧ b < f.w.heap.size := fun {b} hb => h1.apart.mem 0 b (by rw [hM0]; exact hb)
  have hoth : ∀ {g b}, g ≠ 0 → f.o.M g b ≠ none → m b = none := fun {g b} hg hb => by rw [← hM0]; exact h1.apart.own g 0 b hg hb
  have hd0 : Deaf f.t 0 = 0 := by rw [h1.d0]; simp [deafOf, hst]
  have hgs' : ∀ op ∈ f.t, op.g ≤ f.k := fun op hop => by have := h1.tok.gs op hop; rwa [h1.ok] at this
  have hdk : Deaf f.t (f.k + 1) = 0 := Deaf_absent fun i op hi e => by have := hgs' op (Array.mem_of_getElem? hi); omega
  obtain ⟨x, hxd⟩ : ∃ x : MemOp, x = { g := 0, fn := r.frame.fn, pos := r.frame.place, act := .go f.gs.size } := ⟨_, rfl⟩
  obtain ⟨y, hyd⟩ : ∃ y : MemOp, y = { g := f.gs.size, fn := child.frame.fn, pos := r.frame.place, act := .start } := ⟨_, rfl⟩
  have hx : x.g = 0 ∧ x.act = .go (f.k + 1) := by rw [hxd, hsize]; exact ⟨rfl, rfl⟩
  have hy : y.g = f.k + 1 ∧ y.act = .start := by rw [hyd, hsize]; exact ⟨rfl, rfl⟩
  have hnt : ∀ op ∈ #[x, y], op.act.touch? = none := fun op hop => by
    simp only [List.mem_toArray, List.mem_cons, List.not_mem_nil, or_false] at hop
    rcases hop with rfl | rfl
    · rw [hx.2]; rfl
    · rw [hy.2]; rfl
  have hquiet : ∀ g, ∀ op ∈ #[x, y], ∀ d, deafStep g d op = d := fun g op hop d => by
    simp only [List.mem_toArray, List.mem_cons, List.not_mem_nil, or_false] at hop
    rcases hop with rfl | rfl
    · simp only [deafStep, hx.2]
    · simp only [deafStep, hy.2]
  have hDf : ∀ g, Deaf (f.t ++ #[x, y]) g = Deaf f.t g := fun g => Deaf_quiet (hquiet g)
  have fork : ∀ {i : Nat}, Knows (f.t ++ #[x, y]) 0 i → Knows (f.t ++ #[x, y]) (f.k + 1) i := fun {i} hi => fork_all hx hy (by omega) hd0 hdk hi
  have hn1 : ¬ f.o.lv (f.k + 1) := fun hg => by have := (h1.lv _).1 hg; omega
  obtain ⟨q, hq⟩ : ∃ q : Cs, q = ⟨c.ty, c.ech, c.wg, c.base, D, ch, ys, true, false, false⟩ := ⟨_, rfl⟩
  rw [← hq] at hc
  obtain ⟨F', hF'⟩ : ∃ F', F' = ConcN.upd f.F (f.k + 1) (child, (⟨Heap.empty, .snd q⟩ : XW Gh)) := ⟨_, rfl⟩
  obtain ⟨ph', hph'⟩ : ∃ ph', ph' = ConcN.upd f.ph (f.k + 1) (.A false) := ⟨_, rfl⟩
  have F1 : F' (f.k + 1) = (child, ⟨Heap.empty, .snd q⟩) := by rw [hF']; exact ConcN.upd_same _ _ _
  have F2 : ∀ i, i ≠ f.k + 1 → F' i = f.F i := fun i hi => by rw [hF']; exact upd_ne _ _ hi
  have p1 : ph' (f.k + 1) = .A false := by rw [hph']; exact ConcN.upd_same _ _ _
  have p2 : ∀ i, i ≠ f.k + 1 → ph' i = f.ph i := fun i hi => by rw [hph']; exact upd_ne _ _ hi
  have hMn : ∀ {g b}, ConcN.upd f.o.M 0 m' g b ≠ none → (g = 0 ∧ m' b ≠ none ∧ m b ≠ none) ∨ (g ≠ 0 ∧ f.o.M g b ≠ none) := fun {g b} hb => by
    by_cases e : g = 0
    · subst e; rw [ConcN.upd_same] at hb; exact .inl ⟨rfl, hb, some_of hm' hb⟩
    · rw [upd_ne _ _ e] at hb; exact .inr ⟨e, hb⟩
  obtain ⟨o', ho'⟩ : ∃ o' : Own4, o' = ⟨f.k + 1, ConcN.upd f.o.M 0 m', f.o.base, D, f.k + 1, fun b => f.o.Sh b ∨ b = ch, fun j => 1 ≤ j ∧ j ≤ f.k + 1 ∧ (ph' j).isL, fun j => 1 ≤ j ∧ j ≤ f.k + 1 ∧ ¬ (ph' j).isQ, f.o.rl, fun g b => f.o.ac g b ∨ (g = f.k + 1 ∧ (b = c.ech ∨ b = c.wg ∨ b = ch))⟩ := ⟨_, rfl⟩
  have lv_old : ∀ {g}, o'.lv g → g = f.k + 1 ∨ f.o.lv g := fun {g} hg => by
    rw [ho'] at hg
    obtain ⟨a1, a2, a3⟩ := hg
    by_cases e : g = f.k + 1
    · exact .inl e
    · exact .inr ((h1.lv g).2 ⟨a1, by omega, by rw [← p2 g e]; exact a3⟩)
  have cp_old : ∀ {g}, o'.cp g → g = f.k + 1 ∨ f.o.cp g := fun {g} hg => by
    rw [ho'] at hg
    obtain ⟨a1, a2, a3⟩ := hg
    by_cases e : g = f.k + 1
    · exact .inl e
    · exact .inr ((h1.cp g).2 ⟨a1, by omega, by rw [← p2 g e]; exact a3⟩)
  have lv_new : ∀ {g}, f.o.lv g → o'.lv g := fun {g} hg => by
    obtain ⟨a1, a2, a3⟩ := (h1.lv g).1 hg
    rw [ho']
    exact ⟨a1, by omega, by rw [p2 g (by omega)]; exact a3⟩
  have hap : o'.Apart f.w.heap.size := by
    rw [ho'] at *
    refine ⟨fun g g' b hne hb => ?_, fun g b hb => ?_, fun b hb => ⟨?_, fun hs => ?_, (h1.apart.base b hb).2.2⟩, fun b hb => ⟨fun hs => ?_, (hmem0 (some_of hD hb)).2.2.2⟩, fun g ⟨a1, a2, a3⟩ => ⟨a1, a2, fun hq => by cases hp : ph' g <;> rw [hp] at a3 hq <;> first | exact a3.elim | exact hq.elim⟩, fun b hb => ?_, fun g b hb => ?_⟩
    · show ConcN.upd f.o.M 0 m' g' b = none
      rcases hMn hb with ⟨rfl, hb1, hb2⟩ | ⟨hg, hb1⟩
      · rw [upd_ne _ _ (Ne.symm hne)]; exact h1.apart.own 0 g' b hne (by rw [hM0]; exact hb2)
      · by_cases e : g' = 0
        · subst e
          rw [ConcN.upd_same]
          cases hh : m' b with
          | none => rfl
          | some o => exact absurd (hoth hg hb1) (some_of hm' (by rw [hh]; simp))
        · rw [upd_ne _ _ e]; exact h1.apart.own g g' b hne hb1
    · rcases hMn hb with ⟨rfl, hb1, hb2⟩ | ⟨hg, hb1⟩
      · refine ⟨(hmem0 hb2).1, (hdis b).resolve_left hb1, fun hs => ?_, (hmem0 hb2).2.2.2⟩
        rcases hs with hs | rfl
        · exact (hmem0 hb2).2.2.1 hs
        · exact hb1 hch1
      · have hmn := hoth hg hb1
        have hmm := h1.apart.mem g b hb1
        refine ⟨hmm.1, ?_, fun hs => ?_, hmm.2.2.2⟩
        · show D b = none
          cases hh : D b with
          | none => rfl
          | some o => exact absurd hmn (some_of hD (by rw [hh]; simp))
        · rcases hs with hs | rfl
          · exact hmm.2.2.1 hs
          · exact hchm hmn
    · show D b = none
      cases hh : D b with
      | none => rfl
      | some o => exact absurd (hmem0 (some_of hD (by rw [hh]; simp))).1 hb
    · rcases hs with hs | rfl
      · exact (h1.apart.base b hb).2.1 hs
      · exact hb (hmem0 hchm).1
    · rcases hs with hs | rfl
      · exact (hmem0 (some_of hD hb)).2.2.1 hs
      · exact hb hch2
    · rcases hb with hb | rfl
      · exact h1.apart.sh b hb
      · exact (hmem0 hchm).2.2.2
    · rcases hb with hb | ⟨_, rfl | rfl | rfl⟩
      · exact .inl (h1.apart.ac g b hb)
      · exact .inl h2.ech.1
      · exact .inl h2.wg.1
      · exact .inr rfl
  have htok : TOk o' f.w.heap.size (f.t ++ #[x, y]) := by
    have t1 : TOk { f.o with k := f.k + 1 } f.w.heap.size (f.t ++ #[x, y]) := by
      refine TOk.still (h1.tok.turn (o' := { f.o with k := f.k + 1 }) (by rw [h1.ok]; exact Nat.le_succ _) (fun g b hb => .inl hb) (fun b hb => .inl ⟨hb, fun g hg => .inl hg, fun g hg => .inl hg, fun g r hr => hr⟩) (fun b hb => .inl ⟨hb, rfl⟩) (fun b hb => .inl ⟨hb, fun g hg => .inl hg⟩) (fun g hg => .inl hg) (fun g r hr => hr)) fun op hop => ⟨?_, hnt op hop⟩
      simp only [List.mem_toArray, List.mem_cons, List.not_mem_nil, or_false] at hop
      rcases hop with rfl | rfl
      · rw [hx.1]; exact Nat.zero_le _
      · rw [hy.1]; exact Nat.le_refl _
    have hown : ∀ b, m b ≠ none → ∀ i ad, touchAt (f.t ++ #[x, y]) i = some ad → blk ad.loc = some b → Knows (f.t ++ #[x, y]) 0 i := fun b hb i ad ha hb' => t1.own 0 i ad b ha hb' (by show f.o.M 0 b ≠ none; rw [hM0]; exact hb)
    refine t1.turn (by rw [ho']; exact Nat.le_refl _) (fun g b hb => .inl ?_) (fun b hb => .inl ⟨?_, fun g hg => ?_, fun g hg => .inl (lv_new hg), fun g r hr => ?_⟩) (fun b hb => .inr fun i ad ha hb' => ?_) (fun b hb => ?_) (fun g hg => .inl (lv_new hg)) (fun g r hr => ?_)
    · rw [ho'] at hb
      rcases hMn hb with ⟨rfl, _, hb2⟩ | ⟨_, hb1⟩
      · show f.o.M 0 b ≠ none
        rw [hM0]; exact hb2
      · exact hb1
    · rw [ho'] at hb; exact hb
    · rcases lv_old hg with rfl | hg'
      · exact .inr fun i => fork
      · exact .inl hg'
    · rw [ho']; exact hr
    · rw [ho'] at hb ⊢
      have := hown b (some_of hD hb) i ad ha hb'
      exact ⟨this, fork this⟩
    · rw [ho'] at hb
      rcases hb with hb | rfl
      · refine .inl ⟨hb, fun g ⟨hg, ha⟩ => ?_⟩
        rcases cp_old hg with rfl | hg'
        · exact .inr fun i => fork
        · rw [ho'] at ha
          rcases ha with ha | ⟨e, _⟩
          · exact .inl ⟨hg', ha⟩
          · rw [e]; exact .inr fun i => fork
      · refine .inr fun i ad ha hb' _ g hg => ?_
        have hk0 := hown b hchm i ad ha hb'
        rcases hg with rfl | ⟨_, hac⟩
        · exact hk0
        · rw [ho'] at hac
          rcases hac with hac | ⟨e, _⟩
          · exact absurd (h1.apart.ac g b hac) (hmem0 hchm).2.2.1
          · rw [e]; exact fork hk0
    · rw [ho']; exact hr
  have hget : ∀ i, 1 ≤ i → i ≤ f.k → ((f.gs.setIfInBounds 0 g').push child)[i]? = f.gs[i]? := fun i a b => by
    rw [Array.getElem?_push, if_neg (by simp [hsize]; omega), Array.getElem?_setIfInBounds_ne (by omega)]
  have hget1 : ((f.gs.setIfInBounds 0 g').push child)[f.k + 1]? = some child := by
    rw [Array.getElem?_push, if_pos (by simp [hsize])]
  have hget0 : ((f.gs.setIfInBounds 0 g').push child)[0]? = some g' := by
    rw [Array.getElem?_push, if_neg (by simp [hsize]), Array.getElem?_setIfInBounds_self_of_lt (by omega)]
  obtain ⟨f', hf'⟩ : ∃ f' : Cf, f' = ⟨(f.gs.setIfInBounds 0 g').push child, f.w, f.sl, f.t ++ #[x, y], f.k + 1, .run, F', ph', o'⟩ := ⟨_, rfl⟩
  have hlast : f.k + 1 = j0 + 1 + c.snd.length := by rw [h2.k]; omega
  have hnw : ∀ {i : Nat} {s : Snd}, (c.snd ++ [(⟨ch, ys⟩ : Snd)])[i]? = some s → (i = c.snd.length ∧ s = ⟨ch, ys⟩) ∨ (i < c.snd.length ∧ c.snd[i]? = some s) := fun {i s} hs => by
    rw [List.getElem?_append] at hs
    split at hs
    · exact .inr ⟨by assumption, hs⟩
    · rename_i hge
      have : i - c.snd.length = 0 := by
        rcases Nat.eq_zero_or_pos (i - c.snd.length) with e | e
        · exact e
        · rw [List.getElem?_eq_none (by simp; omega)] at hs; cases hs
      rw [this] at hs
      simp at hs
      exact .inl ⟨by omega, hs.symm⟩
  have hchne : ∀ {i : Nat} {s : Snd}, c.snd[i]? = some s → s.ch ≠ ch := fun {i s} hs e => (hmem0 hchm).2.2.1 (e ▸ (h2.ch i s hs).1)
  have hinv : Inv P Post W0 f' g' ⟨m', .co { c with st := .run, win := D, wn := true, snd := c.snd ++ [⟨ch, ys⟩] }⟩ := by
    rw [hf']
    refine ⟨⟨by simp [hsize], h1.env, ⟨g', hget0, .run (.refl (mi_running hg))⟩, fun i pk a b hh => ?_, fun i q2 a b hh => ?_, fun i a b hh => ?_, ?_, fun i a b hh => ?_, by rw [ho'], by rw [ho']; exact ConcN.upd_same f.o.M 0 m', fun i a b hh => ?_, fun i a b => ?_, fun i => by rw [ho'], fun i => by rw [ho'], hap, fun i => ?_, by rw [ho']; exact h1.mbase, by rw [ho']; exact fun b o hb => hm0 b o (hD b o hb), htok⟩, j0, ?_⟩
    · show ∃ r, ((f.gs.setIfInBounds 0 g').push child)[i]? = some r ∧ RA P Post W0 (F' i) pk r
      replace hh : ph' i = .A pk := hh
      replace b : i ≤ f.k + 1 := b
      by_cases e : i = f.k + 1
      · subst e
        rw [p1] at hh; cases hh
        exact ⟨child, hget1, .inl ⟨rfl, by rw [F1]; exact .refl (mi_running hc)⟩⟩
      · rw [hget i a (by omega), F2 i e]
        exact h1.ra i pk a (by omega) (by rw [← p2 i e]; exact hh)
    · show ∃ r, ((f.gs.setIfInBounds 0 g').push child)[i]? = some r ∧ QuitsD P q2 (Deaf (f.t ++ #[x, y]) i) r
      replace hh : ph' i = .Q q2 := hh
      replace b : i ≤ f.k + 1 := b
      by_cases e : i = f.k + 1
      · subst e; rw [p1] at hh; cases hh
      · rw [hget i a (by omega), hDf]
        exact h1.rq i q2 a (by omega) (by rw [← p2 i e]; exact hh)
    · show MIp P Post W0 (F' i).1 (F' i).2
      replace hh : (ph' i).isA := hh
      replace b : i ≤ f.k + 1 := b
      by_cases e : i = f.k + 1
      · subst e; rw [F1]; exact hc
      · rw [F2 i e]; exact h1.mi i a (by omega) (by rw [← p2 i e]; exact hh)
    · show Deaf (f.t ++ #[x, y]) 0 = _
      rw [hDf, hd0]; rfl
    · show Deaf (f.t ++ #[x, y]) i = 0
      replace hh : (ph' i).isA := hh
      replace b : i ≤ f.k + 1 := b
      rw [hDf]
      by_cases e : i = f.k + 1
      · subst e; exact hdk
      · exact h1.da i a (by omega) (by rw [← p2 i e]; exact hh)
    · show o'.M i = (F' i).2.m
      replace hh : (ph' i).isA := hh
      replace b : i ≤ f.k + 1 := b
      rw [ho']
      show ConcN.upd f.o.M 0 m' i = _
      rw [upd_ne _ _ (by omega)]
      by_cases e : i = f.k + 1
      · subst e; rw [F1]; exact h1.oMn _ a (.inl (by omega))
      · rw [F2 i e]; exact h1.oMa i a (by omega) (by rw [← p2 i e]; exact hh)
    · show o'.M i = Heap.empty
      rw [ho']
      show ConcN.upd f.o.M 0 m' i = _
      rw [upd_ne _ _ (by omega)]
      by_cases e : i = f.k + 1
      · rw [e]; exact h1.oMn _ (by omega) (.inl (by omega))
      · refine h1.oMn i a (b.imp (fun hh => by replace hh : f.k + 1 < i := hh; omega) fun hh hp => hh ?_)
        show (ph' i).isA
        rw [p2 i e]; exact hp
    · show (o'.M i).le (rp f.w)
      rw [ho']
      intro b o hb
      replace hb : ConcN.upd f.o.M 0 m' i b = some o := hb
      by_cases e : i = 0
      · subst e; rw [ConcN.upd_same] at hb; exact hm0 b o (hm' b o hb)
      · rw [upd_ne _ _ e] at hb; exact h1.mem i b o hb
    · have hclo : ∀ {ch' : Nat} {X : Nat → Prop}, (∃ p, f.t.act? p = some (.close ch') ∧ f.t.heard p ∧ X p) → ∃ p, (f.t ++ #[x, y]).act? p = some (.close ch') ∧ (f.t ++ #[x, y]).heard p := fun {ch' X} ⟨p, e1, e2, _⟩ => by
        have hlt := lt_of_act? e1
        exact ⟨p, by rw [act?_old hlt]; exact e1, (heard_old hlt).2 e2⟩
      obtain ⟨st, sm, hw, hm⟩ := h2.mode
      rw [hmb, hst] at hm
      obtain ⟨k1, rfl, rfl, k4⟩ := mode_open hm trivial
      refine ⟨?_, fun i a b => ?_, by rw [ho']; exact h2.base, by rw [ho'], fun _ => ⟨by rw [ho'], by simp⟩, fun hh => (by cases hh), ⟨by rw [ho']; exact .inl h2.ech.1, h2.ech.2⟩, ⟨by rw [ho']; exact .inl h2.wg.1, h2.wg.2⟩, ⟨_, 0, hw, ?_⟩, fun i hi => (by cases hi), fun n hn => (by cases hn), trivial, trivial, fun i s hs => ?_, fun i a b hh => ?_, fun i s pk hs hh => ?_, fun i s hs hh => ?_, fun i s g d hh a b => ?_, fun i s g d hh a b hz => ?_, fun i rr hrr => ?_, ?_, fun hd => (by cases hd), ?_, fun i s hs => ?_⟩
      · show f.k + 1 = j0 + (c.snd ++ [_]).length
        rw [List.length_append, h2.k]; rfl
      · show (ph' i).isQ
        rw [p2 i (by have := h2.k; omega)]; exact h2.old i a b
      · show ConcN.Mode (f.k + 1) (fun i => (ph' (i + 1)).wd) (.sp 0 4) _ 0
        have e1 : Vc (f.k + 1) (fun i => (ph' (i + 1)).wd) = Vc f.k f.D + 1 := by
          have : Vc f.k (fun i => (ph' (i + 1)).wd) = Vc f.k f.D := sumTo_congr fun i hi => by
            show cnt ((ph' (i + 1)).wd) = cnt ((f.ph (i + 1)).wd)
            rw [p2 _ (by omega)]
          simp only [Vc, sumTo] at this ⊢
          rw [this, p1]; rfl
        have := Mode.opn (j := f.k + 1) (D := fun i => (ph' (i + 1)).wd) (tag := .sp 0 4) trivial (fun i hi => ?_) (fun vs e => by cases e)
        · rw [e1] at this
          simpa [pend, tagOf] using this
        · show ((ph' (i + 1)).wd).stage = 7 ∨ ((ph' (i + 1)).wd).stage = 6 ∨ ((ph' (i + 1)).wd).stage = 5 ∨ ((ph' (i + 1)).wd).stage = 1
          by_cases e : i = f.k
          · subst e; rw [p1]; exact .inl rfl
          · have := k1 i (by omega)
            rw [p2 (i + 1) (by omega)]; exact this
      · rcases hnw hs with ⟨rfl, rfl⟩ | ⟨hlt, hs'⟩
        · refine ⟨by rw [ho']; exact .inr rfl, fun e => (hmem0 hchm).2.2.1 (by replace e : ch = c.ech := e; rw [e]; exact h2.ech.1), fun e => (hmem0 hchm).2.2.1 (by replace e : ch = c.wg := e; rw [e]; exact h2.wg.1), fun i' s' hs'' e => ?_⟩
          rcases hnw hs'' with ⟨rfl, _⟩ | ⟨_, hs3⟩
          · rfl
          · exact absurd e (hchne hs3)
        · obtain ⟨y1, y2, y3, y4⟩ := h2.ch i s hs'
          refine ⟨by rw [ho']; exact .inl y1, y2, y3, fun i' s' hs'' e => ?_⟩
          rcases hnw hs'' with ⟨_, rfl⟩ | ⟨_, hs3⟩
          · exact absurd e.symm (hchne hs')
          · exact y4 i' s' hs3 e
      · exact hsh
      · replace hh : ph' (j0 + 1 + i) = .A pk := hh
        show ∃ q, (F' (j0 + 1 + i)).2.s = .snd q ∧ _
        rcases hnw hs with ⟨rfl, rfl⟩ | ⟨hlt, hs'⟩
        · rw [← hlast, F1]
          refine ⟨q, rfl, by rw [hq], by rw [hq], by rw [hq], by rw [hq], by rw [hq], fun _ => by rw [hq], fun hh => (by rw [hq] at hh; cases hh), fun hh => (by rw [hq] at hh; cases hh), fun _ => ⟨rfl, by rw [List.length_append]; rfl, by rw [hq], by rw [hq]⟩, ⟨0, by rw [hq]; exact hm0 _ _ hch⟩, fun hh => (by rw [hq] at hh; cases hh)⟩
        · have hne : j0 + 1 + i ≠ f.k + 1 := by omega
          rw [F2 _ hne]
          rw [p2 _ hne] at hh
          obtain ⟨q0, q1, q2, q3, q4, q5, q6, q7, q8, q9, q10, q11, q12⟩ := h2.cha i s pk hs' hh
          refine ⟨q0, q1, q2, q3, q4, q5, q6, q7, q8, q9, fun hh => ?_, q11, fun hh => ?_⟩
          · have := (q10 hh).1
            rw [hwn] at this; cases this
          · obtain ⟨p, e1, e2⟩ := hclo (q12 hh)
            refine ⟨p, e1, e2, fun _ e => ?_⟩
            rw [List.length_append] at e
            replace e : i + 1 = c.snd.length + 1 := e
            omega
      · replace hh : ¬ (ph' (j0 + 1 + i)).isA := hh
        rcases hnw hs with ⟨rfl, rfl⟩ | ⟨hlt, hs'⟩
        · rw [← hlast, p1] at hh; exact absurd trivial hh
        · have hne : j0 + 1 + i ≠ f.k + 1 := by omega
          rw [p2 _ hne] at hh
          obtain ⟨b1, b2, b3⟩ := h2.chb i s hs' hh
          obtain ⟨p, e1, e2⟩ := hclo b3
          refine ⟨b1, b2, p, e1, e2, fun _ e => ?_⟩
          rw [List.length_append] at e
          replace e : i + 1 = c.snd.length + 1 := e
          omega
      · replace hh : ph' i = .B s g d := hh
        replace b : i ≤ f.k + 1 := b
        have hne : i ≠ f.k + 1 := fun e => by rw [e, p1] at hh; cases hh
        rw [p2 i hne] at hh
        obtain ⟨b1, r', b2, b3⟩ := h2.b i s g d hh a (by omega)
        refine ⟨by show Deaf (f.t ++ #[x, y]) i = d; rw [hDf]; exact b1, r', by show ((f.gs.setIfInBounds 0 g').push child)[i]? = _; rw [hget i (by omega) (by omega)]; exact b2, ?_⟩
        obtain ⟨C, cs, T, fz, v, y1, y2, y3, y4⟩ := b3
        exact ⟨C, cs, T, fz, v, y1, y2, y3, y4⟩
      · replace hh : ph' i = .B s g d := hh
        replace b : i ≤ f.k + 1 := b
        have hne : i ≠ f.k + 1 := fun e => by rw [e, p1] at hh; cases hh
        rw [p2 i hne] at hh
        rw [ho']; exact h2.b7 i s g d hh a (by omega) hz
      · rw [ho'] at hrr
        obtain ⟨r1, r2, r3, r4⟩ := h2.rel i rr hrr
        refine ⟨r1, by show i ≤ f.k + 1; omega, ?_, relBy_mute r4 hnt⟩
        show ¬ (ph' i).isL
        rw [p2 i (by omega)]; exact r3
      · refine h2.nor.app rfl (fun i rr hrr => by rw [ho'] at hrr; exact hrr) (fun i rr hrr => h2.rel_lt hrr) fun op hop => ?_
        simp only [List.mem_toArray, List.mem_cons, List.not_mem_nil, or_false] at hop
        rcases hop with rfl | rfl
        · rw [hx.2]; simp
        · rw [hy.2]; simp
      · show (c.snd ++ [_]).length + 1 < 2147483648
        rw [List.length_append]; exact hfew
      · rcases hnw hs with ⟨rfl, rfl⟩ | ⟨hlt, hs'⟩
        · rw [← hlast, ho']
          exact ⟨.inr ⟨rfl, .inl rfl⟩, .inr ⟨rfl, .inr (.inl rfl)⟩, .inr ⟨rfl, .inr (.inr rfl)⟩⟩
        · obtain ⟨y1, y2, y3⟩ := h2.ac i s hs'
          rw [ho']
          exact ⟨.inl y1, .inl y2, .inl y3⟩
  refine EndsR.of (f' := f') (ops := #[x, y]) ?_ (by rw [hf']) (hT f' hinv)
  rw [hrunT, hf', hxd, hyd]
  rfl
end
end Go.X
namespace Go.X
open Go Go.Sx Go.Conc Go.ConcN
open Go.ConcR (KK wgBlock WgAt stA smA rd wr mk Payload Bk bk_of_mute ofEvent_loc_mark)
section
variable {P : Program} {Post : Value → World → Prop} {W0 : World}
abbrev IT (P : Program) (Post : Value → World → Prop) (W0 : World) (a : Goroutine) (x : XW Gh) : Prop := MIp P Post W0 a x ∧ Tm P Post W0 a x
theorem inv_snd {f : Cf} {a : Goroutine} {m : Heap} {c : Cs} (h : Inv P Post W0 f a ⟨m, .snd c⟩) : False := h.2
theorem inv_co {f : Cf} {a : Goroutine} {m : Heap} {c : Co} (h : Inv P Post W0 f a ⟨m, .co c⟩) : Inv1 P Post W0 f a ⟨m, .co c⟩ ∧ ∃ j0, Inv2 P f ⟨m, .co c⟩ c j0 := h
theorem inv_pool {f : Cf} {a : Goroutine} {x : XW Gh} (h : Inv P Post W0 f a x) : (pool x.s).le (rp f.w) := by
  have h1 := h.1
  obtain ⟨m, s⟩ := x
  cases s with
  | solo => intro b o hb; cases hb
  | snd c => exact (inv_snd h).elim
  | co c =>
    obtain ⟨_, j0, h2⟩ := inv_co h
    intro b o hb
    simp only [pool, join] at hb
    split at hb
    · rename_i o' he; cases hb; exact h1.mbase b o (by rw [h2.base]; exact he)
    · exact h1.mwin b o (by rw [h2.win]; exact hb)
theorem inv_live {f : Cf} {a : Goroutine} {x : XW Gh} (h : Inv P Post W0 f a x) : ∀ c, x.s = .co c → WgLive c.ty c.wg f.w := by
  obtain ⟨m, s⟩ := x
  intro c hs
  replace hs : s = .co c := hs
  subst hs
  obtain ⟨_, j0, h2⟩ := inv_co h
  obtain ⟨st, sm, hw, _⟩ := h2.mode
  exact ⟨st, sm, hw⟩
theorem main_move {f : Cf} {a : Goroutine} {x : XW Gh} (h : Inv P Post W0 f a x) {r : Goroutine} (hr : f.gs[0]? = some r) (hrun : r.status = .running)
    (hx : Own P kd W0 (IT P Post W0) a x ∨ SP P Post W0 (IT P Post W0) a x) : Tm P Post W0 a x ∨ EndsR P Post f 0 ∨ ∃ f', Waits P Post W0 f f' a x 0 := by
  have h1 := h.1
  obtain ⟨r1, hr1, hm⟩ := h1.main
  rw [hr] at hr1; cases hr1
  have hml : f.mb = .run ∧ Like P a r := by
    cases hmb : f.mb with
    | run => rw [hmb] at hm; cases hm with | run hl => exact ⟨rfl, hl⟩
    | park i => rw [hmb] at hm; cases hm; simp [parked] at hrun
    | blk => rw [hmb] at hm; cases hm; simp at hrun
  obtain ⟨hmb, hl⟩ := hml
  have hM0 : f.o.M 0 = x.m := h1.oM0
  have hm0 : x.m.le (rp f.w) := by have := h1.mem 0; rwa [hM0] at this
  have hmain : isMain x.s = true := by
    cases hs : x.s with
    | solo => rfl
    | co c => rfl
    | snd c => exact (inv_snd (m := x.m) (c := c) (by rw [← hs]; exact h)).elim
  have run : ∀ {g' : Goroutine} {w' : World} {es : Array Event}, stepG P true a f.w = .go g' w' es → ∃ ops, ops = MemOp.ofEvents 0 r.frame.fn r.frame.place es ∧ runT P (crowd f.gs f.w f.sl) 0 = (.next (crowd ((f.gs.map (woken P r g' w')).setIfInBounds 0 g') w' f.sl), ops) := fun {g' w' es} hs =>
    ⟨_, rfl, runT_crowd_go (P := P) (sl := f.sl) (i := 0) hr (by rw [show ((0 : Nat) == 0) = true from rfl, hl.step]; exact hs)⟩
  have fin : ∀ {g' : Goroutine} {w' : World} {es : Array Event} {f' : Cf} {x' : XW Gh}, stepG P true a f.w = .go g' w' es → Inv P Post W0 f' g' x' → Tm P Post W0 g' x' → f'.gs = (f.gs.map (woken P r g' w')).setIfInBounds 0 g' → f'.w = w' → f'.sl = f.sl → f'.t = f.t ++ MemOp.ofEvents 0 r.frame.fn r.frame.place es → EndsR P Post f 0 := fun {g' w' es f' x'} hs hi hT e1 e2 e3 e4 => by
    obtain ⟨_, rfl, h3⟩ := run hs
    exact .of (f' := f') (by rw [e1, e2, e3]; exact h3) e4 (hT _ hi)
  rcases hx with ⟨_, ho⟩ | hx
  · obtain ⟨g', w', es, m', e1, e2, e3, e4, e5, e6⟩ := ho f.w h1.env hm0 (inv_pool h)
    rw [show kd.mn x.s = true from hmain] at e1
    exact .inr (.inl (fin e1 (main_own h hr hl hmb e5 e2.frame e2.grows ⟨e2.os.trans h1.env.os, e2.tape.trans h1.env.tape, e2.output.trans h1.env.out⟩ e3 e4 fun e he => ⟨.inr (e2.mine e he), e2.low e he⟩) e6 rfl rfl rfl rfl))
  · cases hx with
    | peek e1 e2 =>
      have hpool : (pool x.s).le (rp f.w) := by
        obtain ⟨m, s⟩ := x
        cases s with
        | solo => intro b o hb; cases hb
        | snd c => exact (inv_snd h).elim
        | co c =>
          obtain ⟨_, j0, h2⟩ := inv_co h
          intro b o hb
          simp only [pool, join] at hb
          split at hb
          · rename_i o' he; cases hb; exact h1.mbase b o (by rw [h2.base]; exact he)
          · exact h1.mwin b o (by rw [h2.win]; exact hb)
      obtain ⟨g', es, e3, e4, e5, e6⟩ := e2 f.w h1.env hm0 hpool (inv_live h)
      rw [hmain] at e3
      refine .inr (.inl (fin e3 (main_own (m' := x.m) h hr hl hmb e5 (fun _ _ _ => rfl) (Nat.le_refl _) h1.env hm0 (fun b hb => .inl hb) fun e he => ⟨.inl (e4 e he), ?_⟩) e6 rfl rfl rfl rfl))
      have h3 := e4 e he
      unfold Peek at h3
      unfold EvLow
      split at h3
      · rename_i ad hl
        rw [hl]
        rcases h3 with ⟨h3, _⟩ | h3
        · cases hp : pool x.s ad.block with
          | none => exact absurd hp h3
          | some o => exact (Array.getElem?_eq_some_iff.1 (hpool _ o hp)).1
        · cases hp : x.m ad.block with
          | none => exact absurd hp h3
          | some o => exact (Array.getElem?_eq_some_iff.1 (hm0 _ o hp)).1
      · exact h3.elim
    | opn e0 e1 e2 e3 e4 e5 e6 e7 e8 e9 e10 e11 e12 e13 e14 e15 =>
      exact .inl fun f2 hf2 => by
        have := e15.2 _ (main_opn hf2 e1 e2 e3 e4 e5 e6 e7 e8 e9 e10 e11 e12 e13 e14 e15.1)
        exact this
    | mark e1 e2 e3 e4 =>
      obtain ⟨_, j0, h2⟩ := inv_co h
      have hlive : WgLive _ _ f.w := let ⟨st, sm, hw, _⟩ := h2.mode; ⟨st, sm, hw⟩
      exact .inr (.inl (fin (e3 f.w h1.env hm0 hlive) (spc_mark h1 h2 hmb hr hl e1 e4.1) e4.2 rfl rfl rfl rfl))
    | add e1 e2 e3 =>
      obtain ⟨_, j0, h2⟩ := inv_co h
      obtain ⟨st, sm, hw, hmd⟩ := h2.mode
      rw [hmb, e1] at hmd
      obtain ⟨k1, k2, k3, _⟩ := mode_open hmd trivial
      subst k3
      have hv : Vc f.k f.D + pend (tagOf false .off) = Vc f.k f.D := by simp [tagOf, pend]
      rw [show pend (tagOf false .off) = 0 from rfl] at k2
      obtain ⟨g', e4, e5⟩ := e3 (Vc f.k f.D) f.w (vc_bound h2) h1.env hm0 (by rw [k2] at hw; simpa using hw)
      exact .inr (.inl (fin e4 (spc_add h1 h2 hmb hr hl e1 e5.1) e5.2 rfl rfl rfl rfl))
    | go e0 e1 e2 e3 e4 e5 e6 e7 e8 e9 e10 e11 e12 e13 e14 =>
      exact .inr (.inl (main_go h hr hl hmb e0 e1 e2 e3 e6 e7 e8 e9 e10 e11 e12 e13.1 e14.1 e14.2))
    | recv e1 e2 e3 e4 e5 e6 e7 e8 => exact .inr (main_recv h hmb hr hl e1 e2 e3 e4 e5 e6 e7 e8)
    | clos e1 e2 e3 e4 e5 e6 e7 =>
      rename_i c
      obtain ⟨_, j0, h2⟩ := inv_co h
      obtain ⟨s, rr, hch⟩ := h2.ech.2
      rw [e2] at hch
      have hpool : (pool (.co c)).le (rp f.w) := by
        intro b o hb
        simp only [pool, join] at hb
        split at hb
        · rename_i o' he; cases hb; exact h1.mbase b o (by rw [h2.base]; exact he)
        · exact h1.mwin b o (by rw [h2.win]; exact hb)
      exact .inr (.inl (fin (e6 f.w s rr h1.env hm0 hpool hch) (spc_clos h1 h2 hmb hr hl e1 e3 e5 hch e7.1) e7.2 rfl rfl rfl rfl))
    | load e1 e2 e3 =>
      obtain ⟨_, j0, h2⟩ := inv_co h
      obtain ⟨st, sm, hw, hmd⟩ := h2.mode
      rw [hmb, e1] at hmd
      obtain ⟨k1, k2, k3, _⟩ := mode_open hmd trivial
      subst k3
      rw [show pend (tagOf false (.w0 _)) = 0 from rfl] at k2
      obtain ⟨g', e4, e5, e6⟩ := e3 (Vc f.k f.D) f.w (h2.bnd _ e1) h1.env hm0 (by rw [k2] at hw; simpa using hw)
      by_cases hv : Vc f.k f.D = 0
      · exact .inr (.inl (fin e4 (spc_load h1 h2 hmb hr hl e1 (.inl ⟨hv, rfl⟩) (e5 hv).1) (e5 hv).2 rfl rfl rfl rfl))
      · exact .inr (.inl (fin e4 (spc_load h1 h2 hmb hr hl e1 (.inr ⟨hv, rfl⟩) (e6 hv).1) (e6 hv).2 rfl rfl rfl rfl))
    | cas e1 e2 e3 =>
      rename_i u
      obtain ⟨_, j0, h2⟩ := inv_co h
      obtain ⟨st, sm, hw, hmd⟩ := h2.mode
      rw [hmb, e1] at hmd
      obtain ⟨k1, k2, k3, k4⟩ := mode_open hmd trivial
      subst k3
      rw [show pend (tagOf false (.w1 _)) = 0 from rfl] at k2
      obtain ⟨e4, e5⟩ := e3 (Vc f.k f.D) f.w (k4 _ rfl).1 h1.env hm0 (by rw [k2] at hw; simpa using hw)
      by_cases hv : Vc f.k f.D = u
      · obtain ⟨g', e6, e7⟩ := e4 hv
        exact .inr (.inl (fin e6 (spc_cas h1 h2 hmb hr hl e1 hv e7.1) e7.2 rfl rfl rfl rfl))
      · obtain ⟨g', e6, e7⟩ := e5 hv
        exact .inr (.inl (fin e6 (spc_miss h1 h2 hmb hr hl e1 e7.1) e7.2 rfl rfl rfl rfl))
    | sem e1 e2 e3 e4 e5 =>
      obtain ⟨_, j0, h2⟩ := inv_co h
      obtain ⟨st, sm, hw, hmd⟩ := h2.mode
      have hmd' := hmd
      rw [hmb, e1] at hmd
      have wait : sm = 0 → ∃ f', Waits P Post W0 f f' a _ 0 := fun hs => by
        subst hs
        obtain ⟨f', q1, q2, q3, q4, q5, q6, q7⟩ := sem_wait h hmb hr hl e1 e2 e3 (e4 f.w st h1.env hm0 hw) ⟨st, hw⟩
        exact ⟨f', q3, q4, q5, q6, q7, fun he => .of q1 q2 he⟩
      by_cases hsm : sm = 0
      · exact .inr (.inr (wait hsm))
      · have : sm = 1 ∧ st = 0 := by
          generalize tagOf false .reg = tg at hmd
          cases hmd with
          | opn => exact absurd rfl hsm
          | reg => exact absurd rfl hsm
          | last => exact absurd rfl hsm
          | sema => exact ⟨rfl, rfl⟩
          | fin => exact absurd rfl hsm
        obtain ⟨rfl, rfl⟩ := this
        obtain ⟨g', e6, e7⟩ := e5 f.w h1.env hm0 hw
        exact .inr (.inl (fin e6 (spc_sem h1 h2 hmb hr hl e1 hw e7.1) e7.2 rfl rfl rfl rfl))
    | load0 e1 e2 e3 =>
      obtain ⟨_, j0, h2⟩ := inv_co h
      obtain ⟨st, sm, hw, hmd⟩ := h2.mode
      rw [hmb, e1] at hmd
      obtain ⟨k1, rfl, rfl⟩ := mode_fin hmd trivial
      obtain ⟨g', e4, e5⟩ := e3 f.w h1.env hm0 hw
      exact .inr (.inl (fin e4 (spc_load0 h1 h2 hmb hr hl e1 e5.1) e5.2 rfl rfl rfl rfl))
    | back e1 e2 e3 =>
      exact .inl fun f2 hf2 => by
        have := e3.2 _ (main_back hf2 e2 e3.1)
        exact this
    | fin e1 e2 => exact .inr (.inl (main_fin h hr hl e2))
    | sel => exact (inv_snd h).elim
    | shut => exact (inv_snd h).elim
    | quit => exact (inv_snd h).elim
theorem recv_inv {f : Cf} {a : Goroutine} {x : XW Gh} {c : Co} {i : Nat} {s : Snd} {z : Value} (h : Inv P Post W0 f a x) (hxs : x.s = .co c) (hst : c.st = .run) (hsh : c.shut = false) (hs : c.snd[i]? = some s)
    (hcm : ∀ w, Env W0 w → x.m.le (rp w) → stepG P true a w = .comm a #[rcase s.ch z] true (.recv true) w #[]) (hx : Own P kd W0 (IT P Post W0) a x ∨ SP P Post W0 (IT P Post W0) a x) {v : Value} {vs : List Value} (hrem : s.rem = v :: vs) :
    IT P Post W0 (Go.Conc.served a (.tuple #[v, .bool true])) ⟨join x.m c.win, .co { c with win := Heap.empty, wn := false, snd := c.snd.set i ⟨s.ch, vs⟩ }⟩ := by
  obtain ⟨m, s'⟩ := x
  replace hxs : s' = .co c := hxs
  subst hxs
  obtain ⟨h1, j0, h2⟩ := inv_co h
  have hm0 : m.le (rp f.w) := by have := h1.mem 0; rwa [h1.oM0] at this
  have hc := hcm f.w h1.env hm0
  have hpool : (pool (.co c)).le (rp f.w) := by
    intro b o hb
    simp only [pool, join] at hb
    split at hb
    · rename_i o' he; cases hb; exact h1.mbase b o (by rw [h2.base]; exact he)
    · exact h1.mwin b o (by rw [h2.win]; exact hb)
  rcases hx with ⟨_, ho⟩ | hx
  · obtain ⟨g', w', es, m', e1, _⟩ := ho f.w h1.env hm0 hpool
    rw [show kd.mn (XW.s ⟨m, Gh.co c⟩) = true from rfl, hc] at e1; cases e1
  · cases hx with
    | peek e1 e2 =>
      obtain ⟨g', es, e3, _⟩ := e2 f.w h1.env hm0 hpool (inv_live h)
      rw [show isMain (XW.s ⟨m, Gh.co c⟩) = true from rfl, hc] at e3; cases e3
    | mark e1 e2 e3 e4 =>
      have := e3 f.w h1.env hm0 (let ⟨st, sm, hw, _⟩ := h2.mode; ⟨st, sm, hw⟩)
      rw [hc] at this; cases this
    | add e1 => rw [hst] at e1; cases e1
    | go e0 e1 => rw [hst] at e1; cases e1
    | recv e1 e2 e3 e4 e5 e6 e7 e8 =>
      rename_i i' s' z'
      have := e6 f.w h1.env hm0
      rw [hc] at this
      simp only [GStep.comm.injEq, true_and, and_true] at this
      have hcc : rcase s.ch z = rcase s'.ch z' := by simpa using this
      have hch : s'.ch = s.ch := by simp [rcase] at hcc; exact hcc.1.symm
      have hi : i' = i := (h2.ch i s hs).2.2.2 i' s' e3 hch
      subst hi
      rw [hs] at e3; cases e3
      exact e8 v vs hrem
    | clos e1 e2 e3 e4 e5 e6 e7 =>
      obtain ⟨s2, r2, hch⟩ := h2.ech.2
      rw [e2] at hch
      have := e6 f.w s2 r2 h1.env hm0 hpool hch
      rw [hc] at this; cases this
    | load e1 => rw [hst] at e1; cases e1
    | cas e1 => rw [hst] at e1; cases e1
    | sem e1 => rw [hst] at e1; cases e1
    | load0 e1 => rw [hst] at e1; cases e1
    | back _ e1 => rw [hst] at e1; cases e1
end
end Go.X
