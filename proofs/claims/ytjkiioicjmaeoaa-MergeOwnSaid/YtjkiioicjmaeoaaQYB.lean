/- A company: a sender is done: it will only leave. No program in sight. -/
import Derived.Test.YtjkiioicjmaeoaaQXZ
set_option linter.unusedVariables false
set_option linter.unusedSimpArgs false
namespace Go.X
open Go Go.Sx Go.Conc Go.ConcN
open Go.ConcR (KK wgBlock WgAt stA smA rd wr mk Payload Bk)
section
variable {P : Program} {Post : Value → World → Prop} {W0 : World}
abbrev shutEv (ch : Nat) : Array Event := #[⟨.obj ch, false, true⟩, ⟨.obj ch, true, true⟩]
theorem wake_shut {f : Cf} {a : Goroutine} {x : XW Gh} {c : Co} {j0 : Nat} (h1 : Inv1 P Post W0 f a x) (h2 : Inv2 P f x c j0) (hx : x.s = .co c) {r g' : Goroutine} {i n : Nat} {s : Snd} (hs : c.snd[i]? = some s) (hn : f.w.heap[s.ch]? = some (.chan 0 #[] false n n false)) (hg : g'.status = .running) (hw : mayWake P r = true) :
    ∃ mb', (∀ r0, f.gs[0]? = some r0 → MRec P W0 a x f.mb r0 → MRec P W0 a x mb' (woken P r g' (f.w.setChan s.ch 0 #[] true n n false) r0)) ∧ (mb' = f.mb ∨ (((∃ i, f.mb = .park i) ∨ f.mb = .blk) ∧ mb' = .run)) ∧ mb' ≠ .park i := by
  by_cases hpk : f.mb = .park i
  · obtain ⟨r0, hr0, hm⟩ := h1.main
    refine ⟨.run, fun r1 hr1 hm1 => ?_, .inr ⟨.inl ⟨i, hpk⟩, rfl⟩, by simp⟩
    rw [hpk] at hm1
    cases hm1 with
    | park e1 e2 e3 e4 e5 e6 e7 =>
      rename_i c' s' z
      rw [hx] at e1; cases e1
      rw [hs] at e4; cases e4
      have : woken P r g' (f.w.setChan s.ch 0 #[] true n n false) (parked a #[rcase s.ch z] (.recv true)) = { parked a #[rcase s.ch z] (.recv true) with status := .running } := by
        unfold Go.Conc.woken
        rw [if_pos (by rw [hw, hg]; rfl)]
        exact again_recv_closed (heap_setChan_self _ hn _ _ _ _ _ _)
      rw [this]
      exact .run (.tries e7 _ _)
  · obtain ⟨mb', w1, w2, _⟩ := wake_main (r := r) (w' := f.w.setChan s.ch 0 #[] true n n false) h1 h2 hx (by rw [hg]; simp) fun i' s' hh hs' => heap_setChan_ne _ _ _ _ _ _ _ fun e => hpk (by rw [hh, (h2.ch i s hs).2.2.2 i' s' hs' e.symm])
    refine ⟨mb', w1, w2.imp id fun e => ⟨.inr e.1, e.2⟩, fun e => ?_⟩
    rcases w2 with e' | ⟨_, e'⟩
    · exact hpk (by rw [← e', e])
    · rw [e] at e'; cases e'
theorem snd_shut {f : Cf} {a g' : Goroutine} {x : XW Gh} {c : Co} {j0 i n : Nat} {s : Snd} {q : Cs} {y : Goroutine} {mj : Heap} (h1 : Inv1 P Post W0 f a x) (h2 : Inv2 P f x c j0) (hx : x.s = .co c) (hs : c.snd[i]? = some s) (hp : f.ph (j0 + 1 + i) = .A false)
    (hF : f.F (j0 + 1 + i) = (y, ⟨mj, .snd q⟩)) {r : Goroutine} (hr : f.gs[j0 + 1 + i]? = some r) (hw : mayWake P r = true) (hrem : q.rem = [] ∨ q.off = true) (hcl : q.closed = false) (hn : f.w.heap[s.ch]? = some (.chan 0 #[] false n n false))
    (hg : MIp P Post W0 g' ⟨mj, .snd { q with closed := true, fst := false }⟩) :
    ∃ f', f'.gs = (f.gs.map (woken P r g' (f.w.setChan s.ch 0 #[] true n n false))).setIfInBounds (j0 + 1 + i) g' ∧ f'.w = f.w.setChan s.ch 0 #[] true n n false ∧ f'.sl = f.sl ∧ f'.t = f.t ++ MemOp.ofEvents (j0 + 1 + i) r.frame.fn r.frame.place (shutEv s.ch) ∧ f'.k = f.k ∧ f'.F = ConcN.upd f.F (j0 + 1 + i) (g', ⟨mj, .snd { q with closed := true, fst := false }⟩) ∧ Inv P Post W0 f' a x := by
  have hlen : i < c.snd.length := (List.getElem?_eq_some_iff.1 hs).1
  have hik : j0 + 1 + i ≤ f.k := by rw [h2.k]; omega
  obtain ⟨k1, k2, k3, k4⟩ := h2.ch i s hs
  obtain ⟨q0, q1, q2, q3, q4, q5, q6, q7, q8, q9, q10, q11, q12⟩ := h2.cha i s false hs hp
  rw [hF] at q1; cases q1
  have hM : f.o.M (j0 + 1 + i) = mj := by rw [h1.oMa _ (by omega) hik (by rw [hp]; trivial), hF]
  have hlv : f.o.lv (j0 + 1 + i) := (h1.lv _).2 ⟨by omega, hik, by rw [hp]; trivial⟩
  have hcp : f.o.cp (j0 + 1 + i) := h1.apart.lv _ hlv
  obtain ⟨mb', w1, w2, w3⟩ := wake_shut (r := r) h1 h2 hx hs hn (mi_running hg) hw
  have hne : ∀ b, b ≠ s.ch → (f.w.setChan s.ch 0 #[] true n n false).heap[b]? = f.w.heap[b]? := fun b hb => heap_setChan_ne _ _ _ _ _ _ _ (Ne.symm hb)
  have hself : (f.w.setChan s.ch 0 #[] true n n false).heap[s.ch]? = some (.chan 0 #[] true n n false) := heap_setChan_self _ hn _ _ _ _ _ _
  have hchl : s.ch < f.w.heap.size := h1.apart.sh _ k1
  have hupd : ConcN.upd f.F (j0 + 1 + i) (g', (⟨mj, .snd { q with closed := true, fst := false }⟩ : XW Gh)) (j0 + 1 + i) = (g', ⟨mj, .snd { q with closed := true, fst := false }⟩) := ConcN.upd_same _ _ _
  have hops : ∀ op ∈ MemOp.ofEvents (j0 + 1 + i) r.frame.fn r.frame.place (shutEv s.ch), op.g = j0 + 1 + i := fun op hop => by obtain ⟨e, _, rfl⟩ := ofEvents_mem hop; rfl
  have hq : ∀ g, ∀ op ∈ MemOp.ofEvents (j0 + 1 + i) r.frame.fn r.frame.place (shutEv s.ch), ∀ d, deafStep g d op = d := fun g op hop d => by
    obtain ⟨e, he, rfl⟩ := ofEvents_mem hop
    simp only [List.mem_toArray, List.mem_cons, List.not_mem_nil, or_false] at he
    rcases he with rfl | rfl <;> rfl
  have hdj : Deaf f.t (j0 + 1 + i) = 0 := h1.da _ (by omega) hik (by rw [hp]; trivial)
  refine ⟨sndNext P f r g' (f.w.setChan s.ch 0 #[] true n n false) (shutEv s.ch) (j0 + 1 + i) f.ph (ConcN.upd f.F (j0 + 1 + i) (g', ⟨mj, .snd { q with closed := true, fst := false }⟩)) mb' mj f.o.rl, rfl, rfl, rfl, rfl, rfl, rfl,
    snd_go1 (ph' := f.ph) (F' := ConcN.upd f.F (j0 + 1 + i) (g', ⟨mj, .snd { q with closed := true, fst := false }⟩)) (mb' := mb') (m' := mj) (rl' := f.o.rl) h1 (by omega) hik hr (fun _ _ => rfl) (wakes_snd h1 h2 fun b hb hbw i' s' hi' hs' hp' hbb => hne b fun e => ?_) (fun k hk => upd_ne _ _ hk) w1 ⟨h1.env.os, h1.env.tape, h1.env.out⟩ (fun b hb hn' hsh => hne b fun e => hsh (e ▸ k1)) (by rw [setChan_size]; exact Nat.le_refl _) ?_ (fun b hb => .inl (by rw [hM]; exact hb)) ?_ (fun e he t ht hk => by
      obtain ⟨ad, hl⟩ := said_loc ht hk
      simp only [List.mem_toArray, List.mem_cons, List.not_mem_nil, or_false] at he
      rcases he with rfl | rfl <;> rcases hl with hl | hl <;> cases hl) ?_ (.inl hlv) (fun _ _ h => h)
    (.inl (by rw [hp]; trivial)) (fun hh => absurd (by rw [hp]; trivial) hh) id id id ⟨fun pk hpk => ?_, fun hh => absurd (by rw [hp]; trivial) hh, fun q hq => by rw [hp] at hq; cases hq⟩, ?_⟩
  · rcases hbb with rfl | rfl
    · exact hi' (by rw [k4 i' s' hs' e])
    · exact k2 e.symm
  · intro b o hb
    show (f.w.setChan s.ch 0 #[] true n n false).heap[b]? = some o
    have hbm : f.o.M (j0 + 1 + i) b ≠ none := by rw [hM, hb]; simp
    rw [hne b fun e => (h1.apart.mem _ b hbm).2.2.1 (e ▸ k1)]
    have := h1.mem (j0 + 1 + i)
    rw [hM] at this
    exact this b o hb
  · intro e he t ht b hb
    simp only [List.mem_toArray, List.mem_cons, List.not_mem_nil, or_false] at he
    rcases he with rfl | rfl
    · simp only [MemAct.ofEvent, MemAct.touch?, Option.some.injEq] at ht
      subst ht
      simp only [blk, Option.some.injEq] at hb
      subst hb
      exact .inr (.inr ⟨k1, by simp, fun hh => by simp at hh, .inr ⟨hcp, (h2.ac i s hs).2.2⟩⟩)
    · simp [MemAct.ofEvent, MemAct.touch?] at ht
  · intro e he
    rw [setChan_size]
    simp only [List.mem_toArray, List.mem_cons, List.not_mem_nil, or_false] at he
    rcases he with rfl | rfl <;> exact .of hchl
  · rw [hp] at hpk; cases hpk
    rw [hupd]
    exact ⟨rfl, rfl, hg, rfl, rfl⟩
  · rw [hx]
    have hat : (f.t ++ MemOp.ofEvents (j0 + 1 + i) r.frame.fn r.frame.place (shutEv s.ch))[f.t.size + 1]? = some { g := j0 + 1 + i, fn := r.frame.fn, pos := r.frame.place, act := .close s.ch } := by
      rw [at_new, ofEvents_eq]; simp [MemAct.ofEvent]
    refine ⟨j0, snd2 (s := s) (pk' := false) (u := MemOp.ofEvents (j0 + 1 + i) r.frame.fn r.frame.place (shutEv s.ch)) h2 hs rfl w2 (fun k hk => rfl) hp hp (fun k hk => upd_ne _ _ hk) ⟨rfl, rfl, rfl, rfl, rfl, rfl⟩ hne (fun b hb => (h1.apart.base b (by rw [h2.base]; exact hb)).2.1) rfl (fun g => Deaf_quiet (hq g)) hops
      (fun op hop => ?_) (fun op hop ad had b hb => ?_) (fun k z gg d hk hpk => ?_) (fun hh => by cases hh) (fun hh => absurd hh w3)
      ⟨{ q with closed := true, fst := false }, by show (ConcN.upd f.F _ _ _).2.s = _; rw [hupd], q2, q3, q4, q5, q6, q7, q8, fun _ => hrem, fun hh => (by cases hh), ⟨n, hself⟩, fun _ => ⟨f.t.size + 1, act?_of hat, ⟨j0 + 1 + i, g?_of hat, ?_⟩, fun hwn hi' yy ad b ha hb hbw => ?_⟩⟩⟩
    · obtain ⟨e, he, rfl⟩ := ofEvents_mem hop
      simp only [List.mem_toArray, List.mem_cons, List.not_mem_nil, or_false] at he
      rcases he with rfl | rfl <;> simp [MemAct.ofEvent]
    · obtain ⟨e, he, rfl⟩ := ofEvents_mem hop
      simp only [List.mem_toArray, List.mem_cons, List.not_mem_nil, or_false] at he
      rcases he with rfl | rfl
      · simp only [MemAct.ofEvent, MemAct.touch?, Option.some.injEq] at had
        subst had
        simp only [blk, Option.some.injEq] at hb
        subst hb
        cases hc : c.win s.ch with
        | none => rfl
        | some o => exact absurd k1 (h1.apart.win s.ch (by rw [h2.win, hc]; simp)).1
      · simp [MemAct.ofEvent, MemAct.touch?] at had
    · have hkne : k ≠ j0 + 1 + i := fun e => by rw [e, hp] at hpk; cases hpk
      show ((f.gs.map (woken P r g' (f.w.setChan s.ch 0 #[] true n n false))).setIfInBounds (j0 + 1 + i) g')[k]? = f.gs[k]?
      rw [get_set_map (Ne.symm hkne)]
      cases hgk : f.gs[k]? with
      | none => rfl
      | some rr =>
        have hj0 : j0 < k := Nat.lt_of_not_le fun hle => by have := h2.old k hk hle; rw [hpk] at this; exact this.elim
        obtain ⟨_, r', e1, e2⟩ := h2.b k z gg d hpk hj0 (size_lt h1 hgk)
        rw [hgk] at e1; cases e1
        exact congrArg some (e2.woken _ _ _)
    · rw [deaf_quiet (hq _) 1 (by rw [ofEvents_eq]; simp)]; exact hdj
    · rcases touch_cases ha with ⟨hlt, ha'⟩ | ⟨hge, op, hop, hoi, hoa⟩
      · rcases h1.tok.winAll yy ad b ha' hb (by rw [h2.win]; exact hbw) with h3 | h3
        · exact .inl (h3.app _)
        · right
          have : f.o.wi = j0 + 1 + i := by rw [(h2.wi hwn).1, h2.k, ← hi']; omega
          rw [this] at h3
          exact .inr (h3.hb_new (by omega) hat rfl)
      · obtain ⟨e, he, rfl⟩ := ofEvents_mem hop
        simp only [List.mem_toArray, List.mem_cons, List.not_mem_nil, or_false] at he
        rcases he with rfl | rfl
        · simp only [MemAct.ofEvent, MemAct.touch?, Option.some.injEq] at hoa
          subst hoa
          simp only [blk, Option.some.injEq] at hb
          subst hb
          exact absurd k1 (h1.apart.win s.ch (by rw [h2.win]; exact hbw)).1
        · simp [MemAct.ofEvent, MemAct.touch?] at hoa
end
end Go.X
namespace Go.X
open Go Go.Sx Go.Conc Go.ConcN
open Go.ConcR (KK wgBlock WgAt stA smA rd wr mk Payload Bk)
section
variable {P : Program} {Post : Value → World → Prop} {W0 : World}
theorem goes_like {R : World → World → Prop} {D : World → World → Array Event → Prop} {Stop : Goroutine → World → Prop} {y r : Goroutine} (hl : Like P y r) (hS : ∀ w, Stop y w → Stop r w) : ∀ {m : Nat} {w : World}, Goes P false R D Stop m y w → Goes P false R D Stop m r w
  | 0, w, h => fun w₁ h1 => hS _ (h w₁ h1)
  | m + 1, w, h => h.elim (fun h => .inl fun w₁ h1 => hS _ (h w₁ h1)) fun h => .inr ⟨hl.run, fun w₁ h1 => by rw [hl.step]; exact h.2 w₁ h1⟩
theorem atR0_like {ty : TypeId} {wg C n Low k : Nat} {v : Value} {y r : Goroutine} (hl : Like P y r) (w : World) (h : AtR0 P ty wg C n Low k v y w) : AtR0 P ty wg C n Low k v r w :=
  ⟨hl.run, h.2.1, by rw [hl.step]; exact h.2.2⟩
theorem snd_quit {f : Cf} {a : Goroutine} {x : XW Gh} {c : Co} {j0 i : Nat} {s : Snd} {q : Cs} {y : Goroutine} {mj : Heap} (h1 : Inv1 P Post W0 f a x) (h2 : Inv2 P f x c j0) (hx : x.s = .co c) (hs : c.snd[i]? = some s) (hp : f.ph (j0 + 1 + i) = .A false)
    (hF : f.F (j0 + 1 + i) = (y, ⟨mj, .snd q⟩)) (hcl : q.closed = true) (hq : Leaves P q y) :
    ∃ f', f'.gs = f.gs ∧ f'.w = f.w ∧ f'.sl = f.sl ∧ f'.t = f.t ∧ f'.k = f.k ∧ f'.F = f.F ∧ Inv P Post W0 f' a x ∧ f'.S < f.S := by
  have hlen : i < c.snd.length := (List.getElem?_eq_some_iff.1 hs).1
  have hik : j0 + 1 + i ≤ f.k := by rw [h2.k]; omega
  obtain ⟨q0, q1, q2, q3, q4, q5, q6, q7, q8, q9, q10, q11, q12⟩ := h2.cha i s false hs hp
  rw [hF] at q1; cases q1
  obtain ⟨r, hr, hc⟩ := h1.ra _ false (by omega) hik hp
  have hl : Like P (f.F (j0 + 1 + i)).1 r := by
    rcases hc with ⟨_, hl⟩ | ⟨hf, _⟩
    · exact hl
    · cases hf
  rw [hF] at hl
  obtain ⟨⟨C, cs, T, fz, v, hC, hv, hg1⟩, hg2⟩ := hq
  obtain ⟨st, sm, hw, hmode⟩ := h2.mode
  have hDi : f.D (j0 + i) = ⟨7, 0, 0⟩ := by simp only [Cf.D, show j0 + i + 1 = j0 + 1 + i by omega, hp, Ph.wd]
  have hsm : sm = 0 := mode7 hmode (i := j0 + i) (by omega) (by rw [hDi])
  subst hsm
  have hlive : WgLive q.ty q.wg f.w := by rw [q2, q4]; exact ⟨st, 0, hw⟩
  have hCw : f.w.heap[C]? = some (.cells cs T fz) := h1.mbase C _ (by rw [h2.base, ← q5]; exact hC)
  obtain ⟨m1, hm1⟩ := hg1 f.w hlive (by simp [ConcN.Has, World.cell?, hCw, hv])
  obtain ⟨m2, hm2⟩ := hg2 f.w hlive (by rw [q4]; exact hw.cellSm)
  have hb : BSit P c 7 m1 0 r f.w := ⟨C, cs, T, fz, v, by rw [← q5]; exact hC, hv, by rw [← q2, ← q4]; exact .r0 (goes_like hl (fun w => atR0_like hl w) hm1), fun _ => by rw [← q2, ← q4]; exact .of_r0 (goes_like hl (fun w => atR0_like hl w) hm2)⟩
  have hdj : Deaf f.t (j0 + 1 + i) = 0 := h1.da _ (by omega) hik (by rw [hp]; trivial)
  generalize hph' : ConcN.upd f.ph (j0 + 1 + i) (.B 7 m1 0) = ph'
  have p1 : ph' (j0 + 1 + i) = .B 7 m1 0 := by rw [← hph']; exact ConcN.upd_same _ _ _
  have p2 : ∀ j, j ≠ j0 + 1 + i → ph' j = f.ph j := fun j hj => by rw [← hph']; exact upd_ne _ _ hj
  have hL : ∀ j, (ph' j).isL ↔ (f.ph j).isL := fun j => by
    by_cases e : j = j0 + 1 + i
    · rw [e, p1, hp]; exact ⟨fun _ => trivial, fun _ => rfl⟩
    · rw [p2 j e]
  have hQ : ∀ j, (ph' j).isQ ↔ (f.ph j).isQ := fun j => by
    by_cases e : j = j0 + 1 + i
    · rw [e, p1, hp]; exact Iff.rfl
    · rw [p2 j e]
  have hA : ∀ j, (ph' j).isA → (f.ph j).isA ∧ j ≠ j0 + 1 + i := fun j hh => by
    by_cases e : j = j0 + 1 + i
    · rw [e, p1] at hh; exact hh.elim
    · rw [p2 j e] at hh; exact ⟨hh, e⟩
  have hpA : ∀ {j pk}, ph' j = .A pk → f.ph j = .A pk ∧ j ≠ j0 + 1 + i := fun {j pk} hh => by
    have := (hA j (by rw [hh]; trivial)).2
    exact ⟨by rw [← p2 j this]; exact hh, this⟩
  have hne0 : (0 : Nat) ≠ j0 + 1 + i := by omega
  have hMs : ∀ g b, ConcN.upd f.o.M (j0 + 1 + i) Heap.empty g b ≠ none → g ≠ j0 + 1 + i ∧ f.o.M g b ≠ none := fun g b hb => by
    by_cases e : g = j0 + 1 + i
    · rw [e, ConcN.upd_same] at hb; exact absurd rfl hb
    · rw [upd_ne _ _ e] at hb; exact ⟨e, hb⟩
  have hApart : Own4.Apart { f.o with M := ConcN.upd f.o.M (j0 + 1 + i) Heap.empty } f.w.heap.size := by
    refine ⟨fun g g' b hne hb => ?_, fun g b hb => h1.apart.mem g b (hMs g b hb).2, h1.apart.base, h1.apart.win, h1.apart.lv, h1.apart.sh, h1.apart.ac⟩
    show ConcN.upd f.o.M (j0 + 1 + i) Heap.empty g' b = none
    by_cases e : g' = j0 + 1 + i
    · rw [e, ConcN.upd_same]; rfl
    · rw [upd_ne _ _ e]; exact h1.apart.own g g' b hne (hMs g b hb).2
  have hTok : TOk { f.o with M := ConcN.upd f.o.M (j0 + 1 + i) Heap.empty } f.w.heap.size f.t :=
    h1.tok.turn (Nat.le_refl _) (fun g b hb => .inl (hMs g b hb).2) (fun b hb => .inl ⟨hb, fun g hg => .inl hg, fun g hg => .inl hg, fun g r hr => hr⟩) (fun b hb => .inl ⟨hb, rfl⟩) (fun b hb => .inl ⟨hb, fun g hg => .inl hg⟩) (fun g hg => .inl hg) (fun g r hr => hr)
  have hMb : f.o.M (j0 + 1 + i) = mj := by rw [h1.oMa _ (by omega) hik (by rw [hp]; trivial), hF]
  refine ⟨{ f with ph := ph', o := { f.o with M := ConcN.upd f.o.M (j0 + 1 + i) Heap.empty } }, rfl, rfl, rfl, rfl, rfl, rfl, ⟨⟨h1.size, h1.env, h1.main, fun j pk a b hh => h1.ra j pk a b (hpA hh).1, fun j q a b hh => h1.rq j q a b ?_, fun j a b hh => h1.mi j a b (hA j hh).1, h1.d0, fun j a b hh => h1.da j a b (hA j hh).1, h1.ok, ?_, fun j a b hh => ?_, fun j a b => ?_,
    fun j => ?_, fun j => ?_, hApart, fun j => ?_, h1.mbase, h1.mwin, hTok⟩, ?_⟩, ?_⟩
  · have e : j ≠ j0 + 1 + i := fun e => by replace hh : ph' j = .Q q := hh; rw [e, p1] at hh; cases hh
    exact (p2 j e).symm.trans hh
  · show ConcN.upd f.o.M (j0 + 1 + i) Heap.empty 0 = x.m
    rw [upd_ne _ _ hne0]; exact h1.oM0
  · show ConcN.upd f.o.M (j0 + 1 + i) Heap.empty j = _
    rw [upd_ne _ _ (hA j hh).2]; exact h1.oMa j a b (hA j hh).1
  · show ConcN.upd f.o.M (j0 + 1 + i) Heap.empty j = Heap.empty
    by_cases e : j = j0 + 1 + i
    · rw [e, ConcN.upd_same]
    · rw [upd_ne _ _ e]
      refine h1.oMn j a (b.imp id fun hh hp' => hh ?_)
      show (ph' j).isA
      rw [p2 j e]; exact hp'
  · show f.o.lv j ↔ _ ∧ _ ∧ (ph' j).isL
    rw [h1.lv j, hL]
  · show f.o.cp j ↔ _ ∧ _ ∧ ¬ (ph' j).isQ
    rw [h1.cp j, hQ]
  · intro b o hb
    replace hb : ConcN.upd f.o.M (j0 + 1 + i) Heap.empty j b = some o := hb
    have := hMs j b (by rw [hb]; simp)
    rw [upd_ne _ _ this.1] at hb
    exact h1.mem j b o hb
  · rw [hx]
    have hoff : q.off = true → c.shut = true := q8
    refine ⟨j0, ⟨h2.k, fun j a b => by show (ph' j).isQ; rw [hQ]; exact h2.old j a b, h2.base, h2.win, h2.wi, h2.wn, h2.ech, h2.wg, ⟨st, 0, hw, ?_⟩, fun i' hi' => ?_, fun n hn => ?_, h2.shut, h2.open_, h2.ch, fun j a b hh => h2.pk j a b (hpA hh).1, fun i' z pk hz hh => h2.cha i' z pk hz (hpA hh).1, fun i' z hz hh => ?_, fun j z gg d hh a b => ?_, fun j z gg d hh a b hz => ?_, fun j r hr => ?_, h2.nor, h2.acq, h2.few, h2.ac⟩⟩
    · refine hmode.congr fun j hj => ?_
      show ((ph' (j + 1)).wd).stage = ((f.ph (j + 1)).wd).stage
      by_cases e : j + 1 = j0 + 1 + i
      · rw [e, p1, hp]; rfl
      · rw [p2 _ e]
    · obtain ⟨q', e1, e2, e3, e4⟩ := h2.park i' hi'
      have e : j0 + 1 + i' ≠ j0 + 1 + i := fun e => by
        rw [e, hF] at e2; cases e2
        rw [hcl] at e3; cases e3
      exact ⟨q', by show ph' _ = _; rw [p2 _ e]; exact e1, e2, e3, e4⟩
    · have := h2.bnd n hn
      have e : Vc f.k (fun j => (ph' (j + 1)).wd) = Vc f.k f.D := sumTo_congr fun j hj => by
        show cnt ((ph' (j + 1)).wd) = cnt ((f.ph (j + 1)).wd)
        by_cases e : j + 1 = j0 + 1 + i
        · rw [e, p1, hp]; rfl
        · rw [p2 _ e]
      show Vc f.k (fun j => (ph' (j + 1)).wd) ≤ n
      rw [e]; exact this
    · by_cases e : i' = i
      · subst e
        rw [hs] at hz; cases hz
        refine ⟨?_, ?_, q12 hcl⟩
        · rcases q9 hcl with h3 | h3
          · cases ho : q.off with
            | false => exact .inl (by rw [← q7 ho]; exact h3)
            | true => exact .inr (hoff ho)
          · exact .inr (hoff h3)
        · obtain ⟨n, hn⟩ := q11
          exact ⟨n, by rw [hcl] at hn; exact hn⟩
      · exact h2.chb i' z hz (by rw [← p2 (j0 + 1 + i') (by omega)]; exact hh)
    · by_cases e : j = j0 + 1 + i
      · subst e
        rw [show ({ f with ph := ph', o := { f.o with M := ConcN.upd f.o.M (j0 + 1 + i) Heap.empty } } : Cf).ph (j0 + 1 + i) = ph' (j0 + 1 + i) from rfl, p1] at hh
        cases hh
        exact ⟨hdj, r, hr, hb⟩
      · exact h2.b j z gg d ((p2 j e).symm.trans hh) a b
    · by_cases e : j = j0 + 1 + i
      · subst e
        rw [show ({ f with ph := ph', o := { f.o with M := ConcN.upd f.o.M (j0 + 1 + i) Heap.empty } } : Cf).ph (j0 + 1 + i) = ph' (j0 + 1 + i) from rfl, p1] at hh
        cases hh
        omega
      · exact h2.b7 j z gg d ((p2 j e).symm.trans hh) a b hz
    · obtain ⟨r1, r2, r3, r4⟩ := h2.rel j r hr
      exact ⟨r1, r2, fun hh => r3 ((hL j).1 hh), r4⟩
  · have := upd_sum (f := f) (ph' := ph') (φ := Ph.wt) (i := j0 + 1 + i) (by omega) hik p2
    rw [p1, hp] at this
    have h3 : sumTo f.k (fun k => (ph' (k + 1)).wt) + 8 = sumTo f.k (fun k => (f.ph (k + 1)).wt) + 7 := this
    show sumTo f.k (fun k => (ph' (k + 1)).wt) < sumTo f.k (fun k => (f.ph (k + 1)).wt)
    omega
end
end Go.X
