/- An operation that runs well wherever its memory stands, carried over to company. No program in sight. -/
import Derived.Test.YtafhinjggdknjaaDoorPXE
set_option linter.unusedVariables false
set_option linter.unusedSimpArgs false
namespace Go.X
open Go Go.Sx Go.Conc
def outW (o : Array (Nat × ByteArray)) (w : World) : World := { w with output := o }
theorem seen_out (p : Program) (o : Array (Nat × ByteArray)) (w : World) (at_ : Addr) (u : TypeId) (k : Addr) (t : Bool) : (outW o w).seen p at_ u k t = w.seen p at_ u k t := rfl
theorem farLoad_out (p : Program) (o : Array (Nat × ByteArray)) (w : World) (a : Addr) (t : Bool) : (outW o w).farLoad p a t = w.farLoad p a t := rfl
theorem farStore_out (p : Program) (o : Array (Nat × ByteArray)) (w : World) (a : Addr) (v : Value) (t : Bool) :
    (outW o w).farStore p a v t = match w.farStore p a v t with | .ok r => .ok (outW o r.1, r.2) | .error h => .error h := by
  have hh : (outW o w).heap = w.heap := rfl
  have hn : (outW o w).noCell a "store: no such cell" = w.noCell a "store: no such cell" := rfl
  simp only [World.farStore, hh, hn]
  split
  · rename_i at_ u hv
    have : (outW o w).viewStore p at_ u a v t = match w.viewStore p at_ u a v t with | .ok r => .ok (outW o r.1, r.2) | .error h => .error h := by
      unfold World.viewStore
      rw [seen_out]
      cases tight p p.depth u with
      | false => rfl
      | true =>
        cases w.seen p at_ u a t with
        | error s => rfl
        | ok r =>
          obtain ⟨c, e, f, first, like, cells⟩ := r
          cases v.bytes? with
          | none => rfl
          | some bs =>
            by_cases hl : some bs.length ≠ like.bytes?.map (·.length)
            · simp only [bind, Except.bind, hl, Bool.not_true, Bool.false_eq_true, if_false, ne_eq, not_false_eq_true, if_true]; rfl
            · simp only [bind, Except.bind, hl, Bool.not_true, Bool.false_eq_true, if_false, pure, Except.pure]
              split <;> rfl
    rw [this]
    cases w.viewStore p at_ u a v t <;> rfl
  · rfl
theorem run_out {α : Type} {P : Program} (o : Array (Nat × ByteArray)) (e : Sem α) (hc : e.Calm P) : ∀ w a v, e.run P (outW o w) = .ok a v → ∃ v', e.run P w = .ok a v' ∧ v = outW o v' := by
  induction e with
  | pure a => intro w a v h; cases h; exact ⟨w, rfl, rfl⟩
  | load m x k ih =>
    intro w a v h
    have h1 : (outW o w).cell? x = w.cell? x := rfl
    simp only [Sem.run, h1, farLoad_out] at h ⊢
    split at h
    · exact ih _ (hc _) w a v h
    · split at h
      · exact ih _ (hc _) w a v h
      · cases h
  | store m x y k ih =>
    intro w a v h
    by_cases hv : y.oneCell' = true
    · have e1 : ∀ (w : World), (Sem.store m x y k).run P w = match w.cell? x with
        | some _ => if w.frozen? x then .halt (.unsupported (.unsafePointer "a write to bytes that a string shares")) w else k.run P (w.setCell x y)
        | none => match w.farStore P x y (m == .atomic) with
          | .ok (w, _) => k.run P w
          | .error h => .halt h w := by
        intro w
        cases y <;> first | (simp [Value.oneCell'] at hv; done) | rfl
      have h1 : (outW o w).cell? x = w.cell? x := rfl
      have h2 : (outW o w).frozen? x = w.frozen? x := rfl
      have h3 : (outW o w).setCell x y = outW o (w.setCell x y) := rfl
      rw [e1, h1, h2, h3, farStore_out] at h
      rw [e1]
      split at h
      · split at h
        · cases h
        · rename_i hfr; rw [if_neg hfr]; exact ih hc _ a v h
      · cases hf : w.farStore P x y (m == .atomic) with
        | ok r => rw [hf] at h; exact ih hc _ a v h
        | error e => rw [hf] at h; cases h
    · exfalso
      cases y <;> first | (simp [Value.oneCell'] at hv; done) | (simp only [Sem.run] at h; cases h)
  | new ob k ih => intro w a v h; exact ih _ (hc _) { w with heap := w.heap.push ob } a v h
  | shape r k ih => intro w a v h; exact absurd h ((hc _).run _ _ _)
  | freeze x n k ih => exact hc.elim
  | frozen x k ih => intro w a v h; exact absurd h ((hc _).run _ _ _)
  | getObj r k ih =>
    intro w a v h
    have h1 : (outW o w).heap = w.heap := rfl
    simp only [Sem.run, h1] at h ⊢
    cases hb : w.heap[r]? with
    | none => rw [hb] at h; cases h
    | some ob => rw [hb] at h; cases ob <;> first | (cases h; done) | exact ih _ (hc _) w a v h
  | setObj r ob k ih =>
    intro w a v h
    have h1 : (outW o w).heap = w.heap := rfl
    simp only [Sem.run, h1] at h ⊢
    cases hb : w.heap[r]? with
    | none => rw [hb] at h; cases h
    | some ob' => rw [hb] at h; cases ob' <;> first | (cases h; done) | exact ih hc { w with heap := w.heap.setIfInBounds r ob } a v h
  | choose q k ih =>
    intro w a v h
    simp only [Sem.run] at h ⊢
    split at h
    · rename_i hq; rw [if_pos hq]; exact ih _ (hc _) w a v h
    · rename_i hq; rw [if_neg hq]; exact ih _ (hc _) { w with drawn := w.drawn + 1 } a v h
  | sys c k ih => exact hc.elim
  | program k ih => intro w a v h; exact ih _ hc w a v h
  | mark m k ih => intro w a v h; exact ih hc.2 w a v h
  | halt x => intro w a v h; cases h
def hide (m : Heap) (w : World) : Array (Nat × ByteArray) := open Classical in (((List.range w.heap.size).filter fun b => decide (m b = none)).map fun b => (b, ByteArray.empty)).toArray
theorem hid_hide {m : Heap} {w : World} {b : Nat} : hid (outW (hide m w) w) b = true ↔ b < w.heap.size ∧ m b = none := by
  simp only [hid, outW, hide, List.any_toArray, List.any_map, List.any_eq_true, List.mem_filter, List.mem_range, Function.comp, decide_eq_true_eq, beq_iff_eq]
  constructor
  · rintro ⟨x, h, rfl⟩; exact h
  · intro h; exact ⟨b, h, rfl⟩
theorem hp_hide {m : Heap} {w : World} (hl : m.le (rp w)) : hp (outW (hide m w) w) = m := by
  funext b
  unfold hp
  have hh : (outW (hide m w) w).heap = w.heap := rfl
  rw [hh]
  split
  · rename_i h; exact (hid_hide.1 h).2.symm
  · rename_i h
    cases hm : m b with
    | some o => exact hl b o hm
    | none =>
      have : ¬ b < w.heap.size := fun hlt => h (hid_hide.2 ⟨hlt, hm⟩)
      exact Array.getElem?_eq_none (by omega)
theorem low_hide {m : Heap} {w : World} : ∀ p ∈ (outW (hide m w) w).output, p.1 < (outW (hide m w) w).heap.size := by
  intro p hp
  simp only [outW, hide, List.mem_toArray, List.mem_map, List.mem_filter, List.mem_range] at hp
  obtain ⟨b, ⟨h1, _⟩, rfl⟩ := hp
  exact h1
structure StG (W0 : GW) (H : Heap) (w : GW) (L : List HProp) : Prop where
  env : EnvOk (outW w.output W0.toWorld) w.toWorld
  ro : H.le (union (hp w.toWorld) (fz (pool W0.s)))
  own : ∃ x, big L x ∧ x.le (hp w.toWorld) ∧ Disj H x
  sh : w.s = W0.s
  ps : w.post = W0.post
  dj : Disj (hp w.toWorld) (pool W0.s)
namespace StG
variable {W0 w : GW} {H H' : Heap} {L L' : List HProp}
theorem sub (h : StG W0 H w L) (hs : Sub L L') : StG W0 H w L' := ⟨h.env, h.ro, let ⟨x, a, b, c⟩ := h.own; ⟨x, hs x a, b, c⟩, h.sh, h.ps, h.dj⟩
theorem weak (h : StG W0 H' w L) (hl : H.le H') : StG W0 H w L := ⟨h.env, hl.trans h.ro, let ⟨x, a, b, c⟩ := h.own; ⟨x, a, b, c.mono hl⟩, h.sh, h.ps, h.dj⟩
theorem mk' (h : StG W0 H w L) (ro : H'.le (union (hp w.toWorld) (fz (pool W0.s)))) (own : ∃ x, big L' x ∧ x.le (hp w.toWorld) ∧ Disj H' x) : StG W0 H' w L' := ⟨h.env, ro, own, h.sh, h.ps, h.dj⟩
theorem parts {A : HProp} {R : List HProp} (h : StG W0 H w (A :: R)) : ∃ hA hR, A hA ∧ big R hR ∧ Disj hA hR ∧ Disj H hA ∧ Disj H hR ∧ hA.le (hp w.toWorld) ∧ hR.le (hp w.toWorld) := by
  obtain ⟨x, ⟨h1, h2, a, b, c, d, e⟩, hl, hd⟩ := h.own
  exact ⟨h1, h2, a, b, c, (hd.symm.mono d).symm, (hd.symm.mono e).symm, d.trans hl, e.trans hl⟩
theorem of_parts {A : HProp} {R : List HProp} (h : StG W0 H w L) (ro : H'.le (union (hp w.toWorld) (fz (pool W0.s)))) {hA hR : Heap} (a : A hA) (r : big R hR) (d : Disj hA hR) (dA : Disj H' hA) (dR : Disj H' hR) (lA : hA.le (hp w.toWorld)) (lR : hR.le (hp w.toWorld)) : StG W0 H' w (A :: R) :=
  ⟨h.env, ro, ⟨union hA hR, ⟨hA, hR, a, r, d, le_union_left _ _, le_union_right d⟩, union_le lA lR, (disj_union dA.symm dR.symm).symm⟩, h.sh, h.ps, h.dj⟩
theorem freeze {b : Nat} {o : Obj} {R : List HProp} (h : StG W0 H w (pt b o :: R)) : H b = none ∧ StG W0 (upd H b o) w R := by
  obtain ⟨hA, hR, a, r, d, dA, dR, lA, lR⟩ := h.parts
  have hb : hA b = some o := a
  refine ⟨?_, h.env, fun x u hx => ?_, ⟨hR, r, lR, fun x => ?_⟩, h.sh, h.ps, h.dj⟩
  · rcases dA b with e | e
    · exact e
    · rw [hb] at e; cases e
  · simp only [upd] at hx; split at hx
    · rename_i e; subst e; cases hx; exact union_l (lA _ _ hb)
    · exact h.ro x u hx
  · by_cases e : x = b
    · subst e; right; rcases d x with y | y; rw [hb] at y; cases y; exact y
    · simp only [upd, e, if_false]; exact dR x
theorem own_le {D : Heap} (h : StG W0 H w L) (hD : D.le H) (hd : Disj D (pool W0.s)) : D.le (hp w.toWorld) := fun b o hb => by
  rcases union_cases (h.ro b o (hD b o hb)) with e | ⟨_, e⟩
  · exact e
  · have h1 := fz_ne (p := pool W0.s) (b := b) (by rw [e]; simp)
    rw [(hd b).resolve_right h1] at hb; cases hb
theorem off_pool {x : Heap} (h : StG W0 H w L) (hx : x.le (hp w.toWorld)) : Disj x (pool W0.s) := h.dj.mono hx
end StG
structure LD (W0 : GW) (H D : Heap) : Prop where
  d : Disj H D
  p : Disj D (pool W0.s)
theorem look_of {W0 w : GW} {H xo : Heap} (ro : H.le (union (hp w.toWorld) (fz (pool w.s)))) (lx : xo.le (hp w.toWorld)) (dj : Disj (hp w.toWorld) (pool w.s)) :
    (∀ b o, union H xo b = some o → fz (pool w.s) b ≠ none → fz (pool w.s) b = some o) ∧ ∀ w1, (hp w.toWorld).le (rp w1) → (pool w.s).le (rp w1) → (raw (union H xo) (pool w.s)).le (rp w1) := by
  have own0 : ∀ b, fz (pool w.s) b ≠ none → hp w.toWorld b = none := fun b hb => (dj b).resolve_right (fz_ne hb)
  constructor
  · intro b o hV hz
    rcases union_cases hV with h | ⟨_, h⟩
    · have := ro b o h
      rwa [union_r (own0 b hz)] at this
    · have := lx b o h
      rw [own0 b hz] at this; cases this
  · intro w1 hl hp b o hb
    unfold raw at hb
    split at hb
    · split at hb
      · exact hp b o hb
      · cases hb
    · rename_i hz
      rcases union_cases hb with h | ⟨_, h⟩
      · have := ro b o h
        rcases union_cases this with h2 | ⟨_, h2⟩
        · exact hl b o h2
        · rw [hz] at h2; cases h2
      · exact hl b o (lx b o h)
theorem run_local {α : Type} {W0 : GW} {H : Heap} {L : List HProp} {P : Program} {e : Sem α} (hc : e.Calm P) {R : α → Heap → List HProp → Prop}
    (h : ∀ {W1 : World} w, St W1 H w L → ∃ x H' L' w', e.run P w = .ok x w' ∧ H.le H' ∧ R x H' L' ∧ St W1 H' w' L') {w : GW} (hS : StG W0 H w L) {Wr : BW} (hsm : Sm Wr w) :
    ∀ w1, Env Wr.toWorld w1 → (hp w.toWorld).le (rp w1) → (pool w.s).le (rp w1) → ∃ x H' L' w1' w2, e.run P w1 = .ok x w1' ∧ H.le H' ∧ R x H' L' ∧ Keeps (hp w.toWorld) (pool w.s) w1 w1' (e.events P w1 #[]) ∧ StG W0 H' w2 L' ∧ (hp w2.toWorld).le (rp w1') ∧
      (∀ b, hp w2.toWorld b ≠ none → hp w.toWorld b ≠ none ∨ w1.heap.size ≤ b) ∧ w2.s = w.s ∧ Sm Wr w2 := by
  classical
  have hsh := hS.sh
  obtain ⟨xo, x1, x2, x3⟩ := hS.own
  have ro := hS.ro
  have dj := hS.dj
  rw [← hsh] at ro dj
  obtain ⟨hV, hraw⟩ := look_of (W0 := W0) ro x2 dj
  have hos : Wr.os = W0.os := hsm.os.trans hS.env.os
  have htape : Wr.tape = W0.tape := hsm.tape.trans hS.env.tape
  have base : ∀ u, Env Wr.toWorld u → (union H xo).le (rp u) → ∃ x H' L' v, e.run P u = .ok x v ∧ H.le H' ∧ R x H' L' ∧ St (outW (hide (union H xo) u) u) H' (outW (hide (union H xo) u) v) L' := by
    intro u he hl
    have hst : St (outW (hide (union H xo) u) u) H (outW (hide (union H xo) u) u) L := by
      refine ⟨⟨rfl, rfl, rfl, low_hide⟩, ?_, ⟨xo, x1, ?_, x3⟩⟩
      · rw [hp_hide hl]; exact le_union_left _ _
      · rw [hp_hide hl]; exact le_union_right x3
    obtain ⟨x, H', L', w', hr, hle, hR, hS'⟩ := h _ hst
    obtain ⟨v, hr1, rfl⟩ := run_out _ e hc _ _ _ hr
    exact ⟨x, H', L', v, hr1, hle, hR, hS'⟩
  intro w1 he hl hpl
  obtain ⟨a, w1', r1, r2, k1, k2, g1, g2, g3, g4, g5⟩ := op_local (P := P) hc (W0 := Wr.toWorld) hV (fun u he hl => let ⟨x, _, _, v, hr, _⟩ := base u he hl; ⟨x, v, hr⟩) w1 he hpl (hraw w1 hl hpl)
  obtain ⟨x, H', L', v, hr, hle, hR, hS'⟩ := base (protW (fzB (pool w.s)) w1) ⟨he.os, he.tape, he.out⟩ (raw_le hV hpl (hraw w1 hl hpl))
  rw [r2] at hr
  cases hr
  have hm : ∃ m' : Heap, m' = fun b => if hp w.toWorld b ≠ none ∨ w1.heap.size ≤ b then rp w1' b else none := ⟨_, rfl⟩
  obtain ⟨m', hm⟩ := hm
  have m1 : ∀ b, (hp w.toWorld b ≠ none ∨ w1.heap.size ≤ b) → m' b = w1'.heap[b]? := fun b hb => by rw [hm]; simp only []; rw [if_pos hb]; rfl
  have m2 : ∀ b, m' b ≠ none → hp w.toWorld b ≠ none ∨ w1.heap.size ≤ b := fun b hb => by
    rw [hm] at hb
    by_cases h : hp w.toWorld b ≠ none ∨ w1.heap.size ≤ b
    · exact h
    · simp only [if_neg h] at hb; exact absurd rfl hb
  have m3 : m'.le (rp w1') := fun b o hb => by
    rw [m1 b (m2 b (by rw [hb]; simp))] at hb; exact hb
  have hpm : hp (outW (hide m' w1') w1') = m' := hp_hide m3
  have poolLt : ∀ b, pool w.s b ≠ none → b < w1.heap.size := fun b hb => by
    cases hpb : pool w.s b with
    | none => exact absurd hpb hb
    | some o => exact (Array.getElem?_eq_some_iff.1 (hpl b o hpb)).1
  have djm : Disj m' (pool w.s) := fun b => by
    by_cases hb : m' b = none
    · exact .inl hb
    · refine .inr ?_
      rcases m2 b hb with h1 | h1
      · exact (dj b).resolve_left h1
      · cases hpb : pool w.s b with
        | none => rfl
        | some o => have := poolLt b (by rw [hpb]; simp); omega
  have vis : ∀ b o, hp (outW (hide (union H xo) (protW (fzB (pool w.s)) w1)) (protW (fzB (pool w.s)) w1')) b = some o → (w1.heap.size ≤ b ∨ union H xo b ≠ none) ∧ (protW (fzB (pool w.s)) w1').heap[b]? = some o := fun b o hb => by
    have hb0 := hp_some hb
    refine ⟨?_, hb0⟩
    unfold hp at hb
    split at hb
    · cases hb
    · rename_i hh
      by_cases hlt : w1.heap.size ≤ b
      · exact .inl hlt
      · refine .inr fun hn => hh ?_
        exact hid_hide.2 ⟨by rw [prot_size]; omega, hn⟩
  have off : ∀ b o, hp (outW (hide (union H xo) (protW (fzB (pool w.s)) w1)) (protW (fzB (pool w.s)) w1')) b = some o → fz (pool w.s) b = none → m' b = some o := fun b o hb hz => by
    obtain ⟨h1, h2⟩ := vis b o hb
    have hs : fzB (pool w.s) b = false := by simp [fzB, hz]
    rw [prot_off hs] at h2
    rw [m1 b, h2]
    rcases h1 with h1 | h1
    · exact .inr h1
    · refine .inl ?_
      rcases union_ne h1 with h3 | h3
      · cases hH : H b with
        | none => exact absurd hH h3
        | some o' =>
          have := ro b o' hH
          rcases union_cases this with h4 | ⟨_, h4⟩
          · rw [h4]; simp
          · rw [hz] at h4; cases h4
      · cases hX : xo b with
        | none => exact absurd hX h3
        | some o' => rw [x2 b o' hX]; simp
  obtain ⟨x', y1, y2, y3⟩ := hS'.own
  have inH : ∀ b, fz (pool w.s) b ≠ none → ∀ o, hp (outW (hide (union H xo) (protW (fzB (pool w.s)) w1)) (protW (fzB (pool w.s)) w1')) b = some o → H b ≠ none := fun b hz o hb => by
    obtain ⟨h1, _⟩ := vis b o hb
    have := poolLt b (fz_ne hz)
    rcases union_ne (h1.resolve_left (by omega)) with h3 | h3
    · exact h3
    · cases hX : xo b with
      | none => exact absurd hX h3
      | some o' =>
        have h4 := x2 b o' hX
        rw [(dj b).resolve_right (fz_ne hz)] at h4; cases h4
  refine ⟨a, H', L', w1', { toBW := { toWorld := outW (hide m' w1') w1', post := w.post }, s := w.s }, r1, hle, hR, ⟨fun b hb hn => ?_, g1, g2, g3, g4, fun ev hev => ?_, fun ev hev => (g5 ev hev).2.2⟩, ⟨⟨?_, ?_, rfl, low_hide⟩, fun b o hb => ?_, ⟨x', y1, fun b o hb => ?_, y3⟩, hsh, hS.ps, ?_⟩, ?_, fun b hb => ?_, rfl, ⟨?_, ?_, hsm.post⟩⟩
  · by_cases hr : raw (union H xo) (pool w.s) b = none
    · exact k1 b hb hr
    · by_cases hz : fz (pool w.s) b = none
      · exfalso
        rw [raw_off hz] at hr
        rcases union_ne hr with h3 | h3
        · cases hH : H b with
          | none => exact h3 hH
          | some o' =>
            rcases union_cases (ro b o' hH) with h4 | ⟨_, h4⟩
            · rw [hn] at h4; cases h4
            · rw [hz] at h4; cases h4
        · cases hX : xo b with
          | none => exact h3 hX
          | some o' => have := x2 b o' hX; rw [hn] at this; cases this
      · exact k2 b hz
  · obtain ⟨e1, e2, _⟩ := g5 ev hev
    unfold Mine at e1
    unfold EvP at e2
    unfold MineP Mine
    split at e1
    · rename_i ad hl'
      rw [hl'] at e2
      simp only [hl'] at e2 ⊢
      rcases e1 with e1 | e1
      · by_cases hz : fz (pool w.s) ad.block = none
        · rw [raw_off hz] at e1
          refine .inl (.inl ?_)
          rcases union_ne e1 with h3 | h3
          · cases hH : H ad.block with
            | none => exact absurd hH h3
            | some o' =>
              rcases union_cases (ro _ o' hH) with h4 | ⟨_, h4⟩
              · rw [h4]; simp
              · rw [hz] at h4; cases h4
          · cases hX : xo ad.block with
            | none => exact absurd hX h3
            | some o' => rw [x2 _ o' hX]; simp
        · exact .inr ⟨ad, rfl, fz_ne hz, e2 (fzB_iff.2 hz)⟩
      · exact .inl (.inr e1)
    · rename_i r hl'
      rw [hl'] at e2
      simp only [hl'] at e2 ⊢
      refine .inl ?_
      rcases e1 with e1 | e1
      · have hz : fz (pool w.s) r = none := by
          cases h : fz (pool w.s) r with
          | none => rfl
          | some o => rw [fzB, h] at e2; cases e2
        rw [raw_off hz] at e1
        refine .inl ?_
        rcases union_ne e1 with h3 | h3
        · cases hH : H r with
          | none => exact absurd hH h3
          | some o' =>
            rcases union_cases (ro _ o' hH) with h4 | ⟨_, h4⟩
            · rw [h4]; simp
            · rw [hz] at h4; cases h4
        · cases hX : xo r with
          | none => exact absurd hX h3
          | some o' => rw [x2 _ o' hX]; simp
      · exact .inr e1
    · rename_i k hl'
      simp only [hl']
      exact .inl e1
    · exact e1.elim
  · exact g2.trans (he.os.trans hos)
  · exact g3.trans (he.tape.trans htape)
  · rw [← hsh, hpm]
    have hb' := hS'.ro b o hb
    by_cases hz : fz (pool w.s) b = none
    · exact union_l (off b o hb' hz)
    · have h0 : m' b = none := (djm b).resolve_right (fz_ne hz)
      rw [union_r h0]
      have h1 := inH b hz o hb'
      cases hH : H b with
      | none => exact absurd hH h1
      | some o' =>
        have h2 := hle b o' hH
        rw [hb] at h2; cases h2
        have h3 := ro b o hH
        rwa [union_r ((dj b).resolve_right (fz_ne hz))] at h3
  · rw [hpm]
    have hb' := y2 b o hb
    refine off b o hb' ?_
    cases hz : fz (pool w.s) b with
    | none => rfl
    | some oz =>
      exfalso
      have h1 := inH b (by rw [hz]; simp) o hb'
      cases hH : H b with
      | none => exact h1 hH
      | some o' =>
        have h2 := hle b o' hH
        rcases y3 b with h3 | h3
        · rw [h2] at h3; cases h3
        · rw [hb] at h3; cases h3
  · rw [← hsh, hpm]; exact djm
  · rw [hpm]; exact m3
  · rw [hpm] at hb; exact m2 b hb
  · exact (g2.trans he.os).symm
  · exact (g3.trans he.tape).symm
theorem run_same {α : Type} {W0 : GW} {H : Heap} {L : List HProp} {P : Program} {e : Sem α} (hc : e.Calm P) {v : α}
    (h : ∀ {W1 : World} w, St W1 H w L → e.run P w = .ok v w) {w : GW} (hS : StG W0 H w L) {Wr : BW} (hsm : Sm Wr w) :
    ∀ w1, Env Wr.toWorld w1 → (hp w.toWorld).le (rp w1) → (pool w.s).le (rp w1) → e.run P w1 = .ok v w1 ∧ ∀ ev ∈ e.events P w1 #[], MineP (hp w.toWorld) (pool w.s) w1.heap.size ev ∧ EvLow w1.heap.size ev := by
  intro w1 he hl hpl
  obtain ⟨x, H', L', w1', w2, hr, -, ⟨rfl, hw⟩, hk, -⟩ := run_local (P := P) hc (R := fun x H' L' => x = v ∧ True) (fun {W1} w hS => ⟨v, H, L, w, h w hS, .refl _, ⟨rfl, trivial⟩, hS⟩) hS hsm w1 he hl hpl
  have hsh := hS.sh
  obtain ⟨xo, x1, x2, x3⟩ := hS.own
  have ro := hS.ro
  have dj := hS.dj
  rw [← hsh] at ro dj
  obtain ⟨hV, hraw⟩ := look_of (W0 := W0) ro x2 dj
  have base : ∀ u, Env Wr.toWorld u → (union H xo).le (rp u) → ∃ v', e.run P u = .ok x v' ∧ outW (hide (union H xo) u) u = outW (hide (union H xo) u) v' := by
    intro u he hl
    have hst : St (outW (hide (union H xo) u) u) H (outW (hide (union H xo) u) u) L := by
      refine ⟨⟨rfl, rfl, rfl, low_hide⟩, ?_, ⟨xo, x1, ?_, x3⟩⟩
      · rw [hp_hide hl]; exact le_union_left _ _
      · rw [hp_hide hl]; exact le_union_right x3
    obtain ⟨v', hr1, e2⟩ := run_out _ e hc _ _ _ (h _ hst)
    exact ⟨v', hr1, e2⟩
  obtain ⟨a, w1'', r1, r2, k1, k2, g1, g2, g3, g4, g5⟩ := op_local (P := P) hc (W0 := Wr.toWorld) hV (fun u he hl => let ⟨v, hr, _⟩ := base u he hl; ⟨x, v, hr⟩) w1 he hpl (hraw w1 hl hpl)
  rw [hr] at r1
  cases r1
  obtain ⟨v', hr1, e2⟩ := base (protW (fzB (pool w.s)) w1) ⟨he.os, he.tape, he.out⟩ (raw_le hV hpl (hraw w1 hl hpl))
  rw [r2] at hr1
  cases hr1
  have hheap : w1'.heap = w1.heap := Array.ext_getElem? fun b => by
    cases hs : fzB (pool w.s) b with
    | true => exact k2 b (fzB_iff.1 hs)
    | false =>
      have h0 := congrArg World.heap e2
      have h1 : (protW (fzB (pool w.s)) w1).heap = (protW (fzB (pool w.s)) w1').heap := h0
      rw [← prot_off hs, ← h1, prot_off hs]
  have h0 := congrArg World.drawn e2
  have hdr : w1'.drawn = w1.drawn := h0.symm
  have : w1' = w1 := by
    cases w1; cases w1'
    simp only at hheap hdr g2 g3 g4
    subst hheap hdr g2 g3 g4
    rfl
  subst this
  exact ⟨hr, fun ev hev => ⟨hk.mine ev hev, hk.low ev hev⟩⟩
theorem opV_of {P : Program} {n : NF} {W0 : GW} {o : Oper} {F : Slots} {H : Heap} {L : List HProp} {K : Value → Heap → List HProp → Prop}
    (hc : ∀ a, FrOk n a F → (execOp a.eval o).Calm P)
    (h : ∀ {W1 : World} a w, FrOk n a F → St W1 H w L → ∃ x v H' L' w', (execOp a.eval o).run P w = .ok x w' ∧ (x = .value v ∨ (x = .skip ∧ v = undef)) ∧ H.le H' ∧ K v H' L' ∧ St W1 H' w' L')
    (a : Act) (w : GW) (next : Value → GW → Prop) (hF : FrOk n a F) (hS : StG W0 H w L)
    (hn : ∀ v H' L' (w' : GW), H.le H' → K v H' L' → StG W0 H' w' L' → next v w') : o.yV P a.eval w next := by
  intro Wr h1 w1 he hl hpl
  obtain ⟨x, H', L', w1', w2, hr, hle, ⟨v, hx, hk⟩, hkeep, hS', hm, hnew, hs2, hsm2⟩ := run_local (P := P) (W0 := W0) (hc a hF)
    (R := fun x H' L' => ∃ v, (x = .value v ∨ (x = .skip ∧ v = undef)) ∧ K v H' L')
    (fun {W1} w hS => let ⟨x, v, H', L', w', h1, h2, h3, h4, h5⟩ := h a w hF hS; ⟨x, H', L', w', h1, h3, ⟨v, h2, h4⟩, h5⟩) hS h1 w1 he hl hpl
  rw [hr]
  have hnext : ∃ w2 : GW, Rep Wr w2 ⟨hp w2.toWorld, w.s⟩ ∧ next v w2 := ⟨w2, ⟨rfl, hs2, hsm2⟩, hn v H' L' w2 hle hk hS'⟩
  have hnext' : ∃ w' : GW, Rep Wr w' ⟨hp w2.toWorld, w.s⟩ ∧ next v w' := ⟨w2, ⟨rfl, hs2, hsm2⟩, hn v H' L' w2 hle hk hS'⟩
  rcases hx with rfl | ⟨rfl, rfl⟩
  · exact ⟨hp w2.toWorld, hkeep, hm, hnew, hnext'⟩
  · exact ⟨hp w2.toWorld, hkeep, hm, hnew, hnext'⟩
theorem callV_of {P : Program} {o : Oper} {f : FuncId} {args : Array Value} {ρ : Operand → Value} {w : GW} {N : Value → GW → Prop}
    (hr : ∀ w, (execOp ρ o).run P w = .ok (.enter f args) w) (he : ∀ w, (execOp ρ o).events P w #[] = #[])
    (h : CallsV P f args w fun e w' => ∃ v, e = .returned v ∧ N v w') : o.yV P ρ w N := by
  intro Wr h1 w1 hen hl _
  rw [hr, he]
  refine ⟨hp w.toWorld, .refl _ _ _, hl, fun _ hb => .inl hb, fun c cs hc => h Wr h1 c cs fun v x' hv => hc v x' ?_⟩
  obtain ⟨w', r, v', hv', hnx⟩ := hv
  cases hv'
  exact ⟨w', r, hnx⟩
end Go.X
