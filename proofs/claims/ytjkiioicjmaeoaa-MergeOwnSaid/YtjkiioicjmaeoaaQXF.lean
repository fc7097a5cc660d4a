/- An operation that runs well wherever its memory stands, carried over to company. No program in sight. -/
import Derived.Test.YtjkiioicjmaeoaaQXQ
set_option linter.unusedVariables false
set_option linter.unusedSimpArgs false
namespace Go.X
open Go Go.Sx Go.Conc Go.ConcN
structure BW extends World where
  post : Value → World → Prop
structure GW extends BW where
  s : Gh
abbrev SB (P : Program) (Wr : BW) : (Goroutine → XW Gh → Prop) → Goroutine → XW Gh → Prop := SP P Wr.post Wr.toWorld
theorem sb_mono (P : Program) (Wr : BW) : MonoS (SB P Wr) := sp_mono P Wr.post Wr.toWorld
structure Sm (Wr : BW) (w : GW) : Prop where
  os : Wr.os = w.os
  tape : Wr.tape = w.tape
  post : Wr.post = w.post
structure Rep (Wr : BW) (w : GW) (x : XW Gh) : Prop where
  m : hp w.toWorld = x.m
  s : w.s = x.s
  sm : Sm Wr w
def Hat (Wr : BW) (Q : Act → GW → Prop) (a : Act) (x : XW Gh) : Prop := ∃ w : GW, Rep Wr w x ∧ Q a w
def xw (w : GW) : XW Gh := ⟨hp w.toWorld, w.s⟩
theorem Rep.eq {Wr : BW} {w : GW} {x : XW Gh} (h : Rep Wr w x) : x = xw w := by
  obtain ⟨m, s⟩ := x; simp only [xw, XW.mk.injEq]; exact ⟨h.m.symm, h.s.symm⟩
theorem rep_xw {Wr : BW} {w : GW} (h : Sm Wr w) : Rep Wr w (xw w) := ⟨rfl, rfl, h⟩
def _root_.Go.Code.wpV (P : Program) (c : Code) (Q : Exit → Act → GW → Prop) (a : Act) (w : GW) : Prop :=
  ∀ Wr : BW, Sm Wr w → c.wpX P kd Wr.toWorld (SB P Wr) (fun e => Hat Wr (Q e)) a (xw w)
def wpOpsV (P : Program) (ops : Array Oper) (Q : Exit → Act → GW → Prop) (todo : List Nat) (a : Act) (w : GW) : Prop :=
  ∀ Wr : BW, Sm Wr w → OpsX P kd Wr.toWorld (SB P Wr) ops todo (fun e => Hat Wr (Q e)) a (xw w)
def _root_.Go.Oper.yV (P : Program) (o : Oper) (ρ : Operand → Value) (w : GW) (R : Value → GW → Prop) : Prop :=
  ∀ Wr : BW, Sm Wr w → o.yX P kd Wr.toWorld (SB P Wr) ρ (xw w) fun v x => ∃ w' : GW, Rep Wr w' x ∧ R v w'
def _root_.Go.Oper.wpV (P : Program) (o : Oper) (a : Act) (w : GW) (next : Act → GW → Prop) (_Q : Exit → Act → GW → Prop) : Prop := ∀ Wr : BW, Sm Wr w → o.wpX P kd Wr.toWorld (SB P Wr) a (xw w) (Hat Wr next)
def CallsV (P : Program) (f : FuncId) (args : Array Value) (w : GW) (R : Ending → GW → Prop) : Prop :=
  ∀ Wr : BW, Sm Wr w → CallsX P kd Wr.toWorld (SB P Wr) f args (xw w) fun v x' => ∃ w', Rep Wr w' x' ∧ R (.returned v) w'
section
variable {P : Program} {Q : Exit → Act → GW → Prop} {a : Act} {w : GW}
theorem wpV_skip (h : Q .normal a w) : Code.skip.wpV P Q a w := fun Wr h1 => wpX_skip ⟨w, rep_xw h1, h⟩
theorem wpV_ret (h : Q .ret a w) : Code.ret.wpV P Q a w := fun Wr h1 => wpX_ret ⟨w, rep_xw h1, h⟩
theorem wpV_exit {id : Nat} (h : Q (.exit id) a w) : (Code.exit id).wpV P Q a w := fun Wr h1 => wpX_exit ⟨w, rep_xw h1, h⟩
theorem wpV_seq {c d : Code} (h : c.wpV P (thenX (d.wpV P Q) Q) a w) : (Code.seq c d).wpV P Q a w := fun Wr h1 =>
  wpX_seq (wpX_mono (h Wr h1) fun e a x hq => by
    cases e with
    | normal => obtain ⟨w', r, q⟩ := hq; have := q Wr r.sm; rw [← r.eq] at this; exact this
    | _ => exact hq)
theorem wpV_cond_split {c : Operand} {y z : Code} {t : Bool} (hc : a.eval c = .bool t) (ht : t = true → y.wpV P Q a w) (hf : t = false → z.wpV P Q a w) : (Code.cond c y z).wpV P Q a w :=
  fun Wr h1 => wpX_cond_split hc (fun e => ht e Wr h1) (fun e => hf e Wr h1)
theorem wpV_block {id : Nat} {c : Code} (h : c.wpV P (inBlockX id Q) a w) : (Code.block id c).wpV P Q a w := fun Wr h1 =>
  wpX_block (wpX_mono (h Wr h1) fun e a x hq => by
    cases e with
    | exit id' =>
      obtain ⟨w', r, q⟩ := hq
      simp only [inBlockX] at q ⊢
      split <;> rename_i hh
      · rw [if_pos hh] at q; exact ⟨w', r, q⟩
      · rw [if_neg hh] at q; exact ⟨w', r, q⟩
    | _ => exact hq)
theorem wpV_region {id : Nat} {ops : Array Oper} (h : wpOpsV P ops Q (List.range ops.size) a w) : (Code.region id ops false).wpV P Q a w := fun Wr h1 => wpX_region (h Wr h1)
theorem wpV_region_draw {id : Nat} {ops : Array Oper} (h : ∀ t, wpOpsV P ops Q (Region.schedule (P.follows .mixedOrders) ops t) a w) : (Code.region id ops true).wpV P Q a w := fun Wr h1 => wpX_region_draw fun t => h t Wr h1
theorem wpOpsV_nil {ops : Array Oper} (h : Q .normal a w) : wpOpsV P ops Q [] a w := fun Wr h1 => opsX_nil ⟨w, rep_xw h1, h⟩
theorem wpOpsV_unwanted {ops : Array Oper} {i : Nat} {rest : List Nat} {o : Oper} (ho : ops[i]? = some o) (hw : Region.wanted o (yielded ops a.tmps) = false) (h : wpOpsV P ops Q rest (a.put o.dst undef) w) : wpOpsV P ops Q (i :: rest) a w :=
  fun Wr h1 => opsX_unwanted ho hw (h Wr h1)
theorem YX.mono {o : Oper} {ρ : Operand → Value} {Wr : BW} {x : XW Gh} {N N' : Value → XW Gh → Prop} (hn : ∀ v x, N v x → N' v x) (h : o.yX P kd Wr.toWorld (SB P Wr) ρ x N) : o.yX P kd Wr.toWorld (SB P Wr) ρ x N' := by
  intro w he hl hn'
  have := h w he hl hn'
  generalize (execOp ρ o).run P w = r at this ⊢
  match r, this with
  | .ok (.value v) w', ⟨m', h1, h2, h3, h4⟩ => exact ⟨m', h1, h2, h3, hn _ _ h4⟩
  | .ok .skip w', ⟨m', h1, h2, h3, h4⟩ => exact ⟨m', h1, h2, h3, hn _ _ h4⟩
  | .ok (.enter f args) w', ⟨m', h1, h2, h3, h4⟩ => exact ⟨m', h1, h2, h3, fun c cs hc => h4 c cs fun v x' hr => hc v x' (hn _ _ hr)⟩
theorem YV.mono {o : Oper} {ρ : Operand → Value} {w : GW} {N N' : Value → GW → Prop} (h : o.yV P ρ w N) (hn : ∀ v w, N v w → N' v w) : o.yV P ρ w N' :=
  fun Wr h1 => YX.mono (fun v x ⟨w', r, q⟩ => ⟨w', r, hn v w' q⟩) (h Wr h1)
theorem wpV_next {o : Oper} {a : Act} {w : GW} {next next' : Act → GW → Prop} {Q Q' : Exit → Act → GW → Prop} (h : o.wpV P a w next Q) (hn : ∀ a w, next a w → next' a w) : o.wpV P a w next' Q' :=
  fun Wr h1 ops i rest b k cs ho hw hb hc => h Wr h1 ops i rest b k cs ho hw hb fun a' x' ⟨w', r, q⟩ => hc a' x' ⟨w', r, hn _ _ q⟩
theorem wpV_of_yV {o : Oper} {a : Act} {w : GW} {next : Act → GW → Prop} {Q : Exit → Act → GW → Prop} (h : o.yV P a.eval w fun v w' => next (a.put o.dst v) w') : o.wpV P a w next Q := fun Wr h1 => wpX_of_yX (h Wr h1)
def _root_.Go.Oper.pkV (P : Program) (o : Oper) (ρ : Operand → Value) (w : GW) (v : Value) : Prop :=
  ∀ Wr : BW, Sm Wr w → ∀ w1, Env Wr.toWorld w1 → (hp w.toWorld).le (rp w1) → (pool w.s).le (rp w1) → (∀ c, w.s = .co c → WgLive c.ty c.wg w1) → (execOp ρ o).run P w1 = .ok (.value v) w1 ∧ ∀ e ∈ (execOp ρ o).events P w1 #[], Peek (pool w.s) (hp w.toWorld) e
theorem wpV_of_pk {o : Oper} {a : Act} {w : GW} {v : Value} {next : Act → GW → Prop} {Q : Exit → Act → GW → Prop} (h : o.pkV P a.eval w v) (hn : next (a.put o.dst v) w) : o.wpV P a w next Q :=
  fun Wr hsm ops i rest b k cs ho hw hb hc => .special (sb_mono P Wr) (.peek rfl fun w1 he hl hp hg => by
    obtain ⟨h1, h2⟩ := h Wr hsm w1 he hl hp hg
    exact ⟨_, _, stepG_value ho hw hb h1, fun e he => h2 e (mem_listed he), hc _ _ ⟨w, rep_xw hsm, hn⟩⟩)
theorem wpOpsV_cons {ops : Array Oper} {i : Nat} {rest : List Nat} {o : Oper} (ho : ops[i]? = some o) (hw : Region.wanted o (yielded ops a.tmps) = true) (h : o.wpV P a w (wpOpsV P ops Q rest) Q) : wpOpsV P ops Q (i :: rest) a w :=
  fun Wr h1 b k cs hb hc => h Wr h1 ops i rest b k cs ho hw hb fun a' x' ⟨w', r, q⟩ => by rw [r.eq]; exact q Wr r.sm b k cs hb hc
end
end Go.X
namespace Go.X
open Go Go.Sx Go.Conc
def outW (o : Array (Nat × ByteArray)) (w : World) : World := { w with output := o }
theorem seen_out (p : Program) (o : Array (Nat × ByteArray)) (w : World) (at_ : Addr) (u : TypeId) (k : Addr) (t : Bool) : (outW o w).seen p at_ u k t = w.seen p at_ u k t := rfl
theorem farLoad_out (p : Program) (o : Array (Nat × ByteArray)) (w : World) (a : Addr) (t : Bool) : (outW o w).farLoad p a t = w.farLoad p a t := rfl
theorem farStore_out (p : Program) (o : Array (Nat × ByteArray)) (w : World) (a : Addr) (v : Value) (t : Bool) :
    (outW o w).farStore p a v t = match w.farStore p a v t with | .ok r => .ok (outW o r.1, r.2) | .error h => .error h := by
  have hh : (outW o w).heap = w.heap := rfl
  have hn : (outW o w).noCell a "store: no such cell" = w.noCell a "store: no such cell" := rfl
  simp only [World.farStore, hh, hn]
  split
  · rename_i at_ u hv
    have : (outW o w).viewStore p at_ u a v t = match w.viewStore p at_ u a v t with | .ok r => .ok (outW o r.1, r.2) | .error h => .error h := by
      unfold World.viewStore
      rw [seen_out]
      cases tight p p.depth u with
      | false => rfl
      | true =>
        cases w.seen p at_ u a t with
        | error s => rfl
        | ok r =>
          obtain ⟨c, e, f, first, like, cells⟩ := r
          cases v.bytes? with
          | none => rfl
          | some bs =>
            by_cases hl : some bs.length ≠ like.bytes?.map (·.length)
            · simp only [bind, Except.bind, hl, Bool.not_true, Bool.false_eq_true, if_false, ne_eq, not_false_eq_true, if_true]; rfl
            · simp only [bind, Except.bind, hl, Bool.not_true, Bool.false_eq_true, if_false, pure, Except.pure]
              split <;> rfl
    rw [this]
    cases w.viewStore p at_ u a v t <;> rfl
  · rfl
theorem run_out {α : Type} {P : Program} (o : Array (Nat × ByteArray)) (e : Sem α) (hc : e.Calm P) : ∀ w a v, e.run P (outW o w) = .ok a v → ∃ v', e.run P w = .ok a v' ∧ v = outW o v' := by
  induction e with
  | pure a => intro w a v h; cases h; exact ⟨w, rfl, rfl⟩
  | load m x k ih =>
    intro w a v h
    have h1 : (outW o w).cell? x = w.cell? x := rfl
    simp only [Sem.run, h1, farLoad_out] at h ⊢
    split at h
    · exact ih _ (hc _) w a v h
    · split at h
      · exact ih _ (hc _) w a v h
      · cases h
  | store m x y k ih =>
    intro w a v h
    by_cases hv : y.oneCell' = true
    · have e1 : ∀ (w : World), (Sem.store m x y k).run P w = match w.cell? x with
        | some _ => if w.frozen? x then .halt (.unsupported (.unsafePointer "a write to bytes that a string shares")) w else k.run P (w.setCell x y)
        | none => match w.farStore P x y (m == .atomic) with
          | .ok (w, _) => k.run P w
          | .error h => .halt h w := by
        intro w
        cases y <;> first | (simp [Value.oneCell'] at hv; done) | rfl
      have h1 : (outW o w).cell? x = w.cell? x := rfl
      have h2 : (outW o w).frozen? x = w.frozen? x := rfl
      have h3 : (outW o w).setCell x y = outW o (w.setCell x y) := rfl
      rw [e1, h1, h2, h3, farStore_out] at h
      rw [e1]
      split at h
      · split at h
        · cases h
        · rename_i hfr; rw [if_neg hfr]; exact ih hc _ a v h
      · cases hf : w.farStore P x y (m == .atomic) with
        | ok r => rw [hf] at h; exact ih hc _ a v h
        | error e => rw [hf] at h; cases h
    · exfalso
      cases y <;> first | (simp [Value.oneCell'] at hv; done) | (simp only [Sem.run] at h; cases h)
  | new ob k ih => intro w a v h; exact ih _ (hc _) { w with heap := w.heap.push ob } a v h
  | shape r k ih => intro w a v h; exact absurd h ((hc _).run _ _ _)
  | freeze x n k ih => exact hc.elim
  | frozen x k ih => intro w a v h; exact absurd h ((hc _).run _ _ _)
  | getObj r k ih =>
    intro w a v h
    have h1 : (outW o w).heap = w.heap := rfl
    simp only [Sem.run, h1] at h ⊢
    cases hb : w.heap[r]? with
    | none => rw [hb] at h; cases h
    | some ob => rw [hb] at h; cases ob <;> first | (cases h; done) | exact ih _ (hc _) w a v h
  | setObj r ob k ih =>
    intro w a v h
    have h1 : (outW o w).heap = w.heap := rfl
    simp only [Sem.run, h1] at h ⊢
    cases hb : w.heap[r]? with
    | none => rw [hb] at h; cases h
    | some ob' => rw [hb] at h; cases ob' <;> first | (cases h; done) | exact ih hc { w with heap := w.heap.setIfInBounds r ob } a v h
  | choose q k ih =>
    intro w a v h
    simp only [Sem.run] at h ⊢
    split at h
    · rename_i hq; rw [if_pos hq]; exact ih _ (hc _) w a v h
    · rename_i hq; rw [if_neg hq]; exact ih _ (hc _) { w with drawn := w.drawn + 1 } a v h
  | sys c k ih => exact hc.elim
  | program k ih => intro w a v h; exact ih _ hc w a v h
  | mark m k ih => intro w a v h; exact ih hc.2 w a v h
  | halt x => intro w a v h; cases h
def hide (m : Heap) (w : World) : Array (Nat × ByteArray) := open Classical in (((List.range w.heap.size).filter fun b => decide (m b = none)).map fun b => (b, ByteArray.empty)).toArray
theorem hid_hide {m : Heap} {w : World} {b : Nat} : hid (outW (hide m w) w) b = true ↔ b < w.heap.size ∧ m b = none := by
  simp only [hid, outW, hide, List.any_toArray, List.any_map, List.any_eq_true, List.mem_filter, List.mem_range, Function.comp, decide_eq_true_eq, beq_iff_eq]
  constructor
  · rintro ⟨x, h, rfl⟩; exact h
  · intro h; exact ⟨b, h, rfl⟩
theorem hp_hide {m : Heap} {w : World} (hl : m.le (rp w)) : hp (outW (hide m w) w) = m := by
  funext b
  unfold hp
  have hh : (outW (hide m w) w).heap = w.heap := rfl
  rw [hh]
  split
  · rename_i h; exact (hid_hide.1 h).2.symm
  · rename_i h
    cases hm : m b with
    | some o => exact hl b o hm
    | none =>
      have : ¬ b < w.heap.size := fun hlt => h (hid_hide.2 ⟨hlt, hm⟩)
      exact Array.getElem?_eq_none (by omega)
theorem low_hide {m : Heap} {w : World} : ∀ p ∈ (outW (hide m w) w).output, p.1 < (outW (hide m w) w).heap.size := by
  intro p hp
  simp only [outW, hide, List.mem_toArray, List.mem_map, List.mem_filter, List.mem_range] at hp
  obtain ⟨b, ⟨h1, _⟩, rfl⟩ := hp
  exact h1
def StC (W0 : World) (H : Heap) (w : World) (L : List HProp) : Prop := St (outW w.output W0) H w L
theorem StC.to {W0 : World} {H : Heap} {w w1 : World} {L : List HProp} (h : StC W0 H w L) (he : w1.os = w.os) (ht : w1.tape = w.tape) (hl : (hp w).le (rp w1)) :
    St (outW (hide (hp w) w1) w1) H (outW (hide (hp w) w1) w1) L := by
  have e := hp_hide hl
  exact ⟨⟨rfl, rfl, rfl, low_hide⟩, by rw [e]; exact h.ro, by rw [e]; exact h.own⟩
theorem StC.of {W0 W1 : World} {H : Heap} {w : World} {L : List HProp} (h : St W1 H w L) (he : w.os = W0.os) (ht : w.tape = W0.tape) : StC W0 H w L := ⟨⟨he, ht, rfl, h.env.low⟩, h.ro, h.own⟩
theorem run_local {α : Type} {W0 : World} {H : Heap} {L : List HProp} {P : Program} {e : Sem α} (hc : e.Calm P) {R : α → Heap → List HProp → Prop}
    (h : ∀ {W1 : World} w, St W1 H w L → ∃ x H' L' w', e.run P w = .ok x w' ∧ R x H' L' ∧ St W1 H' w' L') {w : World} (hS : StC W0 H w L) {Wr : World} (h1 : Wr.os = w.os) (h2 : Wr.tape = w.tape) :
    ∀ w1, Env Wr w1 → (hp w).le (rp w1) → ∃ x H' L' w1' w', e.run P w1 = .ok x w1' ∧ R x H' L' ∧ Keeps (hp w) w1 w1' (e.events P w1 #[]) ∧ StC W0 H' w' L' ∧ (hp w').le (rp w1') ∧
      (∀ b, hp w' b ≠ none → hp w b ≠ none ∨ w1.heap.size ≤ b) ∧ Wr.os = w'.os ∧ Wr.tape = w'.tape := by
  have base : ∀ w1, Env Wr w1 → (hp w).le (rp w1) → ∃ x H' L' w1', e.run P w1 = .ok x w1' ∧ R x H' L' ∧ St (outW (hide (hp w) w1) w1) H' (outW (hide (hp w) w1) w1') L' := by
    intro w1 he hl
    obtain ⟨x, H', L', w', hr, hR, hS'⟩ := h _ (hS.to (he.os.trans h1) (he.tape.trans h2) hl)
    obtain ⟨v, hr1, rfl⟩ := run_out _ e hc _ _ _ hr
    exact ⟨x, H', L', v, hr1, hR, hS'⟩
  have loc := op_local (P := P) hc (W0 := Wr) (m := hp w) fun w1 he hl => let ⟨x, _, _, w1', hr, _⟩ := base w1 he hl; ⟨x, w1', hr⟩
  intro w1 he hl
  obtain ⟨x, H', L', w1', hr, hR, hS'⟩ := base w1 he hl
  obtain ⟨x2, w2, hr2, hk⟩ := loc w1 he hl
  rw [hr] at hr2; cases hr2
  refine ⟨x, H', L', w1', outW (hide (hp w) w1) w1', hr, hR, hk, .of hS' ?_ ?_, fun b o hb => (hp_some hb : (outW (hide (hp w) w1) w1').heap[b]? = some o), fun b hb => ?_, ?_, ?_⟩
  · exact hk.os.trans (he.os.trans (h1.trans hS.env.os))
  · exact hk.tape.trans (he.tape.trans (h2.trans hS.env.tape))
  · by_cases hm : hp w b = none
    · refine .inr (Nat.le_of_not_lt fun hlt => hb ?_)
      have : hid (outW (hide (hp w) w1) w1') b = true := hid_hide.2 ⟨hlt, hm⟩
      simp [hp, this]
    · exact .inl hm
  · exact (hk.os.trans he.os).symm
  · exact (hk.tape.trans he.tape).symm
theorem opV_of {P : Program} {n : NF} {W0 : World} {o : Oper} {F : Slots} {H : Heap} {L : List HProp} {K : Value → Heap → List HProp → Prop}
    (hc : ∀ a, FrOk n a F → (execOp a.eval o).Calm P)
    (h : ∀ {W1 : World} a w, FrOk n a F → St W1 H w L → ∃ x v H' L' w', (execOp a.eval o).run P w = .ok x w' ∧ (x = .value v ∨ (x = .skip ∧ v = undef)) ∧ H.le H' ∧ K v H' L' ∧ St W1 H' w' L')
    (a : Act) (w : GW) (next : Value → GW → Prop) (hF : FrOk n a F) (hS : StC W0 H w.toWorld L) (hdj : Disj (hp w.toWorld) (pool w.s))
    (hn : ∀ v H' L' (w' : GW), w'.s = w.s → w'.post = w.post → H.le H' → K v H' L' → StC W0 H' w'.toWorld L' → Disj (hp w'.toWorld) (pool w'.s) → next v w') : o.yV P a.eval w next := by
  intro Wr h1 w1 he hl hpl
  obtain ⟨x, H', L', w1', w', hr, ⟨v, hx, hle, hk⟩, hkeep, hS', hm, hnew, e1, e2⟩ := run_local (P := P) (W0 := W0) (hc a hF)
    (R := fun x H' L' => ∃ v, (x = .value v ∨ (x = .skip ∧ v = undef)) ∧ H.le H' ∧ K v H' L')
    (fun {W1} w hS => let ⟨x, v, H', L', w', h1, h2, h3, h4, h5⟩ := h a w hF hS; ⟨x, H', L', w', h1, ⟨v, h2, h3, h4⟩, h5⟩) hS h1.os h1.tape w1 he hl
  rw [hr]
  have hnext : ∃ w2 : GW, Rep Wr w2 ⟨hp w', w.s⟩ ∧ next v w2 := ⟨{ w' with post := w.post, s := w.s }, ⟨rfl, rfl, ⟨e1, e2, h1.post⟩⟩, hn v H' L' _ rfl rfl hle hk hS' fun b => by
    by_cases hb : hp w' b = none
    · exact .inl hb
    · refine .inr ?_
      rcases hnew b hb with h3 | h3
      · exact (hdj b).resolve_left h3
      · cases hpb : pool w.s b with
        | none => rfl
        | some o =>
          have := (Array.getElem?_eq_some_iff.1 (hpl b o hpb)).1
          omega⟩
  rcases hx with rfl | ⟨rfl, rfl⟩
  · exact ⟨hp w', hkeep, hm, hnew, hnext⟩
  · exact ⟨hp w', hkeep, hm, hnew, hnext⟩
theorem callV_of {P : Program} {o : Oper} {f : FuncId} {args : Array Value} {ρ : Operand → Value} {w : GW} {N : Value → GW → Prop}
    (hr : ∀ w, (execOp ρ o).run P w = .ok (.enter f args) w) (he : ∀ w, (execOp ρ o).events P w #[] = #[])
    (h : CallsV P f args w fun e w' => ∃ v, e = .returned v ∧ N v w') : o.yV P ρ w N := by
  intro Wr h1 w1 hen hl _
  rw [hr, he]
  refine ⟨hp w.toWorld, .refl _ _, hl, fun _ hb => .inl hb, fun c cs hc => h Wr h1 c cs fun v x' hv => hc v x' ?_⟩
  obtain ⟨w', r, v', hv', hnx⟩ := hv
  cases hv'
  exact ⟨w', r, hnx⟩
structure StG (W0 : GW) (H : Heap) (w : GW) (L : List HProp) : Prop where
  st : StC W0.toWorld H w.toWorld L
  sh : w.s = W0.s
  ps : w.post = W0.post
  dj : Disj (hp w.toWorld) (pool W0.s)
namespace StG
variable {W0 w : GW} {H H' : Heap} {L L' : List HProp}
theorem sub (h : StG W0 H w L) (hs : Sub L L') : StG W0 H w L' := ⟨St.sub h.st hs, h.sh, h.ps, h.dj⟩
theorem weak (h : StG W0 H' w L) (hl : H.le H') : StG W0 H w L := ⟨⟨h.st.env, hl.trans h.st.ro, let ⟨x, a, b, c⟩ := h.st.own; ⟨x, a, b, c.mono hl⟩⟩, h.sh, h.ps, h.dj⟩
theorem env (h : StG W0 H w L) : EnvOk (outW w.output W0.toWorld) w.toWorld := h.st.env
theorem ro (h : StG W0 H w L) : H.le (hp w.toWorld) := h.st.ro
theorem own (h : StG W0 H w L) : ∃ x, big L x ∧ x.le (hp w.toWorld) ∧ Disj H x := h.st.own
theorem mk' (h : StG W0 H w L) (ro : H'.le (hp w.toWorld)) (own : ∃ x, big L' x ∧ x.le (hp w.toWorld) ∧ Disj H' x) : StG W0 H' w L' := ⟨⟨h.st.env, ro, own⟩, h.sh, h.ps, h.dj⟩
theorem parts {A : HProp} {R : List HProp} (h : StG W0 H w (A :: R)) : ∃ hA hR, A hA ∧ big R hR ∧ Disj hA hR ∧ Disj H hA ∧ Disj H hR ∧ hA.le (hp w.toWorld) ∧ hR.le (hp w.toWorld) := St.parts h.st
theorem of_parts {A : HProp} {R : List HProp} (h : StG W0 H w L) (ro : H'.le (hp w.toWorld)) {hA hR : Heap} (a : A hA) (r : big R hR) (d : Disj hA hR) (dA : Disj H' hA) (dR : Disj H' hR) (lA : hA.le (hp w.toWorld)) (lR : hR.le (hp w.toWorld)) : StG W0 H' w (A :: R) :=
  ⟨St.of_parts h.st.env ro a r d dA dR lA lR, h.sh, h.ps, h.dj⟩
theorem freeze {b : Nat} {o : Obj} {R : List HProp} (h : StG W0 H w (pt b o :: R)) : H b = none ∧ StG W0 (upd H b o) w R := let h' := St.freeze h.st; ⟨h'.1, h'.2, h.sh, h.ps, h.dj⟩
end StG
theorem opG_of {P : Program} {n : NF} {W0 : GW} {o : Oper} {F : Slots} {H : Heap} {L : List HProp} {K : Value → Heap → List HProp → Prop}
    (hc : ∀ a, FrOk n a F → (execOp a.eval o).Calm P)
    (h : ∀ {W1 : World} a w, FrOk n a F → St W1 H w L → ∃ x v H' L' w', (execOp a.eval o).run P w = .ok x w' ∧ (x = .value v ∨ (x = .skip ∧ v = undef)) ∧ H.le H' ∧ K v H' L' ∧ St W1 H' w' L')
    (a : Act) (w : GW) (next : Act → GW → Prop) (Q : Exit → Act → GW → Prop) (hF : FrOk n a F) (hS : StG W0 H w L)
    (hn : ∀ v H' L' (w' : GW), H.le H' → K v H' L' → StG W0 H' w' L' → next (a.put o.dst v) w') : o.wpV P a w next Q :=
  wpV_of_yV (opV_of hc h a w _ hF hS.st (by rw [hS.sh]; exact hS.dj) fun v H' L' w' hs hp hl hk hS' hd => hn v H' L' w' hl hk ⟨hS', hs.trans hS.sh, hp.trans hS.ps, by rw [← hS.sh, ← hs]; exact hd⟩)
end Go.X
