/- The walk's rules: single operations, regions, branches, loops, calls and returns, over the state of Sx1. No program in sight. -/
import Derived.Test.YtafhinjggdknjaaDoorPXF
import Derived.Conc.AtomicLaws
set_option linter.unusedVariables false
set_option linter.unusedSimpArgs false
namespace Go.Sx
open Go Go.X
class TSz (P : Program) (t : TypeId) (n : outParam Nat) : Prop where
  run : ∀ w, (sizeOf t).run P w = .ok n w
class TAgg (P : Program) (t : TypeId) (b : outParam Bool) : Prop where
  run : ∀ w, (isAgg t).run P w = .ok b w
class TSl (P : Program) (t : TypeId) (e : outParam TypeId) : Prop where
  und : P.underlying t = some (.slice e)
class TFd (P : Program) (s : TypeId) (f : Nat) (off : outParam Nat) (ft : outParam TypeId) : Prop where
  ex : ∃ fs fd, P.underlying s = some (.struct fs) ∧ fs[f]? = some fd ∧ fd.offset = off ∧ fd.type = ft ∧ ∀ w, ∃ k, (sizeOf fd.type).run P w = .ok (k + 1) w
class TZ (P : Program) (t : TypeId) (z : outParam Value) : Prop where
  run : ∀ w, (zeroValue t).run P w = .ok z w
class TZL (P : Program) (t : TypeId) (cs : outParam (List Value)) : Prop where
  ex : ∃ z, (∀ w, (zeroValue t).run P w = .ok z w) ∧ z.cells = cs.toArray
class TIn (P : Program) (t : TypeId) (n bytes : outParam Nat) (z : outParam Value) : Prop where
  ex : ∃ i, P.info? t = some i ∧ i.size = n ∧ i.bytes = bytes ∧ i.zero = some z ∧ z.cells.size = n ∧ 0 < n
class TIt (P : Program) (t : TypeId) (k : outParam IntKind) : Prop where
  und : P.underlying t = some (.int k)
class TSt (P : Program) (t : TypeId) : Prop where
  und : P.underlying t = some .string
class TFn (P : Program) (f : FuncId) : Prop where
  run : ∀ args w, (callFunc f args).run P w = .ok (.enter f args) w
  body : ∃ fn, P.funcs[f]? = some fn ∧ fn.body.isSome = true
theorem TFn.events {P : Program} {f : FuncId} (h : TFn P f) (args : Array Value) (w : World) (es : Array Event) : (callFunc f args).events P w es = es := by
  obtain ⟨fn, hf, hb⟩ := h.body
  have hr := h.run args w
  unfold callFunc at hr ⊢
  have e1 : fn.body.isNone = false := by cases hh : fn.body <;> simp_all
  rw [Sem.events_bind]
  simp only [run_program, Result.evThen_ok, events_program, hf, e1]
  split
  · rfl
  · rfl
def row (b : Nat) (T : TypeId) (cs : List Value) : HProp := pt b (.cells cs.toArray T (0, 0))
def hcell (H : Heap) (b off : Nat) : Option Value := match H b with | some (.cells c _ _) => c[off]? | _ => none
def HRow (H : Heap) (b off : Nat) (cs : List Value) : Prop := ∀ j v, cs[j]? = some v → hcell H b (off + j) = some v
theorem hcell_mono {H H' : Heap} (h : H.le H') {b off : Nat} {v : Value} (hc : hcell H b off = some v) : hcell H' b off = some v := by
  unfold hcell at *
  cases hb : H b with
  | none => rw [hb] at hc; cases hc
  | some o => rw [hb] at hc; rw [h b o hb]; exact hc
theorem HRow.mono {H H' : Heap} (h : H.le H') {b off : Nat} {cs : List Value} (hr : HRow H b off cs) : HRow H' b off cs := fun j v hj => hcell_mono h (hr j v hj)
theorem St.hcell {W0 w : World} {H : Heap} {L : List HProp} (h : St W0 H w L) {b off : Nat} {v : Value} (hc : hcell H b off = some v) : w.cell? ⟨b, off, none⟩ = some v := by
  unfold Sx.hcell at hc
  cases hb : H b with
  | none => rw [hb] at hc; cases hc
  | some o =>
    rw [hb] at hc
    have := h.ro b o hb
    have this := hp_some this
    cases o <;> simp_all [World.cell?]
theorem St.rowCell {W0 w : World} {H : Heap} {b off : Nat} {T : TypeId} {cs : List Value} {R : List HProp} (h : St W0 H w (row b T cs :: R)) : w.cell? ⟨b, off, none⟩ = cs[off]? := by
  have := h.ptRead.1
  simp [World.cell?, this]
theorem calm_sizeN {P : Program} {β : Type} {t : TypeId} {k : Nat} {f : Nat → Sem β} (hz : ∀ w, (sizeOf t).run P w = .ok k w) (h : (f k).Calm P) : (sizeOf t >>= f).Calm P := by
  have hz := hz default
  change Sem.Calm P (Sem.bind (Sem.bind (match P.info? t with | some i => (pure i : Sem TypeInfo) | none => stuck "no such type") fun i => pure i.size) f)
  cases hi : P.info? t with
  | some i =>
    have : i.size = k := by simpa [sizeOf, typeInfo, hi] using hz
    subst this
    exact h
  | none => trivial
theorem calm_fieldPlace {P : Program} {a : Addr} {fd : Field} (hz : ∀ w, ∃ k, (sizeOf fd.type).run P w = .ok (k + 1) w) : (fieldPlace a fd).Calm P := by
  obtain ⟨k, hk⟩ := hz default
  have hk' : ∀ w, (sizeOf fd.type).run P w = .ok (k + 1) w := fun w => by
    cases hi : P.info? fd.type with
    | some i => simp [sizeOf, typeInfo, hi] at hk ⊢; exact hk
    | none => simp [sizeOf, typeInfo, hi] at hk
  unfold fieldPlace
  refine calm_sizeN hk' ?_
  exact calm_pure _
def Sat (n : NF) (W0 : GW) (F : Slots) (H : Heap) (L : List HProp) (G : Act → GW → Prop) : Prop := ∀ a w, FrOk n a F → StG W0 H w L → G a w
def OpW (P : Program) (n : NF) (W0 : GW) (o : Oper) (F : Slots) (H : Heap) (L : List HProp) (K : Value → Heap → List HProp → Prop) : Prop :=
  ∀ a w (R : Value → GW → Prop), FrOk n a F → StG W0 H w L →
    (∀ v H' L' w', H.le H' → K v H' L' → StG W0 H' w' L' → R v w') → o.yV P a.eval w R
structure OpP (P : Program) (n : NF) (o : Oper) (F : Slots) (H : Heap) (L : List HProp) (v : Value) : Prop where
  run : ∀ {W1 : World} a w, FrOk n a F → St W1 H w L → (execOp a.eval o).run P w = .ok (.value v) w
  calm : ∀ a, FrOk n a F → (execOp a.eval o).Calm P := by first | exact fun a _ => calm_static rfl _ | exact fun a hF => calm_int (hF.opv hx) (hF.opv hy) | exact fun a hF => calm_str (hF.opv hx) (hF.opv hy) | exact fun a hF => calm_unB (hF.opv hx) | exact fun a hF => calm_unI (hF.opv hx)
section
variable {P : Program} {n : NF} {W0 : GW} {F : Slots} {H : Heap} {L : List HProp} {K : Value → Heap → List HProp → Prop} {o : Oper}
theorem Sat.sub {L' : List HProp} {F' : Slots} {G : Act → GW → Prop} (h : Sat n W0 F' H L' G) (hs : Sub L L') (hf : fsub F' F) : Sat n W0 F H L G :=
  fun a w hF hS => h a w (hF.sub hf) (hS.sub hs)
theorem OpW.of_run (h : ∀ {W1 : World} a w, FrOk n a F → St W1 H w L → ∃ v H' L' w', (execOp a.eval o).run P w = .ok (.value v) w' ∧ H.le H' ∧ K v H' L' ∧ St W1 H' w' L')
    (hc : ∀ a, FrOk n a F → (execOp a.eval o).Calm P := by first | exact fun a _ => calm_static rfl _ | exact fun a hF => calm_int (hF.opv hx) (hF.opv hy) | exact fun a hF => calm_str (hF.opv hx) (hF.opv hy) | exact fun a hF => calm_unB (hF.opv hx) | exact fun a hF => calm_unI (hF.opv hx)) : OpW P n W0 o F H L K :=
  opV_of hc fun {W1} a w hF hS => let ⟨v, H', L', w', hr, hl, hk, hs⟩ := h a w hF hS; ⟨_, v, H', L', w', hr, .inl rfl, hl, hk, hs⟩
theorem OpW.of_skip (h : ∀ {W1 : World} a w, FrOk n a F → St W1 H w L → ∃ H' L' w', (execOp a.eval o).run P w = .ok .skip w' ∧ H.le H' ∧ K undef H' L' ∧ St W1 H' w' L')
    (hc : ∀ a, FrOk n a F → (execOp a.eval o).Calm P := by first | exact fun a _ => calm_static rfl _ | exact fun a hF => calm_int (hF.opv hx) (hF.opv hy) | exact fun a hF => calm_str (hF.opv hx) (hF.opv hy) | exact fun a hF => calm_unB (hF.opv hx) | exact fun a hF => calm_unI (hF.opv hx)) : OpW P n W0 o F H L K :=
  opV_of hc fun {W1} a w hF hS => let ⟨H', L', w', hr, hl, hk, hs⟩ := h a w hF hS; ⟨_, undef, H', L', w', hr, .inr ⟨rfl, rfl⟩, hl, hk, hs⟩
theorem OpP.toY {v : Value} (h : OpP P n o F H L v) {a : Act} {w : GW} (hF : FrOk n a F) (hS : StG W0 H w L) : o.yV P a.eval w fun v' w' => v' = v ∧ StG W0 H w' L :=
  opV_of (K := fun v' H' L' => v' = v ∧ H' = H ∧ L' = L) h.calm (fun {W1} a w hF hS => ⟨_, v, H, L, w, h.run a w hF hS, .inl rfl, .refl _, ⟨rfl, rfl, rfl⟩, hS⟩) a w _ hF hS fun v' H' L' w' _ ⟨e1, e2, e3⟩ hS' => ⟨e1, by subst e2 e3; exact hS'⟩
theorem OpP.toW {v : Value} (h : OpP P n o F H L v) (hk : K v H L) : OpW P n W0 o F H L K :=
  .of_run (fun a w hF hS => ⟨v, H, L, w, h.run a w hF hS, .refl _, hk, hS⟩) h.calm
theorem St.weak {W1 : World} {H' : Heap} {w : World} (h : St W1 H' w L) (hl : H.le H') : St W1 H w L :=
  ⟨h.env, hl.trans h.ro, let ⟨x, a, b, c⟩ := h.own; ⟨x, a, b, c.mono hl⟩⟩
theorem OpP.mono {v : Value} {H' : Heap} {L' : List HProp} (h : OpP P n o F H L v) (hl : H.le H') (hs : Sub L' L) : OpP P n o F H' L' v :=
  ⟨fun a w hF hS => h.run a w hF ((hS.weak hl).sub hs), h.calm⟩
theorem OpW.mono {K' : Value → Heap → List HProp → Prop} (h : OpW P n W0 o F H L K) (hk : ∀ v H' L', H.le H' → K v H' L' → K' v H' L') : OpW P n W0 o F H L K' :=
  fun a w R hF hS hn => h a w R hF hS fun v H' L' w' hl k hs => hn v H' L' w' hl (hk v H' L' hl k) hs
theorem OpW.toV (h : OpW P n W0 o F H L K) (a : Act) (w : GW) (next : Act → GW → Prop) (Q : Exit → Act → GW → Prop) (hF : FrOk n a F) (hS : StG W0 H w L)
    (hn : ∀ v H' L' w', H.le H' → K v H' L' → StG W0 H' w' L' → next (a.put o.dst v) w') : o.wpV P a w next Q := wpV_of_yV (h a w _ hF hS hn)
end
section
variable {P : Program} {n : NF} {W0 : GW} {F : Slots} {H : Heap} {L : List HProp} {K : Value → Heap → List HProp → Prop} {dst : Option Tmp} {ty : TypeId} {pos : String} {aft : Array Edge} {g : Option (Nat × Bool)}
theorem op_move {x : Operand} {v : Value} (hx : opv F x = some v) :
    OpP P n ⟨dst, .move x, ty, pos, aft, g⟩ F H L v :=
  .mk fun a w hF _ => by simp [execOp, hF.opv hx]
theorem op_assign {x : Operand} {v : Value} (hx : opv F x = some v) :
    OpP P n ⟨dst, .assign x, ty, pos, aft, g⟩ F H L v :=
  .mk fun a w hF _ => by simp [execOp, hF.opv hx]
theorem op_pickT {c x y : Operand} {v : Value} (hc : opv F c = some (.bool true)) (hx : opv F x = some v) :
    OpP P n ⟨dst, .pick c x y, ty, pos, aft, g⟩ F H L v :=
  .mk fun a w hF _ => by simp [execOp, hF.opv hc, hF.opv hx, asBool]
theorem op_pickF {c x y : Operand} {v : Value} (hc : opv F c = some (.bool false)) (hy : opv F y = some v) :
    OpP P n ⟨dst, .pick c x y, ty, pos, aft, g⟩ F H L v :=
  .mk fun a w hF _ => by simp [execOp, hF.opv hc, hF.opv hy, asBool]
theorem op_box {T : TypeId} {x : Operand} {v : Value} {cs : List Value} (hx : opv F x = some v) (hc : v.cells = cs.toArray) (hk : ∀ b, H b = none → K (.pointer (some ⟨b, 0, none⟩)) H (row b T cs :: L)) :
    OpW P n W0 ⟨dst, .box T x, ty, pos, aft, g⟩ F H L K :=
  .of_run fun a w hF hS => by
    have hs : St _ H (w.alloc (.cells cs.toArray T)) (row w.heap.size T cs :: L) := hS.alloc (hS.env.of rfl rfl rfl) rfl
    exact ⟨_, H, _, _, by simp [execOp, hF.opv hx, Instr.box, newVar, newRow, hc], .refl _, hk _ hs.ptRead.2, hs⟩
theorem op_alloc {T : TypeId} {cs : List Value} [hz : TZL P T cs] (hk : ∀ b, H b = none → K (.pointer (some ⟨b, 0, none⟩)) H (row b T cs :: L)) :
    OpW P n W0 ⟨dst, .alloc T, ty, pos, aft, g⟩ F H L K :=
  .of_run fun a w hF hS => by
    obtain ⟨z, hz1, hc⟩ := hz.ex
    have hs : St _ H (w.alloc (.cells cs.toArray T)) (row w.heap.size T cs :: L) := hS.alloc (hS.env.of rfl rfl rfl) rfl
    exact ⟨_, H, _, _, by simp [execOp, Instr.alloc, hz1, newVar, newRow, hc], .refl _, hk _ hs.ptRead.2, hs⟩
theorem op_nilCheck {x : Operand} {p : Addr} (hx : opv F x = some (.pointer (some p))) :
    OpP P n ⟨dst, .nilCheck x, ty, pos, aft, g⟩ F H L (.pointer (some p)) :=
  .mk (fun a w hF _ => by simp [execOp, hF.opv hx]) fun a hF => by simp only [execOp, hF.opv hx]; exact calm_pure _
theorem op_fieldAddr {s : TypeId} {x : Operand} {f off fo : Nat} {ft : TypeId} {b : Nat} [hf : TFd P s f fo ft] (hx : opv F x = some (.pointer (some ⟨b, off, none⟩))) :
    OpP P n ⟨dst, .fieldAddr s x f, ty, pos, aft, g⟩ F H L (.pointer (some ⟨b, off + fo, none⟩)) :=
  .mk (fun a w hF _ => by
    obtain ⟨fs, fd, hu, hfd, ho, _, hz⟩ := hf.ex
    obtain ⟨k, hk⟩ := hz w
    simp [execOp, hF.opv hx, Instr.fieldAt, run_underlying hu, hfd, Instr.sureAddr, fieldPlace, hk, ho, Addr.add_lit]) fun a hF => by
    obtain ⟨fs, fd, hu, hfd, ho, _, hz⟩ := hf.ex
    simp only [execOp, hF.opv hx, Instr.fieldAt]
    refine calm_bind (calm_und hu ?_) fun _ => calm_pure _
    dsimp only
    rw [hfd]
    exact calm_bind (calm_sureAddr _) fun _ => calm_bind (calm_fieldPlace hz) fun _ => calm_pure _
theorem run_loadVar1 {t : TypeId} [ht : TAgg P t false] {w : World} {p : Addr} {v : Value} (h : w.cell? p = some v) : (loadVar t p).run P w = .ok v w := by
  simp [loadVar, ht.run, h]
theorem run_loadVarN {t : TypeId} {k : Nat} [ht : TAgg P t true] [hz : TSz P t k] {w : World} {p : Addr} {cs : List Value} (hl : cs.length = k) (h : ∀ j v, cs[j]? = some v → w.cell? (p.add j) = some v) :
    (loadVar t p).run P w = .ok (.agg cs.toArray) w := by
  have := run_loadCells_list (P := P) w p cs h
  simp [loadVar, ht.run, hz.run, ← hl, this]
theorem op_load {t : TypeId} {x : Operand} {b off : Nat} {T : TypeId} {cs : List Value} {v : Value} {R : List HProp} [ht : TAgg P t false] (hx : opv F x = some (.pointer (some ⟨b, off, none⟩)))
    (hu : Has L (row b T cs) R) (hv : cs[off]? = some v) :
    OpP P n ⟨dst, .load t x, ty, pos, aft, g⟩ F H L v :=
  .mk fun a w hF hS => by
    have h1 := (hS.sub hu.to).rowCell (off := off)
    simp [execOp, hF.opv hx, Instr.loadAt, Instr.sureAddr, run_loadVar1 (t := t) (h1.trans hv)]
theorem op_loadH {t : TypeId} {x : Operand} {b off : Nat} {v : Value} [ht : TAgg P t false] (hx : opv F x = some (.pointer (some ⟨b, off, none⟩)))
    (hv : hcell H b off = some v) :
    OpP P n ⟨dst, .load t x, ty, pos, aft, g⟩ F H L v :=
  .mk fun a w hF hS => by
    simp [execOp, hF.opv hx, Instr.loadAt, Instr.sureAddr, run_loadVar1 (t := t) (hS.hcell hv)]
def At (cs : List Value) (off : Nat) (vs : List Value) : Prop := ∀ j v, vs[j]? = some v → cs[off + j]? = some v
inductive Pick : List Value → Nat → Nat → List Value → Prop
  | done {cs : List Value} : Pick cs 0 0 []
  | more {c : Value} {cs vs : List Value} {k : Nat} : Pick cs 0 k vs → Pick (c :: cs) 0 (k + 1) (c :: vs)
  | skip {c : Value} {cs vs : List Value} {off k : Nat} : Pick cs off k vs → Pick (c :: cs) (off + 1) k vs
theorem Pick.at {cs vs : List Value} {off k : Nat} (h : Pick cs off k vs) : At cs off vs ∧ vs.length = k := by
  induction h with
  | done => exact ⟨fun j v h => by simp at h, rfl⟩
  | more _ ih => exact ⟨fun j v h => by cases j with | zero => simpa using h | succ j => simpa using ih.1 j v (by simpa using h), by simp [ih.2]⟩
  | skip _ ih => exact ⟨fun j v h => by have := ih.1 j v h; rw [Nat.add_right_comm]; simpa using this, ih.2⟩
theorem op_loadN {t : TypeId} {x : Operand} {b off k : Nat} {T : TypeId} {cs vs : List Value} {R : List HProp} [ht : TAgg P t true] [hz : TSz P t k] (hx : opv F x = some (.pointer (some ⟨b, off, none⟩)))
    (hu : Has L (row b T cs) R) (hv : Pick cs off k vs) :
    OpP P n ⟨dst, .load t x, ty, pos, aft, g⟩ F H L (.agg vs.toArray) :=
  .mk fun a w hF hS => by
    have h1 : ∀ j v, vs[j]? = some v → w.cell? ((⟨b, off, none⟩ : Addr).add j) = some v := fun j v hj => by
      rw [Addr.add_lit, (hS.sub hu.to).rowCell]; exact hv.at.1 j v hj
    simp [execOp, hF.opv hx, Instr.loadAt, Instr.sureAddr, run_loadVarN (t := t) hv.at.2 h1]
theorem op_loadNH {t : TypeId} {x : Operand} {b off k : Nat} {vs : List Value} [ht : TAgg P t true] [hz : TSz P t k] (hx : opv F x = some (.pointer (some ⟨b, off, none⟩)))
    (hv : HRow H b off vs) (hl : vs.length = k) :
    OpP P n ⟨dst, .load t x, ty, pos, aft, g⟩ F H L (.agg vs.toArray) :=
  .mk fun a w hF hS => by
    have h1 : ∀ j v, vs[j]? = some v → w.cell? ((⟨b, off, none⟩ : Addr).add j) = some v := fun j v hj => by
      rw [Addr.add_lit]; exact hS.hcell (hv j v hj)
    simp [execOp, hF.opv hx, Instr.loadAt, Instr.sureAddr, run_loadVarN (t := t) hl h1]
inductive Lay : List Value → Nat → List Value → List Value → Prop
  | done {cs : List Value} : Lay cs 0 [] cs
  | more {c v : Value} {cs cs' vs : List Value} : Lay cs 0 vs cs' → Lay (c :: cs) 0 (v :: vs) (v :: cs')
  | skip {c : Value} {cs cs' vs : List Value} {off : Nat} : Lay cs off vs cs' → Lay (c :: cs) (off + 1) vs (c :: cs')
theorem Lay.eq {cs vs cs' : List Value} {off : Nat} (h : Lay cs off vs cs') : cs' = cs.take off ++ vs ++ cs.drop (off + vs.length) ∧ off + vs.length ≤ cs.length := by
  induction h with
  | done => simp
  | more _ ih => obtain ⟨h1, h2⟩ := ih; exact ⟨by rw [h1]; simp, by simpa using h2⟩
  | skip _ ih => obtain ⟨h1, h2⟩ := ih; refine ⟨by rw [h1]; simp [Nat.add_right_comm], by simp; omega⟩
theorem run_storeVar {t : TypeId} {k : Nat} [hz : TSz P t k] {w : World} {b off : Nat} {T : TypeId} {cs cs' vs : List Value} {v : Value} (hb : w.heap[b]? = some (.cells cs.toArray T (0, 0))) (hvc : v.cells = vs.toArray) (hl : vs.length = k)
    (h1 : vs.all (·.oneCell') = true) (hlay : Lay cs off vs cs') : (storeVar t ⟨b, off, none⟩ v).run P w = .ok () (w.setRow b cs'.toArray) := by
  have hfit := hlay.eq.2
  have hst := run_storeCells_at P b off T vs 0 cs.toArray w hb (by simpa using hfit) (by simpa using h1)
  simp only [Nat.add_zero] at hst
  simp [storeVar, hz.run, hvc, hl, hst, hlay.eq.1]
theorem St.rowPut {W1 : World} {w : World} {b : Nat} {T : TypeId} {cs cs' : List Value} {R : List HProp} (h : St W1 H w (row b T cs :: R)) : St W1 H (w.setRow b cs'.toArray) (row b T cs' :: R) :=
  h.ptWrite (h.env.of rfl rfl rfl) (setRow_heap w b _ _ T _ h.ptRead.1) fun x hx => setRow_other w b x _ hx
theorem op_store {t : TypeId} {x y : Operand} {b off k : Nat} {T : TypeId} {cs vs cs' : List Value} {v : Value} {L' : List HProp} [hz : TSz P t k] (hx : opv F x = some (.pointer (some ⟨b, off, none⟩)))
    (hy : opv F y = some v) (hvc : v.cells = vs.toArray) (hl : vs.length = k) (h1 : vs.all (·.oneCell') = true) (hu : Upd L (row b T cs) (row b T cs') L') (hlay : Lay cs off vs cs') (hk : K undef H L') :
    OpW P n W0 ⟨dst, .store t x y, ty, pos, aft, g⟩ F H L K :=
  .of_skip fun a w hF hS => by
    obtain ⟨R, s1, s2⟩ := hu.split
    have h0 := hS.sub s1
    exact ⟨H, L', _, by simp [execOp, hF.opv hx, hF.opv hy, Instr.storeAt, Instr.sureAddr, run_storeVar (t := t) h0.ptRead.1 hvc hl h1 hlay], .refl _, hk, (h0.rowPut (cs' := cs')).sub s2⟩
end
end Go.Sx
