/- Entries and pairs compared; lists compared, in order, good, cut short. -/
import Derived.Test.YtjkiioicjmaeoaaKMI
import Derived.Test.YtjkiioicjmaeoaaKMJ
import Derived.Laws.StructEq
set_option linter.unusedVariables false
set_option linter.unusedSimpArgs false
namespace Go.X
open Go Go.Sx Go.Conc Go.ConcN
def EvNil {α : Type} (P : Program) (e : Sem α) : Prop := ∀ w es, e.events P w es = es
section
variable {P : Program}
theorem evnil_bind {α β : Type} {x : Sem α} {f : α → Sem β} (h : EvNil P x) (hf : ∀ a, EvNil P (f a)) : EvNil P (x >>= f) := fun w es => by
  rw [Sem.events_bind]
  cases hr : x.run P w with
  | ok a w' => simp only [Result.evThen_ok]; rw [hf a, h]
  | halt e w' => simpa [Result.evThen] using h w es
theorem evnil_pure {α : Type} (a : α) : EvNil P (pure a : Sem α) := fun _ _ => rfl
structure FEq (P : Program) (d : Nat) (xs ys : Array Value) (f : Field) : Prop where
  ex : ∃ a b r, (∀ w, (part f.type xs f.offset).run P w = .ok a w) ∧ EvNil P (part f.type xs f.offset) ∧ (∀ w, (part f.type ys f.offset).run P w = .ok b w) ∧ EvNil P (part f.type ys f.offset) ∧ (∀ w, (Op.equalIn d f.type a b).run P w = .ok r w) ∧ EvNil P (Op.equalIn d f.type a b)
theorem evnil_struct (d : Nat) (t : TypeId) (xs ys : Array Value) (ht : P.underlying t = some (.struct (P.fieldsOf t))) (hp : P.stoodInHeld t = false) (hf : ∀ f ∈ (P.fieldsOf t).toList, FEq P d xs ys f) : EvNil P (Op.equalIn (d + 1) t (.agg xs) (.agg ys)) := by
  intro w es
  simp only [Op.equalIn, Sem.events_bind, run_underlying ht, events_underlying, Result.evThen_ok, run_program, events_program, Sem.run_bind, Result.andThen_ok, hp, Bool.false_eq_true, if_false]
  rw [← Array.forIn_toList]
  revert hf
  generalize (P.fieldsOf t).toList = fs
  clear ht
  intro hf
  induction fs generalizing w es with
  | nil => simp
  | cons f fs ih =>
    obtain ⟨a, b, r, h1, h2, h3, h4, h5, h6⟩ := (hf f (List.mem_cons_self ..)).ex
    have ih' := fun w es => ih w es fun f hf' => hf f (List.mem_cons_of_mem _ hf')
    simp only [List.forIn_cons, Sem.events_bind, Sem.run_bind, Sem.run_ite, Sem.events_ite]
    split
    · simp only [h1, h2 _ _, h3, h4 _ _, h5, h6 _ _, Result.andThen_ok, Result.evThen_ok]
      cases r
      · simp
      · simp only [Bool.not_true, Bool.false_eq_true, if_false, Sem.run_pure, Sem.events_pure, Result.andThen_ok, Result.evThen_ok]
        simpa [Sem.events_bind] using ih' w es
    · simp only [Sem.run_pure, Sem.events_pure, Result.andThen_ok, Result.evThen_ok]
      simpa [Sem.events_bind] using ih' w es
theorem part_run {t : TypeId} {cs : Array Value} {off : Nat} {v : Value} [ht : TAgg P t false] (hv : cs[off]? = some v) (w : World) : (part t cs off).run P w = .ok v w := by simp [part, ht.run, hv]
theorem part_ev {t : TypeId} {cs : Array Value} {off : Nat} {v : Value} [ht : TAgg P t false] (hv : cs[off]? = some v) : EvNil P (part t cs off) := fun w es => by simp [part, ht.run, hv]
theorem feq_str {d : Nat} {xs ys : Array Value} {f : Field} {a b : ByteArray} (hu : P.underlying f.type = some .string) [TAgg P f.type false] (hx : xs[f.offset]? = some (.string a)) (hy : ys[f.offset]? = some (.string b)) : FEq P (d + 1) xs ys f :=
  ⟨_, _, a == b, part_run hx, part_ev hx, part_run hy, part_ev hy, fun w => by simp [Op.equalIn, run_underlying hu], fun w es => by simp [Op.equalIn, run_underlying hu]⟩
theorem feq_int {d : Nat} {xs ys : Array Value} {f : Field} {k : IntKind} {a b : Int} (hu : P.underlying f.type = some (.int k)) [TAgg P f.type false] (hx : xs[f.offset]? = some (.int k a)) (hy : ys[f.offset]? = some (.int k b)) : FEq P (d + 1) xs ys f :=
  ⟨_, _, a == b, part_run hx, part_ev hx, part_run hy, part_ev hy, fun w => by simp [Op.equalIn, run_underlying hu], fun w es => by simp [Op.equalIn, run_underlying hu]⟩
theorem feq_bool {d : Nat} {xs ys : Array Value} {f : Field} {a b : Bool} (hu : P.underlying f.type = some .bool) [TAgg P f.type false] (hx : xs[f.offset]? = some (.bool a)) (hy : ys[f.offset]? = some (.bool b)) : FEq P (d + 1) xs ys f :=
  ⟨_, _, a == b, part_run hx, part_ev hx, part_run hy, part_ev hy, fun w => by simp [Op.equalIn, run_underlying hu], fun w es => by simp [Op.equalIn, run_underlying hu]⟩
class TEqS (P : Program) (t : TypeId) (ok : List Value → List Value → Prop) : Prop where
  guard : P.eqGuardType P.depth t = false
  run : ∀ xs ys, ok xs ys → ∃ r : Bool, (∀ w, (Op.equalIn 10000 t (.agg xs.toArray) (.agg ys.toArray)).run P w = .ok r w) ∧ (r = true ↔ xs = ys)
  ev : ∀ xs ys, ok xs ys → EvNil P (Op.equalIn 10000 t (.agg xs.toArray) (.agg ys.toArray))
theorem ev_eqGuard {op : BinOp} {t : TypeId} {x y : Operand} {xs ys : Array Value} (hm : P.eqGuardType P.depth t = false) : EvNil P (eqGuard op t x y (.agg xs) (.agg ys)) := fun w es => by
  cases op <;> simp [eqGuard, hm]
section
variable {q : Bool} {n : NF} {W0 : GW} {Q : Exit → Act → GW → Prop} {F : Slots} {H : Heap} {L : List HProp} {ops : Array Oper} {rest : List Oper} {k : List Fr} {ty : TypeId} {pos : String} {aft : Array Edge} {d : Tmp} {g : Option (Nat × Bool)} {x y : Operand} {T T' : TypeId} {xs ys : List Value} {ok : List Value → List Value → Prop}
theorem pk_eqS {dst : Option Tmp} {a : Act} {w : GW} [h : TEqS P T ok] (hF : FrOk n a F) (hx : opv F x = some (.agg xs.toArray)) (hy : opv F y = some (.agg ys.toArray)) (ho : ok xs ys) (op : BinOp) (hop : op = .eql ∨ op = .neq) :
    ∃ r : Bool, (r = true ↔ xs = ys) ∧ (⟨dst, .binOp op T x y T', ty, pos, aft, g⟩ : Oper).pkV P a.eval w (.bool (if op = .neq then !r else r)) := by
  obtain ⟨r, h1, h2⟩ := h.run xs ys ho
  refine ⟨r, h2, fun Wr hsm w1 he hl hp _ => ?_⟩
  have hev := h.ev xs ys ho
  rcases hop with rfl | rfl
  · refine ⟨?_, fun e he' => ?_⟩
    · simp only [execOp, hF.opv hx, hF.opv hy]
      simp only [Sem.run_bind, run_eqGuard_agg _ _ _ _ _ _ _ h.guard, run_eql_struct, h1, Result.andThen_ok]
      simp
    · have : (execOp a.eval ⟨dst, .binOp .eql T x y T', ty, pos, aft, g⟩).events P w1 #[] = #[] := by
        simp only [execOp, hF.opv hx, hF.opv hy]
        refine evnil_bind (evnil_bind (ev_eqGuard h.guard) fun _ => ?_) (fun _ => evnil_pure _) w1 #[]
        simp only [binOp]
        exact evnil_bind hev fun _ => evnil_pure _
      rw [this] at he'; simp at he'
  · refine ⟨?_, fun e he' => ?_⟩
    · simp only [execOp, hF.opv hx, hF.opv hy]
      simp only [Sem.run_bind, run_eqGuard_agg _ _ _ _ _ _ _ h.guard, run_neq_struct, h1, Result.andThen_ok]
      simp
    · have : (execOp a.eval ⟨dst, .binOp .neq T x y T', ty, pos, aft, g⟩).events P w1 #[] = #[] := by
        simp only [execOp, hF.opv hx, hF.opv hy]
        refine evnil_bind (evnil_bind (ev_eqGuard h.guard) fun _ => ?_) (fun _ => evnil_pure _) w1 #[]
        simp only [binOp]
        exact evnil_bind hev fun _ => evnil_pure _
      rw [this] at he'; simp at he'
theorem ops_pkw {op : Op} {v : Value} {gv : Option (Value × Bool)} (hg : gval ops F g = some gv) [hb : GOk gv true] (hd : Nat.blt d n = true) (h : ∀ a w, FrOk n a F → StG W0 H w L → (⟨some d, op, ty, pos, aft, g⟩ : Oper).pkV P a.eval w v) (hk : Ops P n W0 Q ((d, v) :: F) H L q ops rest k) :
    Ops P n W0 Q F H L q ops (⟨some d, op, ty, pos, aft, g⟩ :: rest) k := by
  have hw : ∀ a, FrOk n a F → Region.wanted (⟨some d, op, ty, pos, aft, g⟩ : Oper) (Go.yielded ops a.tmps) = true := fun a hF => by
    cases g with
    | none => simp [Region.wanted]
    | some jw =>
      obtain ⟨j, w⟩ := jw
      obtain ⟨dj, u, hj, hu, hww, _⟩ := gval_spec (b := true) hg
      rw [hww rfl] at hu
      simp [Region.wanted, hF.yielded hj hu, vb]
  constructor
  cases q with
  | false =>
    intro a w hF hS
    unfold wpListV
    rw [if_pos (hw a hF)]
    exact wpV_of_pk (h a w hF hS) (hk.run _ _ (hF.put hd v) hS)
  | true => exact ⟨d, v, rfl, hd, .inl fun a w hF hS => ⟨hw a hF, .inr (h a w hF hS)⟩, hk.run⟩
theorem ops_eqS {p : Prop} [dp : Decidable p] {gv : Option (Value × Bool)} [h : TEqS P T ok] (hg : gval ops F g = some gv) [hb : GOk gv true] (hx : opv F x = some (.agg xs.toArray)) (hy : opv F y = some (.agg ys.toArray)) (ho : ok xs ys) (hp : p ↔ xs = ys)
    (hk : Ops P n W0 Q ((d, .bool (decide p)) :: F) H L q ops rest k) (hd : Nat.blt d n = true := by rfl) : Ops P n W0 Q F H L q ops (⟨some d, .binOp .eql T x y T', ty, pos, aft, g⟩ :: rest) k := by
  refine ops_pkw hg hd (fun a w hF hS => ?_) hk
  obtain ⟨r, h1, h2⟩ := pk_eqS (P := P) (T := T) (ok := ok) (dst := some d) (ty := ty) (pos := pos) (aft := aft) (g := g) (T' := T') (w := w) hF hx hy ho .eql (.inl rfl)
  have e : r = decide p := by rw [Bool.eq_iff_iff, h1, decide_eq_true_eq, hp]
  simpa [e] using h2
theorem ops_neS {p : Prop} [dp : Decidable p] {gv : Option (Value × Bool)} [h : TEqS P T ok] (hg : gval ops F g = some gv) [hb : GOk gv true] (hx : opv F x = some (.agg xs.toArray)) (hy : opv F y = some (.agg ys.toArray)) (ho : ok xs ys) (hp : p ↔ xs = ys)
    (hk : Ops P n W0 Q ((d, .bool (decide (¬ p))) :: F) H L q ops rest k) (hd : Nat.blt d n = true := by rfl) : Ops P n W0 Q F H L q ops (⟨some d, .binOp .neq T x y T', ty, pos, aft, g⟩ :: rest) k := by
  refine ops_pkw hg hd (fun a w hF hS => ?_) hk
  obtain ⟨r, h1, h2⟩ := pk_eqS (P := P) (T := T) (ok := ok) (dst := some d) (ty := ty) (pos := pos) (aft := aft) (g := g) (T' := T') (w := w) hF hx hy ho .neq (.inr rfl)
  have e : (!r) = decide (¬ p) := by
    rw [Bool.eq_iff_iff, decide_eq_true_eq, hp, ← h1]; simp
  simpa [e] using h2
end
end
end Go.X
namespace Go.Proofs.Ytjkiioicjmaeoaa
open Go Go.Sx Go.X Go.Proofs
def okEq (xs ys : List Value) : Prop := ∃ a b : Entry, xs = a.cv ∧ ys = b.cv
def okPq (xs ys : List Value) : Prop := ∃ a b : Pair, xs = a.cv ∧ ys = b.cv
theorem cvE_inj {a b : Entry} : a.cv = b.cv ↔ a = b := by
  constructor
  · intro h
    simp only [Entry.cv, List.cons.injEq, Value.string.injEq, Value.int.injEq, Value.bool.injEq, true_and, and_true] at h
    obtain ⟨h1, h2, h3, h4⟩ := h
    cases a; cases b; simp_all
  · rintro rfl; rfl
theorem cvP_inj {a b : Pair} : a.cv = b.cv ↔ a = b := by
  constructor
  · intro h
    simp only [Pair.cv, List.cons.injEq, Value.string.injEq, and_true] at h
    obtain ⟨h1, h2⟩ := h
    cases a; cases b; simp_all
  · rintro rfl; rfl
theorem toList_iff {s t : ByteArray} : s.toList = t.toList ↔ s = t := by
  have := bytes_eq s t
  rw [Bool.eq_iff_iff] at this
  simpa using this
instance : TEqS Try.prog 37 okEq := ⟨by kernel_rfl, fun xs ys ⟨a, b, e1, e2⟩ => by
    subst e1 e2
    refine ⟨decide (a = b), fun w => ?_, by rw [decide_eq_true_eq, cvE_inj]⟩
    have u3 := Try.underlying3
    have a3 := Try.isAgg3
    have z3 := Try.sizeOf3
    have u9 := Try.underlying9
    have a9 := Try.isAgg9
    have z9 := Try.sizeOf9
    have u4 := Try.underlying4
    have a4 := Try.isAgg4
    have z4 := Try.sizeOf4
    have hS : Try.prog.underlying 37 = some (.struct (Try.prog.fieldsOf 37)) := by kernel_rfl
    have hp : Try.prog.stoodInHeld 37 = false := by kernel_rfl
    rw [show (10000 : Nat) = 9999 + 1 from rfl, run_equalIn_agg w 9999 37 _ _ hS hp]
    simp only [Program.fieldsOf, Try.underlying37]
    go_simp
    simp only [toList_iff]
    cases a; cases b
    simp only [Entry.mk.injEq]
    repeat' split
    all_goals simp_all, fun xs ys ⟨a, b, e1, e2⟩ => by
    subst e1 e2
    have hS : Try.prog.underlying 37 = some (.struct (Try.prog.fieldsOf 37)) := by kernel_rfl
    have hp : Try.prog.stoodInHeld 37 = false := by kernel_rfl
    rw [show (10000 : Nat) = 9999 + 1 from rfl]
    refine evnil_struct 9999 37 _ _ hS hp fun f hf => ?_
    simp only [Program.fieldsOf, Try.underlying37, List.mem_cons, List.not_mem_nil, or_false] at hf
    rcases hf with rfl | rfl | rfl | rfl
    · exact feq_str Try.underlying9 rfl rfl
    · exact feq_int Try.underlying3 rfl rfl
    · exact feq_bool Try.underlying4 rfl rfl
    · exact feq_str Try.underlying9 rfl rfl⟩
instance : TEqS Try.prog 50 okPq := ⟨by kernel_rfl, fun xs ys ⟨a, b, e1, e2⟩ => by
    subst e1 e2
    refine ⟨decide (a = b), fun w => ?_, by rw [decide_eq_true_eq, cvP_inj]⟩
    have u3 := Try.underlying3
    have a3 := Try.isAgg3
    have z3 := Try.sizeOf3
    have u9 := Try.underlying9
    have a9 := Try.isAgg9
    have z9 := Try.sizeOf9
    have u4 := Try.underlying4
    have a4 := Try.isAgg4
    have z4 := Try.sizeOf4
    have hS : Try.prog.underlying 50 = some (.struct (Try.prog.fieldsOf 50)) := by kernel_rfl
    have hp : Try.prog.stoodInHeld 50 = false := by kernel_rfl
    rw [show (10000 : Nat) = 9999 + 1 from rfl, run_equalIn_agg w 9999 50 _ _ hS hp]
    simp only [Program.fieldsOf, Try.underlying50]
    go_simp
    simp only [toList_iff]
    cases a; cases b
    simp only [Pair.mk.injEq]
    repeat' split
    all_goals simp_all, fun xs ys ⟨a, b, e1, e2⟩ => by
    subst e1 e2
    have hS : Try.prog.underlying 50 = some (.struct (Try.prog.fieldsOf 50)) := by kernel_rfl
    have hp : Try.prog.stoodInHeld 50 = false := by kernel_rfl
    rw [show (10000 : Nat) = 9999 + 1 from rfl]
    refine evnil_struct 9999 50 _ _ hS hp fun f hf => ?_
    simp only [Program.fieldsOf, Try.underlying50, List.mem_cons, List.not_mem_nil, or_false] at hf
    rcases hf with rfl | rfl
    · exact feq_str Try.underlying9 rfl rfl
    · exact feq_str Try.underlying9 rfl rfl⟩
end Go.Proofs.Ytjkiioicjmaeoaa
