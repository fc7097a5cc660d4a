/- A literal's row, of elements of several cells. No program in sight. -/
import Derived.Test.YtjkiioicjmaeoaaJMI
import Derived.Test.YtjkiioicjmaeoaaJMJ
import Derived.Laws.StructEq
set_option linter.unusedVariables false
set_option linter.unusedSimpArgs false
namespace Go.X
open Go Go.Sx Go.Conc Go.ConcN
def EvNil {α : Type} (P : Program) (e : Sem α) : Prop := ∀ w es, e.events P w es = es
section
variable {P : Program}
theorem evnil_bind {α β : Type} {x : Sem α} {f : α → Sem β} (h : EvNil P x) (hf : ∀ a, EvNil P (f a)) : EvNil P (x >>= f) := fun w es => by
  rw [Sem.events_bind]
  cases hr : x.run P w with
  | ok a w' => simp only [Result.evThen_ok]; rw [hf a, h]
  | halt e w' => simpa [Result.evThen] using h w es
theorem evnil_pure {α : Type} (a : α) : EvNil P (pure a : Sem α) := fun _ _ => rfl
structure FEq (P : Program) (d : Nat) (xs ys : Array Value) (f : Field) : Prop where
  ex : ∃ a b r, (∀ w, (part f.type xs f.offset).run P w = .ok a w) ∧ EvNil P (part f.type xs f.offset) ∧ (∀ w, (part f.type ys f.offset).run P w = .ok b w) ∧ EvNil P (part f.type ys f.offset) ∧ (∀ w, (Op.equalIn d f.type a b).run P w = .ok r w) ∧ EvNil P (Op.equalIn d f.type a b)
theorem evnil_struct (d : Nat) (t : TypeId) (xs ys : Array Value) (ht : P.underlying t = some (.struct (P.fieldsOf t))) (hp : P.stoodInHeld t = false) (hf : ∀ f ∈ (P.fieldsOf t).toList, FEq P d xs ys f) : EvNil P (Op.equalIn (d + 1) t (.agg xs) (.agg ys)) := by
  intro w es
  simp only [Op.equalIn, Sem.events_bind, run_underlying ht, events_underlying, Result.evThen_ok, run_program, events_program, Sem.run_bind, Result.andThen_ok, hp, Bool.false_eq_true, if_false]
  rw [← Array.forIn_toList]
  revert hf
  generalize (P.fieldsOf t).toList = fs
  clear ht
  intro hf
  induction fs generalizing w es with
  | nil => simp
  | cons f fs ih =>
    obtain ⟨a, b, r, h1, h2, h3, h4, h5, h6⟩ := (hf f (List.mem_cons_self ..)).ex
    have ih' := fun w es => ih w es fun f hf' => hf f (List.mem_cons_of_mem _ hf')
    simp only [List.forIn_cons, Sem.events_bind, Sem.run_bind, Sem.run_ite, Sem.events_ite]
    split
    · simp only [h1, h2 _ _, h3, h4 _ _, h5, h6 _ _, Result.andThen_ok, Result.evThen_ok]
      cases r
      · simp
      · simp only [Bool.not_true, Bool.false_eq_true, if_false, Sem.run_pure, Sem.events_pure, Result.andThen_ok, Result.evThen_ok]
        simpa [Sem.events_bind] using ih' w es
    · simp only [Sem.run_pure, Sem.events_pure, Result.andThen_ok, Result.evThen_ok]
      simpa [Sem.events_bind] using ih' w es
theorem part_run {t : TypeId} {cs : Array Value} {off : Nat} {v : Value} [ht : TAgg P t false] (hv : cs[off]? = some v) (w : World) : (part t cs off).run P w = .ok v w := by simp [part, ht.run, hv]
theorem part_ev {t : TypeId} {cs : Array Value} {off : Nat} {v : Value} [ht : TAgg P t false] (hv : cs[off]? = some v) : EvNil P (part t cs off) := fun w es => by simp [part, ht.run, hv]
theorem feq_str {d : Nat} {xs ys : Array Value} {f : Field} {a b : ByteArray} (hu : P.underlying f.type = some .string) [TAgg P f.type false] (hx : xs[f.offset]? = some (.string a)) (hy : ys[f.offset]? = some (.string b)) : FEq P (d + 1) xs ys f :=
  ⟨_, _, a == b, part_run hx, part_ev hx, part_run hy, part_ev hy, fun w => by simp [Op.equalIn, run_underlying hu], fun w es => by simp [Op.equalIn, run_underlying hu]⟩
theorem feq_int {d : Nat} {xs ys : Array Value} {f : Field} {k : IntKind} {a b : Int} (hu : P.underlying f.type = some (.int k)) [TAgg P f.type false] (hx : xs[f.offset]? = some (.int k a)) (hy : ys[f.offset]? = some (.int k b)) : FEq P (d + 1) xs ys f :=
  ⟨_, _, a == b, part_run hx, part_ev hx, part_run hy, part_ev hy, fun w => by simp [Op.equalIn, run_underlying hu], fun w es => by simp [Op.equalIn, run_underlying hu]⟩
theorem feq_bool {d : Nat} {xs ys : Array Value} {f : Field} {a b : Bool} (hu : P.underlying f.type = some .bool) [TAgg P f.type false] (hx : xs[f.offset]? = some (.bool a)) (hy : ys[f.offset]? = some (.bool b)) : FEq P (d + 1) xs ys f :=
  ⟨_, _, a == b, part_run hx, part_ev hx, part_run hy, part_ev hy, fun w => by simp [Op.equalIn, run_underlying hu], fun w es => by simp [Op.equalIn, run_underlying hu]⟩
class TEqS (P : Program) (t : TypeId) (ok : List Value → List Value → Prop) : Prop where
  guard : P.eqGuardType P.depth t = false
  run : ∀ xs ys, ok xs ys → ∃ r : Bool, (∀ w, (Op.equalIn 10000 t (.agg xs.toArray) (.agg ys.toArray)).run P w = .ok r w) ∧ (r = true ↔ xs = ys)
  ev : ∀ xs ys, ok xs ys → EvNil P (Op.equalIn 10000 t (.agg xs.toArray) (.agg ys.toArray))
theorem ev_eqGuard {op : BinOp} {t : TypeId} {x y : Operand} {xs ys : Array Value} (hm : P.eqGuardType P.depth t = false) : EvNil P (eqGuard op t x y (.agg xs) (.agg ys)) := fun w es => by
  cases op <;> simp [eqGuard, hm]
section
variable {q : Bool} {n : NF} {W0 : GW} {Q : Exit → Act → GW → Prop} {F : Slots} {H : Heap} {L : List HProp} {ops : Array Oper} {rest : List Oper} {k : List Fr} {ty : TypeId} {pos : String} {aft : Array Edge} {d : Tmp} {g : Option (Nat × Bool)} {x y : Operand} {T T' : TypeId} {xs ys : List Value} {ok : List Value → List Value → Prop}
theorem pk_eqS {dst : Option Tmp} {a : Act} {w : GW} [h : TEqS P T ok] (hF : FrOk n a F) (hx : opv F x = some (.agg xs.toArray)) (hy : opv F y = some (.agg ys.toArray)) (ho : ok xs ys) (op : BinOp) (hop : op = .eql ∨ op = .neq) :
    ∃ r : Bool, (r = true ↔ xs = ys) ∧ (⟨dst, .binOp op T x y T', ty, pos, aft, g⟩ : Oper).pkV P a.eval w (.bool (if op = .neq then !r else r)) := by
  obtain ⟨r, h1, h2⟩ := h.run xs ys ho
  refine ⟨r, h2, fun Wr hsm w1 he hl hp _ => ?_⟩
  have hev := h.ev xs ys ho
  rcases hop with rfl | rfl
  · refine ⟨?_, fun e he' => ?_⟩
    · simp only [execOp, hF.opv hx, hF.opv hy]
      simp only [Sem.run_bind, run_eqGuard_agg _ _ _ _ _ _ _ h.guard, run_eql_struct, h1, Result.andThen_ok]
      simp
    · have : (execOp a.eval ⟨dst, .binOp .eql T x y T', ty, pos, aft, g⟩).events P w1 #[] = #[] := by
        simp only [execOp, hF.opv hx, hF.opv hy]
        refine evnil_bind (evnil_bind (ev_eqGuard h.guard) fun _ => ?_) (fun _ => evnil_pure _) w1 #[]
        simp only [binOp]
        exact evnil_bind hev fun _ => evnil_pure _
      rw [this] at he'; simp at he'
  · refine ⟨?_, fun e he' => ?_⟩
    · simp only [execOp, hF.opv hx, hF.opv hy]
      simp only [Sem.run_bind, run_eqGuard_agg _ _ _ _ _ _ _ h.guard, run_neq_struct, h1, Result.andThen_ok]
      simp
    · have : (execOp a.eval ⟨dst, .binOp .neq T x y T', ty, pos, aft, g⟩).events P w1 #[] = #[] := by
        simp only [execOp, hF.opv hx, hF.opv hy]
        refine evnil_bind (evnil_bind (ev_eqGuard h.guard) fun _ => ?_) (fun _ => evnil_pure _) w1 #[]
        simp only [binOp]
        exact evnil_bind hev fun _ => evnil_pure _
      rw [this] at he'; simp at he'
theorem ops_pkw {op : Op} {v : Value} {gv : Option (Value × Bool)} (hg : gval ops F g = some gv) [hb : GOk gv true] (hd : Nat.blt d n = true) (h : ∀ a w, FrOk n a F → StG W0 H w L → (⟨some d, op, ty, pos, aft, g⟩ : Oper).pkV P a.eval w v) (hk : Ops P n W0 Q ((d, v) :: F) H L q ops rest k) :
    Ops P n W0 Q F H L q ops (⟨some d, op, ty, pos, aft, g⟩ :: rest) k := by
  have hw : ∀ a, FrOk n a F → Region.wanted (⟨some d, op, ty, pos, aft, g⟩ : Oper) (Go.yielded ops a.tmps) = true := fun a hF => by
    cases g with
    | none => simp [Region.wanted]
    | some jw =>
      obtain ⟨j, w⟩ := jw
      obtain ⟨dj, u, hj, hu, hww, _⟩ := gval_spec (b := true) hg
      rw [hww rfl] at hu
      simp [Region.wanted, hF.yielded hj hu, vb]
  constructor
  cases q with
  | false =>
    intro a w hF hS
    unfold wpListV
    rw [if_pos (hw a hF)]
    exact wpV_of_pk (h a w hF hS) (hk.run _ _ (hF.put hd v) hS)
  | true => exact ⟨d, v, rfl, hd, .inl fun a w hF hS => ⟨hw a hF, .inr (h a w hF hS)⟩, hk.run⟩
theorem ops_eqS {p : Prop} [dp : Decidable p] {gv : Option (Value × Bool)} [h : TEqS P T ok] (hg : gval ops F g = some gv) [hb : GOk gv true] (hx : opv F x = some (.agg xs.toArray)) (hy : opv F y = some (.agg ys.toArray)) (ho : ok xs ys) (hp : p ↔ xs = ys)
    (hk : Ops P n W0 Q ((d, .bool (decide p)) :: F) H L q ops rest k) (hd : Nat.blt d n = true := by rfl) : Ops P n W0 Q F H L q ops (⟨some d, .binOp .eql T x y T', ty, pos, aft, g⟩ :: rest) k := by
  refine ops_pkw hg hd (fun a w hF hS => ?_) hk
  obtain ⟨r, h1, h2⟩ := pk_eqS (P := P) (T := T) (ok := ok) (dst := some d) (ty := ty) (pos := pos) (aft := aft) (g := g) (T' := T') (w := w) hF hx hy ho .eql (.inl rfl)
  have e : r = decide p := by rw [Bool.eq_iff_iff, h1, decide_eq_true_eq, hp]
  simpa [e] using h2
theorem ops_neS {p : Prop} [dp : Decidable p] {gv : Option (Value × Bool)} [h : TEqS P T ok] (hg : gval ops F g = some gv) [hb : GOk gv true] (hx : opv F x = some (.agg xs.toArray)) (hy : opv F y = some (.agg ys.toArray)) (ho : ok xs ys) (hp : p ↔ xs = ys)
    (hk : Ops P n W0 Q ((d, .bool (decide (¬ p))) :: F) H L q ops rest k) (hd : Nat.blt d n = true := by rfl) : Ops P n W0 Q F H L q ops (⟨some d, .binOp .neq T x y T', ty, pos, aft, g⟩ :: rest) k := by
  refine ops_pkw hg hd (fun a w hF hS => ?_) hk
  obtain ⟨r, h1, h2⟩ := pk_eqS (P := P) (T := T) (ok := ok) (dst := some d) (ty := ty) (pos := pos) (aft := aft) (g := g) (T' := T') (w := w) hF hx hy ho .neq (.inr rfl)
  have e : (!r) = decide (¬ p) := by
    rw [Bool.eq_iff_iff, decide_eq_true_eq, hp, ← h1]; simp
  simpa [e] using h2
end
end
end Go.X
namespace Go.Proofs.Ytjkiioicjmaeoaa
open Go Go.Sx Go.X Go.Proofs
def okEq (xs ys : List Value) : Prop := ∃ a b : Entry, xs = a.cv ∧ ys = b.cv
def okPq (xs ys : List Value) : Prop := ∃ a b : Pair, xs = a.cv ∧ ys = b.cv
theorem cvE_inj {a b : Entry} : a.cv = b.cv ↔ a = b := by
  constructor
  · intro h
    simp only [Entry.cv, List.cons.injEq, Value.string.injEq, Value.int.injEq, Value.bool.injEq, true_and, and_true] at h
    obtain ⟨h1, h2, h3, h4⟩ := h
    cases a; cases b; simp_all
  · rintro rfl; rfl
theorem cvP_inj {a b : Pair} : a.cv = b.cv ↔ a = b := by
  constructor
  · intro h
    simp only [Pair.cv, List.cons.injEq, Value.string.injEq, and_true] at h
    obtain ⟨h1, h2⟩ := h
    cases a; cases b; simp_all
  · rintro rfl; rfl
theorem toList_iff {s t : ByteArray} : s.toList = t.toList ↔ s = t := by
  have := bytes_eq s t
  rw [Bool.eq_iff_iff] at this
  simpa using this
instance : TEqS Try.prog 37 okEq := ⟨by kernel_rfl, fun xs ys ⟨a, b, e1, e2⟩ => by
    subst e1 e2
    refine ⟨decide (a = b), fun w => ?_, by rw [decide_eq_true_eq, cvE_inj]⟩
    have u3 := Try.underlying3
    have a3 := Try.isAgg3
    have z3 := Try.sizeOf3
    have u9 := Try.underlying9
    have a9 := Try.isAgg9
    have z9 := Try.sizeOf9
    have u4 := Try.underlying4
    have a4 := Try.isAgg4
    have z4 := Try.sizeOf4
    have hS : Try.prog.underlying 37 = some (.struct (Try.prog.fieldsOf 37)) := by kernel_rfl
    have hp : Try.prog.stoodInHeld 37 = false := by kernel_rfl
    rw [show (10000 : Nat) = 9999 + 1 from rfl, run_equalIn_agg w 9999 37 _ _ hS hp]
    simp only [Program.fieldsOf, Try.underlying37]
    go_simp
    simp only [toList_iff]
    cases a; cases b
    simp only [Entry.mk.injEq]
    repeat' split
    all_goals simp_all, fun xs ys ⟨a, b, e1, e2⟩ => by
    subst e1 e2
    have hS : Try.prog.underlying 37 = some (.struct (Try.prog.fieldsOf 37)) := by kernel_rfl
    have hp : Try.prog.stoodInHeld 37 = false := by kernel_rfl
    rw [show (10000 : Nat) = 9999 + 1 from rfl]
    refine evnil_struct 9999 37 _ _ hS hp fun f hf => ?_
    simp only [Program.fieldsOf, Try.underlying37, List.mem_cons, List.not_mem_nil, or_false] at hf
    rcases hf with rfl | rfl | rfl | rfl
    · exact feq_str Try.underlying9 rfl rfl
    · exact feq_int Try.underlying3 rfl rfl
    · exact feq_bool Try.underlying4 rfl rfl
    · exact feq_str Try.underlying9 rfl rfl⟩
instance : TEqS Try.prog 50 okPq := ⟨by kernel_rfl, fun xs ys ⟨a, b, e1, e2⟩ => by
    subst e1 e2
    refine ⟨decide (a = b), fun w => ?_, by rw [decide_eq_true_eq, cvP_inj]⟩
    have u3 := Try.underlying3
    have a3 := Try.isAgg3
    have z3 := Try.sizeOf3
    have u9 := Try.underlying9
    have a9 := Try.isAgg9
    have z9 := Try.sizeOf9
    have u4 := Try.underlying4
    have a4 := Try.isAgg4
    have z4 := Try.sizeOf4
    have hS : Try.prog.underlying 50 = some (.struct (Try.prog.fieldsOf 50)) := by kernel_rfl
    have hp : Try.prog.stoodInHeld 50 = false := by kernel_rfl
    rw [show (10000 : Nat) = 9999 + 1 from rfl, run_equalIn_agg w 9999 50 _ _ hS hp]
    simp only [Program.fieldsOf, Try.underlying50]
    go_simp
    simp only [toList_iff]
    cases a; cases b
    simp only [Pair.mk.injEq]
    repeat' split
    all_goals simp_all, fun xs ys ⟨a, b, e1, e2⟩ => by
    subst e1 e2
    have hS : Try.prog.underlying 50 = some (.struct (Try.prog.fieldsOf 50)) := by kernel_rfl
    have hp : Try.prog.stoodInHeld 50 = false := by kernel_rfl
    rw [show (10000 : Nat) = 9999 + 1 from rfl]
    refine evnil_struct 9999 50 _ _ hS hp fun f hf => ?_
    simp only [Program.fieldsOf, Try.underlying50, List.mem_cons, List.not_mem_nil, or_false] at hf
    rcases hf with rfl | rfl
    · exact feq_str Try.underlying9 rfl rfl
    · exact feq_str Try.underlying9 rfl rfl⟩
end Go.Proofs.Ytjkiioicjmaeoaa
namespace Go.Sx
open Go Go.X
def partsC (F : Slots) : Nat → List (Nat × Operand) → Option (List Value)
  | _, [] => some []
  | i, (j, x) :: r => match Nat.beq i j with
    | false => none
    | true => match opv F x with
      | none => none
      | some v => match partsC F (i + 1) r with
        | none => none
        | some vs => some (v :: vs)
theorem partsC_eval {n : NF} {F : Slots} {a : Act} (hF : FrOk n a F) : ∀ {ps : List (Nat × Operand)} {i : Nat} {vs : List Value}, partsC F i ps = some vs → ps.map (fun p => (p.1, a.eval p.2)) = (vs.zipIdx i).map fun p => (p.2, p.1)
  | [], i, vs, h => by simp [partsC] at h; subst h; rfl
  | (j, x) :: r, i, vs, h => by
    simp only [partsC] at h
    split at h
    · cases h
    · next hij =>
      split at h
      · cases h
      · next v hv =>
        split at h
        · cases h
        · next us hu =>
          cases h
          have e : i = j := by simpa using hij
          subst e
          simp only [List.map_cons, List.zipIdx_cons, hF.opv hv, partsC_eval hF hu]
theorem setRow (base : Nat) : ∀ (l : List Value) (i : Nat) (arr : List Value), base + i + l.length ≤ arr.length → (l.zipIdx i).foldl (fun (cs : Array Value) (p : Value × Nat) => cs.setIfInBounds (base + p.2) p.1) arr.toArray = (arr.take (base + i) ++ l ++ arr.drop (base + i + l.length)).toArray
  | [], i, arr, _ => by simp
  | c :: l, i, arr, hl => by
    simp only [List.length_cons] at hl
    simp only [List.zipIdx_cons, List.foldl_cons, List.setIfInBounds_toArray]
    rw [setRow base l (i + 1) (arr.set (base + i) c) (by simp; omega)]
    congr 1
    rw [List.drop_set_of_lt (by omega), show base + (i + 1) = base + i + 1 by omega]
    have e1 : (arr.set (base + i) c).take (base + i + 1) = arr.take (base + i) ++ [c] := by
      rw [List.take_add_one, List.getElem?_set_self (by omega), List.take_set_of_le (by omega)]; simp
    rw [e1]
    simp only [List.length_cons, List.append_assoc, List.singleton_append, List.cons_append, List.nil_append]
    rw [show base + i + 1 + l.length = base + i + (l.length + 1) by omega]
def CLs (sz : Nat) : List Value → List (List Value) → Prop
  | [], [] => True
  | v :: vs, cs :: css => (v.cells = cs.toArray ∧ cs.length = sz) ∧ CLs sz vs css
  | _, _ => False
theorem fillM (sz : Nat) : ∀ (vs : List Value) (css : List (List Value)) (i : Nat) (arr : List Value), CLs sz vs css → i * sz + vs.length * sz ≤ arr.length → Instr.fill (fun i => some (i * sz, sz)) arr.toArray ((vs.zipIdx i).map fun p => (p.2, p.1)) = some (arr.take (i * sz) ++ css.flatten ++ arr.drop (i * sz + vs.length * sz)).toArray
  | [], [], i, arr, _, _ => by simp [Instr.fill]
  | [], _ :: _, _, _, h, _ => h.elim
  | _ :: _, [], _, _, h, _ => h.elim
  | v :: vs, cs :: css, i, arr, ⟨⟨hc, hl⟩, h⟩, hle => by
    simp only [List.length_cons, Nat.succ_mul] at hle
    simp only [List.zipIdx_cons, List.map_cons, Instr.fill, hc]
    rw [if_neg (by simp; omega)]
    have hs := setRow (i * sz) cs 0 arr (by omega)
    simp only [Nat.add_zero] at hs
    have e0 : (cs.toArray : Array Value).zipIdx.foldl (fun (a : Array Value) (x : Value × Nat) => match x with | (c, j) => a.setIfInBounds (i * sz + j) c) arr.toArray = (cs.zipIdx 0).foldl (fun (a : Array Value) (p : Value × Nat) => a.setIfInBounds (i * sz + p.2) p.1) arr.toArray := by
      simp
    rw [e0, hs]
    have hlen : (arr.take (i * sz) ++ cs ++ arr.drop (i * sz + cs.length)).length = arr.length := by simp; omega
    rw [fillM sz vs css (i + 1) _ h (by rw [hlen, Nat.succ_mul]; omega)]
    congr 2
    have t1 : (arr.take (i * sz)).length = i * sz := by simp; omega
    rw [Nat.succ_mul]
    have e1 : (arr.take (i * sz) ++ cs ++ arr.drop (i * sz + cs.length)).take (i * sz + sz) = arr.take (i * sz) ++ cs := by
      rw [List.take_append_of_le_length (by simp; omega), List.take_of_length_le (by simp; omega)]
    have e2 : (arr.take (i * sz) ++ cs ++ arr.drop (i * sz + cs.length)).drop (i * sz + sz + vs.length * sz) = arr.drop (i * sz + (vs.length * sz + sz)) := by
      rw [List.drop_append, List.drop_eq_nil_of_le (by simp; omega), List.nil_append, List.drop_drop]
      congr 1
      simp only [List.length_append, t1, hl]
      omega
    rw [e1, e2]
    simp [Nat.succ_mul]
section
variable {P : Program} {n : NF} {W0 : GW} {F : Slots} {H : Heap} {L : List HProp} {K : Value → Heap → List HProp → Prop} {dst : Option Tmp} {ty : TypeId} {pos : String} {aft : Array Edge} {g : Option (Nat × Bool)}
theorem op_bsM {t e : TypeId} {z : Value} {m sz : Nat} {ps : List (Nat × Operand)} {vs : List Value} (css : List (List Value)) [hT : TSl P t e] [hS' : TSz P e sz] [hZ : TZ P e z] (hx : partsC F 0 ps = some vs) (h1 : CLs sz vs css) (hm : vs.length = m) (hz : z.cells.size = sz) (h0 : (Nat.blt 0 (m * sz) && Nat.ble (m * sz) 1000) = true)
    (hk : ∀ b, H b = none → K (.slice (some ⟨b, 0, none⟩) m m) H (row b e css.flatten :: L)) : OpW P n W0 ⟨dst, .buildSlice t m ps.toArray, ty, pos, aft, g⟩ F H L K :=
  .of_run fun a w hF hS => by
    have hs : St _ H (w.alloc (.cells css.flatten.toArray e)) (row w.heap.size e css.flatten :: L) := hS.alloc (hS.env.of rfl rfl rfl) rfl
    refine ⟨_, H, _, _, ?_, .refl _, hk _ hs.ptRead.2, hs⟩
    have h0 : 0 < m * sz ∧ m * sz ≤ 1000 := by simpa using h0
    have hsz : sz ≠ 0 := fun h => by subst h; simp at h0
    have hmz : m ≠ 0 := fun h => by subst h; simp at h0
    have hms : m * sz ≠ 0 := by omega
    have hm1 : m ≤ m * sz := Nat.le_mul_of_pos_right _ (by omega)
    have hfill := fillM sz vs css 0 ((List.range (m * sz)).map (fun i => z.cells[i % z.cells.size]!)) h1 (by simp [hm])
    have hd : ((List.range (m * sz)).map (fun i => z.cells[i % z.cells.size]!)).drop (0 * sz + vs.length * sz) = [] := List.drop_eq_nil_of_le (by simp [hm])
    rw [hd] at hfill
    simp only [Nat.zero_mul, List.take_zero, List.nil_append, List.append_nil] at hfill
    have e2 : ((Array.range (m * sz)).map (fun i => z.cells[i % z.cells.size]!)) = ((List.range (m * sz)).map (fun i => z.cells[i % z.cells.size]!)).toArray := by
      apply Array.ext'; simp [Array.toList_range]
    rw [← e2] at hfill
    have hp := partsC_eval hF hx
    have hp3 : (ps.map fun x => (x.1, a.eval x.2)) = (vs.zipIdx 0).map fun p => (p.2, p.1) := hp
    simp only [execOp]
    simp [Instr.buildSlice, run_underlying hT.und, hS'.run, hmz, hsz, hZ.run, newRow]
    rw [if_neg (by omega)]
    simp only [hp3, hfill]
    simp [hms]
    try exact fun h => absurd h hms
end
section
variable {P : Program} {n : NF} {W0 : GW} {Q : Exit → Act → GW → Prop} {F : Slots} {H : Heap} {L : List HProp} {ops : Array Oper} {rest : List Oper} {k : List Fr} {ty : TypeId} {pos : String} {aft : Array Edge} {d : Tmp} {g : Option (Nat × Bool)} {gv : Option (Value × Bool)} {t e : TypeId} {z : Value} {ml sz : Nat} {ps : List (Nat × Operand)} {vs : List Value}
theorem ops_bsM (css : List (List Value)) [hT : TSl P t e] [hS' : TSz P e sz] [hZ : TZ P e z] (hg : gval ops F g = some gv) [hb : GOk gv true] (hx : partsC F 0 ps = some vs) (h1 : CLs sz vs css) (hk : ∀ b, H b = none → Ops P n W0 Q ((d, .slice (some ⟨b, 0, none⟩) ml ml) :: F) H (row b e css.flatten :: L) false ops rest k)
    (hm : vs.length = ml := by rfl) (hz : z.cells.size = sz := by rfl) (h0 : (Nat.blt 0 (ml * sz) && Nat.ble (ml * sz) 1000) = true := by rfl) (hd : Nat.blt d n = true := by rfl) : Ops P n W0 Q F H L false ops (⟨some d, .buildSlice t ml ps.toArray, ty, pos, aft, g⟩ :: rest) k :=
  ops_w hg hd (op_bsM css hx h1 hm hz h0 hk)
end
end Go.Sx
