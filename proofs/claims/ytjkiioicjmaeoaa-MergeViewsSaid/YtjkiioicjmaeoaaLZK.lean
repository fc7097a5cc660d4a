/- Structs compared: a look that lists nothing. No program in sight. -/
import Derived.Test.YtjkiioicjmaeoaaLInst
import Derived.Test.YtjkiioicjmaeoaaLME
import Derived.Laws.StructEq
set_option linter.unusedVariables false
set_option linter.unusedSimpArgs false
namespace Go.X
open Go Go.Sx
theorem base_le_co (c : Co) : c.base.le (pool (.co c)) := fun b o h => by simp [pool, join, h]
theorem base_le_snd (c : Cs) : c.base.le (pool (.snd c)) := fun b o h => by
  simp only [pool]; split
  · simp [join, h]
  · exact h
theorem win_le_snd {c : Cs} (hf : c.fst = true) (hd : Disj c.base c.win) : c.win.le (pool (.snd c)) := fun b o h => by
  simp only [pool, hf, if_true]
  rcases hd b with h' | h'
  · simp [join, h', h]
  · rw [h] at h'; cases h'
theorem HRow.mono {H H' : Heap} (hl : H.le H') {b off : Nat} {cs : List Value} (h : HRow H b off cs) : HRow H' b off cs := fun j v hj => hcell_mono hl (h j v hj)
section
variable {α : Type} {R : Rd α} {sz : Nat} {q : Bool} {P : Program} {n : NF} {W0 : GW} {Q : Exit → Act → GW → Prop} {F : Slots} {H H1 : Heap} {L : List HProp} {ops : Array Oper} {rest : List Oper} {k : List Fr} {ty : TypeId} {pos : String} {aft : Array Edge} {d : Tmp} {g : Option (Nat × Bool)} {v : Value}
theorem ops_ixpAt {T e : TypeId} {x y : Operand} {xs : List α} {i : Int} {j : Nat} {kd : IntKind} {gv : Option (Value × Bool)} [hR : RdOk R sz] [TSl P T e] [TSz P e sz] (hg : gval ops F g = some gv) [hb : GOk gv true] (hv : opvs F [x, y] = some [v, .int kd i]) [hi : NatOf i j]
    (hs : SlR R sz H1 v xs) (hj : j < xs.length) (hk : ∀ b off c, HRow H1 b off c → R H1 c (xs[j]'hj) → Ops P n W0 Q ((d, .pointer (some ⟨b, off, none⟩)) :: F) H L q ops rest k) (hd : Nat.blt d n = true := by rfl) :
    Ops P n W0 Q F H L q ops (⟨some d, .indexAddr T x y, ty, pos, aft, g⟩ :: rest) k := by
  obtain ⟨rfl⟩ := hi
  obtain ⟨base, cap, rfl, h1, h2⟩ := hs.shape
  obtain ⟨b, off, c, rfl, h3, h4, h5⟩ := hs.get hj
  exact ops_pure hg hd (op_indexAddr (opvs2 hv).1 (opvs2 hv).2 (by omega) (by omega)) (hk b _ c h4 h5)
end
def splitLast : List Oper → Option (List Oper × Oper)
  | [] => none
  | [o] => some ([], o)
  | o :: r => match splitLast r with
    | some (l, x) => some (o :: l, x)
    | none => none
theorem splitLast_eq : ∀ {ops l : List Oper} {o : Oper}, splitLast ops = some (l, o) → ops = l ++ [o]
  | [], l, o, h => by cases h
  | [a], l, o, h => by simp only [splitLast, Option.some.injEq, Prod.mk.injEq] at h; obtain ⟨rfl, rfl⟩ := h; rfl
  | a :: b :: r, l, o, h => by
    simp only [splitLast] at h
    split at h
    · next l' x hx => cases h; rw [splitLast_eq hx]; rfl
    · cases h
section
variable {P : Program} {n : NF} {W0 : GW} {Q : Exit → Act → GW → Prop} {F : Slots} {H : Heap} {L : List HProp} {k : List Fr}
theorem ex_quiet1' [TMix P] {id m : Nat} {ops l : List Oper} {o1 : Oper} (h0 : splitLast ops = some (l, o1)) (hml : l.length = m) (hok : flowOk ops.toArray = true) (hreach : ∀ j, j < m → Go.Sx.Reach ops.toArray m j)
    (h : ∀ Q' : Exit → Act → GW → Prop, (∀ F, Ops P n W0 Q F H L false ops.toArray [o1] k → Out P n W0 Q' F H L .normal []) → Ops P n W0 Q' F H L true ops.toArray l []) : Ex P n W0 Q F H L (.region id ops.toArray true) k := by
  have e := splitLast_eq h0
  subst e
  exact ex_quiet1 hml hreach hok (h (fun _ a w => wpListV P (l ++ [o1]).toArray (Kx P Q k) [o1] a w) fun F hF => ⟨hF.run⟩).run
end
def binding (o : Oper) : List Nat := (o.after.toList.filter fun e => Region.binds .any e).map (·.on)
def reachStep (ops : Array Oper) (S : List Nat) (i : Nat) : List Nat := if S.contains i then (match ops[i]? with | some o => binding o ++ S | none => S) else S
def reachL (ops : Array Oper) (m : Nat) : List Nat := ((List.range m).reverse).foldl (reachStep ops) (match ops[m]? with | some o => binding o | none => [])
theorem mem_binding {o : Oper} {j : Nat} (h : j ∈ binding o) : ∃ e ∈ o.after, Region.binds .any e = true ∧ e.on = j := by
  simp only [binding, List.mem_map, List.mem_filter] at h
  obtain ⟨e, ⟨h1, h2⟩, h3⟩ := h
  exact ⟨e, Array.mem_toList_iff.1 h1, h2, h3⟩
theorem reachStep_ok {ops : Array Oper} {m : Nat} {S : List Nat} (hS : ∀ j ∈ S, Go.Sx.Reach ops m j) (i : Nat) : ∀ j ∈ reachStep ops S i, Go.Sx.Reach ops m j := by
  intro j hj
  unfold reachStep at hj
  split at hj
  · rename_i hc
    split at hj
    · rename_i o ho
      rcases List.mem_append.1 hj with h | h
      · obtain ⟨e, h1, h2, rfl⟩ := mem_binding h
        exact .step (hS i (by simpa using hc)) ho h1 h2
      · exact hS j h
    · exact hS j hj
  · exact hS j hj
theorem reach_of {ops : Array Oper} {m : Nat} (h : (List.range m).all (fun j => (reachL ops m).contains j) = true) : ∀ j, j < m → Go.Sx.Reach ops m j := by
  have key : ∀ (l : List Nat) (S : List Nat), (∀ j ∈ S, Go.Sx.Reach ops m j) → ∀ j ∈ l.foldl (reachStep ops) S, Go.Sx.Reach ops m j := by
    intro l
    induction l with
    | nil => exact fun S hS => hS
    | cons i l ih => exact fun S hS => ih _ (reachStep_ok hS i)
  intro j hj
  have h1 := List.all_eq_true.1 h j (List.mem_range.2 hj)
  have h2 : j ∈ reachL ops m := by simpa using h1
  refine key _ _ ?_ j h2
  intro x hx
  split at hx
  · rename_i o ho
    obtain ⟨e, h1, h2, rfl⟩ := mem_binding hx
    exact .dep ho h1 h2
  · cases hx
end Go.X
namespace Go.Sx
open Go Go.X
theorem less_iff : ∀ {a b : List UInt8}, Op.bytesLess a b = true ↔ a < b
  | [], [] => by simp [Op.bytesLess]
  | _ :: _, [] => by simp [Op.bytesLess]
  | [], _ :: _ => by simp [Op.bytesLess]
  | a :: x, b :: y => by
    have ih := less_iff (a := x) (b := y)
    simp only [Op.bytesLess, List.cons_lt_cons_iff, Bool.or_eq_true, Bool.and_eq_true, decide_eq_true_eq, beq_iff_eq, ih]
theorem slt_iff {s t : ByteArray} : SLt s t ↔ s.data.toList < t.data.toList := by
  unfold SLt sless
  rw [less_iff, bytes_toList, bytes_toList]
theorem text_ext {s t : ByteArray} (h : s.data.toList = t.data.toList) : s = t := by
  cases s; cases t; congr; exact Array.ext' h
theorem slt_irr {s : ByteArray} : ¬ SLt s s := by rw [slt_iff]; exact List.lt_irrefl _
theorem slt_trans {s t u : ByteArray} (h : SLt s t) (h' : SLt t u) : SLt s u := by rw [slt_iff] at *; exact List.lt_trans h h'
theorem slt_tri {s t : ByteArray} : SLt s t ∨ s = t ∨ SLt t s := by
  rw [slt_iff, slt_iff]
  by_cases h : s.data.toList < t.data.toList
  · exact .inl h
  · by_cases h' : t.data.toList < s.data.toList
    · exact .inr (.inr h')
    · exact .inr (.inl (text_ext (List.le_antisymm (List.not_lt.1 h') (List.not_lt.1 h))))
section
variable {P : Program} {n : NF} {F : Slots} {H : Heap} {L : List HProp} {dst : Option Tmp} {ty : TypeId} {pos : String} {aft : Array Edge} {g : Option (Nat × Bool)}
theorem op_eqlPtr0 {x y : Operand} {T T' : TypeId} [hT : TPt P T] (hx : opv F x = some (.pointer none)) (hy : opv F y = some (.pointer none)) :
    OpP P n ⟨dst, .binOp .eql T x y T', ty, pos, aft, g⟩ F H L (.bool true) := .mk (calm := fun a hF => let ⟨e, he⟩ := hT.ex; calm_eqNil he (by simp) (hF.opv hx) (hF.opv hy)) fun _ w hF _ => by
  obtain ⟨e, he⟩ := hT.ex
  have h0 : (Op.equal T (.pointer none) (.pointer none)).run P w = .ok true w := by
    have : ∀ d, (Op.equalIn (d + 1) T (.pointer none) (.pointer none)).run P w = .ok true w := fun d => by simp [Op.equalIn, run_underlying he]
    exact this 9999
  simp only [execOp, hF.opv hx, hF.opv hy]; simp [eqGuard_at_pointer, binOp, h0]
instance {x y : Operand} {T T' : TypeId} [TPt P T] : POp P (.binOp .eql T x y T') [.pointer none, .pointer none] True (.bool true) := ⟨fun _ h => op_eqlPtr0 (opvs2 h).1 (opvs2 h).2⟩
end
end Go.Sx
namespace Go.X
open Go Go.Sx Go.Conc
theorem stepG_scope {P : Program} {main : Bool} {b : Frame} {a : Act} {k : List Item} {cs : List Frame} {w : World} {c : Code} : stepG P main (G (b.at a (.code (.scope c) :: k)) cs) w = .go (G (b.at a (.code c :: .inScope c :: k)) cs) w := by simp [G, stepG, stepG.exec, Frame.at]
theorem stepG_inScope {P : Program} {main : Bool} {b : Frame} {a : Act} {k : List Item} {cs : List Frame} {w : World} {c : Code} : stepG P main (G (b.at a (.inScope c :: k)) cs) w = .go (G (b.at a k) cs) w := by simp [G, stepG, stepG.exec, Frame.at]
def noGotoX {σ : Type} (Q : Exit → Act → σ → Prop) : Exit → Act → σ → Prop
  | .goto _, _, _ => False
  | e, a, w => Q e a w
theorem wpV_scope {P : Program} {Q : Exit → Act → GW → Prop} {a : Act} {w : GW} {c : Code} (h : c.wpV P (noGotoX Q) a w) : (Code.scope c).wpV P Q a w := by
  intro Wr hsm b k cs hb hc
  refine .ctl rfl (fun _ _ => stepG_scope) (h Wr hsm b (.inScope c :: k) cs hb fun e a' x' q => ?_)
  cases e with
  | normal => exact .ctl rfl (fun _ _ => stepG_inScope) (hc _ _ _ q)
  | exit id => obtain ⟨k', hk', hg⟩ := hc _ _ _ q; exact ⟨k', by simpa [exitTo] using hk', hg⟩
  | goto l => obtain ⟨_, _, h⟩ := q; exact h.elim
  | ret => exact hc _ _ _ q
  | panic ch => exact hc _ _ _ q
  | outgrown => exact hc _ _ _ q
section
variable {P : Program} {n : NF} {W0 : GW} {Q : Exit → Act → GW → Prop} {F : Slots} {H : Heap} {L : List HProp} {k k' : List Fr} {c : Code}
theorem ex_label {l : Nat} (h : Out P n W0 Q F H L .normal k) : Ex P n W0 Q F H L (.label l) k := ⟨fun a w hF hS Wr hsm => wpX_label ⟨w, rep_xw hsm, h.run a w hF hS⟩⟩
theorem ex_scope (h : Ex P n W0 (noGotoX (Kx P Q k)) F H L c []) : Ex P n W0 Q F H L (.scope c) k := ⟨fun a w hF hS => wpV_scope (h.run a w hF hS)⟩
theorem kx_ret : ∀ (k : List Fr) {a : Act} {w : GW}, Q .ret a w → Kx P Q k .ret a w
  | [], _, _, h => h
  | .seq _ :: k, _, _, h => kx_ret k h
  | .blk _ :: k, _, _, h => kx_ret k h
  | .cut _ :: k, _, _, h => kx_ret k h
theorem out_scope_ret (h : Out P n W0 Q F H L .ret k) : Out P n W0 (noGotoX (Kx P Q k)) F H L .ret k' :=
  ⟨fun a w hF hS => kx_ret k' (h.run a w hF hS)⟩
end
end Go.X
namespace Go.X
open Go Go.Sx Go.Conc Go.ConcN
def EvNil {α : Type} (P : Program) (e : Sem α) : Prop := ∀ w es, e.events P w es = es
section
variable {P : Program}
theorem evnil_bind {α β : Type} {x : Sem α} {f : α → Sem β} (h : EvNil P x) (hf : ∀ a, EvNil P (f a)) : EvNil P (x >>= f) := fun w es => by
  rw [Sem.events_bind]
  cases hr : x.run P w with
  | ok a w' => simp only [Result.evThen_ok]; rw [hf a, h]
  | halt e w' => simpa [Result.evThen] using h w es
theorem evnil_pure {α : Type} (a : α) : EvNil P (pure a : Sem α) := fun _ _ => rfl
structure FEq (P : Program) (d : Nat) (xs ys : Array Value) (f : Field) : Prop where
  ex : ∃ a b r, (∀ w, (part f.type xs f.offset).run P w = .ok a w) ∧ EvNil P (part f.type xs f.offset) ∧ (∀ w, (part f.type ys f.offset).run P w = .ok b w) ∧ EvNil P (part f.type ys f.offset) ∧ (∀ w, (Op.equalIn d f.type a b).run P w = .ok r w) ∧ EvNil P (Op.equalIn d f.type a b)
theorem evnil_struct (d : Nat) (t : TypeId) (xs ys : Array Value) (ht : P.underlying t = some (.struct (P.fieldsOf t))) (hp : P.stoodInHeld t = false) (hf : ∀ f ∈ (P.fieldsOf t).toList, FEq P d xs ys f) : EvNil P (Op.equalIn (d + 1) t (.agg xs) (.agg ys)) := by
  intro w es
  simp only [Op.equalIn, Sem.events_bind, run_underlying ht, events_underlying, Result.evThen_ok, run_program, events_program, Sem.run_bind, Result.andThen_ok, hp, Bool.false_eq_true, if_false]
  rw [← Array.forIn_toList]
  revert hf
  generalize (P.fieldsOf t).toList = fs
  clear ht
  intro hf
  induction fs generalizing w es with
  | nil => simp
  | cons f fs ih =>
    obtain ⟨a, b, r, h1, h2, h3, h4, h5, h6⟩ := (hf f (List.mem_cons_self ..)).ex
    have ih' := fun w es => ih w es fun f hf' => hf f (List.mem_cons_of_mem _ hf')
    simp only [List.forIn_cons, Sem.events_bind, Sem.run_bind, Sem.run_ite, Sem.events_ite]
    split
    · simp only [h1, h2 _ _, h3, h4 _ _, h5, h6 _ _, Result.andThen_ok, Result.evThen_ok]
      cases r
      · simp
      · simp only [Bool.not_true, Bool.false_eq_true, if_false, Sem.run_pure, Sem.events_pure, Result.andThen_ok, Result.evThen_ok]
        simpa [Sem.events_bind] using ih' w es
    · simp only [Sem.run_pure, Sem.events_pure, Result.andThen_ok, Result.evThen_ok]
      simpa [Sem.events_bind] using ih' w es
theorem part_run {t : TypeId} {cs : Array Value} {off : Nat} {v : Value} [ht : TAgg P t false] (hv : cs[off]? = some v) (w : World) : (part t cs off).run P w = .ok v w := by simp [part, ht.run, hv]
theorem part_ev {t : TypeId} {cs : Array Value} {off : Nat} {v : Value} [ht : TAgg P t false] (hv : cs[off]? = some v) : EvNil P (part t cs off) := fun w es => by simp [part, ht.run, hv]
theorem feq_str {d : Nat} {xs ys : Array Value} {f : Field} {a b : ByteArray} (hu : P.underlying f.type = some .string) [TAgg P f.type false] (hx : xs[f.offset]? = some (.string a)) (hy : ys[f.offset]? = some (.string b)) : FEq P (d + 1) xs ys f :=
  ⟨_, _, a == b, part_run hx, part_ev hx, part_run hy, part_ev hy, fun w => by simp [Op.equalIn, run_underlying hu], fun w es => by simp [Op.equalIn, run_underlying hu]⟩
theorem feq_int {d : Nat} {xs ys : Array Value} {f : Field} {k : IntKind} {a b : Int} (hu : P.underlying f.type = some (.int k)) [TAgg P f.type false] (hx : xs[f.offset]? = some (.int k a)) (hy : ys[f.offset]? = some (.int k b)) : FEq P (d + 1) xs ys f :=
  ⟨_, _, a == b, part_run hx, part_ev hx, part_run hy, part_ev hy, fun w => by simp [Op.equalIn, run_underlying hu], fun w es => by simp [Op.equalIn, run_underlying hu]⟩
theorem feq_bool {d : Nat} {xs ys : Array Value} {f : Field} {a b : Bool} (hu : P.underlying f.type = some .bool) [TAgg P f.type false] (hx : xs[f.offset]? = some (.bool a)) (hy : ys[f.offset]? = some (.bool b)) : FEq P (d + 1) xs ys f :=
  ⟨_, _, a == b, part_run hx, part_ev hx, part_run hy, part_ev hy, fun w => by simp [Op.equalIn, run_underlying hu], fun w es => by simp [Op.equalIn, run_underlying hu]⟩
class TEqS (P : Program) (t : TypeId) (ok : List Value → List Value → Prop) : Prop where
  guard : P.eqGuardType P.depth t = false
  run : ∀ xs ys, ok xs ys → ∃ r : Bool, (∀ w, (Op.equalIn 10000 t (.agg xs.toArray) (.agg ys.toArray)).run P w = .ok r w) ∧ (r = true ↔ xs = ys)
  ev : ∀ xs ys, ok xs ys → EvNil P (Op.equalIn 10000 t (.agg xs.toArray) (.agg ys.toArray))
theorem ev_eqGuard {op : BinOp} {t : TypeId} {x y : Operand} {xs ys : Array Value} (hm : P.eqGuardType P.depth t = false) : EvNil P (eqGuard op t x y (.agg xs) (.agg ys)) := fun w es => by
  cases op <;> simp [eqGuard, hm]
section
variable {q : Bool} {n : NF} {W0 : GW} {Q : Exit → Act → GW → Prop} {F : Slots} {H : Heap} {L : List HProp} {ops : Array Oper} {rest : List Oper} {k : List Fr} {ty : TypeId} {pos : String} {aft : Array Edge} {d : Tmp} {g : Option (Nat × Bool)} {x y : Operand} {T T' : TypeId} {xs ys : List Value} {ok : List Value → List Value → Prop}
theorem pk_eqS {dst : Option Tmp} {a : Act} {w : GW} [h : TEqS P T ok] (hF : FrOk n a F) (hx : opv F x = some (.agg xs.toArray)) (hy : opv F y = some (.agg ys.toArray)) (ho : ok xs ys) (op : BinOp) (hop : op = .eql ∨ op = .neq) :
    ∃ r : Bool, (r = true ↔ xs = ys) ∧ (⟨dst, .binOp op T x y T', ty, pos, aft, g⟩ : Oper).pkV P a.eval w (.bool (if op = .neq then !r else r)) := by
  obtain ⟨r, h1, h2⟩ := h.run xs ys ho
  refine ⟨r, h2, fun Wr hsm w1 he hl hp _ => ?_⟩
  have hev := h.ev xs ys ho
  rcases hop with rfl | rfl
  · refine ⟨?_, fun e he' => ?_⟩
    · simp only [execOp, hF.opv hx, hF.opv hy]
      simp only [Sem.run_bind, run_eqGuard_agg _ _ _ _ _ _ _ h.guard, run_eql_struct, h1, Result.andThen_ok]
      simp
    · have : (execOp a.eval ⟨dst, .binOp .eql T x y T', ty, pos, aft, g⟩).events P w1 #[] = #[] := by
        simp only [execOp, hF.opv hx, hF.opv hy]
        refine evnil_bind (evnil_bind (ev_eqGuard h.guard) fun _ => ?_) (fun _ => evnil_pure _) w1 #[]
        simp only [binOp]
        exact evnil_bind hev fun _ => evnil_pure _
      rw [this] at he'; simp at he'
  · refine ⟨?_, fun e he' => ?_⟩
    · simp only [execOp, hF.opv hx, hF.opv hy]
      simp only [Sem.run_bind, run_eqGuard_agg _ _ _ _ _ _ _ h.guard, run_neq_struct, h1, Result.andThen_ok]
      simp
    · have : (execOp a.eval ⟨dst, .binOp .neq T x y T', ty, pos, aft, g⟩).events P w1 #[] = #[] := by
        simp only [execOp, hF.opv hx, hF.opv hy]
        refine evnil_bind (evnil_bind (ev_eqGuard h.guard) fun _ => ?_) (fun _ => evnil_pure _) w1 #[]
        simp only [binOp]
        exact evnil_bind hev fun _ => evnil_pure _
      rw [this] at he'; simp at he'
theorem ops_pkw {op : Op} {v : Value} {gv : Option (Value × Bool)} (hg : gval ops F g = some gv) [hb : GOk gv true] (hd : Nat.blt d n = true) (h : ∀ a w, FrOk n a F → StG W0 H w L → (⟨some d, op, ty, pos, aft, g⟩ : Oper).pkV P a.eval w v) (hk : Ops P n W0 Q ((d, v) :: F) H L q ops rest k) :
    Ops P n W0 Q F H L q ops (⟨some d, op, ty, pos, aft, g⟩ :: rest) k := by
  have hw : ∀ a, FrOk n a F → Region.wanted (⟨some d, op, ty, pos, aft, g⟩ : Oper) (Go.yielded ops a.tmps) = true := fun a hF => by
    cases g with
    | none => simp [Region.wanted]
    | some jw =>
      obtain ⟨j, w⟩ := jw
      obtain ⟨dj, u, hj, hu, hww, _⟩ := gval_spec (b := true) hg
      rw [hww rfl] at hu
      simp [Region.wanted, hF.yielded hj hu, vb]
  constructor
  cases q with
  | false =>
    intro a w hF hS
    unfold wpListV
    rw [if_pos (hw a hF)]
    exact wpV_of_pk (h a w hF hS) (hk.run _ _ (hF.put hd v) hS)
  | true => exact ⟨d, v, rfl, hd, .inl fun a w hF hS => ⟨hw a hF, .inr (h a w hF hS)⟩, hk.run⟩
theorem ops_eqS {p : Prop} [dp : Decidable p] {gv : Option (Value × Bool)} [h : TEqS P T ok] (hg : gval ops F g = some gv) [hb : GOk gv true] (hx : opv F x = some (.agg xs.toArray)) (hy : opv F y = some (.agg ys.toArray)) (ho : ok xs ys) (hp : p ↔ xs = ys)
    (hk : Ops P n W0 Q ((d, .bool (decide p)) :: F) H L q ops rest k) (hd : Nat.blt d n = true := by rfl) : Ops P n W0 Q F H L q ops (⟨some d, .binOp .eql T x y T', ty, pos, aft, g⟩ :: rest) k := by
  refine ops_pkw hg hd (fun a w hF hS => ?_) hk
  obtain ⟨r, h1, h2⟩ := pk_eqS (P := P) (T := T) (ok := ok) (dst := some d) (ty := ty) (pos := pos) (aft := aft) (g := g) (T' := T') (w := w) hF hx hy ho .eql (.inl rfl)
  have e : r = decide p := by rw [Bool.eq_iff_iff, h1, decide_eq_true_eq, hp]
  simpa [e] using h2
theorem ops_neS {p : Prop} [dp : Decidable p] {gv : Option (Value × Bool)} [h : TEqS P T ok] (hg : gval ops F g = some gv) [hb : GOk gv true] (hx : opv F x = some (.agg xs.toArray)) (hy : opv F y = some (.agg ys.toArray)) (ho : ok xs ys) (hp : p ↔ xs = ys)
    (hk : Ops P n W0 Q ((d, .bool (decide (¬ p))) :: F) H L q ops rest k) (hd : Nat.blt d n = true := by rfl) : Ops P n W0 Q F H L q ops (⟨some d, .binOp .neq T x y T', ty, pos, aft, g⟩ :: rest) k := by
  refine ops_pkw hg hd (fun a w hF hS => ?_) hk
  obtain ⟨r, h1, h2⟩ := pk_eqS (P := P) (T := T) (ok := ok) (dst := some d) (ty := ty) (pos := pos) (aft := aft) (g := g) (T' := T') (w := w) hF hx hy ho .neq (.inr rfl)
  have e : (!r) = decide (¬ p) := by
    rw [Bool.eq_iff_iff, decide_eq_true_eq, hp, ← h1]; simp
  simpa [e] using h2
end
end
end Go.X
