/- Lists compared, in order, good, cut short: the laws' own. -/
import Derived.Test.YtjkiioicjmaeoaaQMI
import Derived.Test.YtjkiioicjmaeoaaQMJ
import Derived.Laws.StructEq
set_option linter.unusedVariables false
set_option linter.unusedSimpArgs false
namespace Go.X
open Go Go.Sx Go.Conc Go.ConcN
def EvNil {α : Type} (P : Program) (e : Sem α) : Prop := ∀ w es, e.events P w es = es
section
variable {P : Program}
theorem evnil_bind {α β : Type} {x : Sem α} {f : α → Sem β} (h : EvNil P x) (hf : ∀ a, EvNil P (f a)) : EvNil P (x >>= f) := fun w es => by
  rw [Sem.events_bind]
  cases hr : x.run P w with
  | ok a w' => simp only [Result.evThen_ok]; rw [hf a, h]
  | halt e w' => simpa [Result.evThen] using h w es
theorem evnil_pure {α : Type} (a : α) : EvNil P (pure a : Sem α) := fun _ _ => rfl
structure FEq (P : Program) (d : Nat) (xs ys : Array Value) (f : Field) : Prop where
  ex : ∃ a b r, (∀ w, (part f.type xs f.offset).run P w = .ok a w) ∧ EvNil P (part f.type xs f.offset) ∧ (∀ w, (part f.type ys f.offset).run P w = .ok b w) ∧ EvNil P (part f.type ys f.offset) ∧ (∀ w, (Op.equalIn d f.type a b).run P w = .ok r w) ∧ EvNil P (Op.equalIn d f.type a b)
theorem evnil_struct (d : Nat) (t : TypeId) (xs ys : Array Value) (ht : P.underlying t = some (.struct (P.fieldsOf t))) (hp : P.stoodInHeld t = false) (hf : ∀ f ∈ (P.fieldsOf t).toList, FEq P d xs ys f) : EvNil P (Op.equalIn (d + 1) t (.agg xs) (.agg ys)) := by
  intro w es
  simp only [Op.equalIn, Sem.events_bind, run_underlying ht, events_underlying, Result.evThen_ok, run_program, events_program, Sem.run_bind, Result.andThen_ok, hp, Bool.false_eq_true, if_false]
  rw [← Array.forIn_toList]
  revert hf
  generalize (P.fieldsOf t).toList = fs
  clear ht
  intro hf
  induction fs generalizing w es with
  | nil => simp
  | cons f fs ih =>
    obtain ⟨a, b, r, h1, h2, h3, h4, h5, h6⟩ := (hf f (List.mem_cons_self ..)).ex
    have ih' := fun w es => ih w es fun f hf' => hf f (List.mem_cons_of_mem _ hf')
    simp only [List.forIn_cons, Sem.events_bind, Sem.run_bind, Sem.run_ite, Sem.events_ite]
    split
    · simp only [h1, h2 _ _, h3, h4 _ _, h5, h6 _ _, Result.andThen_ok, Result.evThen_ok]
      cases r
      · simp
      · simp only [Bool.not_true, Bool.false_eq_true, if_false, Sem.run_pure, Sem.events_pure, Result.andThen_ok, Result.evThen_ok]
        simpa [Sem.events_bind] using ih' w es
    · simp only [Sem.run_pure, Sem.events_pure, Result.andThen_ok, Result.evThen_ok]
      simpa [Sem.events_bind] using ih' w es
theorem part_run {t : TypeId} {cs : Array Value} {off : Nat} {v : Value} [ht : TAgg P t false] (hv : cs[off]? = some v) (w : World) : (part t cs off).run P w = .ok v w := by simp [part, ht.run, hv]
theorem part_ev {t : TypeId} {cs : Array Value} {off : Nat} {v : Value} [ht : TAgg P t false] (hv : cs[off]? = some v) : EvNil P (part t cs off) := fun w es => by simp [part, ht.run, hv]
theorem feq_str {d : Nat} {xs ys : Array Value} {f : Field} {a b : ByteArray} (hu : P.underlying f.type = some .string) [TAgg P f.type false] (hx : xs[f.offset]? = some (.string a)) (hy : ys[f.offset]? = some (.string b)) : FEq P (d + 1) xs ys f :=
  ⟨_, _, a == b, part_run hx, part_ev hx, part_run hy, part_ev hy, fun w => by simp [Op.equalIn, run_underlying hu], fun w es => by simp [Op.equalIn, run_underlying hu]⟩
theorem feq_int {d : Nat} {xs ys : Array Value} {f : Field} {k : IntKind} {a b : Int} (hu : P.underlying f.type = some (.int k)) [TAgg P f.type false] (hx : xs[f.offset]? = some (.int k a)) (hy : ys[f.offset]? = some (.int k b)) : FEq P (d + 1) xs ys f :=
  ⟨_, _, a == b, part_run hx, part_ev hx, part_run hy, part_ev hy, fun w => by simp [Op.equalIn, run_underlying hu], fun w es => by simp [Op.equalIn, run_underlying hu]⟩
theorem feq_bool {d : Nat} {xs ys : Array Value} {f : Field} {a b : Bool} (hu : P.underlying f.type = some .bool) [TAgg P f.type false] (hx : xs[f.offset]? = some (.bool a)) (hy : ys[f.offset]? = some (.bool b)) : FEq P (d + 1) xs ys f :=
  ⟨_, _, a == b, part_run hx, part_ev hx, part_run hy, part_ev hy, fun w => by simp [Op.equalIn, run_underlying hu], fun w es => by simp [Op.equalIn, run_underlying hu]⟩
class TEqS (P : Program) (t : TypeId) (ok : List Value → List Value → Prop) : Prop where
  guard : P.eqGuardType P.depth t = false
  run : ∀ xs ys, ok xs ys → ∃ r : Bool, (∀ w, (Op.equalIn 10000 t (.agg xs.toArray) (.agg ys.toArray)).run P w = .ok r w) ∧ (r = true ↔ xs = ys)
  ev : ∀ xs ys, ok xs ys → EvNil P (Op.equalIn 10000 t (.agg xs.toArray) (.agg ys.toArray))
theorem ev_eqGuard {op : BinOp} {t : TypeId} {x y : Operand} {xs ys : Array Value} (hm : P.eqGuardType P.depth t = false) : EvNil P (eqGuard op t x y (.agg xs) (.agg ys)) := fun w es => by
  cases op <;> simp [eqGuard, hm]
section
variable {q : Bool} {n : NF} {W0 : GW} {Q : Exit → Act → GW → Prop} {F : Slots} {H : Heap} {L : List HProp} {ops : Array Oper} {rest : List Oper} {k : List Fr} {ty : TypeId} {pos : String} {aft : Array Edge} {d : Tmp} {g : Option (Nat × Bool)} {x y : Operand} {T T' : TypeId} {xs ys : List Value} {ok : List Value → List Value → Prop}
theorem pk_eqS {dst : Option Tmp} {a : Act} {w : GW} [h : TEqS P T ok] (hF : FrOk n a F) (hx : opv F x = some (.agg xs.toArray)) (hy : opv F y = some (.agg ys.toArray)) (ho : ok xs ys) (op : BinOp) (hop : op = .eql ∨ op = .neq) :
    ∃ r : Bool, (r = true ↔ xs = ys) ∧ (⟨dst, .binOp op T x y T', ty, pos, aft, g⟩ : Oper).pkV P a.eval w (.bool (if op = .neq then !r else r)) := by
  obtain ⟨r, h1, h2⟩ := h.run xs ys ho
  refine ⟨r, h2, fun Wr hsm w1 he hl hp _ => ?_⟩
  have hev := h.ev xs ys ho
  rcases hop with rfl | rfl
  · refine ⟨?_, fun e he' => ?_⟩
    · simp only [execOp, hF.opv hx, hF.opv hy]
      simp only [Sem.run_bind, run_eqGuard_agg _ _ _ _ _ _ _ h.guard, run_eql_struct, h1, Result.andThen_ok]
      simp
    · have : (execOp a.eval ⟨dst, .binOp .eql T x y T', ty, pos, aft, g⟩).events P w1 #[] = #[] := by
        simp only [execOp, hF.opv hx, hF.opv hy]
        refine evnil_bind (evnil_bind (ev_eqGuard h.guard) fun _ => ?_) (fun _ => evnil_pure _) w1 #[]
        simp only [binOp]
        exact evnil_bind hev fun _ => evnil_pure _
      rw [this] at he'; simp at he'
  · refine ⟨?_, fun e he' => ?_⟩
    · simp only [execOp, hF.opv hx, hF.opv hy]
      simp only [Sem.run_bind, run_eqGuard_agg _ _ _ _ _ _ _ h.guard, run_neq_struct, h1, Result.andThen_ok]
      simp
    · have : (execOp a.eval ⟨dst, .binOp .neq T x y T', ty, pos, aft, g⟩).events P w1 #[] = #[] := by
        simp only [execOp, hF.opv hx, hF.opv hy]
        refine evnil_bind (evnil_bind (ev_eqGuard h.guard) fun _ => ?_) (fun _ => evnil_pure _) w1 #[]
        simp only [binOp]
        exact evnil_bind hev fun _ => evnil_pure _
      rw [this] at he'; simp at he'
theorem ops_pkw {op : Op} {v : Value} {gv : Option (Value × Bool)} (hg : gval ops F g = some gv) [hb : GOk gv true] (hd : Nat.blt d n = true) (h : ∀ a w, FrOk n a F → StG W0 H w L → (⟨some d, op, ty, pos, aft, g⟩ : Oper).pkV P a.eval w v) (hk : Ops P n W0 Q ((d, v) :: F) H L q ops rest k) :
    Ops P n W0 Q F H L q ops (⟨some d, op, ty, pos, aft, g⟩ :: rest) k := by
  have hw : ∀ a, FrOk n a F → Region.wanted (⟨some d, op, ty, pos, aft, g⟩ : Oper) (Go.yielded ops a.tmps) = true := fun a hF => by
    cases g with
    | none => simp [Region.wanted]
    | some jw =>
      obtain ⟨j, w⟩ := jw
      obtain ⟨dj, u, hj, hu, hww, _⟩ := gval_spec (b := true) hg
      rw [hww rfl] at hu
      simp [Region.wanted, hF.yielded hj hu, vb]
  constructor
  cases q with
  | false =>
    intro a w hF hS
    unfold wpListV
    rw [if_pos (hw a hF)]
    exact wpV_of_pk (h a w hF hS) (hk.run _ _ (hF.put hd v) hS)
  | true => exact ⟨d, v, rfl, hd, .inl fun a w hF hS => ⟨hw a hF, .inr (h a w hF hS)⟩, hk.run⟩
theorem ops_eqS {p : Prop} [dp : Decidable p] {gv : Option (Value × Bool)} [h : TEqS P T ok] (hg : gval ops F g = some gv) [hb : GOk gv true] (hx : opv F x = some (.agg xs.toArray)) (hy : opv F y = some (.agg ys.toArray)) (ho : ok xs ys) (hp : p ↔ xs = ys)
    (hk : Ops P n W0 Q ((d, .bool (decide p)) :: F) H L q ops rest k) (hd : Nat.blt d n = true := by rfl) : Ops P n W0 Q F H L q ops (⟨some d, .binOp .eql T x y T', ty, pos, aft, g⟩ :: rest) k := by
  refine ops_pkw hg hd (fun a w hF hS => ?_) hk
  obtain ⟨r, h1, h2⟩ := pk_eqS (P := P) (T := T) (ok := ok) (dst := some d) (ty := ty) (pos := pos) (aft := aft) (g := g) (T' := T') (w := w) hF hx hy ho .eql (.inl rfl)
  have e : r = decide p := by rw [Bool.eq_iff_iff, h1, decide_eq_true_eq, hp]
  simpa [e] using h2
theorem ops_neS {p : Prop} [dp : Decidable p] {gv : Option (Value × Bool)} [h : TEqS P T ok] (hg : gval ops F g = some gv) [hb : GOk gv true] (hx : opv F x = some (.agg xs.toArray)) (hy : opv F y = some (.agg ys.toArray)) (ho : ok xs ys) (hp : p ↔ xs = ys)
    (hk : Ops P n W0 Q ((d, .bool (decide (¬ p))) :: F) H L q ops rest k) (hd : Nat.blt d n = true := by rfl) : Ops P n W0 Q F H L q ops (⟨some d, .binOp .neq T x y T', ty, pos, aft, g⟩ :: rest) k := by
  refine ops_pkw hg hd (fun a w hF hS => ?_) hk
  obtain ⟨r, h1, h2⟩ := pk_eqS (P := P) (T := T) (ok := ok) (dst := some d) (ty := ty) (pos := pos) (aft := aft) (g := g) (T' := T') (w := w) hF hx hy ho .neq (.inr rfl)
  have e : (!r) = decide (¬ p) := by
    rw [Bool.eq_iff_iff, decide_eq_true_eq, hp, ← h1]; simp
  simpa [e] using h2
end
end
end Go.X
namespace Go.Proofs.Ytjkiioicjmaeoaa
open Go Go.Sx Go.X Go.Proofs
def okEq (xs ys : List Value) : Prop := ∃ a b : Entry, xs = a.cv ∧ ys = b.cv
def okPq (xs ys : List Value) : Prop := ∃ a b : Pair, xs = a.cv ∧ ys = b.cv
theorem cvE_inj {a b : Entry} : a.cv = b.cv ↔ a = b := by
  constructor
  · intro h
    simp only [Entry.cv, List.cons.injEq, Value.string.injEq, Value.int.injEq, Value.bool.injEq, true_and, and_true] at h
    obtain ⟨h1, h2, h3, h4⟩ := h
    cases a; cases b; simp_all
  · rintro rfl; rfl
theorem cvP_inj {a b : Pair} : a.cv = b.cv ↔ a = b := by
  constructor
  · intro h
    simp only [Pair.cv, List.cons.injEq, Value.string.injEq, and_true] at h
    obtain ⟨h1, h2⟩ := h
    cases a; cases b; simp_all
  · rintro rfl; rfl
theorem toList_iff {s t : ByteArray} : s.toList = t.toList ↔ s = t := by
  have := bytes_eq s t
  rw [Bool.eq_iff_iff] at this
  simpa using this
instance : TEqS Try.prog 37 okEq := ⟨by kernel_rfl, fun xs ys ⟨a, b, e1, e2⟩ => by
    subst e1 e2
    refine ⟨decide (a = b), fun w => ?_, by rw [decide_eq_true_eq, cvE_inj]⟩
    have u3 := Try.underlying3
    have a3 := Try.isAgg3
    have z3 := Try.sizeOf3
    have u9 := Try.underlying9
    have a9 := Try.isAgg9
    have z9 := Try.sizeOf9
    have u4 := Try.underlying4
    have a4 := Try.isAgg4
    have z4 := Try.sizeOf4
    have hS : Try.prog.underlying 37 = some (.struct (Try.prog.fieldsOf 37)) := by kernel_rfl
    have hp : Try.prog.stoodInHeld 37 = false := by kernel_rfl
    rw [show (10000 : Nat) = 9999 + 1 from rfl, run_equalIn_agg w 9999 37 _ _ hS hp]
    simp only [Program.fieldsOf, Try.underlying37]
    go_simp
    simp only [toList_iff]
    cases a; cases b
    simp only [Entry.mk.injEq]
    repeat' split
    all_goals simp_all, fun xs ys ⟨a, b, e1, e2⟩ => by
    subst e1 e2
    have hS : Try.prog.underlying 37 = some (.struct (Try.prog.fieldsOf 37)) := by kernel_rfl
    have hp : Try.prog.stoodInHeld 37 = false := by kernel_rfl
    rw [show (10000 : Nat) = 9999 + 1 from rfl]
    refine evnil_struct 9999 37 _ _ hS hp fun f hf => ?_
    simp only [Program.fieldsOf, Try.underlying37, List.mem_cons, List.not_mem_nil, or_false] at hf
    rcases hf with rfl | rfl | rfl | rfl
    · exact feq_str Try.underlying9 rfl rfl
    · exact feq_int Try.underlying3 rfl rfl
    · exact feq_bool Try.underlying4 rfl rfl
    · exact feq_str Try.underlying9 rfl rfl⟩
instance : TEqS Try.prog 50 okPq := ⟨by kernel_rfl, fun xs ys ⟨a, b, e1, e2⟩ => by
    subst e1 e2
    refine ⟨decide (a = b), fun w => ?_, by rw [decide_eq_true_eq, cvP_inj]⟩
    have u3 := Try.underlying3
    have a3 := Try.isAgg3
    have z3 := Try.sizeOf3
    have u9 := Try.underlying9
    have a9 := Try.isAgg9
    have z9 := Try.sizeOf9
    have u4 := Try.underlying4
    have a4 := Try.isAgg4
    have z4 := Try.sizeOf4
    have hS : Try.prog.underlying 50 = some (.struct (Try.prog.fieldsOf 50)) := by kernel_rfl
    have hp : Try.prog.stoodInHeld 50 = false := by kernel_rfl
    rw [show (10000 : Nat) = 9999 + 1 from rfl, run_equalIn_agg w 9999 50 _ _ hS hp]
    simp only [Program.fieldsOf, Try.underlying50]
    go_simp
    simp only [toList_iff]
    cases a; cases b
    simp only [Pair.mk.injEq]
    repeat' split
    all_goals simp_all, fun xs ys ⟨a, b, e1, e2⟩ => by
    subst e1 e2
    have hS : Try.prog.underlying 50 = some (.struct (Try.prog.fieldsOf 50)) := by kernel_rfl
    have hp : Try.prog.stoodInHeld 50 = false := by kernel_rfl
    rw [show (10000 : Nat) = 9999 + 1 from rfl]
    refine evnil_struct 9999 50 _ _ hS hp fun f hf => ?_
    simp only [Program.fieldsOf, Try.underlying50, List.mem_cons, List.not_mem_nil, or_false] at hf
    rcases hf with rfl | rfl
    · exact feq_str Try.underlying9 rfl rfl
    · exact feq_str Try.underlying9 rfl rfl⟩
abbrev LB (H : Heap) (v : Value) (l : List Entry) : Prop := SlB rEntry 4 48 H v l
abbrev LsB (H : Heap) (v : Value) (ls : List (List Entry)) : Prop := SlB (rSl rEntry 4 48) 1 24 H v ls
theorem LB.len {H : Heap} {v : Value} {l : List Entry} (h : LB H v l) : l.length ≤ cap47 := by have := h.2; omega
theorem rBefore_spec {W0 : GW} {H : Heap} {a b : Entry} : Ct Try.prog 15 #[vE a, vE b] W0 H [] (fun r H' B => r = .bool (decide (Bef a b)) ∧ B = [] ∧ H' = H) := by
  refine Ct.go (vs := [_, _]) fun R => ?_
  refine walk ?_
  refine ops_box rfl rfl fun p1 _ => ?_
  refine ops_box rfl rfl fun p2 _ => ?_
  refine walk ?_
  by_cases h1 : SLt a.Key b.Key
  · rw [decide_eq_true h1]
    refine walk ?_
    refine fin0 ?_
    exact ⟨by rw [decide_eq_true (p := Bef a b) (.inl h1)], rfl, rfl⟩
  · rw [decide_eq_false h1]
    refine walk ?_
    by_cases h2 : a.Key = b.Key
    · rw [decide_eq_true h2]
      refine walk ?_
      refine fin0 ?_
      exact ⟨by congr 1; exact decide_eq_decide.2 ⟨fun h => .inr ⟨h2, h⟩, fun h => (h.resolve_left h1).2⟩, rfl, rfl⟩
    · rw [decide_eq_false h2]
      refine walk ?_
      refine fin0 ?_
      exact ⟨by rw [decide_eq_false (p := Bef a b) (fun h => h.elim h1 fun h => h2 h.1)], rfl, rfl⟩
theorem rOrdered_spec {W0 : GW} {H : Heap} {v : Value} {l : List Entry} (hl : SlR rEntry 4 H v l) (hsz : l.length ≤ cap47) : Ct Try.prog 19 #[v] W0 H [] (fun r H' B => (∃ b, r = .bool b ∧ (b = true ↔ Ordd l)) ∧ B = [] ∧ H' = H) := by
  refine Ct.go (vs := [_]) fun R => ?_
  obtain ⟨b0, c0, rfl, hc0, hd0⟩ := hl.shape
  refine walk ?_
  refine ex_loop (fun i : Nat => 1 ≤ i ∧ i ≤ max 1 l.length ∧ ∀ j (h : j + 1 < l.length), j + 1 < i → Bef l[j] l[j + 1]) (fun i => [(3, .int .i64 i), (0, .slice b0 l.length c0)]) (fun _ => H) (fun _ => R) (fun i => l.length + 1 - i) 1 ⟨Nat.le_refl _, by omega, fun j h hj => by omega⟩ fun i ⟨hi1, hi2, hI⟩ K hK => ?_
  by_cases hlt : i < l.length
  · refine walk ?_
    refine ops_ixp (j := i - 1) (hi := ⟨by omega⟩) rfl rfl hl (by omega) fun b1 o1 c1 h1 h2 => ?_
    obtain ⟨rfl, -⟩ := h2
    refine ops_ldNH rfl rfl h1 rfl ?_
    refine walk ?_
    refine ops_ixp rfl rfl hl hlt fun b2 o2 c2 h3 h4 => ?_
    obtain ⟨rfl, -⟩ := h4
    refine ops_ldNH rfl rfl h3 rfl ?_
    refine ops_pcall rfl rfl rBefore_spec ?_
    refine walk ?_
    refine ex_if rfl (fun h => ?_) (fun h => ?_)
    · refine walk ?_
      refine fin0 ?_
      refine ⟨⟨false, rfl, fun h => (by cases h), fun ho => absurd ?_ h⟩, rfl, rfl⟩
      have := ho (i - 1) (by omega)
      have e : i - 1 + 1 = i := by omega
      simpa only [e] using this
    · refine walk ?_
      exact out_next hK (i + 1) ⟨by omega, by omega, fun j hj hji => by
        by_cases e : j + 1 = i
        · subst e
          have := Decidable.not_not.1 h
          simpa using this
        · exact hI j hj (by omega)⟩
  · refine walk ?_
    refine fin0 ?_
    exact ⟨⟨true, rfl, fun _ j h => hI j h (by omega), fun _ => rfl⟩, rfl, rfl⟩
theorem same_spec {W0 : GW} {H : Heap} {v1 v2 : Value} {l1 l2 : List Entry} (h1 : LB H v1 l1) (h2 : LB H v2 l2) : Ct Try.prog 14 #[v1, v2] W0 H [] (fun r H' B => r = .bool (decide (l1 = l2)) ∧ B = [] ∧ H' = H) := by
  refine Ct.go (vs := [_, _]) fun R => ?_
  have s1 := h1.len
  have s2 := h2.len
  simp only [cap47] at s1 s2
  obtain ⟨b1, c1, rfl, k1, k1'⟩ := h1.1.shape
  obtain ⟨b2, c2, rfl, k2, k2'⟩ := h2.1.shape
  refine walk ?_
  refine ex_if rfl (fun h => ?_) (fun h => ?_)
  · refine walk ?_
    refine fin0 ?_
    exact ⟨by rw [decide_eq_false]; rintro rfl; exact h rfl, rfl, rfl⟩
  · have hl : l1.length = l2.length := by omega
    refine walk ?_
    refine ex_loop (fun i : Nat => i ≤ l1.length ∧ l1.take i = l2.take i) (fun i => [(13, .int .i64 i), (12, .int .i64 l1.length), (0, .slice b1 l1.length c1), (1, .slice b2 l2.length c2)]) (fun _ => H) (fun _ => R) (fun i => l1.length - i) 0 ⟨Nat.zero_le _, by simp⟩ fun i ⟨hi, hI⟩ K hK => ?_
    by_cases hlt : i < l1.length
    · have hlt2 : i < l2.length := by omega
      refine walk ?_
      refine ops_ixp rfl rfl h1.1 hlt fun x1 o1 d1 p1 p2 => ?_
      obtain ⟨rfl, -⟩ := p2
      refine ops_ldNH rfl rfl p1 rfl ?_
      refine walk ?_
      refine ops_ixp rfl rfl h2.1 hlt2 fun x2 o2 d2 q1 q2 => ?_
      obtain ⟨rfl, -⟩ := q2
      refine ops_ldNH rfl rfl q1 rfl ?_
      refine ops_neS (ok := okEq) (p := l1[i] = l2[i]) rfl rfl rfl ⟨_, _, rfl, rfl⟩ cvE_inj.symm ?_
      refine walk ?_
      refine ex_if rfl (fun hne => ?_) (fun heq => ?_)
      · refine walk ?_
        refine fin0 ?_
        exact ⟨by rw [decide_eq_false]; rintro rfl; exact hne rfl, rfl, rfl⟩
      · refine walk ?_
        refine out_next hK (i + 1) ⟨hlt, ?_⟩
        rw [List.take_succ_eq_append_getElem hlt, List.take_succ_eq_append_getElem hlt2, hI, Decidable.not_not.1 heq]
    · refine walk ?_
      refine fin0 ?_
      refine ⟨by rw [decide_eq_true]; have e : i = l1.length := by omega
                 subst e; rw [List.take_length, hl, List.take_length] at hI; exact hI, rfl, rfl⟩
theorem good_spec {W0 : GW} {H : Heap} {v : Value} {ls : List (List Entry)} (hv : LsB H v ls) : Ct Try.prog 12 #[v] W0 H [] (fun r H' B => (∃ b, r = .bool b ∧ (b = true ↔ ∀ l ∈ ls, Ordd l)) ∧ B = [] ∧ H' = H) := by
  refine Ct.go (vs := [_]) fun R => ?_
  obtain ⟨b0, c0, rfl, hc0, hd0⟩ := hv.1.shape
  refine walk ?_
  refine ex_loop (fun i : Nat => i ≤ ls.length ∧ ∀ j (h : j < ls.length), j < i → Ordd ls[j]) (fun i => [(6, .int .i64 i), (5, .int .i64 ls.length), (0, .slice b0 ls.length c0)]) (fun _ => H) (fun _ => R) (fun i => ls.length - i) 0 ⟨Nat.zero_le _, fun j h hj => by omega⟩ fun i ⟨hi, hI⟩ K hK => ?_
  by_cases hlt : i < ls.length
  · refine walk ?_
    refine ops_ixp rfl rfl hv.1 hlt fun b1 o1 c1 h1 h2 => ?_
    obtain ⟨v1, rfl, h2⟩ := h2
    refine ops_ldH0 rfl rfl h1 rfl ?_
    refine ops_call rfl rfl (rOrdered_spec h2.1 (LB.len h2)) fun r H' B hl ⟨⟨b, er, hb⟩, eB, eH⟩ => ?_
    subst er eB eH
    cases b with
    | false =>
      refine walk ?_
      refine fin0 ?_
      exact ⟨⟨false, rfl, fun h => (by cases h), fun h => (by have := hb.2 (h _ (List.getElem_mem hlt)); cases this)⟩, rfl, rfl⟩
    | true =>
      refine walk ?_
      exact out_next hK (i + 1) ⟨hlt, fun j h hj => by
        by_cases e : j = i
        · subst e; exact hb.1 rfl
        · exact hI j h (by omega)⟩
  · refine walk ?_
    refine fin0 ?_
    exact ⟨⟨true, rfl, fun _ l hl => by
      obtain ⟨j, hj, rfl⟩ := List.getElem_of_mem hl
      exact hI j hj (by omega), fun _ => rfl⟩, rfl, rfl⟩
theorem SlR.pre {H : Heap} {α : Type} {R : Rd α} {sz : Nat} [RdOk R sz] {b : Option Addr} {m cap k : Nat} {xs : List α} (h : SlR R sz H (.slice b m cap) xs) (hk : k ≤ xs.length) : SlR R sz H (.slice b k cap) (xs.take k) := by
  have := h.slc (l := 0) (h := k) (Nat.zero_le _) hk
  have e : Option.map (fun x : Addr => x.add 0) b = b := by
    cases b with
    | none => rfl
    | some a => cases a; simp [Addr.add]
  simpa [slc, e] using this
theorem one_spec {W0 : GW} {H : Heap} {v : Value} {l : List Entry} (hv : LB H v l) : Ct Try.prog 16 #[v] W0 H [] (fun r H' B => LB H' r (l.take 60) ∧ B = []) := by
  refine Ct.go (vs := [_]) fun R => ?_
  obtain ⟨b0, c0, rfl, hc0, hd0⟩ := hv.1.shape
  refine walk ?_
  refine ops_mk0 (w := 48) rEntry rfl fun b => ?_
  refine walk ?_
  have e : (min (l.length : Int) 60).toNat = min l.length 60 := by omega
  rw [e]
  have ht : l.take (min l.length 60) = l.take 60 := by
    rcases Nat.le_total l.length 60 with h | h
    · rw [Nat.min_eq_left h, List.take_length, List.take_of_length_le h]
    · rw [Nat.min_eq_right h]
  have hy := SlR.pre hv.1 (k := min l.length 60) (Nat.min_le_left _ _)
  rw [ht] at hy
  have hs := hv.2
  refine ops_appS rfl rfl hy (by simp only [List.length_nil, List.length_take]; omega) fun base cap => ?_
  refine walk ?_
  refine out_freeze (.slice base (([] : List Entry).length + (l.take 60).length) cap) fun H' hl q => ?_
  refine fin0 ?_
  exact ⟨by simpa using q, rfl⟩
def cutL (ls : List (List Entry)) : List (List Entry) := (ls.take 8).map fun l => l.take 60
theorem cutL_take {ls : List (List Entry)} {i : Nat} (h : i ≤ 8) : cutL (ls.take i) = (ls.take i).map fun l => l.take 60 := by
  unfold cutL; rw [List.take_take, Nat.min_eq_right h]
theorem cutL_succ {ls : List (List Entry)} {i : Nat} (h : i < 8) (hlt : i < ls.length) : cutL (ls.take i) ++ [ls[i].take 60] = cutL (ls.take (i + 1)) := by
  rw [cutL_take (by omega), cutL_take h, List.take_succ_eq_append_getElem hlt, List.map_append]; rfl
theorem cutL_end {ls : List (List Entry)} {i : Nat} (h : i = ls.length ∨ i = 8) : cutL (ls.take i) = cutL ls := by
  rcases h with rfl | rfl
  · rw [List.take_length]
  · unfold cutL; rw [List.take_take]; rfl
theorem cut_spec {W0 : GW} {H : Heap} {v : Value} {ls : List (List Entry)} (hv : LsB H v ls) : Ct Try.prog 9 #[v] W0 H [] (fun r H' B => LsB H' r (cutL ls) ∧ B = []) := by
  refine Ct.go (vs := [_]) fun R => ?_
  obtain ⟨b0, c0, rfl, hc0, hd0⟩ := hv.1.shape
  have hsz := hv.2
  refine walk ?_
  refine ex_L (L' := ownS (rSl rEntry 4 48) 1 24 25 H (.slice none 0 0) [] :: R) ownS_nil ?_
  refine ex_loop (fun s : Nat × Heap × Value => s.1 ≤ ls.length ∧ s.1 ≤ 8 ∧ H.le s.2.1) (fun s => [(4, .int .i64 s.1), (3, s.2.2), (0, .slice b0 ls.length c0)]) (fun s => s.2.1) (fun s => ownS (rSl rEntry 4 48) 1 24 25 s.2.1 s.2.2 (cutL (ls.take s.1)) :: R) (fun s => ls.length - s.1) (0, H, .slice none 0 0) ⟨Nat.zero_le _, Nat.zero_le _, .refl _⟩ fun ⟨i, H1, s3⟩ ⟨hi, hi8, hH⟩ K hK => ?_
  simp only at hi hi8 hH
  dsimp only
  by_cases hlt : i < ls.length
  · by_cases hlt8 : i < 8
    · have hv1 := hv.mono hH
      refine walk ?_
      refine ops_ixp rfl rfl hv1.1 hlt fun b1 o1 c1 h1 h2 => ?_
      obtain ⟨v1, rfl, h2⟩ := h2
      refine ops_ldH0 rfl rfl h1 rfl ?_
      refine ops_call rfl rfl (one_spec h2) fun r H' B hl ⟨er, eB⟩ => ?_
      subst eB
      obtain ⟨rb, rc, hr, _, _⟩ := er.1.shape
      rw [hr] at er ⊢
      refine ops_app1 (y := ls[i].take 60) rfl rfl rfl ⟨_, rfl, er⟩ (by simp only [cutL, List.length_map, List.length_take]; unfold cap47; omega) fun b2 cap => ?_
      refine walk ?_
      refine out_next hK (i + 1, H', .slice b2 _ cap) ⟨hlt, hlt8, hH.trans hl⟩ (hs := ?_)
      dsimp only
      rw [cutL_succ hlt8 hlt]
      exact .refl _
    · refine walk ?_
      rw [cutL_end (i := i) (.inr (by omega))]
      refine out_freeze s3 fun H' hl q => ?_
      refine fin0 ?_
      exact ⟨q, rfl⟩
  · refine walk ?_
    rw [cutL_end (i := i) (.inl (by omega))]
    refine out_freeze s3 fun H' hl q => ?_
    refine fin0 ?_
    exact ⟨q, rfl⟩
def MrgR (n : Int) (ls : List (List Entry)) (H : Heap) (r : Value) : Prop := ∃ s code res, r = .tuple #[s, .int .i64 code] ∧ LB H s res ∧ ((¬ (∀ l ∈ ls, Ordd l) ∧ res = [] ∧ code = 60) ∨ ((∀ l ∈ ls, Ordd l) ∧ code = 0 ∧ Mrg n ls [] res))
theorem RL.imp {α : Type} {R R' : Rd α} {H : Heap} (h : ∀ c x, R H c x → R' H c x) : ∀ {cs : List Value} {xs : List α}, RL R H cs xs → RL R' H cs xs
  | _, [], a => a
  | _, _ :: _, ⟨c, r, e, a, b⟩ => ⟨c, r, e, h _ _ a, RL.imp h b⟩
theorem LsB.lst {H : Heap} {v : Value} {ls : List (List Entry)} (h : LsB H v ls) : SlR rLst 1 H v ls := by
  obtain ⟨⟨cs, a, b⟩, _⟩ := h
  exact ⟨cs, a, RL.imp (fun c x ⟨v, e, hs⟩ => ⟨v, e, hs.1⟩) b⟩
theorem LsB.lens {H : Heap} {v : Value} {ls : List (List Entry)} (h : LsB H v ls) : ∀ l ∈ ls, l.length ≤ cap47 :=
  h.1.all fun _ _ _ ⟨v, e, hs⟩ => LB.len hs
theorem merge_spec {W0 : GW} {H : Heap} {v : Value} {ls : List (List Entry)} (hs : W0.s = .solo) (hv : LsB H v ls) (htot : tot ls * 48 ≤ cap47) (hlen : ls.length + 2 < 2147483648) : Ct Try.prog 10 #[v] W0 H [] (fun r H' B => MrgR 9223372036854775807 ls H' r ∧ B = []) := by
  refine Ct.go (vs := [_]) fun R => ?_
  refine walk ?_
  refine ops_call rfl rfl (first_spec hs hv.lst hlen hv.lens htot) fun r H' B hl ⟨eH, hh⟩ => ?_
  subst eH
  rcases hh with ⟨h1, rfl, rfl⟩ | ⟨h1, s, res, h2, rfl, rfl⟩
  · refine walk ?_
    refine fin0 ?_
    exact ⟨⟨_, _, [], rfl, ⟨SlR.nil _ _ _ _ _ (by decide), by simp⟩, .inl ⟨h1, rfl, rfl⟩⟩, rfl⟩
  · refine walk ?_
    refine out_freeze s fun H' hl q => ?_
    refine fin0 ?_
    exact ⟨⟨_, _, _, rfl, q, .inr ⟨h1, rfl, h2⟩⟩, rfl⟩
end Go.Proofs.Ytjkiioicjmaeoaa
