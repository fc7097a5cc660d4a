/- A range over a map by what lies in memory, whatever the keys. No program in sight. -/
import Derived.Sort.MapsRangeIn
import Derived.RangeFuncGives
import Derived.Sort.KeysCollected
set_option linter.unusedVariables false
set_option linter.unusedSimpArgs false
namespace Go.Proofs.YtkhbfjkioehgfaaGreatDoor
open Go Go.Proofs Go.RowKit Go.Maps Go.MapKept Go.ChangeMaps Go.WideShapes
section
variable {F : Fence} {n : Nat} {P : Program} (w : World) {ops : Array Oper} {rest : List Oper} {o : Oper} {a : Act} {Q : Exit → Act → World → Prop}
/-- range m -/
theorem in_range_raw (hg : o.guard = none) (m : Operand) (t : TypeId) (hop : o.op = Op.range t m) (k e : TypeId) (ht : P.underlying t = some (.map k e)) (b : Nat) (es : Array MapEntry) (clock : Nat)
    (hm : a.eval m = .map (some b)) (hb : w.heap[b]? = some (.map es clock))
    (hK : wpListIn F n P ops Q rest (a.put o.dst (.pointer (some ⟨w.heap.size, 0, none⟩))) (w.alloc (.mapIter (some b) clock #[] clock))) :
    wpListIn F n P ops Q (o :: rest) a w := by
  refine wpListIn_plain hg fun K' hK' => ?_
  have hrun := run_range_map w t k e b es clock ht hb
  unfold Oper.wpIn
  refine ⟨?_, ?_⟩
  · simp [Oper.about, hop]
  · rw [Oper.semAt_plain F _ _ (by rw [hop]; intro c hc'; cases hc')]
    simp [execOp, hop, hm, hrun, Result.andThen]
    exact hK' _ _ hK
/-- the step -/
theorem in_next_raw (hg : o.guard = none) (it : Operand) (hop : o.op = Op.next it false) (b r : Nat) (es : Array MapEntry) (clock since c0 : Nat) (seen : Array Nat)
    (hit : a.eval it = .pointer (some ⟨r, 0, none⟩)) (hr : w.heap[r]? = some (.mapIter (some b) since seen c0)) (hb : w.heap[b]? = some (.map es clock)) (hold : ∀ x ∈ es.toList, x.born < since) (hsc : since ≤ c0)
    (hDone : (leftOf es seen).size = 0 → wpListIn F n P ops Q rest (a.put o.dst (.tuple #[.bool false])) w)
    (hMore : ∀ e ∈ (leftOf es seen).toList, ∀ w' : World, w'.heap[r]? = some (.mapIter (some b) since (seen.push e.born) clock) → w.grownBy w' (some r) → w'.heap.size = w.heap.size →
      wpListIn F n P ops Q rest (a.put o.dst (.tuple #[.bool true, e.key, e.val])) w') :
    wpListIn F n P ops Q (o :: rest) a w := by
  refine wpListIn_plain hg fun K' hK' => ?_
  unfold Oper.wpIn
  refine ⟨by simp [Oper.about, hop], ?_⟩
  rw [Oper.semAt_plain F _ _ (by rw [hop]; intro c hc'; cases hc')]
  rcases run_next_at (P := P) w o.type r b since c0 seen es clock hr hb hold hsc with ⟨h0, hrun⟩ | ⟨e, he, w1, hal, hrun⟩
  · simp [execOp, hop, hit, hrun, Result.andThen]
    exact hK' _ _ (hDone h0)
  · simp [execOp, hop, hit, hrun, Result.andThen]
    have hr1 : w1.heap[r]? = some (.mapIter (some b) since seen c0) := by rcases hal with rfl | rfl <;> exact hr
    have hset := heap_set (o' := .mapIter (some b) since (seen.push e.born) clock) hr1
    refine hK' _ _ (hMore e he _ hset.1 ?_ ?_)
    · rcases hal with rfl | rfl <;> exact ⟨rfl, rfl, rfl, by simp [setBlock], fun i _ hi => hset.2 i (fun e1 => hi (by rw [e1]))⟩
    · rcases hal with rfl | rfl <;> simp [setBlock]
end
/-- one entry more has come -/
theorem seen_step {e : MapEntry} {p : Nat → Bool} : ∀ {l : List MapEntry}, (l.map (·.born)).Nodup → e ∈ l → p e.born = false → (l.filter fun x => p x.born || x.born == e.born).Perm (e :: l.filter fun x => p x.born)
  | [], _, he, _ => by cases he
  | x :: l, hn, he, hp => by
    rw [List.map_cons, List.nodup_cons] at hn
    rcases List.mem_cons.1 he with rfl | he
    · have hl : (l.filter fun x => p x.born || x.born == e.born) = l.filter fun x => p x.born := by
        refine List.filter_congr fun x hx => ?_
        have : (x.born == e.born) = false := by
          simp only [beq_eq_false_iff_ne]
          exact fun h => hn.1 (h ▸ List.mem_map.2 ⟨x, hx, rfl⟩)
        rw [this, Bool.or_false]
      rw [List.filter_cons, if_pos (by simp), List.filter_cons, if_neg (by rw [hp]; decide), hl]
    · have ih := seen_step hn.2 he hp
      have hne : (x.born == e.born) = false := by
        simp only [beq_eq_false_iff_ne]
        exact fun h => hn.1 (h ▸ List.mem_map.2 ⟨e, he, rfl⟩)
      cases hx : p x.born with
      | true =>
        rw [List.filter_cons, if_pos (by rw [hx]; rfl), List.filter_cons, if_pos hx]
        exact (ih.cons x).trans (List.Perm.swap _ _ _)
      | false =>
        rw [List.filter_cons, if_neg (by rw [hx, hne]; decide), List.filter_cons, if_neg (by rw [hx]; decide)]
        exact ih
/-- which have come -/
def cameL (es : Array MapEntry) (seen : Array Nat) : List MapEntry := es.toList.filter fun x => seen.contains x.born
theorem came_step {es : Array MapEntry} {seen : Array Nat} {e : MapEntry} (hn : (es.toList.map (·.born)).Nodup) (he : e ∈ (leftOf es seen).toList) : (cameL es (seen.push e.born)).Perm (e :: cameL es seen) ∧ e ∈ es.toList := by
  obtain ⟨hem, hes⟩ := mem_left he
  have h1 := seen_step (p := fun b => seen.contains b) hn hem (by simpa using hes)
  refine ⟨?_, hem⟩
  refine List.Perm.trans (List.Perm.of_eq ?_) h1
  unfold cameL
  refine List.filter_congr fun x _ => ?_
  rw [contains_push]
theorem came_all {es : Array MapEntry} {seen : Array Nat} (h : (leftOf es seen).size = 0) : cameL es seen = es.toList := by
  unfold cameL
  rw [List.filter_eq_self]
  intro x hx
  exact all_seen es seen h x hx
theorem came_none {es : Array MapEntry} : cameL es #[] = [] := by
  unfold cameL
  rw [List.filter_eq_nil_iff]
  intro x hx
  simp
end Go.Proofs.YtkhbfjkioehgfaaGreatDoor
