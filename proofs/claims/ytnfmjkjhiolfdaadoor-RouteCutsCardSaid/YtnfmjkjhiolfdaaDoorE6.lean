/- The frame: from the reading of the arguments to the walk, and back. No program in sight. -/
import Derived.Test.YtnfmjkjhiolfdaaDoorE5
set_option linter.unusedVariables false
set_option linter.unusedSimpArgs false
namespace Go.Sx
open Go Go.ChangeShapes Go.WideShapes Go.ChangeAt Go.RowKit
theorem st_below {W w' : World} {L : List HProp} (h : St W (hp W) w' L) : Below W.heap.size W w' := by
  refine ⟨h.env.os, h.env.tape, h.env.output, ?_, fun k hk => ?_⟩
  · refine Nat.le_of_not_lt fun hlt => ?_
    have : hp W w'.heap.size = some W.heap[w'.heap.size] := by simp [hp, hlt]
    exact absurd (hp_lt (h.ro _ _ this)) (by omega)
  · have e : hp W k = some W.heap[k] := by simp [hp, hk]
    exact (h.ro k _ e).trans e.symm
theorem st_start (W : World) : St W (hp W) W ([] ++ []) := ⟨⟨rfl, rfl, rfl⟩, .refl _, ⟨Heap.empty, trivial, fun _ _ h => (by cases h), fun _ => .inr rfl⟩⟩
section
variable {H : Type} {enc : TypeId × Value → H} {P : Program} {W W' : World}
def tysOk (P : Program) (ts : List TypeId) : Bool := ts.all fun t => P.readableRec t && decide (t < P.types.size)
theorem trodAll_below (hl : laidOutB P = true) (hB : Below W.heap.size W W') : ∀ {ts : List TypeId} {vs : List Value} {ds : List (DataW H)} {ps : List MemPlace}, tysOk P ts = true →
    DataW.TrodAll enc P W 0 (fun _ => true) true ts vs ds ps → (∀ x ∈ ps, x.block < W.heap.size) → DataW.TrodAll enc P W' 0 (fun b => decide (b < W.heap.size)) true ts vs ds ps
  | [], vs, ds, ps, _, h, _ => by
    obtain ⟨rfl, rfl, rfl⟩ := trodAll_nil h
    exact rfl
  | t :: ts, vs, ds, ps, ht, h, hlt => by
    obtain ⟨v, vs', d, ds', p, q, rfl, rfl, rfl, h1, h2⟩ := trodAll_cons h
    simp only [tysOk, List.all_cons, Bool.and_eq_true, decide_eq_true_eq] at ht
    exact ⟨p, q, Below.trod hl ht.1.1 ht.1.2 h1 hB (fun x hx => hlt x (List.mem_append_left _ hx)), trodAll_below hl hB (by simpa [tysOk] using ht.2) h2 (fun x hx => hlt x (List.mem_append_right _ hx)), rfl⟩
theorem post_law {f : Func} {s : ChangeSpec} {args : Array Value} {ds : List (DataW H)} {before : List MemPlace} {v : Value} (hl : laidOutB P = true) (hts : tysOk P f.params.toList = true) (hv : s.vars = [])
    (hW : DataW.Whole enc P f.params.toList s.vars false W args.toList ds [] before) (hB : Below W.heap.size W W')
    (hargs : (s.fn H (ds ++ [])).args = ds) (hvars : (s.fn H (ds ++ [])).vars = [])
    (hres : ∀ b sp hd, DataW.TrodAll enc P W' b sp hd f.resultTypes.toList (v.resultList f.resultTypes.size) (s.fn H (ds ++ [])).results []) :
    s.post enc P f false true false false W args v W' := by
  have hlt := hW.lt
  have hW2 := hW
  obtain ⟨p, q, hA, hV, rfl, _, _⟩ := hW2
  rw [hv] at hV
  obtain ⟨-, rfl⟩ := trodVars_none hV
  refine ⟨ds, [], _, [], p, [], hW, hres _ _ _, ?_, ?_, hB.frame _, fun h => by cases h⟩
  · rw [hargs]; exact trodAll_below hl hB hts hA (fun x hx => hlt x (List.mem_append_left _ hx))
  · rw [hvars, hv]; exact rfl
/-- a value of many cells is an aggregate -/
theorem agg_of {v : Value} {cs : List Value} (h : v.cells.toList = cs) (hn : cs.length ≠ 1) : v = .agg cs.toArray := by
  subst h
  cases v <;> simp_all [Value.cells]
/-- an argument of a type that reads so -/
theorem arg_rds {α : Type} {R : Rd α} {t : TypeId} (hR : Rds P t R) {v : Value} {d : DataW H} {ps : List MemPlace} (h : DataW.Trod enc P W 0 (fun _ => true) true t v d ps) (hw : Wts P t d) : ∃ y, R (hp W) v.cells.toList y := by
  obtain ⟨fuel, hf⟩ := h
  exact hR hf hw
theorem arg_one {v u : Value} (h : v.cells.toList = [u]) (hu : u.oneCell' = true) (hna : ∀ a, v ≠ .agg a) : v = u := by
  cases v <;> simp_all [Value.cells]
theorem wts_all {ts : List TypeId} {ds : List (DataW H)} (h : (DataW.weightsEach P ts ds).all (· ≤ reachBytes) = true) {i : Nat} {t : TypeId} {d : DataW H} (ht : ts[i]? = some t) (hd : ds[i]? = some d) : Wts P t d := fun x hx => by
  have := (List.all_eq_true.1 h) x (mem_weightsEach ht hd hx)
  simpa using this
/-- the end of a law -/
theorem law_end {e : Ending} {f : Func} {s : ChangeSpec} {args : Array Value} {ds : List (DataW H)} {before : List MemPlace}
    (hl : laidOutB P = true) (hts : tysOk P f.params.toList = true) (hv : s.vars = []) (hW : DataW.Whole enc P f.params.toList s.vars false W args.toList ds [] before)
    (hargs : (s.fn H (ds ++ [])).args = ds) (hvars : (s.fn H (ds ++ [])).vars = []) (hres : ∀ b sp hd, DataW.TrodAll enc P W' b sp hd f.resultTypes.toList ((Value.bool true).resultList f.resultTypes.size) (s.fn H (ds ++ [])).results [])
    (h : ∃ r H' B, e = .returned r ∧ (hp W).le H' ∧ (r = .bool true ∧ B = []) ∧ St W H' W' (B ++ [])) : ∃ v, e = .returned v ∧ s.post enc P f false true false false W args v W' := by
  obtain ⟨r, H', B, he, hle, ⟨hr, hB⟩, hst⟩ := h
  subst hr
  have hst' : St W (hp W) W' [] := ⟨hst.env, hle.trans hst.ro, ⟨Heap.empty, trivial, fun _ _ h => (by cases h), fun _ => .inr rfl⟩⟩
  exact ⟨_, he, post_law hl hts hv hW (st_below hst') hargs hvars hres⟩
end
end Go.Sx
