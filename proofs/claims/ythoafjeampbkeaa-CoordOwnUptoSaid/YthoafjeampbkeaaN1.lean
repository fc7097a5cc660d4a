/- A range over a map by what lies in memory, whatever the keys. No program in sight. maps.Keys at a map whose keys are api.Txn: its iterator; slices.AppendSeq and Collect against such an iterator. slices.AppendSeq and Collect at api.Txn, against whatever iterator. Transactions compared, sorted. slices.SortedFunc at api.Txn by locktab.order, against whatever iterator; maps.Keys. slices.SortedFunc(maps.Keys(works), order): to owned parts. Small things; transactions compared, as keys. -/
import Derived.Sort.MapsRangeIn
import Derived.RangeFuncGives
import Derived.Sort.KeysCollected
import Derived.Test.YthoafjeampbkeaaProg
import Derived.Test.YthoafjeampbkeaaKD
import Derived.Shelf.SlIter.Collect
import Derived.WalkKit
import Derived.OwnWalkIn
import Derived.TacticsInMore
import Derived.RegionIn
import Derived.LoopNIn
import Derived.LoopIn
import Derived.Shelf.Abstract
import Derived.Test.YthoafjeampbkeaaInst
import Derived.Test.YthoafjeampbkeaaShelf
import Derived.Deep.RegionWith
import Derived.Deep.QuietTactic
import Derived.StillTailTactics
import Derived.Sort.OwnSorted
import Derived.RangeFuncBound
import Derived.Test.YthoafjeampbkeaaTy
set_option linter.unusedVariables false
set_option linter.unusedSimpArgs false
namespace Go.Proofs.Ythoafjeampbkeaa
open Go Go.Proofs Go.RowKit Go.Maps Go.MapKept Go.ChangeMaps Go.WideShapes
section
variable {F : Fence} {n : Nat} {P : Program} (w : World) {ops : Array Oper} {rest : List Oper} {o : Oper} {a : Act} {Q : Exit → Act → World → Prop}
/-- range m -/
theorem in_range_raw (hg : o.guard = none) (m : Operand) (t : TypeId) (hop : o.op = Op.range t m) (k e : TypeId) (ht : P.underlying t = some (.map k e)) (b : Nat) (es : Array MapEntry) (clock : Nat)
    (hm : a.eval m = .map (some b)) (hb : w.heap[b]? = some (.map es clock))
    (hK : wpListIn F n P ops Q rest (a.put o.dst (.pointer (some ⟨w.heap.size, 0, none⟩))) (w.alloc (.mapIter (some b) clock #[] clock))) :
    wpListIn F n P ops Q (o :: rest) a w := by
  refine wpListIn_plain hg fun K' hK' => ?_
  have hrun := run_range_map w t k e b es clock ht hb
  unfold Oper.wpIn
  refine ⟨?_, ?_⟩
  · simp [Oper.about, hop]
  · rw [Oper.semAt_plain F _ _ (by rw [hop]; intro c hc'; cases hc')]
    simp [execOp, hop, hm, hrun, Result.andThen]
    exact hK' _ _ hK
/-- the step -/
theorem in_next_raw (hg : o.guard = none) (it : Operand) (hop : o.op = Op.next it false) (b r : Nat) (es : Array MapEntry) (clock since c0 : Nat) (seen : Array Nat)
    (hit : a.eval it = .pointer (some ⟨r, 0, none⟩)) (hr : w.heap[r]? = some (.mapIter (some b) since seen c0)) (hb : w.heap[b]? = some (.map es clock)) (hold : ∀ x ∈ es.toList, x.born < since) (hsc : since ≤ c0)
    (hDone : (leftOf es seen).size = 0 → wpListIn F n P ops Q rest (a.put o.dst (.tuple #[.bool false])) w)
    (hMore : ∀ e ∈ (leftOf es seen).toList, ∀ w' : World, w'.heap[r]? = some (.mapIter (some b) since (seen.push e.born) clock) → w.grownBy w' (some r) → w'.heap.size = w.heap.size →
      wpListIn F n P ops Q rest (a.put o.dst (.tuple #[.bool true, e.key, e.val])) w') :
    wpListIn F n P ops Q (o :: rest) a w := by
  refine wpListIn_plain hg fun K' hK' => ?_
  unfold Oper.wpIn
  refine ⟨by simp [Oper.about, hop], ?_⟩
  rw [Oper.semAt_plain F _ _ (by rw [hop]; intro c hc'; cases hc')]
  rcases run_next_at (P := P) w o.type r b since c0 seen es clock hr hb hold hsc with ⟨h0, hrun⟩ | ⟨e, he, w1, hal, hrun⟩
  · simp [execOp, hop, hit, hrun, Result.andThen]
    exact hK' _ _ (hDone h0)
  · simp [execOp, hop, hit, hrun, Result.andThen]
    have hr1 : w1.heap[r]? = some (.mapIter (some b) since seen c0) := by rcases hal with rfl | rfl <;> exact hr
    have hset := heap_set (o' := .mapIter (some b) since (seen.push e.born) clock) hr1
    refine hK' _ _ (hMore e he _ hset.1 ?_ ?_)
    · rcases hal with rfl | rfl <;> exact ⟨rfl, rfl, rfl, by simp [setBlock], fun i _ hi => hset.2 i (fun e1 => hi (by rw [e1]))⟩
    · rcases hal with rfl | rfl <;> simp [setBlock]
end
/-- one entry more has come -/
theorem seen_step {e : MapEntry} {p : Nat → Bool} : ∀ {l : List MapEntry}, (l.map (·.born)).Nodup → e ∈ l → p e.born = false → (l.filter fun x => p x.born || x.born == e.born).Perm (e :: l.filter fun x => p x.born)
  | [], _, he, _ => by cases he
  | x :: l, hn, he, hp => by
    rw [List.map_cons, List.nodup_cons] at hn
    rcases List.mem_cons.1 he with rfl | he
    · have hl : (l.filter fun x => p x.born || x.born == e.born) = l.filter fun x => p x.born := by
        refine List.filter_congr fun x hx => ?_
        have : (x.born == e.born) = false := by
          simp only [beq_eq_false_iff_ne]
          exact fun h => hn.1 (h ▸ List.mem_map.2 ⟨x, hx, rfl⟩)
        rw [this, Bool.or_false]
      rw [List.filter_cons, if_pos (by simp), List.filter_cons, if_neg (by rw [hp]; decide), hl]
    · have ih := seen_step hn.2 he hp
      have hne : (x.born == e.born) = false := by
        simp only [beq_eq_false_iff_ne]
        exact fun h => hn.1 (h ▸ List.mem_map.2 ⟨e, he, rfl⟩)
      cases hx : p x.born with
      | true =>
        rw [List.filter_cons, if_pos (by rw [hx]; rfl), List.filter_cons, if_pos hx]
        exact (ih.cons x).trans (List.Perm.swap _ _ _)
      | false =>
        rw [List.filter_cons, if_neg (by rw [hx, hne]; decide), List.filter_cons, if_neg (by rw [hx]; decide)]
        exact ih
/-- which have come -/
def cameL (es : Array MapEntry) (seen : Array Nat) : List MapEntry := es.toList.filter fun x => seen.contains x.born
theorem came_step {es : Array MapEntry} {seen : Array Nat} {e : MapEntry} (hn : (es.toList.map (·.born)).Nodup) (he : e ∈ (leftOf es seen).toList) : (cameL es (seen.push e.born)).Perm (e :: cameL es seen) ∧ e ∈ es.toList := by
  obtain ⟨hem, hes⟩ := mem_left he
  have h1 := seen_step (p := fun b => seen.contains b) hn hem (by simpa using hes)
  refine ⟨?_, hem⟩
  refine List.Perm.trans (List.Perm.of_eq ?_) h1
  unfold cameL
  refine List.filter_congr fun x _ => ?_
  rw [contains_push]
theorem came_all {es : Array MapEntry} {seen : Array Nat} (h : (leftOf es seen).size = 0) : cameL es seen = es.toList := by
  unfold cameL
  rw [List.filter_eq_self]
  intro x hx
  exact all_seen es seen h x hx
theorem came_none {es : Array MapEntry} : cameL es #[] = [] := by
  unfold cameL
  rw [List.filter_eq_nil_iff]
  intro x hx
  simp
end Go.Proofs.Ythoafjeampbkeaa

set_option linter.unusedVariables false
set_option linter.unusedSimpArgs false
namespace Go.Proofs.Ythoafjeampbkeaa
open Go Go.Sx Go.Proofs Go.RowKit Go.Maps Go.Sort Go.Shelf
abbrev K3 := Int × Int × Int
end Go.Proofs.Ythoafjeampbkeaa

set_option linter.unusedVariables false
set_option linter.unusedSimpArgs false
namespace Go.Proofs.Ythoafjeampbkeaa
open Go Go.Sx Go.Proofs Go.RowKit Go.Maps Go.Sort Go.Shelf
/-- a transaction's three cells -/
def c3 (k : K3) : List Value := [.int .i64 k.1, .int .i64 k.2.1, .int .i64 k.2.2]
def c3s (l : List K3) : List Value := (l.map c3).flatten
theorem c3_len (k : K3) : (c3 k).length = 3 := rfl
theorem c3s_len (l : List K3) : (c3s l).length = l.length * 3 := by
  induction l with
  | nil => rfl
  | cons k l ih => simp only [c3s, List.map_cons, List.flatten_cons, List.length_append, List.length_cons, c3_len] at *; omega
theorem c3s_snoc (l : List K3) (k : K3) : c3s (l ++ [k]) = c3s l ++ c3 k := by simp [c3s]
def apAssign : Code := (Code.region 2 #[{ dst := some 5, op := Op.alloc 28, type := 0, pos := "iter.go:51", after := #[], guard := none }, { dst := none, op := Op.store 28 (Operand.tmp 5) (Operand.tmp 7), type := 0, pos := "iter.go:51", after := #[{ on := 0, ground := Ground.data }, { on := 0, ground := Ground.phase }], guard := none }] false)
def apBody : Code := (Code.block 1 (Code.region 3 #[{ dst := some 8, op := Op.load 81 (Operand.tmp 2), type := 81, pos := "iter.go:52", after := #[], guard := none }, { dst := some 9, op := Op.load 28 (Operand.tmp 5), type := 28, pos := "iter.go:52", after := #[], guard := none }, { dst := some 10, op := Op.buildSlice 81 1 #[(0, Operand.tmp 9)], type := 81, pos := "iter.go:52", after := #[{ on := 1, ground := Ground.data }], guard := none }, { dst := some 11, op := Op.call { callee := Callee.builtin Builtin.append, args := #[Operand.tmp 8, Operand.tmp 10], argTypes := #[81, 81] }, type := 81, pos := "iter.go:52", after := #[{ on := 0, ground := Ground.data }, { on := 2, ground := Ground.data }], guard := none }, { dst := none, op := Op.store 81 (Operand.tmp 2) (Operand.tmp 11), type := 0, pos := "iter.go:52", after := #[{ on := 3, ground := Ground.data }, { on := 3, ground := Ground.chain }, { on := 0, ground := Ground.phase }, { on := 1, ground := Ground.phase }, { on := 2, ground := Ground.phase }, { on := 3, ground := Ground.phase }], guard := none }] false))
/-- the loop's record: s boxed in block Bs; sv: the iterator's value -/
def apRec (fn : FuncId) (sv : Value) (Bs D : Nat) (st : LoopState) (pend : Option Code) : Loop :=
  { state := st, pending := pend, fn, tmps := #[.slice none 0 0, sv, .pointer (some ⟨Bs, 0, none⟩), undef, .slice none 0 0, undef, sv, undef, undef, undef, undef, undef, undef], params := #[7], assign := apAssign, body := apBody, defers := D }
/-- between two rounds -/
structure ApAt (w0 : World) (fn : FuncId) (sv : Value) (Bs l D : Nat) (ss : List K3) (W : World) : Prop where
  box : ∃ v, W.heap[Bs]? = some (.cells #[v] 81 (0, 0)) ∧ W.ownsRow w0.heap.size 28 3 v ss.length (c3s ss) ∧ (v = .slice none 0 0 ↔ ss = [])
  L : W.heap[l]? = some (.loop (apRec fn sv Bs D .ready none))
  K : W.heap[D]? = some (.deferred (some []))
  below : Below w0.heap.size w0 W
theorem ap_abides (w0 : World) (fn : FuncId) (sv : Value) (Bs l D B : Nat) (hB : w0.heap.size ≤ B) : AbidesFrom B (ApAt w0 fn sv Bs l D) := fun s W W' row h hg hrow => by
  have hrow' : ∀ r, row = some r → ∃ o : Obj, W.heap[r]? = some o ∧ o.isWalk = true := fun r e => (hrow r e).2
  obtain ⟨v, hv, hr, hn⟩ := h.box
  exact ⟨⟨v, (grownBy_keeps hg hrow' hv rfl).trans hv, ownsRow_abides_a hr hg hrow', hn⟩, (grownBy_keeps hg hrow' h.L rfl).trans h.L, (grownBy_keeps hg hrow' h.K rfl).trans h.K,
    h.below.grown hg h.below.size (fun k e => Nat.le_trans hB (hrow k e).1)⟩
theorem cell_new3 (w : World) (cs : Array Value) (t : TypeId) (k : Nat) : (w.alloc (.cells cs t)).cell? ⟨w.heap.size, k, none⟩ = cs[k]? := by
  have h1 := World.alloc_heap_new w (.cells cs t (0, 0))
  unfold World.cell?
  dsimp only
  rw [h1]
  rfl
theorem cell_three_new (w : World) (x y z : Value) (t : TypeId) : ∀ j u, [x, y, z][j]? = some u → (w.alloc (.cells #[x, y, z] t)).cell? ((⟨w.heap.size, 0, none⟩ : Addr).add j) = some u := by
  intro j u hj
  match j, hj with
  | 0, hj => simp at hj; subst hj; exact cell_new3 w _ t 0
  | 1, hj => simp at hj; subst hj; exact cell_new3 w _ t 1
  | 2, hj => simp at hj; subst hj; exact cell_new3 w _ t 2
set_option maxRecDepth 100000 in
set_option maxHeartbeats 4000000 in
theorem apYield (F : Fence) (m : Nat) (w0 : World) (fn : FuncId) (hfn : F.fn fn) (sv : Value) (Bs l D : Nat) (hBl : Bs ≠ l) (hDl : D ≠ l) (hDB : D ≠ Bs) (h0B : w0.heap.size ≤ Bs) (h0l : w0.heap.size ≤ l)
    (N : Nat) (hN : N ≤ maxLen) (hNb : N * 24 ≤ 140737488355328) (ss : List K3) (q : K3) (W : World) (h : ApAt w0 fn sv Bs l D ss W) (hlen : ss.length < N) :
    YieldAt F m Try.prog l #[ek3 q] W fun e W' => e = .returned (.bool true) ∧ ApAt w0 fn sv Bs l D (ss ++ [q]) W' ∧ KeepsWalks W W' := by
  have hne : (81 : TypeId) ≠ 28 := by decide
  obtain ⟨i0, hi, hz1, hz2, hz0, hz3, _⟩ := (inferInstance : TIn Try.prog 28 3 24 _).ex
  obtain ⟨x, y, z⟩ := q
  obtain ⟨v, hv, hrow, _⟩ := h.box
  refine ⟨fn, #[.slice none 0 0, sv, .pointer (some ⟨Bs, 0, none⟩), undef, .slice none 0 0, undef, sv, ek3 (x, y, z), undef, undef, undef, undef, undef], apAssign, apBody, by simpa [apRec] using run_yield (P := Try.prog) (args := #[ek3 (x, y, z)]) h.L rfl, roundIn_of_wpIn hfn ?_⟩
  -- the round's own variable
  obtain ⟨W1, hW1⟩ : ∃ W1, W.alloc (.cells #[.int .i64 x, .int .i64 y, .int .i64 z] 28) = W1 := ⟨_, rfl⟩
  have old1 : ∀ {j : Nat} {o : Obj}, W.heap[j]? = some o → W1.heap[j]? = some o := fun {j o} hj => by rw [← hW1]; exact (Below.heap_alloc _ _ j (Array.getElem?_eq_some_iff.1 hj).1).trans hj
  have hsz1 : W1.heap.size = W.heap.size + 1 := by rw [← hW1]; simp
  have hkk1 : KeepsWalks W W1 := by rw [← hW1]; exact KeepsWalks.alloc _ _
  have hv1 := old1 hv
  have hK1 := old1 h.K
  have hL1 := old1 h.L
  have hnew1 : W1.heap[W.heap.size]? = some (.cells #[.int .i64 x, .int .i64 y, .int .i64 z] 28 (0, 0)) := by rw [← hW1]; exact World.alloc_heap_new W _
  have hrow1 : W1.ownsRow w0.heap.size 28 3 v ss.length (c3s ss) := by rw [← hW1]; exact hrow.alloc _
  have hb1 : Below w0.heap.size w0 W1 := by rw [← hW1]; exact h.below.alloc h.below.size _
  have hl : l < W1.heap.size := (Array.getElem?_eq_some_iff.1 hL1).1
  have hlW : l < W.heap.size := (Array.getElem?_eq_some_iff.1 h.L).1
  have hbr := run_beginRound (P := Try.prog) hL1 rfl
  obtain ⟨W2, hW2⟩ : ∃ W2, W1.putObj l (.loop { apRec fn sv Bs D .ready none with state := .busy }) = W2 := ⟨_, rfl⟩
  rw [hW2] at hbr
  have hg2 : W1.grownBy W2 (some l) := by rw [← hW2]; exact grownBy_putObj_a _ _ _
  have hk2 : KeepsWalks W W2 := hkk1.trans (by rw [← hW2]; exact KeepsWalks.putObj _ hL1 rfl)
  have hv2 : W2.heap[Bs]? = some (.cells #[v] 81 (0, 0)) := by rw [← hW2]; exact (World.putObj_heap_other hBl).trans hv1
  have hK2 : W2.heap[D]? = some (.deferred (some [])) := by rw [← hW2]; exact (World.putObj_heap_other hDl).trans hK1
  have hL2 : W2.heap[l]? = some (.loop { apRec fn sv Bs D .ready none with state := .busy }) := by rw [← hW2]; exact World.putObj_heap_same hl
  have hnew2 : W2.heap[W.heap.size]? = some (.cells #[.int .i64 x, .int .i64 y, .int .i64 z] 28 (0, 0)) := by rw [← hW2]; exact (World.putObj_heap_other (by omega)).trans hnew1
  have hrow2 : W2.ownsRow w0.heap.size 28 3 v ss.length (c3s ss) := hrow1.kept hg2 (ownsRow_ne_a hrow1 hL1 (fun cur e => by first | cases e | exact hne (Obj.cells.inj e).2.1))
  have hb2 : Below w0.heap.size w0 W2 := hb1.grown hg2 hb1.size (fun k e => by cases e; exact h0l)
  have hcx : W2.cell? ⟨W.heap.size, 0, none⟩ = some (.int .i64 x) ∧ W2.cell? ⟨W.heap.size, 1, none⟩ = some (.int .i64 y) ∧ W2.cell? ⟨W.heap.size, 2, none⟩ = some (.int .i64 z) := by
    refine ⟨?_, ?_, ?_⟩ <;> simp [World.cell?, hnew2]
  clear hW2
  obtain ⟨hc2, hf2⟩ := cell_of_box_a hv2
  have hBlt : Bs < W2.heap.size := (Array.getElem?_eq_some_iff.1 hv2).1
  have hDlt : D < W2.heap.size := (Array.getElem?_eq_some_iff.1 hK2).1
  have hl2 : l < W2.heap.size := (Array.getElem?_eq_some_iff.1 hL2).1
  have ne_of : ∀ {j : Nat} {o : Obj}, W2.heap[j]? = some o → (∀ cur, o ≠ .cells cur 28 (0, 0)) → some j ≠ v.ownBlock := fun hj hno => by
    rcases ownsRow_ne_a hrow2 hj hno with e | e
    · rw [e]; simp
    · exact fun e' => e e'.symm
  simp only [ek3]
  unfold apAssign
  gi_wp2_with gi_round_op_a
  unfold apBody
  obtain ⟨hcx0, hcx1, hcx2⟩ := hcx
  gi_wp2_with (first
    | (gi_at_builtin; refine wpListIn_append_own _ rfl _ _ 81 rfl w0.heap.size 28 i0 _ 3 24 Try.underlying81 hi hz0 hz1 hz2 hz3 (by decide) _ _ _ rfl (hrow2.alloc _) ⟨W2.heap.size, 0, none⟩ 1 1 [.int .i64 x, .int .i64 y, .int .i64 z] rfl rfl (cell_three_new _ _ _ _ _) (by simp [Value.oneCell']) (by omega) (by omega) (by have := hb2.size; simp; omega) ?_; intro v' w3 hown' hg3 hnil3
       have hv3 : w3.heap[Bs]? = some (.cells #[v] 81 (0, 0)) := (hg3.block Bs (by simp; omega) (ne_of hv2 (fun cur e => by first | cases e | exact hne (Obj.cells.inj e).2.1))).trans ((Below.heap_alloc _ _ Bs hBlt).trans hv2)
       obtain ⟨hc3, hf3⟩ := cell_of_box_a hv3
       obtain ⟨g', cap', cur', rfl, hbase', hgb', hr1, hr2, hr3, hr4⟩ : ∃ g' cap' cur', v' = .slice (some ⟨g', 0, none⟩) (ss.length + 1) cap' ∧ w0.heap.size ≤ g' ∧ w3.heap[g']? = some (.cells cur' 28 (0, 0)) ∧ ss.length + 1 ≤ cap' ∧ cap' ≤ maxLen ∧ cur'.size = cap' * 3 ∧ cur'.toList.take ((ss.length + 1) * 3) = c3s ss ++ [.int .i64 x, .int .i64 y, .int .i64 z] := by
         rcases hown'.2 with ⟨_, h0⟩ | h'
         · exact absurd h0 (by omega)
         · exact h'
       go_frame)
    | gi_round_op_a)
  have hg3' : (W2.alloc (.cells #[.int .i64 x, .int .i64 y, .int .i64 z] 28)).grownBy w3 v.ownBlock := hg3
  have hL3 : w3.heap[l]? = some (.loop { apRec fn sv Bs D .ready none with state := .busy }) := (hg3'.block l (by simp; omega) (ne_of hL2 (fun cur e => by first | cases e | exact hne (Obj.cells.inj e).2.1))).trans ((Below.heap_alloc _ _ l hl2).trans hL2)
  have hK3 : w3.heap[D]? = some (.deferred (some [])) := (hg3'.block D (by simp; omega) (ne_of hK2 (fun cur e => by first | cases e | exact hne (Obj.cells.inj e).2.1))).trans ((Below.heap_alloc _ _ D hDlt).trans hK2)
  obtain ⟨w4, hw4⟩ : ∃ w4, w3.setCell ⟨Bs, 0, none⟩ (.slice (some ⟨g', 0, none⟩) (ss.length + 1) cap') = w4 := ⟨_, rfl⟩
  rw [hw4]
  have hg4 : w3.grownBy w4 (some Bs) := by rw [← hw4]; exact grownBy_setCell0_a _ _ _
  have hv4 : w4.heap[Bs]? = some (.cells #[.slice (some ⟨g', 0, none⟩) (ss.length + 1) cap'] 81 (0, 0)) := by rw [← hw4]; exact heap_setCell_box_a _ hv3
  have hL4 : w4.heap[l]? = some (.loop { apRec fn sv Bs D .ready none with state := .busy }) := (hg4.block l (Array.getElem?_eq_some_iff.1 hL3).1 (fun e => hBl (by cases e; rfl))).trans hL3
  have hK4 : w4.heap[D]? = some (.deferred (some [])) := (hg4.block D (Array.getElem?_eq_some_iff.1 hK3).1 (fun e => hDB (by cases e; rfl))).trans hK3
  have hrow4 := hown'.kept hg4 (ownsRow_ne_a hown' hv3 (fun cur e => by first | cases e | exact hne (Obj.cells.inj e).2.1))
  have hl4 : l < w4.heap.size := (Array.getElem?_eq_some_iff.1 hL4).1
  have hb3 : Below w0.heap.size w0 w3 := (hb2.alloc hb2.size _).grown hg3' (by have := hb2.size; simp; omega) (fun k e => (hrow2.lt k e).1)
  have hb4 : Below w0.heap.size w0 w4 := hb3.grown hg4 hb3.size (fun k e => by cases e; exact h0B)
  have hk4 : KeepsWalks W w4 := ((hk2.trans (KeepsWalks.alloc _ _)).trans (KeepsWalks.of_grownBy hg3' (ownsRow_not_walk_a (hrow2.alloc _)))).trans (by rw [← hw4]; exact KeepsWalks.setCell _ _ _)
  clear hw4
  refine ⟨_, _, run_endRound none hL4, rfl, ⟨⟨_, (World.putObj_heap_other hBl).trans hv4, ?_, by simp⟩, World.putObj_heap_same hl4, (World.putObj_heap_other hDl).trans hK4, hb4.grown (grownBy_putObj_a _ _ _) hb4.size (fun k e => by cases e; exact h0l)⟩, hk4.trans (KeepsWalks.putObj _ hL4 rfl)⟩
  have := hrow4.kept (grownBy_putObj_a w4 l (.loop { { apRec fn sv Bs D .ready none with state := .busy } with state := if (none : Option Code).isNone then .ready else .done, pending := none })) (ownsRow_ne_a hrow4 hL4 (fun cur e => by first | cases e | exact hne (Obj.cells.inj e).2.1))
  rw [c3s_snoc, List.length_append, List.length_singleton]
  exact this
set_option maxRecDepth 100000 in
set_option maxHeartbeats 2000000 in
theorem appendSeq_in (F : Fence) (n : Nat) (h11 : F.fn 66) (hro : F.round = none) (hn : 2 ≤ n) (g : Nat) (lb : Array Value) (hFg : F.fn g) (eg : ∀ args w, (callFunc g args).run Try.prog w = .ok (.enter g args) w)
    (S : List K3 → Prop) (N : Nat) (hN : N ≤ maxLen) (hNb : N * 24 ≤ 140737488355328) (w : World) (hseq : SeqGives F (n - 1) Try.prog g lb ek3 S N w) :
    CallsIn F n Try.prog 66 #[.slice none 0 0, .func (.func g) #[] lb] w fun e w' => ∃ (v : Value) (ss : List K3), e = .returned v ∧ S ss ∧ w'.ownsRow w.heap.size 28 3 v ss.length (c3s ss) ∧ (v = .slice none 0 0 ↔ ss = []) ∧ Below w.heap.size w w' := by
  have h1 : 1 ≤ n := by omega
  refine callsIn_of_wp_marks Try.func66 rfl h11 ?_ hro
  simp only [Try.ntmps66, List.size_toArray, List.length_cons, List.length_nil, Nat.reduceAdd, Nat.reduceSub, Array.replicate_succ, Array.replicate_zero, List.push_toArray, List.append_toArray, List.nil_append, List.cons_append]
  have hne : (81 : TypeId) ≠ 28 := by decide
  gi_wp2
  refine wpIn_rangeFunc ?_
  intro fn hfn
  rw [hro]
  obtain ⟨W0, hW0⟩ : ∃ W0, w.alloc (.cells #[.slice none 0 0] 81) = W0 := ⟨_, rfl⟩
  have hs0 : W0.heap.size = w.heap.size + 1 := by rw [← hW0]; simp
  have hv0 : W0.heap[w.heap.size]? = some (.cells #[.slice none 0 0] 81 (0, 0)) := by rw [← hW0]; exact World.alloc_heap_new w _
  have hb0 : Below w.heap.size w W0 := by rw [← hW0]; exact (Below.refl _ w).alloc (Nat.le_refl _) _
  rw [hW0]
  obtain ⟨W1, hW1⟩ : ∃ W1, (W0.alloc (.deferred (some []))).alloc (.loop (apRec fn (.func (.func g) #[] lb) w.heap.size W0.heap.size .ready none)) = W1 := ⟨_, rfl⟩
  have hold : ∀ k, k < W0.heap.size → W1.heap[k]? = W0.heap[k]? := fun k hk => by
    rw [← hW1]; exact (Below.heap_alloc _ _ k (by simp; omega)).trans (Below.heap_alloc _ _ k hk)
  have hb1 : Below w.heap.size w W1 := by rw [← hW1]; exact (hb0.alloc hb0.size _).alloc (by have := hb0.size; simp; omega) _
  have hs1 : W1.heap.size = W0.heap.size + 2 := by rw [← hW1]; simp
  have hM : ApAt w fn (.func (.func g) #[] lb) w.heap.size (W0.heap.size + 1) W0.heap.size [] W1 :=
    ⟨⟨_, (hold w.heap.size (by omega)).trans hv0, ⟨rfl, .inl ⟨rfl, rfl⟩⟩, by simp⟩,
     by rw [← hW1]; have := World.alloc_heap_new (W0.alloc (.deferred (some []))) (.loop (apRec fn (.func (.func g) #[] lb) w.heap.size W0.heap.size .ready none)); rwa [World.size_alloc] at this,
     by rw [← hW1]; exact (Below.heap_alloc _ _ _ (by simp)).trans (World.alloc_heap_new W0 _), hb1⟩
  refine ⟨W0.heap.size + 1, [{ target := .collected W0.heap.size, args := #[] }], W1, { target := .fn (.func g) lb, args := #[.func (.yield (W0.heap.size + 1)) #[] #[]] }, W1, g,
    #[.func (.yield (W0.heap.size + 1)) #[] #[]] ++ lb, W1, ?_, ?_, ?_, ?_, fun _ => h1, ?_⟩
  · rw [← hW1]; exact run_enterLoop_outer _ _ _ _ _
  · simp [resolve, go_sem]
  · intro f' hf'; simp [Target.leads] at hf'; subst hf'; exact hFg
  · simp [invoke, go_sem, eg]
  · refine (hseq (W0.heap.size + 1) (ApAt w fn (.func (.func g) #[] lb) w.heap.size (W0.heap.size + 1) W0.heap.size) W1 hb1 (ap_abides _ _ _ _ _ _ _ hb1.size)
      (fun pre x W hJ hl => apYield F (n - 1 - 1) w fn hfn _ w.heap.size (W0.heap.size + 1) W0.heap.size (by omega) (by omega) (by omega) (Nat.le_refl _) (by omega) N hN hNb pre x W hJ hl) hM).mono ?_
    rintro e W2 ⟨⟨v0, rfl⟩, ss, hS, h2⟩
    obtain ⟨v, hv, hrow, hnil⟩ := h2.box
    have hend := run_endLoop (P := Try.prog) h2.L (by simp [apRec])
    obtain ⟨W3, hW3⟩ : ∃ W3, W2.putObj (W0.heap.size + 1) (.loop { apRec fn (.func (.func g) #[] lb) w.heap.size W0.heap.size .ready none with state := .exhausted }) = W3 := ⟨_, rfl⟩
    rw [hW3] at hend
    have hg3 : W2.grownBy W3 (some (W0.heap.size + 1)) := by rw [← hW3]; exact grownBy_putObj_a _ _ _
    have hv3 : W3.heap[w.heap.size]? = some (.cells #[v] 81 (0, 0)) := by rw [← hW3]; exact (World.putObj_heap_other (by omega)).trans hv
    have hK3 : W3.heap[W0.heap.size]? = some (.deferred (some [])) := by rw [← hW3]; exact (World.putObj_heap_other (by omega)).trans h2.K
    have hrow3 := hrow.kept hg3 (ownsRow_ne_a hrow h2.L (fun cur e => by first | cases e | exact hne (Obj.cells.inj e).2.1))
    have hb3 : Below w.heap.size w W3 := h2.below.grown hg3 h2.below.size (fun k e => by cases e; omega)
    obtain ⟨hc3, hf3⟩ := cell_of_box_a hv3
    clear hW3
    refine ⟨none, W3, hend, ?_⟩
    gi_wp2
    rw [← hs0]
    refine ⟨by simp, .inl ⟨_, _, rfl, run_takeDeferred hK3, ?_⟩⟩
    exact ⟨_, results_tmp rfl _ _ _, v, ss, rfl, hS, hrow3.kept (grownBy_putObj_a _ _ _) (ownsRow_ne_a hrow3 hK3 (fun cur e => by first | cases e | exact hne (Obj.cells.inj e).2.1)), hnil, hb3.grown (grownBy_putObj_a _ _ _) hb3.size (fun k e => by cases e; omega)⟩
set_option maxHeartbeats 1000000 in
theorem collect_in (F : Fence) (n : Nat) (h8 : F.fn 61) (h11 : F.fn 66) (hro : F.round = none) (hn : 3 ≤ n) (g : Nat) (lb : Array Value) (hFg : F.fn g) (eg : ∀ args w, (callFunc g args).run Try.prog w = .ok (.enter g args) w)
    (S : List K3 → Prop) (N : Nat) (hN : N ≤ maxLen) (hNb : N * 24 ≤ 140737488355328) (w : World) (hseq : SeqGives F (n - 1 - 1) Try.prog g lb ek3 S N w) :
    CallsIn F n Try.prog 61 #[.func (.func g) #[] lb] w fun e w' => ∃ (v : Value) (ss : List K3), e = .returned v ∧ S ss ∧ w'.ownsRow w.heap.size 28 3 v ss.length (c3s ss) ∧ (v = .slice none 0 0 ↔ ss = []) ∧ Below w.heap.size w w' := by
  have h1 : 1 ≤ n := by omega
  refine callsIn_of_wp Try.func61 rfl h8 ?_ hro
  simp only [Try.ntmps61, List.size_toArray, List.length_cons, List.length_nil, Nat.reduceAdd, Nat.reduceSub, Array.replicate_succ, Array.replicate_zero, List.push_toArray, List.append_toArray, List.nil_append, List.cons_append]
  gi_wp2_with (gi_at_call 66; refine (appendSeq_in F (n - 1) h11 hro (by omega) g lb hFg eg S N hN hNb _ hseq).mono ?_; rintro e w' ⟨v, ss, rfl, hS, hrow, hnil, hb⟩)
  go_ret
  exact ⟨v, ss, rfl, hS, hrow, hnil, hb⟩
end Go.Proofs.Ythoafjeampbkeaa

set_option linter.unusedVariables false
set_option linter.unusedSimpArgs false
namespace Go.Proofs.Ythoafjeampbkeaa
open Go Go.Sx Go.Proofs Go.RowKit Go.Maps Go.Sort Go.Shelf Go.Lib
set_option maxHeartbeats 2000000 in
theorem or3 (a b c : Int) (blk : Nat) (w : World) (h0 : w.cell? ⟨blk, 0, none⟩ = some (.int .i64 a)) (h1 : w.cell? ⟨blk, 1, none⟩ = some (.int .i64 b)) (h2 : w.cell? ⟨blk, 2, none⟩ = some (.int .i64 c)) :
    Calls Try.prog 64 #[.slice (some ⟨blk, 0, none⟩) 3 3] w fun e w' => e = .returned (.int .i64 (if a = 0 then (if b = 0 then c else b) else a)) ∧ w' = w := by
  have hne : ∀ x : Int, x ≠ 0 → (x != 0) = true := fun x h => by simp [h]
  by_cases ha : a = 0
  · subst ha
    rw [if_pos rfl]
    by_cases hb : b = 0
    · subst hb
      rw [if_pos rfl]
      by_cases hc : c = 0
      · subst hc
        go_enter Try.func64, Try.ntmps64
        go_wp2
        refine wp_loop_rounds 4 ?_
        rw [rounds_succ]
        go_wp2
        rw [rounds_succ]
        go_wp2
        rw [rounds_succ]
        go_wp2
        rw [rounds_succ]
        go_wp2
        go_ret
        exact ⟨rfl, rfl⟩
      · have hc' := hne c hc
        go_enter Try.func64, Try.ntmps64
        go_wp2
        refine wp_loop_rounds 4 ?_
        rw [rounds_succ]
        go_wp2
        rw [rounds_succ]
        go_wp2
        rw [rounds_succ]
        go_wp2
        go_ret
        exact ⟨rfl, rfl⟩
    · rw [if_neg hb]
      have hb' := hne b hb
      go_enter Try.func64, Try.ntmps64
      go_wp2
      refine wp_loop_rounds 4 ?_
      rw [rounds_succ]
      go_wp2
      rw [rounds_succ]
      go_wp2
      go_ret
      exact ⟨rfl, rfl⟩
  · rw [if_neg ha]
    have ha' := hne a ha
    go_enter Try.func64, Try.ntmps64
    go_wp2
    refine wp_loop_rounds 4 ?_
    rw [rounds_succ]
    go_wp2
    go_ret
    exact ⟨rfl, rfl⟩
/-- how two transactions compare -/
def ordI (x y : K3) : Int := if compareInt x.1 y.1 = 0 then (if compareInt x.2.1 y.2.1 = 0 then compareInt x.2.2 y.2.2 else compareInt x.2.1 y.2.1) else compareInt x.1 y.1
theorem cmpI_calls (x y : Int) (W : World) : Calls Try.prog 65 #[.int .i64 x, .int .i64 y] W fun e w' => e = .returned (.int .i64 (compareInt x y)) ∧ w' = W := by
  have hcon := AnyG.cmp_Compare_int Try.cmpI x y W
  exact hcon
theorem cmp0 {x y : Int} : compareInt x y = 0 ↔ x = y := by unfold compareInt; split <;> (try split) <;> omega
theorem cmpL {x y : Int} : compareInt x y < 0 ↔ x < y := by unfold compareInt; split <;> (try split) <;> omega
/-- one transaction stands ahead of another one -/
def ltK (x y : K3) : Prop := x.1 < y.1 ∨ (x.1 = y.1 ∧ (x.2.1 < y.2.1 ∨ (x.2.1 = y.2.1 ∧ x.2.2 < y.2.2)))
instance {x y : K3} : Decidable (ltK x y) := by unfold ltK; infer_instance
theorem ord_lt {x y : K3} : ordI x y < 0 ↔ ltK x y := by
  unfold ordI ltK
  have h1 := @cmp0 x.1 y.1
  have h2 := @cmp0 x.2.1 y.2.1
  have h3 := @cmpL x.1 y.1
  have h4 := @cmpL x.2.1 y.2.1
  have h5 := @cmpL x.2.2 y.2.2
  split
  · split <;> omega
  · omega
theorem ltOf_iff {x y : K3} : ltOf ordI x y = true ↔ ltK x y := by
  unfold ltOf
  rw [decide_eq_true_iff]
  exact ord_lt
theorem ltK_tot {x y : K3} (h1 : ¬ ltK x y) (h2 : ¬ ltK y x) : x = y := by
  obtain ⟨a, b, c⟩ := x
  obtain ⟨d, e, f⟩ := y
  unfold ltK at h1 h2
  simp only at h1 h2
  rw [show a = d by omega, show b = e by omega, show c = f by omega]
theorem swoK : SWO (ltOf ordI) := by
  constructor <;> intros <;> simp_all only [ltOf_iff, Bool.not_eq_true, ← Bool.not_eq_true] <;> unfold ltK at * <;> omega
end Go.Proofs.Ythoafjeampbkeaa

set_option linter.unusedVariables false
set_option linter.unusedSimpArgs false
namespace Go.Proofs.Ythoafjeampbkeaa
open Go Go.Sx Go.Proofs Go.RowKit Go.Maps Go.Sort Go.Shelf Go.Lib
theorem c3s_get : ∀ (l : List K3) (t : Nat), t < l.length * 3 → (c3s l)[t]? = some ((c3 (l.toArray)[t / 3]!)[t % 3]!)
  | [], t, h => by simp at h
  | k :: l, t, h => by
    have e : c3s (k :: l) = c3 k ++ c3s l := rfl
    rw [e]
    by_cases h3 : t < 3
    · rw [List.getElem?_append_left (by rw [c3_len]; exact h3)]
      have e1 : t / 3 = 0 := by omega
      have e2 : t % 3 = t := by omega
      rw [e1, e2]
      have : (c3 k).length = 3 := rfl
      simp [List.getElem?_eq_getElem, h3, this]
    · rw [List.getElem?_append_right (by rw [c3_len]; omega), c3_len, c3s_get l (t - 3) (by simp at h; omega)]
      obtain ⟨u, rfl⟩ : ∃ u, t = u + 3 := ⟨t - 3, by omega⟩
      have e1 : (u + 3) / 3 = u / 3 + 1 := by omega
      have e2 : (u + 3) % 3 = u % 3 := by omega
      rw [Nat.add_sub_cancel, e1, e2]
      simp
theorem flat3 (l : List K3) : flatK c3 3 l.toArray = (c3s l).toArray := by
  apply Array.ext'
  apply List.ext_getElem?
  intro t
  by_cases h : t < l.length * 3
  · rw [show (c3s l).toArray.toList = c3s l from rfl, c3s_get l t h]
    simp [flatK, h]
  · rw [List.getElem?_eq_none (by simp; omega), List.getElem?_eq_none (by simp [c3s_len]; omega)]
theorem holds_of_blockG {w : World} {g : Nat} {cur : Array Value} {e : TypeId} {xs : List Value} (hb : w.heap[g]? = some (.cells cur e (0, 0))) (ht : cur.toList.take xs.length = xs) : Holds id w g 0 xs.toArray := by
  intro j hj
  have hj' : j < xs.length := by simpa using hj
  refine ⟨?_, by simp [World.frozen?, hb]⟩
  have h1 : (cur.toList.take xs.length)[j]? = xs[j]? := by rw [ht]
  rw [List.getElem?_take_of_lt hj'] at h1
  simp only [World.cell?, hb, Nat.zero_add]
  simp only [Option.isSome_none, Bool.false_eq_true, if_false]
  rw [← Array.getElem?_toList, h1]
  simp [hj']
theorem heap_sortedG {w : World} {g n : Nat} {os : Array Obj} {cur : Array Value} {e : TypeId} {fr : Nat × Nat} (d : Array Value) (hb : w.heap[g]? = some (.cells cur e fr)) :
    (grow (putRow id (Sort.ahead w n) g 0 d) os).heap[g]? = some (.cells (putCells id 0 d cur) e fr) := by
  have hg : g < w.heap.size := (Array.getElem?_eq_some_iff.1 hb).1
  rw [heap_grow_old _ _ (by simpa using hg)]
  simp [putRow, mapBlock, Sort.ahead, Array.getElem?_modify, hb, onCells]
theorem grownBy_sortedG {w : World} {g n : Nat} {os : Array Obj} (d : Array Value) : w.grownBy (grow (putRow id (Sort.ahead w n) g 0 d) os) (some g) := by
  refine ⟨rfl, rfl, rfl, by simp, fun k hk hne => ?_⟩
  rw [heap_grow_old _ _ (by simpa using hk)]
  have : g ≠ k := fun e => hne (by rw [e])
  simp [putRow, mapBlock, Sort.ahead, Array.getElem?_modify, this]
theorem take_putCellsG (cur : Array Value) (ts : List Value) (h : ts.length ≤ cur.size) : (putCells id 0 ts.toArray cur).toList.take ts.length = ts := by
  apply List.ext_getElem?
  intro j
  by_cases hj : j < ts.length
  · rw [List.getElem?_take_of_lt hj, Array.getElem?_toList]
    simp [putCells, hj, show j < cur.size by omega]
  · rw [List.getElem?_take_eq_none (by omega), List.getElem?_eq_none (by omega)]
theorem ownsRow_sortedG {w : World} {base g cap n m : Nat} {e : TypeId} {os : Array Obj} {cur : Array Value} {ts : List Value} (hl : ts.length = m * 3) (hbase : base ≤ g) (hb : w.heap[g]? = some (.cells cur e (0, 0)))
    (h1 : m ≤ cap) (h2 : cap ≤ maxLen) (h3 : cur.size = cap * 3) :
    (grow (putRow id (Sort.ahead w n) g 0 ts.toArray) os).ownsRow base e 3 (.slice (some ⟨g, 0, none⟩) m cap) m ts :=
  ⟨by simp [hl], .inr ⟨g, cap, _, rfl, hbase, heap_sortedG _ hb, h1, h2, by simp [putCells, h3], by rw [← hl]; exact take_putCellsG cur ts (by omega)⟩⟩
/-- transactions, in order -/
def sort3 (l : List K3) : List K3 := l.mergeSort fun x y => !(ltOf ordI) y x
theorem sort3_len (l : List K3) : (sort3 l).length = l.length := by simp [sort3]
theorem sortFunc_none (cap : Nat) (fv : Value) (W : World) : Calls Try.prog 62 #[.slice none 0 cap, fv] W fun e w' => e = .returned (.tuple #[]) ∧ w' = W :=
  AnyF.slices_SortFunc_none { Try.sortTx with } none cap fv W
end Go.Proofs.Ythoafjeampbkeaa

set_option linter.unusedVariables false
set_option linter.unusedSimpArgs false
namespace Go.Proofs.Ythoafjeampbkeaa
open Go Go.Sx Go.Proofs Go.RowKit Go.Maps Go.Sort Go.Shelf Go.Lib
section
variable {ν : Type} {RV : Go.Sx.Rd ν} {ag : Bool} {H : Heap}
open Classical in
noncomputable def kf3 (e : MapEntry) : K3 := if h : ∃ k, e.key = ek3 k then h.choose else (0, 0, 0)
theorem kf3_eq {e : MapEntry} {k : K3} (h : e.key = ek3 k) : kf3 e = k := by
  have hx : ∃ k, e.key = ek3 k := ⟨k, h⟩
  unfold kf3
  rw [dif_pos hx]
  exact ek3_inj (hx.choose_spec.symm.trans h)
theorem el_kf3 : ∀ {es : List MapEntry} {m : List (K3 × ν)}, EL ek3 RV ag H es m → es.map kf3 = m.map (·.1) ∧ ∀ e ∈ es, e.key = ek3 (kf3 e)
  | [], [], _ => ⟨rfl, fun _ h => by cases h⟩
  | e :: es, (k, v) :: m, ⟨a, _, d⟩ => by
    obtain ⟨h1, h2⟩ := el_kf3 d
    have hk := kf3_eq a
    refine ⟨by simp [h1, hk], fun x hx => ?_⟩
    rcases List.mem_cons.1 hx with rfl | hx
    · rw [hk]; exact a
    · exact h2 x hx
  | [], _ :: _, h => h.elim
  | _ :: _, [], h => h.elim
theorem sort3_perm {l l' : List K3} (h : l.Perm l') : sort3 l = sort3 l' := by
  have hO := swoK
  have tot : ∀ x y, ltOf ordI x y = false → ltOf ordI y x = false → x = y := fun x y h1 h2 => by
    have e1 : ¬ ltK x y := fun h => by rw [← ltOf_iff] at h; rw [h] at h1; cases h1
    have e2 : ¬ ltK y x := fun h => by rw [← ltOf_iff] at h; rw [h] at h2; cases h2
    exact ltK_tot e1 e2
  have tr : ∀ a b c : K3, (!(ltOf ordI) b a) = true → (!(ltOf ordI) c b) = true → (!(ltOf ordI) c a) = true := fun a b c h1 h2 => by
    simp only [Bool.not_eq_true', ← Bool.not_eq_true, ltOf_iff] at *
    unfold ltK at *
    omega
  have to : ∀ a b : K3, ((!(ltOf ordI) b a) || (!(ltOf ordI) a b)) = true := fun a b => by
    simp only [Bool.or_eq_true, Bool.not_eq_true', ← Bool.not_eq_true, ltOf_iff]
    unfold ltK
    omega
  refine List.Perm.eq_of_pairwise (le := fun x y => (!(ltOf ordI) y x) = true) (fun a b _ _ h1 h2 => ?_) (List.pairwise_mergeSort tr to l) (List.pairwise_mergeSort tr to l') (((List.mergeSort_perm l _).trans h).trans (List.mergeSort_perm l' _).symm)
  simp only [Bool.not_eq_true'] at h1 h2
  exact tot a b h2 h1
/-- a new row of three cells each -/
theorem newRow3 {W0 w w' : World} {H : Heap} {L : List HProp} {T n : Nat} {v : Value} {xs : List Value} (hS : St W0 H w L) (hb : Below w.heap.size w w') (hr : w'.ownsRow w.heap.size T 3 v n xs) : St W0 H w' (Go.Sx.own T 3 v n xs :: L) := by
  have hS' := hS.below hb
  obtain ⟨hx, h⟩ := hr
  rcases h with ⟨rfl, rfl⟩ | ⟨g, cap, cur, rfl, hg, hcell, h1, h2, h3, h4⟩
  · have : xs = [] := List.eq_nil_of_length_eq_zero (by simpa using hx)
    subst this
    exact hS'.sub own_nil
  · obtain ⟨h, a, l, d⟩ := hS.own
    have hnew : hp w g = none := by simp only [hp]; exact Array.getElem?_eq_none hg
    let hA : Heap := fun b => if b = g then some (.cells cur T (0, 0)) else none
    have hAw : hA.le (hp w') := fun b o e => by
      simp only [hA] at e
      split at e
      · next e1 => subst e1; cases e; exact hcell
      · cases e
    have dis : ∀ (x : Heap), x.le (hp w) → Disj hA x := fun x hx b => by
      by_cases e : b = g
      · subst e
        right
        cases hxb : x b with
        | none => rfl
        | some o => have := hx b o hxb; rw [hnew] at this; cases this
      · left; simp [hA, e]
    have keep : ∀ (x : Heap), x.le (hp w) → x.le (hp w') := fun x hx b o e => by
      have h1 := hx b o e
      have hlt := hp_lt h1
      simp only [hp] at h1 ⊢
      rw [hb.block b hlt]; exact h1
    refine St.of_parts hS'.env hS'.ro (hA := hA) ?_ a (dis h l) (dis H hS.ro).symm d hAw (keep h l)
    by_cases h0 : cap = 0
    · subst h0
      have hn0 : n = 0 := by omega
      subst hn0
      have hc0 : cur.size = 0 := by simpa using h3
      refine ⟨hx, .inl ⟨rfl, ?_⟩⟩
      exact ⟨_, rfl⟩
    · have hsplit : cur.toList = xs ++ cur.toList.drop (n * 3) := by rw [← h4, List.take_append_drop]
      refine ⟨hx, .inr ⟨g, cap, cur.toList.drop (n * 3), rfl, by omega, h1, h2, ?_, ?_⟩⟩
      · rw [← hsplit]; simpa using h3
      · rw [← hsplit]; simp [hA]
def toTx (k : K3) : Txn := ⟨k.1, k.2.1, k.2.2⟩
theorem rl3 {H : Heap} : ∀ {l : List K3}, (∀ k ∈ l, fits k.1 ∧ fits k.2.1 ∧ fits k.2.2) → RL rTxn H (c3s l) (l.map toTx)
  | [], _ => rfl
  | k :: l, h => ⟨c3 k, c3s l, rfl, ⟨rfl, (h k (by simp)).1, (h k (by simp)).2.1, (h k (by simp)).2.2⟩, rl3 fun y hy => h y (by simp [hy])⟩
end
end Go.Proofs.Ythoafjeampbkeaa

set_option linter.unusedVariables false
set_option linter.unusedSimpArgs false
namespace Go.Proofs.Ythoafjeampbkeaa
open Go Go.Sx Go.Proofs
abbrev I (n : Int) : Value := .int .i64 n
theorem bdec {p q : Prop} [Decidable p] [Decidable q] (h : p ↔ q) : Value.bool (decide p) = Value.bool (decide q) := by rw [decide_eq_decide.2 h]
instance eqTxn : TEq3 Try.prog 28 := ⟨by kernel_rfl, fun a b c d e f w => by
  have u3 := Try.underlying3
  have a3 := Try.isAgg3
  have z3 := Try.sizeOf3
  have hS : Try.prog.underlying 28 = some (.struct (Try.prog.fieldsOf 28)) := by kernel_rfl
  have hp : Try.prog.stoodInHeld 28 = false := by kernel_rfl
  rw [show (10000 : Nat) = 9999 + 1 from rfl, run_equalIn_agg w 9999 28 _ _ hS hp]
  simp only [Program.fieldsOf, Try.underlying28]
  go_simp
  by_cases h1 : a = d <;> by_cases h2 : b = e <;> by_cases h3 : c = f <;> simp [h1, h2, h3]⟩
instance : TKey3 Try.prog 28 where
  toTEq3 := eqTxn
  und := ⟨_, Try.underlying28⟩
  chk e a b c w := by
    have u3 := Try.underlying3
    have a3 := Try.isAgg3
    have z3 := Try.sizeOf3
    rw [show (10000 : Nat) = 9998 + 1 + 1 from rfl, Instr.checkKey]
    simp only [Sem.run_bind, run_underlying Try.underlying28, Result.andThen_ok]
    rw [← Array.forIn_toList]
    simp only [List.forIn_cons, List.forIn_nil]
    go_simp
    have hc : ∀ (x : Int) (w : World), (Instr.checkKey e 9999 3 (.int .i64 x)).run Try.prog w = .ok () w := fun x w => by
      rw [show (9999 : Nat) = 9998 + 1 from rfl, Instr.checkKey]; simp [run_underlying u3]
    simp only [hc, Result.andThen_ok]
end Go.Proofs.Ythoafjeampbkeaa
