/- A range over a map by what lies in memory, whatever the keys. No program in sight. maps.Keys at a map whose keys are api.Txn: its iterator; slices.AppendSeq and Collect against such an iterator. slices.AppendSeq and Collect at api.Txn, against whatever iterator. Transactions compared, sorted. slices.SortedFunc at api.Txn by locktab.order, against whatever iterator; maps.Keys. slices.SortedFunc(maps.Keys(works), order): to owned parts. Small things; transactions compared, as keys. Lists of texts: cloned, joined. Lists of texts: sorted, compacted; is one twice in a list? The table's parts; works with lists of their own. The table as an object that is owned; what is asked of it; the reference's small functions. All held keys. All prepared transactions. -/
import Derived.Sort.MapsRangeIn
import Derived.RangeFuncGives
import Derived.Sort.KeysCollected
import Derived.Test.YtjgjcakeimkkdaaGreatDoorProg
import Derived.Test.YtjgjcakeimkkdaaGreatDoorKD
import Derived.Shelf.SlIter.Collect
import Derived.WalkKit
import Derived.OwnWalkIn
import Derived.TacticsInMore
import Derived.RegionIn
import Derived.LoopNIn
import Derived.LoopIn
import Derived.Shelf.Abstract
import Derived.Test.YtjgjcakeimkkdaaGreatDoorInst
import Derived.Test.YtjgjcakeimkkdaaGreatDoorShelf
import Derived.Deep.RegionWith
import Derived.Deep.QuietTactic
import Derived.StillTailTactics
import Derived.Sort.OwnSorted
import Derived.RangeFuncBound
import Derived.Test.YtjgjcakeimkkdaaGreatDoorTy
import Derived.Test.YtjgjcakeimkkdaaGreatDoorKC
import Derived.Test.YtjgjcakeimkkdaaGreatDoorShelf2
set_option linter.unusedVariables false
set_option linter.unusedSimpArgs false
namespace Go.Proofs.YtjgjcakeimkkdaaGreatDoor
open Go Go.Proofs Go.RowKit Go.Maps Go.MapKept Go.ChangeMaps Go.WideShapes
section
variable {F : Fence} {n : Nat} {P : Program} (w : World) {ops : Array Oper} {rest : List Oper} {o : Oper} {a : Act} {Q : Exit → Act → World → Prop}
/-- range m -/
theorem in_range_raw (hg : o.guard = none) (m : Operand) (t : TypeId) (hop : o.op = Op.range t m) (k e : TypeId) (ht : P.underlying t = some (.map k e)) (b : Nat) (es : Array MapEntry) (clock : Nat)
    (hm : a.eval m = .map (some b)) (hb : w.heap[b]? = some (.map es clock))
    (hK : wpListIn F n P ops Q rest (a.put o.dst (.pointer (some ⟨w.heap.size, 0, none⟩))) (w.alloc (.mapIter (some b) clock #[] clock))) :
    wpListIn F n P ops Q (o :: rest) a w := by
  refine wpListIn_plain hg fun K' hK' => ?_
  have hrun := run_range_map w t k e b es clock ht hb
  unfold Oper.wpIn
  refine ⟨?_, ?_⟩
  · simp [Oper.about, hop]
  · rw [Oper.semAt_plain F _ _ (by rw [hop]; intro c hc'; cases hc')]
    simp [execOp, hop, hm, hrun, Result.andThen]
    exact hK' _ _ hK
/-- the step -/
theorem in_next_raw (hg : o.guard = none) (it : Operand) (hop : o.op = Op.next it false) (b r : Nat) (es : Array MapEntry) (clock since c0 : Nat) (seen : Array Nat)
    (hit : a.eval it = .pointer (some ⟨r, 0, none⟩)) (hr : w.heap[r]? = some (.mapIter (some b) since seen c0)) (hb : w.heap[b]? = some (.map es clock)) (hold : ∀ x ∈ es.toList, x.born < since) (hsc : since ≤ c0)
    (hDone : (leftOf es seen).size = 0 → wpListIn F n P ops Q rest (a.put o.dst (.tuple #[.bool false])) w)
    (hMore : ∀ e ∈ (leftOf es seen).toList, ∀ w' : World, w'.heap[r]? = some (.mapIter (some b) since (seen.push e.born) clock) → w.grownBy w' (some r) → w'.heap.size = w.heap.size →
      wpListIn F n P ops Q rest (a.put o.dst (.tuple #[.bool true, e.key, e.val])) w') :
    wpListIn F n P ops Q (o :: rest) a w := by
  refine wpListIn_plain hg fun K' hK' => ?_
  unfold Oper.wpIn
  refine ⟨by simp [Oper.about, hop], ?_⟩
  rw [Oper.semAt_plain F _ _ (by rw [hop]; intro c hc'; cases hc')]
  rcases run_next_at (P := P) w o.type r b since c0 seen es clock hr hb hold hsc with ⟨h0, hrun⟩ | ⟨e, he, w1, hal, hrun⟩
  · simp [execOp, hop, hit, hrun, Result.andThen]
    exact hK' _ _ (hDone h0)
  · simp [execOp, hop, hit, hrun, Result.andThen]
    have hr1 : w1.heap[r]? = some (.mapIter (some b) since seen c0) := by rcases hal with rfl | rfl <;> exact hr
    have hset := heap_set (o' := .mapIter (some b) since (seen.push e.born) clock) hr1
    refine hK' _ _ (hMore e he _ hset.1 ?_ ?_)
    · rcases hal with rfl | rfl <;> exact ⟨rfl, rfl, rfl, by simp [setBlock], fun i _ hi => hset.2 i (fun e1 => hi (by rw [e1]))⟩
    · rcases hal with rfl | rfl <;> simp [setBlock]
end
/-- one entry more has come -/
theorem seen_step {e : MapEntry} {p : Nat → Bool} : ∀ {l : List MapEntry}, (l.map (·.born)).Nodup → e ∈ l → p e.born = false → (l.filter fun x => p x.born || x.born == e.born).Perm (e :: l.filter fun x => p x.born)
  | [], _, he, _ => by cases he
  | x :: l, hn, he, hp => by
    rw [List.map_cons, List.nodup_cons] at hn
    rcases List.mem_cons.1 he with rfl | he
    · have hl : (l.filter fun x => p x.born || x.born == e.born) = l.filter fun x => p x.born := by
        refine List.filter_congr fun x hx => ?_
        have : (x.born == e.born) = false := by
          simp only [beq_eq_false_iff_ne]
          exact fun h => hn.1 (h ▸ List.mem_map.2 ⟨x, hx, rfl⟩)
        rw [this, Bool.or_false]
      rw [List.filter_cons, if_pos (by simp), List.filter_cons, if_neg (by rw [hp]; decide), hl]
    · have ih := seen_step hn.2 he hp
      have hne : (x.born == e.born) = false := by
        simp only [beq_eq_false_iff_ne]
        exact fun h => hn.1 (h ▸ List.mem_map.2 ⟨e, he, rfl⟩)
      cases hx : p x.born with
      | true =>
        rw [List.filter_cons, if_pos (by rw [hx]; rfl), List.filter_cons, if_pos hx]
        exact (ih.cons x).trans (List.Perm.swap _ _ _)
      | false =>
        rw [List.filter_cons, if_neg (by rw [hx, hne]; decide), List.filter_cons, if_neg (by rw [hx]; decide)]
        exact ih
/-- which have come -/
def cameL (es : Array MapEntry) (seen : Array Nat) : List MapEntry := es.toList.filter fun x => seen.contains x.born
theorem came_step {es : Array MapEntry} {seen : Array Nat} {e : MapEntry} (hn : (es.toList.map (·.born)).Nodup) (he : e ∈ (leftOf es seen).toList) : (cameL es (seen.push e.born)).Perm (e :: cameL es seen) ∧ e ∈ es.toList := by
  obtain ⟨hem, hes⟩ := mem_left he
  have h1 := seen_step (p := fun b => seen.contains b) hn hem (by simpa using hes)
  refine ⟨?_, hem⟩
  refine List.Perm.trans (List.Perm.of_eq ?_) h1
  unfold cameL
  refine List.filter_congr fun x _ => ?_
  rw [contains_push]
theorem came_all {es : Array MapEntry} {seen : Array Nat} (h : (leftOf es seen).size = 0) : cameL es seen = es.toList := by
  unfold cameL
  rw [List.filter_eq_self]
  intro x hx
  exact all_seen es seen h x hx
theorem came_none {es : Array MapEntry} : cameL es #[] = [] := by
  unfold cameL
  rw [List.filter_eq_nil_iff]
  intro x hx
  simp
end Go.Proofs.YtjgjcakeimkkdaaGreatDoor

set_option linter.unusedVariables false
set_option linter.unusedSimpArgs false
namespace Go.Proofs.YtjgjcakeimkkdaaGreatDoor
open Go Go.Sx Go.Proofs Go.RowKit Go.Maps Go.Sort Go.Shelf
abbrev K3 := Int × Int × Int
set_option maxRecDepth 100000 in
set_option maxHeartbeats 2000000 in
theorem keys1_raw (F : Fence) (n : Nat) (h10 : F.fn 67) (hro : F.round = none) (hn : 1 ≤ n) (l Bm b : Nat) (es : Array MapEntry) (clock : Nat) (kf : MapEntry → K3) (J : List K3 → World → Prop)
    (hY : ∀ pre x W, J pre W → pre.length < es.size → YieldAt F (n - 1) Tryz.prog l #[ek3 x] W fun e W' => e = .returned (.bool true) ∧ J (pre ++ [x]) W' ∧ KeepsWalks W W')
    (W : World) (hJ : AbidesFrom W.heap.size J) (hm : W.cell? ⟨Bm, 0, none⟩ = some (.map (some b))) (hb : W.heap[b]? = some (.map es clock)) (hold : ∀ x ∈ es.toList, x.born < clock) (hnd : (es.toList.map (·.born)).Nodup) (hk : ∀ e ∈ es.toList, e.key = ek3 (kf e)) (h0 : J [] W) :
    CallsIn F n Tryz.prog 67 #[.func (.yield l) #[] #[], .pointer (some ⟨Bm, 0, none⟩)] W fun e W' => (∃ v, e = .returned v) ∧ ∃ ss : List K3, ss.Perm (es.toList.map kf) ∧ J ss W' := by
  have hblt : b < W.heap.size := (Array.getElem?_eq_some_iff.1 hb).1
  refine callsIn_of_wp Tryz.func67 rfl h10 ?_ hro
  simp only [Tryz.ntmps67, List.size_toArray, List.length_cons, List.length_nil, Nat.reduceAdd, Nat.reduceSub, Array.replicate_succ, Array.replicate_zero, List.push_toArray, List.append_toArray, List.nil_append, List.cons_append]
  gi_wp2_with (first
    | (gi_at_range; refine in_range_raw _ rfl _ 105 rfl 29 32 Tryz.underlying105 b es clock rfl hb ?_)
    | gi_in)
  go_frame
  gi_loopw [3] (fun _ wr => ∃ (seen : Array Nat) (c0 : Nat) (ss : List K3), wr.heap[b]? = some (.map es clock) ∧ wr.heap[W.heap.size]? = some (.mapIter (some b) clock seen c0) ∧ clock ≤ c0 ∧ ss.Perm ((cameL es seen).map kf) ∧ J ss wr)
    (fun _ wr => wr.rangeLeft b W.heap.size)
  case atStart =>
    exact ⟨#[], clock, [], (Below.heap_alloc _ _ b hblt).trans hb, World.alloc_heap_new W _, Nat.le_refl _, by rw [came_none]; exact .refl _, hJ [] W _ none h0 (World.grownBy_alloc W _ none) (fun r e => by cases e)⟩
  case round =>
    obtain ⟨seen, c0, ss, hbr, hrr, hc0, hperm, hJs⟩ := hrel
    gi_wp2_with (first
      | (gi_at_next; refine in_next_raw _ rfl _ rfl b W.heap.size es clock clock c0 seen rfl hrr hbr hold hc0 ?_ ?_)
      | gi_in)
    · intro hl0
      gi_wp2
      go_end0
      rw [came_all (by rw [hl0]; rfl)] at hperm
      exact ⟨⟨_, rfl⟩, ss, hperm, hJs⟩
    · intro e he w2 hr2 hg2 hs2
      obtain ⟨hcs, hem⟩ := came_step hnd (show e ∈ (leftOf es seen).toList by simpa using he)
      have hb2 : w2.heap[b]? = some (.map es clock) := (hg2.block b (Array.getElem?_eq_some_iff.1 hbr).1 (fun e1 => by cases e1; omega)).trans hbr
      have hen := run_entry_at (P := Tryz.prog) w2 W.heap.size b clock seen es clock e hr2 hb2 hem hnd
      rw [hk e hem] at hen ⊢
      obtain ⟨⟨x, y, z⟩, hx⟩ : ∃ q, q = kf e := ⟨_, rfl⟩
      rw [← hx] at hen ⊢
      simp only [ek3] at hen
      have he' : e ∈ (leftOf es seen).toList := by simpa using he
      have hwr : wr.heap.size = w2.heap.size := hs2.symm
      clear hs2
      have hJ2 : J ss w2 := hJ ss wr w2 (some W.heap.size) hJs hg2 (fun r e1 => by cases e1; exact ⟨Nat.le_refl _, _, hrr, rfl⟩)
      obtain ⟨W3, hW3⟩ : ∃ W3, W3 = w2.alloc (.cells #[.int .i64 x, .int .i64 y, .int .i64 z] 29) := ⟨_, rfl⟩
      have hJ3 : J ss W3 := by rw [hW3]; exact hJ ss w2 _ none hJ2 (World.grownBy_alloc w2 _ none) (fun r e1 => by cases e1)
      have hlen : ss.length < es.size := by
        have h1 := hperm.length_eq
        have h2 := hcs.length_eq
        have h3 : (cameL es (seen.push e.born)).length ≤ es.toList.length := List.length_filter_le _ _
        simp only [List.length_map, List.length_cons] at h1 h2
        simp only [Array.length_toList] at h3
        omega
      obtain ⟨fn, tmps, assign, body, hy, hR⟩ := hY ss (x, y, z) W3 hJ3 hlen
      simp only [ek3] at hy
      have hb3 : W3.heap[b]? = some (.map es clock) := by rw [hW3]; exact (Below.heap_alloc _ _ b (Array.getElem?_eq_some_iff.1 hb2).1).trans hb2
      have hr3 : W3.heap[W.heap.size]? = some (.mapIter (some b) clock (seen.push e.born) clock) := by rw [hW3]; exact (Below.heap_alloc _ _ _ (Array.getElem?_eq_some_iff.1 hr2).1).trans hr2
      gi_wp2
      rw [← hW3, hy]
      refine ⟨fun _ => hn, hR.mono ?_⟩
      rintro e4 W4 ⟨rfl, hJ4, hk4⟩
      gi_wp2
      go_roundw
      case rel =>
        refine ⟨seen.push e.born, clock, ss ++ [(x, y, z)], hk4.same b _ hb3 rfl, hk4.same _ _ hr3 rfl, Nat.le_refl _, ?_, hJ4⟩
        refine List.Perm.trans ?_ (hcs.map kf).symm
        rw [List.map_cons, ← hx]
        exact (List.perm_append_singleton _ _).trans (hperm.cons _)
      case measure =>
        have h1 := left_shrinks es seen e he'
        simp only [World.rangeLeft, hk4.same b _ hb3 rfl, hk4.same _ _ hr3 rfl, hbr, hrr]
        exact h1
end Go.Proofs.YtjgjcakeimkkdaaGreatDoor

set_option linter.unusedVariables false
set_option linter.unusedSimpArgs false
namespace Go.Proofs.YtjgjcakeimkkdaaGreatDoor
open Go Go.Sx Go.Proofs Go.RowKit Go.Maps Go.Sort Go.Shelf
/-- a transaction's three cells -/
def c3 (k : K3) : List Value := [.int .i64 k.1, .int .i64 k.2.1, .int .i64 k.2.2]
def c3s (l : List K3) : List Value := (l.map c3).flatten
theorem c3_len (k : K3) : (c3 k).length = 3 := rfl
theorem c3s_len (l : List K3) : (c3s l).length = l.length * 3 := by
  induction l with
  | nil => rfl
  | cons k l ih => simp only [c3s, List.map_cons, List.flatten_cons, List.length_append, List.length_cons, c3_len] at *; omega
theorem c3s_snoc (l : List K3) (k : K3) : c3s (l ++ [k]) = c3s l ++ c3 k := by simp [c3s]
def apAssign : Code := (Code.region 2 #[{ dst := some 5, op := Op.alloc 29, type := 0, pos := "iter.go:51", after := #[], guard := none }, { dst := none, op := Op.store 29 (Operand.tmp 5) (Operand.tmp 7), type := 0, pos := "iter.go:51", after := #[{ on := 0, ground := Ground.data }, { on := 0, ground := Ground.phase }], guard := none }] false)
def apBody : Code := (Code.block 1 (Code.region 3 #[{ dst := some 8, op := Op.load 26 (Operand.tmp 2), type := 26, pos := "iter.go:52", after := #[], guard := none }, { dst := some 9, op := Op.load 29 (Operand.tmp 5), type := 29, pos := "iter.go:52", after := #[], guard := none }, { dst := some 10, op := Op.buildSlice 26 1 #[(0, Operand.tmp 9)], type := 26, pos := "iter.go:52", after := #[{ on := 1, ground := Ground.data }], guard := none }, { dst := some 11, op := Op.call { callee := Callee.builtin Builtin.append, args := #[Operand.tmp 8, Operand.tmp 10], argTypes := #[26, 26] }, type := 26, pos := "iter.go:52", after := #[{ on := 0, ground := Ground.data }, { on := 2, ground := Ground.data }], guard := none }, { dst := none, op := Op.store 26 (Operand.tmp 2) (Operand.tmp 11), type := 0, pos := "iter.go:52", after := #[{ on := 3, ground := Ground.data }, { on := 3, ground := Ground.chain }, { on := 0, ground := Ground.phase }, { on := 1, ground := Ground.phase }, { on := 2, ground := Ground.phase }, { on := 3, ground := Ground.phase }], guard := none }] false))
/-- the loop's record: s boxed in block Bs; sv: the iterator's value -/
def apRec (fn : FuncId) (sv : Value) (Bs D : Nat) (st : LoopState) (pend : Option Code) : Loop :=
  { state := st, pending := pend, fn, tmps := #[.slice none 0 0, sv, .pointer (some ⟨Bs, 0, none⟩), undef, .slice none 0 0, undef, sv, undef, undef, undef, undef, undef, undef], params := #[7], assign := apAssign, body := apBody, defers := D }
/-- between two rounds -/
structure ApAt (w0 : World) (fn : FuncId) (sv : Value) (Bs l D : Nat) (ss : List K3) (W : World) : Prop where
  box : ∃ v, W.heap[Bs]? = some (.cells #[v] 26 (0, 0)) ∧ W.ownsRow w0.heap.size 29 3 v ss.length (c3s ss) ∧ (v = .slice none 0 0 ↔ ss = [])
  L : W.heap[l]? = some (.loop (apRec fn sv Bs D .ready none))
  K : W.heap[D]? = some (.deferred (some []))
  below : Below w0.heap.size w0 W
theorem ap_abides (w0 : World) (fn : FuncId) (sv : Value) (Bs l D B : Nat) (hB : w0.heap.size ≤ B) : AbidesFrom B (ApAt w0 fn sv Bs l D) := fun s W W' row h hg hrow => by
  have hrow' : ∀ r, row = some r → ∃ o : Obj, W.heap[r]? = some o ∧ o.isWalk = true := fun r e => (hrow r e).2
  obtain ⟨v, hv, hr, hn⟩ := h.box
  exact ⟨⟨v, (grownBy_keeps hg hrow' hv rfl).trans hv, ownsRow_abides_a hr hg hrow', hn⟩, (grownBy_keeps hg hrow' h.L rfl).trans h.L, (grownBy_keeps hg hrow' h.K rfl).trans h.K,
    h.below.grown hg h.below.size (fun k e => Nat.le_trans hB (hrow k e).1)⟩
theorem cell_new3 (w : World) (cs : Array Value) (t : TypeId) (k : Nat) : (w.alloc (.cells cs t)).cell? ⟨w.heap.size, k, none⟩ = cs[k]? := by
  have h1 := World.alloc_heap_new w (.cells cs t (0, 0))
  unfold World.cell?
  dsimp only
  rw [h1]
  rfl
theorem cell_three_new (w : World) (x y z : Value) (t : TypeId) : ∀ j u, [x, y, z][j]? = some u → (w.alloc (.cells #[x, y, z] t)).cell? ((⟨w.heap.size, 0, none⟩ : Addr).add j) = some u := by
  intro j u hj
  match j, hj with
  | 0, hj => simp at hj; subst hj; exact cell_new3 w _ t 0
  | 1, hj => simp at hj; subst hj; exact cell_new3 w _ t 1
  | 2, hj => simp at hj; subst hj; exact cell_new3 w _ t 2
set_option maxRecDepth 100000 in
set_option maxHeartbeats 4000000 in
theorem apYield (F : Fence) (m : Nat) (w0 : World) (fn : FuncId) (hfn : F.fn fn) (sv : Value) (Bs l D : Nat) (hBl : Bs ≠ l) (hDl : D ≠ l) (hDB : D ≠ Bs) (h0B : w0.heap.size ≤ Bs) (h0l : w0.heap.size ≤ l)
    (N : Nat) (hN : N ≤ maxLen) (hNb : N * 24 ≤ 140737488355328) (ss : List K3) (q : K3) (W : World) (h : ApAt w0 fn sv Bs l D ss W) (hlen : ss.length < N) :
    YieldAt F m Tryz.prog l #[ek3 q] W fun e W' => e = .returned (.bool true) ∧ ApAt w0 fn sv Bs l D (ss ++ [q]) W' ∧ KeepsWalks W W' := by
  have hne : (26 : TypeId) ≠ 29 := by decide
  obtain ⟨i0, hi, hz1, hz2, hz0, hz3, _⟩ := (inferInstance : TIn Tryz.prog 29 3 24 _).ex
  obtain ⟨x, y, z⟩ := q
  obtain ⟨v, hv, hrow, _⟩ := h.box
  refine ⟨fn, #[.slice none 0 0, sv, .pointer (some ⟨Bs, 0, none⟩), undef, .slice none 0 0, undef, sv, ek3 (x, y, z), undef, undef, undef, undef, undef], apAssign, apBody, by simpa [apRec] using run_yield (P := Tryz.prog) (args := #[ek3 (x, y, z)]) h.L rfl, roundIn_of_wpIn hfn ?_⟩
  -- the round's own variable
  obtain ⟨W1, hW1⟩ : ∃ W1, W.alloc (.cells #[.int .i64 x, .int .i64 y, .int .i64 z] 29) = W1 := ⟨_, rfl⟩
  have old1 : ∀ {j : Nat} {o : Obj}, W.heap[j]? = some o → W1.heap[j]? = some o := fun {j o} hj => by rw [← hW1]; exact (Below.heap_alloc _ _ j (Array.getElem?_eq_some_iff.1 hj).1).trans hj
  have hsz1 : W1.heap.size = W.heap.size + 1 := by rw [← hW1]; simp
  have hkk1 : KeepsWalks W W1 := by rw [← hW1]; exact KeepsWalks.alloc _ _
  have hv1 := old1 hv
  have hK1 := old1 h.K
  have hL1 := old1 h.L
  have hnew1 : W1.heap[W.heap.size]? = some (.cells #[.int .i64 x, .int .i64 y, .int .i64 z] 29 (0, 0)) := by rw [← hW1]; exact World.alloc_heap_new W _
  have hrow1 : W1.ownsRow w0.heap.size 29 3 v ss.length (c3s ss) := by rw [← hW1]; exact hrow.alloc _
  have hb1 : Below w0.heap.size w0 W1 := by rw [← hW1]; exact h.below.alloc h.below.size _
  have hl : l < W1.heap.size := (Array.getElem?_eq_some_iff.1 hL1).1
  have hlW : l < W.heap.size := (Array.getElem?_eq_some_iff.1 h.L).1
  have hbr := run_beginRound (P := Tryz.prog) hL1 rfl
  obtain ⟨W2, hW2⟩ : ∃ W2, W1.putObj l (.loop { apRec fn sv Bs D .ready none with state := .busy }) = W2 := ⟨_, rfl⟩
  rw [hW2] at hbr
  have hg2 : W1.grownBy W2 (some l) := by rw [← hW2]; exact grownBy_putObj_a _ _ _
  have hk2 : KeepsWalks W W2 := hkk1.trans (by rw [← hW2]; exact KeepsWalks.putObj _ hL1 rfl)
  have hv2 : W2.heap[Bs]? = some (.cells #[v] 26 (0, 0)) := by rw [← hW2]; exact (World.putObj_heap_other hBl).trans hv1
  have hK2 : W2.heap[D]? = some (.deferred (some [])) := by rw [← hW2]; exact (World.putObj_heap_other hDl).trans hK1
  have hL2 : W2.heap[l]? = some (.loop { apRec fn sv Bs D .ready none with state := .busy }) := by rw [← hW2]; exact World.putObj_heap_same hl
  have hnew2 : W2.heap[W.heap.size]? = some (.cells #[.int .i64 x, .int .i64 y, .int .i64 z] 29 (0, 0)) := by rw [← hW2]; exact (World.putObj_heap_other (by omega)).trans hnew1
  have hrow2 : W2.ownsRow w0.heap.size 29 3 v ss.length (c3s ss) := hrow1.kept hg2 (ownsRow_ne_a hrow1 hL1 (fun cur e => by first | cases e | exact hne (Obj.cells.inj e).2.1))
  have hb2 : Below w0.heap.size w0 W2 := hb1.grown hg2 hb1.size (fun k e => by cases e; exact h0l)
  have hcx : W2.cell? ⟨W.heap.size, 0, none⟩ = some (.int .i64 x) ∧ W2.cell? ⟨W.heap.size, 1, none⟩ = some (.int .i64 y) ∧ W2.cell? ⟨W.heap.size, 2, none⟩ = some (.int .i64 z) := by
    refine ⟨?_, ?_, ?_⟩ <;> simp [World.cell?, hnew2]
  clear hW2
  obtain ⟨hc2, hf2⟩ := cell_of_box_a hv2
  have hBlt : Bs < W2.heap.size := (Array.getElem?_eq_some_iff.1 hv2).1
  have hDlt : D < W2.heap.size := (Array.getElem?_eq_some_iff.1 hK2).1
  have hl2 : l < W2.heap.size := (Array.getElem?_eq_some_iff.1 hL2).1
  have ne_of : ∀ {j : Nat} {o : Obj}, W2.heap[j]? = some o → (∀ cur, o ≠ .cells cur 29 (0, 0)) → some j ≠ v.ownBlock := fun hj hno => by
    rcases ownsRow_ne_a hrow2 hj hno with e | e
    · rw [e]; simp
    · exact fun e' => e e'.symm
  simp only [ek3]
  unfold apAssign
  gi_wp2_with gi_round_op_a
  unfold apBody
  obtain ⟨hcx0, hcx1, hcx2⟩ := hcx
  gi_wp2_with (first
    | (gi_at_builtin; refine wpListIn_append_own _ rfl _ _ 26 rfl w0.heap.size 29 i0 _ 3 24 Tryz.underlying26 hi hz0 hz1 hz2 hz3 (by decide) _ _ _ rfl (hrow2.alloc _) ⟨W2.heap.size, 0, none⟩ 1 1 [.int .i64 x, .int .i64 y, .int .i64 z] rfl rfl (cell_three_new _ _ _ _ _) (by simp [Value.oneCell']) (by omega) (by omega) (by have := hb2.size; simp; omega) ?_; intro v' w3 hown' hg3 hnil3
       have hv3 : w3.heap[Bs]? = some (.cells #[v] 26 (0, 0)) := (hg3.block Bs (by simp; omega) (ne_of hv2 (fun cur e => by first | cases e | exact hne (Obj.cells.inj e).2.1))).trans ((Below.heap_alloc _ _ Bs hBlt).trans hv2)
       obtain ⟨hc3, hf3⟩ := cell_of_box_a hv3
       obtain ⟨g', cap', cur', rfl, hbase', hgb', hr1, hr2, hr3, hr4⟩ : ∃ g' cap' cur', v' = .slice (some ⟨g', 0, none⟩) (ss.length + 1) cap' ∧ w0.heap.size ≤ g' ∧ w3.heap[g']? = some (.cells cur' 29 (0, 0)) ∧ ss.length + 1 ≤ cap' ∧ cap' ≤ maxLen ∧ cur'.size = cap' * 3 ∧ cur'.toList.take ((ss.length + 1) * 3) = c3s ss ++ [.int .i64 x, .int .i64 y, .int .i64 z] := by
         rcases hown'.2 with ⟨_, h0⟩ | h'
         · exact absurd h0 (by omega)
         · exact h'
       go_frame)
    | gi_round_op_a)
  have hg3' : (W2.alloc (.cells #[.int .i64 x, .int .i64 y, .int .i64 z] 29)).grownBy w3 v.ownBlock := hg3
  have hL3 : w3.heap[l]? = some (.loop { apRec fn sv Bs D .ready none with state := .busy }) := (hg3'.block l (by simp; omega) (ne_of hL2 (fun cur e => by first | cases e | exact hne (Obj.cells.inj e).2.1))).trans ((Below.heap_alloc _ _ l hl2).trans hL2)
  have hK3 : w3.heap[D]? = some (.deferred (some [])) := (hg3'.block D (by simp; omega) (ne_of hK2 (fun cur e => by first | cases e | exact hne (Obj.cells.inj e).2.1))).trans ((Below.heap_alloc _ _ D hDlt).trans hK2)
  obtain ⟨w4, hw4⟩ : ∃ w4, w3.setCell ⟨Bs, 0, none⟩ (.slice (some ⟨g', 0, none⟩) (ss.length + 1) cap') = w4 := ⟨_, rfl⟩
  rw [hw4]
  have hg4 : w3.grownBy w4 (some Bs) := by rw [← hw4]; exact grownBy_setCell0_a _ _ _
  have hv4 : w4.heap[Bs]? = some (.cells #[.slice (some ⟨g', 0, none⟩) (ss.length + 1) cap'] 26 (0, 0)) := by rw [← hw4]; exact heap_setCell_box_a _ hv3
  have hL4 : w4.heap[l]? = some (.loop { apRec fn sv Bs D .ready none with state := .busy }) := (hg4.block l (Array.getElem?_eq_some_iff.1 hL3).1 (fun e => hBl (by cases e; rfl))).trans hL3
  have hK4 : w4.heap[D]? = some (.deferred (some [])) := (hg4.block D (Array.getElem?_eq_some_iff.1 hK3).1 (fun e => hDB (by cases e; rfl))).trans hK3
  have hrow4 := hown'.kept hg4 (ownsRow_ne_a hown' hv3 (fun cur e => by first | cases e | exact hne (Obj.cells.inj e).2.1))
  have hl4 : l < w4.heap.size := (Array.getElem?_eq_some_iff.1 hL4).1
  have hb3 : Below w0.heap.size w0 w3 := (hb2.alloc hb2.size _).grown hg3' (by have := hb2.size; simp; omega) (fun k e => (hrow2.lt k e).1)
  have hb4 : Below w0.heap.size w0 w4 := hb3.grown hg4 hb3.size (fun k e => by cases e; exact h0B)
  have hk4 : KeepsWalks W w4 := ((hk2.trans (KeepsWalks.alloc _ _)).trans (KeepsWalks.of_grownBy hg3' (ownsRow_not_walk_a (hrow2.alloc _)))).trans (by rw [← hw4]; exact KeepsWalks.setCell _ _ _)
  clear hw4
  refine ⟨_, _, run_endRound none hL4, rfl, ⟨⟨_, (World.putObj_heap_other hBl).trans hv4, ?_, by simp⟩, World.putObj_heap_same hl4, (World.putObj_heap_other hDl).trans hK4, hb4.grown (grownBy_putObj_a _ _ _) hb4.size (fun k e => by cases e; exact h0l)⟩, hk4.trans (KeepsWalks.putObj _ hL4 rfl)⟩
  have := hrow4.kept (grownBy_putObj_a w4 l (.loop { { apRec fn sv Bs D .ready none with state := .busy } with state := if (none : Option Code).isNone then .ready else .done, pending := none })) (ownsRow_ne_a hrow4 hL4 (fun cur e => by first | cases e | exact hne (Obj.cells.inj e).2.1))
  rw [c3s_snoc, List.length_append, List.length_singleton]
  exact this
set_option maxRecDepth 100000 in
set_option maxHeartbeats 2000000 in
theorem appendSeq_in (F : Fence) (n : Nat) (h11 : F.fn 88) (hro : F.round = none) (hn : 2 ≤ n) (g : Nat) (lb : Array Value) (hFg : F.fn g) (eg : ∀ args w, (callFunc g args).run Tryz.prog w = .ok (.enter g args) w)
    (S : List K3 → Prop) (N : Nat) (hN : N ≤ maxLen) (hNb : N * 24 ≤ 140737488355328) (w : World) (hseq : SeqGives F (n - 1) Tryz.prog g lb ek3 S N w) :
    CallsIn F n Tryz.prog 88 #[.slice none 0 0, .func (.func g) #[] lb] w fun e w' => ∃ (v : Value) (ss : List K3), e = .returned v ∧ S ss ∧ w'.ownsRow w.heap.size 29 3 v ss.length (c3s ss) ∧ (v = .slice none 0 0 ↔ ss = []) ∧ Below w.heap.size w w' := by
  have h1 : 1 ≤ n := by omega
  refine callsIn_of_wp_marks Tryz.func88 rfl h11 ?_ hro
  simp only [Tryz.ntmps88, List.size_toArray, List.length_cons, List.length_nil, Nat.reduceAdd, Nat.reduceSub, Array.replicate_succ, Array.replicate_zero, List.push_toArray, List.append_toArray, List.nil_append, List.cons_append]
  have hne : (26 : TypeId) ≠ 29 := by decide
  gi_wp2
  refine wpIn_rangeFunc ?_
  intro fn hfn
  rw [hro]
  obtain ⟨W0, hW0⟩ : ∃ W0, w.alloc (.cells #[.slice none 0 0] 26) = W0 := ⟨_, rfl⟩
  have hs0 : W0.heap.size = w.heap.size + 1 := by rw [← hW0]; simp
  have hv0 : W0.heap[w.heap.size]? = some (.cells #[.slice none 0 0] 26 (0, 0)) := by rw [← hW0]; exact World.alloc_heap_new w _
  have hb0 : Below w.heap.size w W0 := by rw [← hW0]; exact (Below.refl _ w).alloc (Nat.le_refl _) _
  rw [hW0]
  obtain ⟨W1, hW1⟩ : ∃ W1, (W0.alloc (.deferred (some []))).alloc (.loop (apRec fn (.func (.func g) #[] lb) w.heap.size W0.heap.size .ready none)) = W1 := ⟨_, rfl⟩
  have hold : ∀ k, k < W0.heap.size → W1.heap[k]? = W0.heap[k]? := fun k hk => by
    rw [← hW1]; exact (Below.heap_alloc _ _ k (by simp; omega)).trans (Below.heap_alloc _ _ k hk)
  have hb1 : Below w.heap.size w W1 := by rw [← hW1]; exact (hb0.alloc hb0.size _).alloc (by have := hb0.size; simp; omega) _
  have hs1 : W1.heap.size = W0.heap.size + 2 := by rw [← hW1]; simp
  have hM : ApAt w fn (.func (.func g) #[] lb) w.heap.size (W0.heap.size + 1) W0.heap.size [] W1 :=
    ⟨⟨_, (hold w.heap.size (by omega)).trans hv0, ⟨rfl, .inl ⟨rfl, rfl⟩⟩, by simp⟩,
     by rw [← hW1]; have := World.alloc_heap_new (W0.alloc (.deferred (some []))) (.loop (apRec fn (.func (.func g) #[] lb) w.heap.size W0.heap.size .ready none)); rwa [World.size_alloc] at this,
     by rw [← hW1]; exact (Below.heap_alloc _ _ _ (by simp)).trans (World.alloc_heap_new W0 _), hb1⟩
  refine ⟨W0.heap.size + 1, [{ target := .collected W0.heap.size, args := #[] }], W1, { target := .fn (.func g) lb, args := #[.func (.yield (W0.heap.size + 1)) #[] #[]] }, W1, g,
    #[.func (.yield (W0.heap.size + 1)) #[] #[]] ++ lb, W1, ?_, ?_, ?_, ?_, fun _ => h1, ?_⟩
  · rw [← hW1]; exact run_enterLoop_outer _ _ _ _ _
  · simp [resolve, go_sem]
  · intro f' hf'; simp [Target.leads] at hf'; subst hf'; exact hFg
  · simp [invoke, go_sem, eg]
  · refine (hseq (W0.heap.size + 1) (ApAt w fn (.func (.func g) #[] lb) w.heap.size (W0.heap.size + 1) W0.heap.size) W1 hb1 (ap_abides _ _ _ _ _ _ _ hb1.size)
      (fun pre x W hJ hl => apYield F (n - 1 - 1) w fn hfn _ w.heap.size (W0.heap.size + 1) W0.heap.size (by omega) (by omega) (by omega) (Nat.le_refl _) (by omega) N hN hNb pre x W hJ hl) hM).mono ?_
    rintro e W2 ⟨⟨v0, rfl⟩, ss, hS, h2⟩
    obtain ⟨v, hv, hrow, hnil⟩ := h2.box
    have hend := run_endLoop (P := Tryz.prog) h2.L (by simp [apRec])
    obtain ⟨W3, hW3⟩ : ∃ W3, W2.putObj (W0.heap.size + 1) (.loop { apRec fn (.func (.func g) #[] lb) w.heap.size W0.heap.size .ready none with state := .exhausted }) = W3 := ⟨_, rfl⟩
    rw [hW3] at hend
    have hg3 : W2.grownBy W3 (some (W0.heap.size + 1)) := by rw [← hW3]; exact grownBy_putObj_a _ _ _
    have hv3 : W3.heap[w.heap.size]? = some (.cells #[v] 26 (0, 0)) := by rw [← hW3]; exact (World.putObj_heap_other (by omega)).trans hv
    have hK3 : W3.heap[W0.heap.size]? = some (.deferred (some [])) := by rw [← hW3]; exact (World.putObj_heap_other (by omega)).trans h2.K
    have hrow3 := hrow.kept hg3 (ownsRow_ne_a hrow h2.L (fun cur e => by first | cases e | exact hne (Obj.cells.inj e).2.1))
    have hb3 : Below w.heap.size w W3 := h2.below.grown hg3 h2.below.size (fun k e => by cases e; omega)
    obtain ⟨hc3, hf3⟩ := cell_of_box_a hv3
    clear hW3
    refine ⟨none, W3, hend, ?_⟩
    gi_wp2
    rw [← hs0]
    refine ⟨by simp, .inl ⟨_, _, rfl, run_takeDeferred hK3, ?_⟩⟩
    exact ⟨_, results_tmp rfl _ _ _, v, ss, rfl, hS, hrow3.kept (grownBy_putObj_a _ _ _) (ownsRow_ne_a hrow3 hK3 (fun cur e => by first | cases e | exact hne (Obj.cells.inj e).2.1)), hnil, hb3.grown (grownBy_putObj_a _ _ _) hb3.size (fun k e => by cases e; omega)⟩
set_option maxHeartbeats 1000000 in
theorem collect_in (F : Fence) (n : Nat) (h8 : F.fn 57) (h11 : F.fn 88) (hro : F.round = none) (hn : 3 ≤ n) (g : Nat) (lb : Array Value) (hFg : F.fn g) (eg : ∀ args w, (callFunc g args).run Tryz.prog w = .ok (.enter g args) w)
    (S : List K3 → Prop) (N : Nat) (hN : N ≤ maxLen) (hNb : N * 24 ≤ 140737488355328) (w : World) (hseq : SeqGives F (n - 1 - 1) Tryz.prog g lb ek3 S N w) :
    CallsIn F n Tryz.prog 57 #[.func (.func g) #[] lb] w fun e w' => ∃ (v : Value) (ss : List K3), e = .returned v ∧ S ss ∧ w'.ownsRow w.heap.size 29 3 v ss.length (c3s ss) ∧ (v = .slice none 0 0 ↔ ss = []) ∧ Below w.heap.size w w' := by
  have h1 : 1 ≤ n := by omega
  refine callsIn_of_wp Tryz.func57 rfl h8 ?_ hro
  simp only [Tryz.ntmps57, List.size_toArray, List.length_cons, List.length_nil, Nat.reduceAdd, Nat.reduceSub, Array.replicate_succ, Array.replicate_zero, List.push_toArray, List.append_toArray, List.nil_append, List.cons_append]
  gi_wp2_with (gi_at_call 88; refine (appendSeq_in F (n - 1) h11 hro (by omega) g lb hFg eg S N hN hNb _ hseq).mono ?_; rintro e w' ⟨v, ss, rfl, hS, hrow, hnil, hb⟩)
  go_ret
  exact ⟨v, ss, rfl, hS, hrow, hnil, hb⟩
end Go.Proofs.YtjgjcakeimkkdaaGreatDoor

set_option linter.unusedVariables false
set_option linter.unusedSimpArgs false
namespace Go.Proofs.YtjgjcakeimkkdaaGreatDoor
open Go Go.Sx Go.Proofs Go.RowKit Go.Maps Go.Sort Go.Shelf Go.Lib
set_option maxHeartbeats 2000000 in
theorem or3 (a b c : Int) (blk : Nat) (w : World) (h0 : w.cell? ⟨blk, 0, none⟩ = some (.int .i64 a)) (h1 : w.cell? ⟨blk, 1, none⟩ = some (.int .i64 b)) (h2 : w.cell? ⟨blk, 2, none⟩ = some (.int .i64 c)) :
    Calls Tryz.prog 60 #[.slice (some ⟨blk, 0, none⟩) 3 3] w fun e w' => e = .returned (.int .i64 (if a = 0 then (if b = 0 then c else b) else a)) ∧ w' = w := by
  have hne : ∀ x : Int, x ≠ 0 → (x != 0) = true := fun x h => by simp [h]
  by_cases ha : a = 0
  · subst ha
    rw [if_pos rfl]
    by_cases hb : b = 0
    · subst hb
      rw [if_pos rfl]
      by_cases hc : c = 0
      · subst hc
        go_enter Tryz.func60, Tryz.ntmps60
        go_wp2
        refine wp_loop_rounds 4 ?_
        rw [rounds_succ]
        go_wp2
        rw [rounds_succ]
        go_wp2
        rw [rounds_succ]
        go_wp2
        rw [rounds_succ]
        go_wp2
        go_ret
        exact ⟨rfl, rfl⟩
      · have hc' := hne c hc
        go_enter Tryz.func60, Tryz.ntmps60
        go_wp2
        refine wp_loop_rounds 4 ?_
        rw [rounds_succ]
        go_wp2
        rw [rounds_succ]
        go_wp2
        rw [rounds_succ]
        go_wp2
        go_ret
        exact ⟨rfl, rfl⟩
    · rw [if_neg hb]
      have hb' := hne b hb
      go_enter Tryz.func60, Tryz.ntmps60
      go_wp2
      refine wp_loop_rounds 4 ?_
      rw [rounds_succ]
      go_wp2
      rw [rounds_succ]
      go_wp2
      go_ret
      exact ⟨rfl, rfl⟩
  · rw [if_neg ha]
    have ha' := hne a ha
    go_enter Tryz.func60, Tryz.ntmps60
    go_wp2
    refine wp_loop_rounds 4 ?_
    rw [rounds_succ]
    go_wp2
    go_ret
    exact ⟨rfl, rfl⟩
/-- how two transactions compare -/
def ordI (x y : K3) : Int := if compareInt x.1 y.1 = 0 then (if compareInt x.2.1 y.2.1 = 0 then compareInt x.2.2 y.2.2 else compareInt x.2.1 y.2.1) else compareInt x.1 y.1
theorem cmpI_calls (x y : Int) (W : World) : Calls Tryz.prog 61 #[.int .i64 x, .int .i64 y] W fun e w' => e = .returned (.int .i64 (compareInt x y)) ∧ w' = W := by
  have hcon := AnyG.cmp_Compare_int Tryz.cmpI x y W
  exact hcon
set_option maxRecDepth 100000 in
set_option maxHeartbeats 4000000 in
theorem order_calls (x y : K3) (W : World) : Calls Tryz.prog 38 #[.agg (c3 x).toArray, .agg (c3 y).toArray] W fun e w' => e = .returned (.int .i64 (ordI x y)) ∧ ∃ q os', w' = grow (W.drewN q) os' := by
  obtain ⟨x1, x2, x3⟩ := x
  obtain ⟨y1, y2, y3⟩ := y
  simp only [c3, ordI]
  have h1 := fun W => cmpI_calls x1 y1 W
  have h2 := fun W => cmpI_calls x2 y2 W
  have h3 := fun W => cmpI_calls x3 y3 W
  generalize compareInt x1 y1 = r1 at *
  generalize compareInt x2 y2 = r2 at *
  generalize compareInt x3 y3 = r3 at *
  have h4 := fun (blk : Nat) (w : World) (c0 : w.cell? ⟨blk, 0, none⟩ = some (.int .i64 r1)) (c1 : w.cell? ⟨blk, 1, none⟩ = some (.int .i64 r2)) (c2 : w.cell? ⟨blk, 2, none⟩ = some (.int .i64 r3)) => or3 r1 r2 r3 blk w c0 c1 c2
  generalize (if r1 = 0 then (if r2 = 0 then r3 else r2) else r1) = rr at *
  go_enter Tryz.func38, Tryz.ntmps38
  go_wp2
  obtain ⟨W2, hW2⟩ : ∃ W2, (W.alloc (.cells #[.int .i64 x1, .int .i64 x2, .int .i64 x3] 29)).alloc (.cells #[.int .i64 y1, .int .i64 y2, .int .i64 y3] 29) = W2 := ⟨_, rfl⟩
  have hg : W2 = grow W #[.cells #[.int .i64 x1, .int .i64 x2, .int .i64 x3] 29 (0, 0), .cells #[.int .i64 y1, .int .i64 y2, .int .i64 y3] 29 (0, 0)] := by rw [← hW2, alloc_eq_grow, alloc_eq_grow, grow_grow]; rfl
  have hb1 : W2.heap[W.heap.size]? = some (.cells #[.int .i64 x1, .int .i64 x2, .int .i64 x3] 29 (0, 0)) := by rw [← hW2]; exact (Below.heap_alloc _ _ _ (by simp)).trans (World.alloc_heap_new W _)
  have hb2 : W2.heap[W.heap.size + 1]? = some (.cells #[.int .i64 y1, .int .i64 y2, .int .i64 y3] 29 (0, 0)) := by rw [← hW2]; have := World.alloc_heap_new (W.alloc (.cells #[.int .i64 x1, .int .i64 x2, .int .i64 x3] 29)) (.cells #[.int .i64 y1, .int .i64 y2, .int .i64 y3] 29 (0, 0)); rwa [World.size_alloc] at this
  have a0 : W2.cell? ⟨W.heap.size, 0, none⟩ = some (.int .i64 x1) := by simp [World.cell?, hb1]
  have a1 : W2.cell? ⟨W.heap.size, 1, none⟩ = some (.int .i64 x2) := by simp [World.cell?, hb1]
  have a2 : W2.cell? ⟨W.heap.size, 2, none⟩ = some (.int .i64 x3) := by simp [World.cell?, hb1]
  have b0 : W2.cell? ⟨W.heap.size + 1, 0, none⟩ = some (.int .i64 y1) := by simp [World.cell?, hb2]
  have b1 : W2.cell? ⟨W.heap.size + 1, 1, none⟩ = some (.int .i64 y2) := by simp [World.cell?, hb2]
  have b2 : W2.cell? ⟨W.heap.size + 1, 2, none⟩ = some (.int .i64 y3) := by simp [World.cell?, hb2]
  rw [hW2]
  generalize W.heap.size + 1 = B2 at *
  generalize W.heap.size = B1 at *
  clear hW2 hb1 hb2
  go_still_tail 15, (by kernel_rfl)
  change wpStill _ _ W2.drew (fun a' => wpList _ _ _ _ a' W2.drew) _ _
  have hg3 : ∃ os, W2.drew = grow (W.drewN 1) os := ⟨#[.cells #[.int .i64 x1, .int .i64 x2, .int .i64 x3] 29 (0, 0), .cells #[.int .i64 y1, .int .i64 y2, .int .i64 y3] 29 (0, 0)], by rw [hg]; rfl⟩
  have a0' : W2.drew.cell? ⟨B1, 0, none⟩ = some (.int .i64 x1) := a0
  have a1' : W2.drew.cell? ⟨B1, 1, none⟩ = some (.int .i64 x2) := a1
  have a2' : W2.drew.cell? ⟨B1, 2, none⟩ = some (.int .i64 x3) := a2
  have b0' : W2.drew.cell? ⟨B2, 0, none⟩ = some (.int .i64 y1) := b0
  have b1' : W2.drew.cell? ⟨B2, 1, none⟩ = some (.int .i64 y2) := b1
  have b2' : W2.drew.cell? ⟨B2, 2, none⟩ = some (.int .i64 y3) := b2
  clear a0 a1 a2 b0 b1 b2 hg
  generalize W2.drew = W3 at *
  repeat still_step
  still_call (h1 _)
  repeat still_step
  still_call (h2 _)
  repeat still_step
  still_call (h3 _)
  refine wpStill_nil ?_
  go_wp2_with (go_at_call 60; refine (h4 _ _ (cell_new3 _ _ _ 0) (cell_new3 _ _ _ 1) (cell_new3 _ _ _ 2)).mono ?_; rintro e w' ⟨rfl, rfl⟩)
  go_ret
  obtain ⟨os, hos⟩ := hg3
  exact ⟨rfl, 1, os ++ #[.cells #[.int .i64 r1, .int .i64 r2, .int .i64 r3] 3 (0, 0)], by rw [hos, alloc_eq_grow, grow_grow]⟩
theorem cmpLays (blk off size : Nat) (w : World) : CmpLays Tryz.prog 38 #[] c3 3 ordI blk off size w := fun _ _ _ _ x y => order_calls x y _
theorem cmp0 {x y : Int} : compareInt x y = 0 ↔ x = y := by unfold compareInt; split <;> (try split) <;> omega
theorem cmpL {x y : Int} : compareInt x y < 0 ↔ x < y := by unfold compareInt; split <;> (try split) <;> omega
/-- one transaction stands ahead of another one -/
def ltK (x y : K3) : Prop := x.1 < y.1 ∨ (x.1 = y.1 ∧ (x.2.1 < y.2.1 ∨ (x.2.1 = y.2.1 ∧ x.2.2 < y.2.2)))
instance {x y : K3} : Decidable (ltK x y) := by unfold ltK; infer_instance
theorem ord_lt {x y : K3} : ordI x y < 0 ↔ ltK x y := by
  unfold ordI ltK
  have h1 := @cmp0 x.1 y.1
  have h2 := @cmp0 x.2.1 y.2.1
  have h3 := @cmpL x.1 y.1
  have h4 := @cmpL x.2.1 y.2.1
  have h5 := @cmpL x.2.2 y.2.2
  split
  · split <;> omega
  · omega
theorem ltOf_iff {x y : K3} : ltOf ordI x y = true ↔ ltK x y := by
  unfold ltOf
  rw [decide_eq_true_iff]
  exact ord_lt
theorem ltK_tot {x y : K3} (h1 : ¬ ltK x y) (h2 : ¬ ltK y x) : x = y := by
  obtain ⟨a, b, c⟩ := x
  obtain ⟨d, e, f⟩ := y
  unfold ltK at h1 h2
  simp only at h1 h2
  rw [show a = d by omega, show b = e by omega, show c = f by omega]
theorem swoK : SWO (ltOf ordI) := by
  constructor <;> intros <;> simp_all only [ltOf_iff, Bool.not_eq_true, ← Bool.not_eq_true] <;> unfold ltK at * <;> omega
end Go.Proofs.YtjgjcakeimkkdaaGreatDoor

set_option linter.unusedVariables false
set_option linter.unusedSimpArgs false
namespace Go.Proofs.YtjgjcakeimkkdaaGreatDoor
open Go Go.Sx Go.Proofs Go.RowKit Go.Maps Go.Sort Go.Shelf Go.Lib
theorem c3s_get : ∀ (l : List K3) (t : Nat), t < l.length * 3 → (c3s l)[t]? = some ((c3 (l.toArray)[t / 3]!)[t % 3]!)
  | [], t, h => by simp at h
  | k :: l, t, h => by
    have e : c3s (k :: l) = c3 k ++ c3s l := rfl
    rw [e]
    by_cases h3 : t < 3
    · rw [List.getElem?_append_left (by rw [c3_len]; exact h3)]
      have e1 : t / 3 = 0 := by omega
      have e2 : t % 3 = t := by omega
      rw [e1, e2]
      have : (c3 k).length = 3 := rfl
      simp [List.getElem?_eq_getElem, h3, this]
    · rw [List.getElem?_append_right (by rw [c3_len]; omega), c3_len, c3s_get l (t - 3) (by simp at h; omega)]
      obtain ⟨u, rfl⟩ : ∃ u, t = u + 3 := ⟨t - 3, by omega⟩
      have e1 : (u + 3) / 3 = u / 3 + 1 := by omega
      have e2 : (u + 3) % 3 = u % 3 := by omega
      rw [Nat.add_sub_cancel, e1, e2]
      simp
theorem flat3 (l : List K3) : flatK c3 3 l.toArray = (c3s l).toArray := by
  apply Array.ext'
  apply List.ext_getElem?
  intro t
  by_cases h : t < l.length * 3
  · rw [show (c3s l).toArray.toList = c3s l from rfl, c3s_get l t h]
    simp [flatK, h]
  · rw [List.getElem?_eq_none (by simp; omega), List.getElem?_eq_none (by simp [c3s_len]; omega)]
theorem holds_of_blockG {w : World} {g : Nat} {cur : Array Value} {e : TypeId} {xs : List Value} (hb : w.heap[g]? = some (.cells cur e (0, 0))) (ht : cur.toList.take xs.length = xs) : Holds id w g 0 xs.toArray := by
  intro j hj
  have hj' : j < xs.length := by simpa using hj
  refine ⟨?_, by simp [World.frozen?, hb]⟩
  have h1 : (cur.toList.take xs.length)[j]? = xs[j]? := by rw [ht]
  rw [List.getElem?_take_of_lt hj'] at h1
  simp only [World.cell?, hb, Nat.zero_add]
  simp only [Option.isSome_none, Bool.false_eq_true, if_false]
  rw [← Array.getElem?_toList, h1]
  simp [hj']
theorem heap_sortedG {w : World} {g n : Nat} {os : Array Obj} {cur : Array Value} {e : TypeId} {fr : Nat × Nat} (d : Array Value) (hb : w.heap[g]? = some (.cells cur e fr)) :
    (grow (putRow id (Sort.ahead w n) g 0 d) os).heap[g]? = some (.cells (putCells id 0 d cur) e fr) := by
  have hg : g < w.heap.size := (Array.getElem?_eq_some_iff.1 hb).1
  rw [heap_grow_old _ _ (by simpa using hg)]
  simp [putRow, mapBlock, Sort.ahead, Array.getElem?_modify, hb, onCells]
theorem grownBy_sortedG {w : World} {g n : Nat} {os : Array Obj} (d : Array Value) : w.grownBy (grow (putRow id (Sort.ahead w n) g 0 d) os) (some g) := by
  refine ⟨rfl, rfl, rfl, by simp, fun k hk hne => ?_⟩
  rw [heap_grow_old _ _ (by simpa using hk)]
  have : g ≠ k := fun e => hne (by rw [e])
  simp [putRow, mapBlock, Sort.ahead, Array.getElem?_modify, this]
theorem take_putCellsG (cur : Array Value) (ts : List Value) (h : ts.length ≤ cur.size) : (putCells id 0 ts.toArray cur).toList.take ts.length = ts := by
  apply List.ext_getElem?
  intro j
  by_cases hj : j < ts.length
  · rw [List.getElem?_take_of_lt hj, Array.getElem?_toList]
    simp [putCells, hj, show j < cur.size by omega]
  · rw [List.getElem?_take_eq_none (by omega), List.getElem?_eq_none (by omega)]
theorem ownsRow_sortedG {w : World} {base g cap n m : Nat} {e : TypeId} {os : Array Obj} {cur : Array Value} {ts : List Value} (hl : ts.length = m * 3) (hbase : base ≤ g) (hb : w.heap[g]? = some (.cells cur e (0, 0)))
    (h1 : m ≤ cap) (h2 : cap ≤ maxLen) (h3 : cur.size = cap * 3) :
    (grow (putRow id (Sort.ahead w n) g 0 ts.toArray) os).ownsRow base e 3 (.slice (some ⟨g, 0, none⟩) m cap) m ts :=
  ⟨by simp [hl], .inr ⟨g, cap, _, rfl, hbase, heap_sortedG _ hb, h1, h2, by simp [putCells, h3], by rw [← hl]; exact take_putCellsG cur ts (by omega)⟩⟩
/-- transactions, in order -/
def sort3 (l : List K3) : List K3 := l.mergeSort fun x y => !(ltOf ordI) y x
theorem sort3_len (l : List K3) : (sort3 l).length = l.length := by simp [sort3]
set_option maxRecDepth 100000 in
theorem sortFunc_calls (gb cap : Nat) (ss : List K3) (W : World) (cur : Array Value) (hgb : W.heap[gb]? = some (.cells cur 29 (0, 0))) (r4 : cur.toList.take (ss.length * 3) = c3s ss) (hsz : ss.length < 4611686018427387904) :
    Calls Tryz.prog 58 #[.slice (some ⟨gb, 0, none⟩) ss.length cap, .func (.func 38) #[] #[]] W fun e w' => e = .returned (.tuple #[]) ∧ ∃ n os, w' = grow (putRow id (Sort.ahead W n) gb 0 (c3s (sort3 ss)).toArray) os := by
  have hgl : gb < W.heap.size := (Array.getElem?_eq_some_iff.1 hgb).1
  have hH : HoldsK c3 3 W gb 0 ss.toArray := by
    unfold HoldsK
    rw [flat3]
    exact holds_of_blockG hgb (by rw [c3s_len]; exact r4)
  have h := AnyQ.slices_SortFunc_total Tryz.sortTx 3 Tryz.isAgg29 Tryz.sizeOf29 c3 (fun _ => rfl) (by intro x v hv; simp [c3] at hv; rcases hv with rfl | rfl | rfl <;> rfl) ordI swoK 38 #[] gb 0 cap ss.toArray W (fun _ _ => rfl) (cmpLays gb 0 ss.toArray.size W) hH hgl (by simpa using hsz) (by
    intro x y h1 h2
    have e1 : ¬ ltK x y := fun h => by rw [← ltOf_iff] at h; rw [h] at h1; cases h1
    have e2 : ¬ ltK y x := fun h => by rw [← ltOf_iff] at h; rw [h] at h2; cases h2
    exact ltK_tot e1 e2)
  refine (show Calls Tryz.prog 58 #[.slice (some ⟨gb, 0, none⟩) ss.toArray.size cap, .func (.func 38) #[] #[]] W _ from h).mono ?_
  rintro e w' ⟨he, n, os, hw⟩
  refine ⟨he, n, os, ?_⟩
  rw [hw]
  unfold sortWorldK putRowK
  rw [show (ss.toArray.toList.mergeSort fun x y => !(ltOf ordI) y x) = sort3 ss from rfl, flat3]
theorem sortFunc_none (cap : Nat) (fv : Value) (W : World) : Calls Tryz.prog 58 #[.slice none 0 cap, fv] W fun e w' => e = .returned (.tuple #[]) ∧ w' = W :=
  AnyF.slices_SortFunc_none { Tryz.sortTx with } none cap fv W
set_option maxRecDepth 100000 in
set_option maxHeartbeats 2000000 in
theorem sortedFunc_in (F : Fence) (n : Nat) (h6 : F.fn 31) (h8 : F.fn 57) (h9 : F.fn 58) (h11 : F.fn 88) (hro : F.round = none) (hwd : ∀ f args w R, Calls Tryz.prog f args w R → CallsIn F (n - 1) Tryz.prog f args w R) (hFg : ∀ g, F.fn g) (hn : 4 ≤ n) (g : Nat) (lb : Array Value) (eg : ∀ args w, (callFunc g args).run Tryz.prog w = .ok (.enter g args) w)
    (S : List K3 → Prop) (N : Nat) (hN : N ≤ maxLen) (hNb : N * 24 ≤ 140737488355328) (w : World) (hseq : SeqGives F (n - 1 - 1 - 1) Tryz.prog g lb ek3 S N w) :
    CallsIn F n Tryz.prog 31 #[.func (.func g) #[] lb, .func (.func 38) #[] #[]] w fun e w' => ∃ (v : Value) (ss : List K3), e = .returned v ∧ S ss ∧ w'.ownsRow w.heap.size 29 3 v ss.length (c3s (sort3 ss)) ∧ (v = .slice none 0 0 ↔ ss = []) ∧ Below w.heap.size w w' := by
  have h1 : 1 ≤ n := by omega
  refine callsIn_of_wp Tryz.func31 rfl h6 ?_ hro
  simp only [Tryz.ntmps31, List.size_toArray, List.length_cons, List.length_nil, Nat.reduceAdd, Nat.reduceSub, Array.replicate_succ, Array.replicate_zero, List.push_toArray, List.append_toArray, List.nil_append, List.cons_append]
  gi_wp2_with (gi_at_call 57; refine (collect_in F (n - 1) h8 h11 hro (by omega) g lb (hFg g) eg _ N hN hNb _ hseq.bounded).mono ?_; rintro e W ⟨v, ss, rfl, ⟨hS, hlen⟩, hrow, hnil, hb⟩)
  rcases hrow.2 with ⟨rfl, hz⟩ | ⟨gb, cap, cur, rfl, hbase, hgb, r1, r2, r3, r4⟩
  · have hss : ss = [] := List.eq_nil_of_length_eq_zero hz
    subst hss
    gi_wp2_with (gi_at_call 58; refine (hwd _ _ _ _ (sortFunc_none 0 _ W)).mono ?_; rintro e w' ⟨rfl, rfl⟩)
    go_ret
    exact ⟨.slice none 0 0, [], rfl, hS, by simpa [sort3] using hrow, by simp, hb⟩
  · have hsz : ss.length < 4611686018427387904 := by omega
    have cS := sortFunc_calls gb cap ss W cur hgb r4 hsz
    gi_wp2_with (gi_at_call 58; refine (hwd _ _ _ _ cS).mono ?_; rintro e w' ⟨rfl, nn, os, rfl⟩)
    go_ret
    exact ⟨_, ss, rfl, hS, ownsRow_sortedG (by rw [c3s_len, sort3_len]) hbase hgb r1 r2 r3, hnil, hb.grown (grownBy_sortedG _) hb.size (fun j hj => by cases hj; exact hbase)⟩
set_option maxHeartbeats 1000000 in
theorem keysTx_in (F : Fence) (n : Nat) (h7 : F.fn 37) (hro : F.round = none) (mb : Option Nat) (w : World) :
    CallsIn F n Tryz.prog 37 #[.map mb] w fun e w' => e = .returned (.func (.func 67) #[] #[.pointer (some ⟨w.heap.size, 0, none⟩)]) ∧ w' = w.alloc (.cells #[.map mb] 105) := by
  refine callsIn_of_wp Tryz.func37 rfl h7 ?_ hro
  simp only [Tryz.ntmps37, List.size_toArray, List.length_cons, List.length_nil, Nat.reduceAdd, Nat.reduceSub, Array.replicate_succ, Array.replicate_zero, List.push_toArray, List.append_toArray, List.nil_append, List.cons_append]
  gi_wp2
  go_ret
  exact ⟨rfl, rfl⟩
end Go.Proofs.YtjgjcakeimkkdaaGreatDoor

set_option linter.unusedVariables false
set_option linter.unusedSimpArgs false
namespace Go.Proofs.YtjgjcakeimkkdaaGreatDoor
open Go Go.Sx Go.Proofs Go.RowKit Go.Maps Go.Sort Go.Shelf Go.Lib
section
variable {ν : Type} {RV : Go.Sx.Rd ν} {ag : Bool} {H : Heap}
open Classical in
noncomputable def kf3 (e : MapEntry) : K3 := if h : ∃ k, e.key = ek3 k then h.choose else (0, 0, 0)
theorem kf3_eq {e : MapEntry} {k : K3} (h : e.key = ek3 k) : kf3 e = k := by
  have hx : ∃ k, e.key = ek3 k := ⟨k, h⟩
  unfold kf3
  rw [dif_pos hx]
  exact ek3_inj (hx.choose_spec.symm.trans h)
theorem el_kf3 : ∀ {es : List MapEntry} {m : List (K3 × ν)}, EL ek3 RV ag H es m → es.map kf3 = m.map (·.1) ∧ ∀ e ∈ es, e.key = ek3 (kf3 e)
  | [], [], _ => ⟨rfl, fun _ h => by cases h⟩
  | e :: es, (k, v) :: m, ⟨a, _, d⟩ => by
    obtain ⟨h1, h2⟩ := el_kf3 d
    have hk := kf3_eq a
    refine ⟨by simp [h1, hk], fun x hx => ?_⟩
    rcases List.mem_cons.1 hx with rfl | hx
    · rw [hk]; exact a
    · exact h2 x hx
  | [], _ :: _, h => h.elim
  | _ :: _, [], h => h.elim
theorem sort3_perm {l l' : List K3} (h : l.Perm l') : sort3 l = sort3 l' := by
  have hO := swoK
  have tot : ∀ x y, ltOf ordI x y = false → ltOf ordI y x = false → x = y := fun x y h1 h2 => by
    have e1 : ¬ ltK x y := fun h => by rw [← ltOf_iff] at h; rw [h] at h1; cases h1
    have e2 : ¬ ltK y x := fun h => by rw [← ltOf_iff] at h; rw [h] at h2; cases h2
    exact ltK_tot e1 e2
  have tr : ∀ a b c : K3, (!(ltOf ordI) b a) = true → (!(ltOf ordI) c b) = true → (!(ltOf ordI) c a) = true := fun a b c h1 h2 => by
    simp only [Bool.not_eq_true', ← Bool.not_eq_true, ltOf_iff] at *
    unfold ltK at *
    omega
  have to : ∀ a b : K3, ((!(ltOf ordI) b a) || (!(ltOf ordI) a b)) = true := fun a b => by
    simp only [Bool.or_eq_true, Bool.not_eq_true', ← Bool.not_eq_true, ltOf_iff]
    unfold ltK
    omega
  refine List.Perm.eq_of_pairwise (le := fun x y => (!(ltOf ordI) y x) = true) (fun a b _ _ h1 h2 => ?_) (List.pairwise_mergeSort tr to l) (List.pairwise_mergeSort tr to l') (((List.mergeSort_perm l _).trans h).trans (List.mergeSort_perm l' _).symm)
  simp only [Bool.not_eq_true'] at h1 h2
  exact tot a b h2 h1
/-- a new row of three cells each -/
theorem newRow3 {W0 w w' : World} {H : Heap} {L : List HProp} {T n : Nat} {v : Value} {xs : List Value} (hS : St W0 H w L) (hb : Below w.heap.size w w') (hr : w'.ownsRow w.heap.size T 3 v n xs) : St W0 H w' (Go.Sx.own T 3 v n xs :: L) := by
  have hS' := hS.below hb
  obtain ⟨hx, h⟩ := hr
  rcases h with ⟨rfl, rfl⟩ | ⟨g, cap, cur, rfl, hg, hcell, h1, h2, h3, h4⟩
  · have : xs = [] := List.eq_nil_of_length_eq_zero (by simpa using hx)
    subst this
    exact hS'.sub own_nil
  · obtain ⟨h, a, l, d⟩ := hS.own
    have hnew : hp w g = none := by simp only [hp]; exact Array.getElem?_eq_none hg
    let hA : Heap := fun b => if b = g then some (.cells cur T (0, 0)) else none
    have hAw : hA.le (hp w') := fun b o e => by
      simp only [hA] at e
      split at e
      · next e1 => subst e1; cases e; exact hcell
      · cases e
    have dis : ∀ (x : Heap), x.le (hp w) → Disj hA x := fun x hx b => by
      by_cases e : b = g
      · subst e
        right
        cases hxb : x b with
        | none => rfl
        | some o => have := hx b o hxb; rw [hnew] at this; cases this
      · left; simp [hA, e]
    have keep : ∀ (x : Heap), x.le (hp w) → x.le (hp w') := fun x hx b o e => by
      have h1 := hx b o e
      have hlt := hp_lt h1
      simp only [hp] at h1 ⊢
      rw [hb.block b hlt]; exact h1
    refine St.of_parts hS'.env hS'.ro (hA := hA) ?_ a (dis h l) (dis H hS.ro).symm d hAw (keep h l)
    by_cases h0 : cap = 0
    · subst h0
      have hn0 : n = 0 := by omega
      subst hn0
      have hc0 : cur.size = 0 := by simpa using h3
      refine ⟨hx, .inl ⟨rfl, ?_⟩⟩
      exact ⟨_, rfl⟩
    · have hsplit : cur.toList = xs ++ cur.toList.drop (n * 3) := by rw [← h4, List.take_append_drop]
      refine ⟨hx, .inr ⟨g, cap, cur.toList.drop (n * 3), rfl, by omega, h1, h2, ?_, ?_⟩⟩
      · rw [← hsplit]; simpa using h3
      · rw [← hsplit]; simp [hA]
def toTx (k : K3) : Txn := ⟨k.1, k.2.1, k.2.2⟩
theorem rl3 {H : Heap} : ∀ {l : List K3}, (∀ k ∈ l, fits k.1 ∧ fits k.2.1 ∧ fits k.2.2) → RL rTxn H (c3s l) (l.map toTx)
  | [], _ => rfl
  | k :: l, h => ⟨c3 k, c3s l, rfl, ⟨rfl, (h k (by simp)).1, (h k (by simp)).2.1, (h k (by simp)).2.2⟩, rl3 fun y hy => h y (by simp [hy])⟩
set_option maxRecDepth 100000 in
theorem enters60 : ∀ args w, (callFunc 67 args).run Tryz.prog w = .ok (.enter 67 args) w := fun _ _ => rfl
theorem keys_gives3 (n : Nat) (hn : 1 ≤ n) (Bm b : Nat) (es : Array MapEntry) (clock : Nat) (w : World) (hBm : Bm < w.heap.size) (hm : w.cell? ⟨Bm, 0, none⟩ = some (.map (some b))) (hb : w.heap[b]? = some (.map es clock))
    (hold : ∀ x ∈ es.toList, x.born < clock) (hnd : (es.toList.map (·.born)).Nodup) (hk : ∀ e ∈ es.toList, e.key = ek3 (kf3 e)) :
    SeqGives Fence.wide n Tryz.prog 67 #[.pointer (some ⟨Bm, 0, none⟩)] ek3 (fun ss => ss.Perm (es.toList.map kf3)) es.size w := fun l J W hW hJ hY h0 =>
  keys1_raw Fence.wide n trivial rfl hn l Bm b es clock kf3 J (fun pre x W1 hj hl => hY pre x W1 hj hl) W hJ ((hW.cell (p := ⟨Bm, 0, none⟩) hBm).trans hm) ((hW.block b (Array.getElem?_eq_some_iff.1 hb).1).trans hb) hold hnd hk h0
theorem ct_sorted3 {W0 : World} {H0 : Heap} {p b : Nat} {ms : List (K3 × ν)} (hs : ∀ q ∈ ms, fits q.1.1 ∧ fits q.1.2.1 ∧ fits q.1.2.2) (hl : ms.length * 24 ≤ cap47) :
    Ct Tryz.prog 31 #[.func (.func 67) #[] #[.pointer (some ⟨p, 0, none⟩)], .func (.func 38) #[] #[]] W0 H [row p 105 [.map (some b)], mapO ek3 RV ag H0 b ms]
      (fun r H' B => B = [ownS rTxn 3 24 29 H r ((sort3 (ms.map (·.1))).map toTx), mapO ek3 RV ag H0 b ms] ∧ H' = H) := by
  intro w R hS
  have hcap : cap47 ≤ maxLen := by decide
  obtain ⟨hA, hR, a, r, d, dA, dR, lA, lR⟩ := hS.parts
  obtain ⟨hB, hR2, ⟨es, clock, hm, hpt⟩, r2, d2, l2, l3⟩ := r
  have h1 : w.heap[p]? = some (.cells #[.map (some b)] 105 (0, 0)) := lA _ _ a
  have hcellp : w.cell? ⟨p, 0, none⟩ = some (.map (some b)) := by simp [World.cell?, h1]
  have hplt : p < w.heap.size := (Array.getElem?_eq_some_iff.1 h1).1
  have hbm : w.heap[b]? = some (.map es clock) := lR _ _ (l2 _ _ hpt)
  have hlm : ms.length ≤ maxLen := by have := hl; simp only [cap47] at this hcap; omega
  have hlen : es.size = ms.length := by simpa using hm.el.len
  obtain ⟨hk1, hk2⟩ := el_kf3 hm.el
  have hnd : (es.toList.map (·.born)).Nodup := hm.rise.imp fun h => Nat.ne_of_lt h
  refine (callsIn_wide.1 (sortedFunc_in Fence.wide 4 trivial trivial trivial trivial rfl (fun _ _ _ _ h => callsIn_wide.2 h) (fun _ => trivial) (Nat.le_refl _) _ _ enters60 (fun ss => ss.Perm (es.toList.map kf3)) es.size (by rw [hlen]; exact hlm) (by rw [hlen]; exact hl) w
    (keys_gives3 1 (Nat.le_refl _) p b es clock w hplt hcellp hbm hm.lt hnd hk2))).mono ?_
  rintro e w' ⟨v, ss, rfl, hss, hrow, _, hbl⟩
  have hS2 : St W0 H w (mapO ek3 RV ag H0 b ms :: R) := hS.sub (Sub.drop (Sub.refl _))
  have hS3 := newRow3 hS2 hbl hrow
  rw [hk1] at hss
  have hsort : sort3 ss = sort3 (ms.map (·.1)) := sort3_perm hss
  refine ⟨v, H, [ownS rTxn 3 24 29 H v ((sort3 (ms.map (·.1))).map toTx), mapO ek3 RV ag H0 b ms], rfl, .refl _, ⟨rfl, rfl⟩, ?_⟩
  refine hS3.sub ?_
  have hlen2 : ss.length = ((sort3 (ms.map (·.1))).map toTx).length := by
    rw [List.length_map, sort3_len]
    exact hss.length_eq
  rw [hsort, hlen2]
  refine ownS_mk (rl3 fun k hk => ?_) ?_
  · unfold sort3 at hk
    rw [List.mem_mergeSort] at hk
    obtain ⟨q, hq, rfl⟩ := List.mem_map.1 hk
    exact hs q hq
  · rw [← hlen2, hss.length_eq, List.length_map]
    exact hl
theorem ct_keys3 {W0 : World} {H : Heap} {b : Nat} :
    Ct Tryz.prog 37 #[.map (some b)] W0 H [] (fun r H' B => ∃ p, r = .func (.func 67) #[] #[.pointer (some ⟨p, 0, none⟩)] ∧ B = [row p 105 [.map (some b)]] ∧ H' = H) :=
  ct_keys fun mb W => callsIn_wide.1 (keysTx_in Fence.wide 0 trivial rfl mb W)
end
#print axioms ct_sorted3
end Go.Proofs.YtjgjcakeimkkdaaGreatDoor

set_option linter.unusedVariables false
set_option linter.unusedSimpArgs false
namespace Go.Proofs.YtjgjcakeimkkdaaGreatDoor
open Go Go.Sx Go.Proofs
abbrev I (n : Int) : Value := .int .i64 n
theorem bdec {p q : Prop} [Decidable p] [Decidable q] (h : p ↔ q) : Value.bool (decide p) = Value.bool (decide q) := by rw [decide_eq_decide.2 h]
instance eqTxn : TEq3 Tryz.prog 29 := ⟨by kernel_rfl, fun a b c d e f w => by
  have u3 := Tryz.underlying3
  have a3 := Tryz.isAgg3
  have z3 := Tryz.sizeOf3
  have hS : Tryz.prog.underlying 29 = some (.struct (Tryz.prog.fieldsOf 29)) := by kernel_rfl
  have hp : Tryz.prog.stoodInHeld 29 = false := by kernel_rfl
  rw [show (10000 : Nat) = 9999 + 1 from rfl, run_equalIn_agg w 9999 29 _ _ hS hp]
  simp only [Program.fieldsOf, Tryz.underlying29]
  go_simp
  by_cases h1 : a = d <;> by_cases h2 : b = e <;> by_cases h3 : c = f <;> simp [h1, h2, h3]⟩
instance : TKey3 Tryz.prog 29 where
  toTEq3 := eqTxn
  und := ⟨_, Tryz.underlying29⟩
  chk e a b c w := by
    have u3 := Tryz.underlying3
    have a3 := Tryz.isAgg3
    have z3 := Tryz.sizeOf3
    rw [show (10000 : Nat) = 9998 + 1 + 1 from rfl, Instr.checkKey]
    simp only [Sem.run_bind, run_underlying Tryz.underlying29, Result.andThen_ok]
    rw [← Array.forIn_toList]
    simp only [List.forIn_cons, List.forIn_nil]
    go_simp
    have hc : ∀ (x : Int) (w : World), (Instr.checkKey e 9999 3 (.int .i64 x)).run Tryz.prog w = .ok () w := fun x w => by
      rw [show (9999 : Nat) = 9998 + 1 from rfl, Instr.checkKey]; simp [run_underlying u3]
    simp only [hc, Result.andThen_ok]
end Go.Proofs.YtjgjcakeimkkdaaGreatDoor

set_option linter.unusedVariables false
set_option linter.unusedSimpArgs false
namespace Go.Proofs.YtjgjcakeimkkdaaGreatDoor
open Go Go.Sx Go.Proofs
theorem cloneT_spec {W0 : World} {H : Heap} {v : Value} {xs : List ByteArray} (h0 : SlB rStr 1 16 H v xs) :
    Ct Tryz.prog 55 #[v] W0 H [] (fun r H' B => B = [ownS rStr 1 16 9 H r xs] ∧ H' = H) := by
  refine Ct.go fun R => ?_
  obtain ⟨b0, c0, rfl, hc0, hd0⟩ := h0.1.shape
  refine walk ?_
  refine ex_if rfl (fun h => ?_) (fun h => ?_)
  · subst h
    refine walk ?_
    obtain rfl : xs = [] := by
      obtain ⟨⟨cs, ⟨b, c, e, _, hl, _, h⟩, _⟩, _⟩ := h0
      cases e
      rcases h with h | ⟨b, off, h, _⟩
      · exact List.eq_nil_of_length_eq_zero h
      · cases h
    refine finB [ownS rStr 1 16 9 H (.slice none 0 0) []] ?_ (hs := ownS_nil)
    exact ⟨rfl, rfl⟩
  · refine walk ?_
    refine ops_mk0 (w := 16) rStr rfl fun b => ?_
    refine walk ?_
    refine ops_appS rfl rfl h0.1 (by simpa using h0.2) fun base cap => ?_
    refine walk ?_
    refine finB [_] ?_
    exact ⟨rfl, rfl⟩
theorem grow0_spec {W0 : World} {H : Heap} {n : Nat} (hn : n * 16 ≤ cap47) :
    Ct Tryz.prog 82 #[nilS, I n] W0 H [] (fun r H' B => B = [ownS rStr 1 16 9 H r []] ∧ H' = H) := by
  refine Ct.go fun R => ?_
  simp only [cap47] at hn
  have e0 : (n : Int) - (((0 : Nat) : Int) - ((0 : Nat) : Int)) = n := by omega
  by_cases h0 : n = 0
  · subst h0
    refine walk ?_
    refine finB [ownS rStr 1 16 9 H nilS []] ?_ (hs := ownS_nil)
    exact ⟨rfl, rfl⟩
  · refine walk ?_
    rw [e0]
    refine ops_zapp rfl rfl (by omega) (by omega) (by omega) fun b cap cs h1 h2 h3 => ?_
    refine walk ?_
    refine finB [ownS rStr 1 16 9 H (.slice (some ⟨b, 0, none⟩) 0 cap) []] ?_ (hs := own_room (by simpa using h3) h2)
    exact ⟨rfl, rfl⟩
def sumLen (xss : List (List ByteArray)) : Nat := (xss.map List.length).sum
theorem sumLen_snoc {xss : List (List ByteArray)} {x : List ByteArray} : sumLen (xss ++ [x]) = sumLen xss + x.length := by simp [sumLen]
theorem sumLen_take {xss : List (List ByteArray)} {k : Nat} : sumLen (xss.take k) ≤ sumLen xss := by
  have : sumLen xss = sumLen (xss.take k) + sumLen (xss.drop k) := by
    unfold sumLen; rw [← List.sum_append, ← List.map_append, List.take_append_drop]
  omega
theorem flat_len {xss : List (List ByteArray)} : xss.flatten.length = sumLen xss := by simp [sumLen, List.length_flatten]
set_option maxHeartbeats 4000000 in
theorem concat_spec {W0 : World} {H : Heap} {v : Value} {xss : List (List ByteArray)} (h0 : SlR (rSl rStr 1 16) 1 H v xss) (hs : sumLen xss * 16 ≤ cap47) :
    Ct Tryz.prog 52 #[v] W0 H [] (fun r H' B => B = [ownS rStr 1 16 9 H r xss.flatten] ∧ H' = H) := by
  refine Ct.go fun R => ?_
  obtain ⟨b0, c0, rfl, hc0, hd0⟩ := h0.shape
  have hs' := hs
  simp only [cap47] at hs'
  refine walk ?_
  refine ex_loop (σ := Nat × Int) (fun s => s.1 ≤ xss.length ∧ s.2 = sumLen (xss.take s.1)) (fun s => [(0, .slice b0 xss.length c0), (3, I s.2), (9, .slice b0 xss.length c0), (10, I xss.length), (11, I s.1)]) (fun _ => H) (fun _ => R) (fun s => xss.length - s.1) (0, 0) ⟨Nat.zero_le _, rfl⟩ fun ⟨k, z⟩ ⟨hk0, hz⟩ K hL => ?_
  simp only at hk0 hz
  dsimp only
  have hst := sumLen_take (xss := xss) (k := k)
  refine walk ?_
  refine ex_if rfl (fun hk => ?_) (fun hk => ?_)
  · have hk1 : k < xss.length := by omega
    have hst2 := sumLen_take (xss := xss) (k := k + 1)
    have hsn : sumLen (xss.take (k + 1)) = sumLen (xss.take k) + xss[k].length := by rw [List.take_succ_eq_append_getElem hk1, sumLen_snoc]
    refine walk ?_
    refine ops_ixp rfl rfl h0 hk1 fun b o c hr hc => ?_
    obtain ⟨w, rfl, hw⟩ := hc
    obtain ⟨b2, c2, rfl, _, _⟩ := hw.1.shape
    refine walk ?_
    exact out_next hL (k + 1, z + (xss[k].length : Nat)) ⟨by simp only; omega, by simp only; rw [hsn, hz]; omega⟩
  · clear hL
    obtain rfl : k = xss.length := by omega
    rw [List.take_length] at hz
    subst hz
    refine walk ?_
    refine ops_call (vs := [nilS, I (sumLen xss)]) rfl rfl (grow0_spec hs) fun r1 H1 B hl1 ⟨eB, eH⟩ => ?_
    subst eB eH
    refine walk ?_
    refine ex_loop (σ := Nat × Value) (fun s => s.1 ≤ xss.length) (fun s => [(6, s.2), (25, .slice b0 xss.length c0), (26, I xss.length), (27, I s.1)]) (fun _ => H1) (fun s => ownS rStr 1 16 9 H1 s.2 (xss.take s.1).flatten :: R) (fun s => xss.length - s.1) (0, r1) (Nat.zero_le _) fun ⟨k, v⟩ hk0 K hL => ?_
    simp only at hk0
    dsimp only
    refine walk ?_
    refine ex_if rfl (fun hk => ?_) (fun hk => ?_)
    · have hk1 : k < xss.length := by omega
      have hst2 := sumLen_take (xss := xss) (k := k + 1)
      have hsn : sumLen (xss.take (k + 1)) = sumLen (xss.take k) + xss[k].length := by rw [List.take_succ_eq_append_getElem hk1, sumLen_snoc]
      refine walk ?_
      refine ops_ixp rfl rfl h0 hk1 fun b o c hr hc => ?_
      obtain ⟨w, rfl, hw⟩ := hc
      obtain ⟨b2, c2, rfl, _, _⟩ := hw.1.shape
      refine walk ?_
      refine ops_appS rfl rfl hw.1 (by rw [flat_len]; simp only [cap47]; omega) fun d1 e1 => ?_
      refine walk ?_
      refine out_next hL (k + 1, _) (by simp only; omega) (hs := ?_)
      dsimp only
      rw [List.take_succ_eq_append_getElem hk1, List.flatten_append, List.length_append.symm]
      simp only [List.flatten_cons, List.flatten_nil, List.append_nil]
      exact Sub.refl _
    · clear hL
      obtain rfl : k = xss.length := by omega
      rw [List.take_length]
      refine walk ?_
      refine finB [ownS rStr 1 16 9 H1 v xss.flatten] ?_
      exact ⟨rfl, rfl⟩
end Go.Proofs.YtjgjcakeimkkdaaGreatDoor

set_option linter.unusedVariables false
set_option linter.unusedSimpArgs false
namespace Go.Proofs.YtjgjcakeimkkdaaGreatDoor
open Go Go.Sx Go.Proofs Go.Sort
section
variable {P : Program} {f : FuncId} {W0 : World} {H H0 : Heap} {T : Nat} {v : Value}
abbrev enS : ByteArray → Value := fun x => .string x
theorem enS_str (l : List UInt8) : enS (sb l) = encStr l := rfl
theorem row_str (xs : List ByteArray) : xs.map enS = (xs.map fun s => s.data.toList).map encStr := by
  rw [List.map_map]; rfl
theorem ct_sortS {xs : List ByteArray} (hsort : ∀ (blk off cap : Nat) (zs : List (List UInt8)) (w : World), Holds encStr w blk off zs.toArray → blk < w.heap.size → zs.length < 4611686018427387904 →
      Calls P f #[.slice (some ⟨blk, off, none⟩) zs.length cap] w fun e w' => e = .returned (.tuple #[]) ∧ ∃ n os, w' = grow (Go.Sort.putRow encStr (Sort.ahead w n) blk off (zs.mergeSort fun x y => decide (x ≤ y)).toArray) os)
    (hnone : ∀ (p : Option Addr) (cap : Nat) (w : World), Calls P f #[.slice p 0 cap] w fun e w' => e = .returned (.tuple #[]) ∧ w' = w) :
    Ct P f #[v] W0 H [ownS rStr 1 16 T H0 v xs] (fun r H' B => r = .tuple #[] ∧ B = [ownS rStr 1 16 T H0 v (sortT xs)] ∧ H' = H) := by
  intro w R hS
  obtain ⟨hA, hR, ⟨cs, ⟨hr, hw⟩, ho⟩, r, d, dA, dR, lA, lR⟩ := hS.parts
  obtain ⟨hcs, hok⟩ := RL.map1 hr
  obtain ⟨hl, hc⟩ := ho
  have hlen : (sortT xs).length = xs.length := by simp [sortT]
  have hok' : ∀ x ∈ sortT xs, x.size ≤ cap47 := fun x hx => by
    obtain ⟨l, hl1, rfl⟩ := List.mem_map.1 hx
    rw [List.mem_mergeSort] at hl1
    obtain ⟨q, hq, rfl⟩ := List.mem_map.1 hl1
    exact hok q hq
  have hrowS : (sortT xs).map enS = ((xs.map fun s => s.data.toList).mergeSort fun x y => decide (x ≤ y)).map encStr := by
    simp only [sortT, List.map_map]; rfl
  rcases hc with ⟨h0, b, rfl⟩ | ⟨b, cap, sp, rfl, hp0, h1, h2, h3, h4⟩
  · have hx : xs = [] := List.eq_nil_of_length_eq_zero h0
    subst hx
    refine (hnone b 0 w).mono ?_
    rintro e w' ⟨rfl, rfl⟩
    exact ⟨_, H, _, rfl, .refl _, ⟨rfl, rfl, rfl⟩, by simpa [sortT] using hS⟩
  · have hcs2 : cs = (xs.map fun s => s.data.toList).map encStr := hcs.trans (row_str xs)
    subst hcs2
    have hS' : St W0 H w (row b T ((xs.map fun s => s.data.toList).map encStr ++ sp) :: R) := St.of_parts hS.env hS.ro h4 r d dA dR lA lR
    have hso := hsort b 0 cap (xs.map fun s => s.data.toList) w hS'.holds (hp_lt (w := w) (b := b) hS'.ptRead.1) (by simp only [cap47] at hw; simp; omega)
    rw [List.length_map] at hso
    refine hso.mono ?_
    rintro e w' ⟨rfl, n, os, rfl⟩
    have hS2 := hS'.putRow (n := n) (os := os) (ys := (xs.map fun s => s.data.toList).mergeSort (fun x y => decide (x ≤ y))) (by simp)
    rw [← hrowS] at hS2
    refine ⟨_, H, [ownS rStr 1 16 T H0 (.slice (some ⟨b, 0, none⟩) xs.length cap) (sortT xs)], rfl, .refl _, ⟨rfl, rfl, rfl⟩, hS2.sub ?_⟩
    rintro h ⟨k1, k2, a, rr, q, l1, l2⟩
    refine ⟨k1, k2, ⟨_, ⟨RL.mk1 (R := rStr) (val := fun x => .string x) hok', by rw [hlen]; exact hw⟩, by simp [hlen], .inr ⟨b, cap, sp, by rw [hlen], hp0, by rw [hlen]; exact h1, h2, ?_, a⟩⟩, rr, q, l1, l2⟩
    simpa [hlen] using h3
/-- texts, each once of its run -/
def compT (xs : List ByteArray) : List ByteArray := (Lib.compact (xs.map fun s => s.data.toList)).map sb
theorem compT_len (xs : List ByteArray) : (compT xs).length ≤ xs.length := by
  have := compact_len (xs.map fun s => s.data.toList)
  simpa [compT] using this
theorem ct_compactS {xs : List ByteArray} (hcomp : ∀ (blk off cap : Nat) (zs : List (List UInt8)) (w : World), Holds encStr w blk off zs.toArray → zs.length ≤ 9223372036854775807 → zs.length ≤ cap →
      Calls P f #[.slice (some ⟨blk, off, none⟩) zs.length cap] w fun e w' => e = .returned (.slice (some ⟨blk, off, none⟩) (Lib.compact zs).length cap) ∧ ∃ q, w' = Go.Sort.putRow encStr (Sort.ahead w q) blk off (Lib.compact zs ++ List.replicate (zs.length - (Lib.compact zs).length) []).toArray)
    (hnone : ∀ (a : Option Addr) (cap : Nat) (w : World), Calls P f #[.slice a 0 cap] w fun e w' => e = .returned (.slice a 0 cap) ∧ w' = w) :
    Ct P f #[v] W0 H [ownS rStr 1 16 T H0 v xs] (fun r H' B => B = [ownS rStr 1 16 T H0 r (compT xs)] ∧ H' = H) := by
  intro w R hS
  obtain ⟨hA, hR, ⟨cs, ⟨hr, hw⟩, ho⟩, r, d, dA, dR, lA, lR⟩ := hS.parts
  obtain ⟨hcs, hok⟩ := RL.map1 hr
  obtain ⟨hl, hc⟩ := ho
  have hok' : ∀ x ∈ compT xs, x.size ≤ cap47 := fun x hx => by
    obtain ⟨l, hl1, rfl⟩ := List.mem_map.1 hx
    obtain ⟨q, hq, rfl⟩ := List.mem_map.1 (mem_compact.1 hl1)
    exact hok q hq
  have hlen := compT_len xs
  have hlc : (compT xs).length = (Lib.compact (xs.map fun s => s.data.toList)).length := by simp [compT]
  rcases hc with ⟨h0, b, rfl⟩ | ⟨b, cap, sp, rfl, hp0, h1, h2, h3, h4⟩
  · have hx : xs = [] := List.eq_nil_of_length_eq_zero h0
    subst hx
    refine (hnone b 0 w).mono ?_
    rintro e w' ⟨rfl, rfl⟩
    exact ⟨_, H, _, rfl, .refl _, ⟨rfl, rfl⟩, hS⟩
  · have hcs2 : cs = (xs.map fun s => s.data.toList).map encStr := hcs.trans (row_str xs)
    subst hcs2
    have hS' : St W0 H w (row b T ((xs.map fun s => s.data.toList).map encStr ++ sp) :: R) := St.of_parts hS.env hS.ro h4 r d dA dR lA lR
    have hco := hcomp b 0 cap (xs.map fun s => s.data.toList) w hS'.holds (by simp only [cap47] at hw; simp; omega) (by simpa using h1)
    rw [List.length_map] at hco
    refine hco.mono ?_
    rintro e w' ⟨rfl, q, rfl⟩
    have hS2 := hS'.putRow (n := q) (os := #[]) (ys := Lib.compact (xs.map fun (s : ByteArray) => s.data.toList) ++ List.replicate (xs.length - (Lib.compact (xs.map fun (s : ByteArray) => s.data.toList)).length) []) (by simp; omega)
    rw [grow_empty] at hS2
    refine ⟨_, H, [ownS rStr 1 16 T H0 (.slice (some ⟨b, 0, none⟩) (compT xs).length cap) (compT xs)], by rw [hlc], .refl _, ⟨rfl, rfl⟩, hS2.sub ?_⟩
    rintro h ⟨k1, k2, a, rr, qq, l1, l2⟩
    refine ⟨k1, k2, ⟨_, ⟨RL.mk1 (R := rStr) (val := fun x => .string x) hok', by omega⟩, by simp, .inr ⟨b, cap, (List.replicate (xs.length - (compT xs).length) ([] : List UInt8)).map encStr ++ sp, rfl, hp0, by omega, h2, ?_, ?_⟩⟩, rr, qq, l1, l2⟩
    · simp at h3 ⊢; omega
    · have : (compT xs).map (fun x => Value.string x) ++ ((List.replicate (xs.length - (compT xs).length) ([] : List UInt8)).map encStr ++ sp) = (Lib.compact (xs.map fun (s : ByteArray) => s.data.toList) ++ List.replicate (xs.length - (Lib.compact (xs.map fun (s : ByteArray) => s.data.toList)).length) []).map encStr ++ sp := by
        rw [← hlc]
        simp [compT]
      rw [this]; exact a
end
theorem sortS_ct {W0 : World} {H H0 : Heap} {v : Value} {xs : List ByteArray} :
    Ct Tryz.prog 53 #[v] W0 H [ownS rStr 1 16 9 H0 v xs] (fun r H' B => r = .tuple #[] ∧ B = [ownS rStr 1 16 9 H0 v (sortT xs)] ∧ H' = H) := ct_sortS Tryz.slices_Sort_string Tryz.slices_Sort_string_none
theorem compactS_ct {W0 : World} {H H0 : Heap} {v : Value} {xs : List ByteArray} :
    Ct Tryz.prog 54 #[v] W0 H [ownS rStr 1 16 9 H0 v xs] (fun r H' B => B = [ownS rStr 1 16 9 H0 r (compT xs)] ∧ H' = H) := ct_compactS Tryz.slices_Compact_string Tryz.slices_Compact_string_empty
end Go.Proofs.YtjgjcakeimkkdaaGreatDoor

set_option linter.unusedVariables false
set_option linter.unusedSimpArgs false
namespace Go.Proofs.YtjgjcakeimkkdaaGreatDoor
open Go Go.Sx Go.Proofs
/-- a transaction as a key -/
def Txn.k (x : Txn) : K3 := (x.Node, x.Life, x.Count)
theorem toTx_k (x : Txn) : toTx x.k = x := rfl
theorem k_toTx (k : K3) : (toTx k).k = k := rfl
/-- a work with its cells -/
abbrev CW := List Value × Work
def rCW : Rd CW := fun H cs v => cs = v.1 ∧ rWork H cs v.2
instance : RdOk rCW 3 := ⟨fun ⟨e, h⟩ => RdOk.len h, fun ⟨e, h⟩ => RdOk.one h, fun hl ⟨e, h⟩ => ⟨e, RdOk.mono hl h⟩⟩
def zCW : CW := ([.int .i64 0, nilS, nilS], zWork)
instance : RVal rCW true (fun v => .agg v.1.toArray) := ⟨fun ⟨e, _⟩ => by subst e; rfl⟩
instance : RVal rTxn true (fun v => .agg v.cv.toArray) := ⟨fun ⟨e, _⟩ => by subst e; rfl⟩
instance : RVal rInt false (fun v => .int .i64 v) := ⟨fun ⟨e, _⟩ => by subst e; rfl⟩
theorem own_spec {W0 : World} {H : Heap} {c : List Value} {m : Work} (h0 : rWork H c m) :
    Ct Tryz.prog 39 #[.agg c.toArray] W0 H [] (fun r H' B => ∃ cs, r = .agg cs.toArray ∧ rWork H' cs m ∧ B = []) := by
  refine Ct.go fun R => ?_
  obtain ⟨s1, s2, rfl, f1, h1, h2⟩ := h0
  refine walk ?_
  refine ops_box rfl rfl fun p1 _ => ?_
  refine ops_alloc rfl fun p2 _ => ?_
  refine walk ?_
  refine ex_any 7 [row p1 32 (m.cv s1 s2)] ?_
  refine stepY 0 ?_; refine stepY 1 ?_
  refine stepY 3 ?_; refine stepY 4 ?_
  refine any_call 2 rfl rfl (cloneT_spec h1) fun r1 H1 B hl1 ⟨eB, eH⟩ => ?_
  subst eB eH
  refine ⟨(by (repeat (first | exact Sub.refl _ | exact Sub.nil _ | (apply sub_pick; (repeat (first | exact Has.here | apply Has.there)); skip) | apply Sub.drop))), ?_⟩
  refine stepY 6 ?_
  refine any_call 5 rfl rfl (cloneT_spec h2) fun r2 H2 B hl2 ⟨eB, eH⟩ => ?_
  subst eB eH
  refine ⟨(by (repeat (first | exact Sub.refl _ | exact Sub.nil _ | (apply sub_pick; (repeat (first | exact Has.here | apply Has.there)); skip) | apply Sub.drop))), ?_⟩
  refine any_rest rfl ?_
  refine ops_shape r1 fun d1 e1 e _ _ _ => ?_
  subst e
  refine ops_shape r2 fun d2 e2 e _ _ _ => ?_
  subst e
  refine walk ?_
  refine out_freeze (.slice d1 m.Take.length e1) fun H3 hl3 k1 => ?_
  refine out_freeze (.slice d2 m.Drop.length e2) fun H4 hl4 k2 => ?_
  refine fin0 ?_
  exact ⟨m.cv (.slice d1 m.Take.length e1) (.slice d2 m.Drop.length e2), rfl, ⟨_, _, rfl, f1, k1.mono hl4, k2⟩, rfl⟩
end Go.Proofs.YtjgjcakeimkkdaaGreatDoor

set_option linter.unusedVariables false
set_option linter.unusedSimpArgs false
namespace Go.Proofs.YtjgjcakeimkkdaaGreatDoor
open Go Go.Sx Go.Proofs
/-- what a table holds -/
structure TS where
  held : List (ByteArray × Int)
  locked : List (ByteArray × Txn)
  works : List (K3 × CW)
abbrev tRow (p hb lb wb : Nat) : HProp := row p 107 [.map (some hb), .map (some lb), .map (some wb)]
abbrev hMap (H : Heap) (hb : Nat) (s : TS) : HProp := mapO Value.string rInt false H hb s.held
abbrev lMap (H : Heap) (lb : Nat) (s : TS) : HProp := mapO Value.string rTxn true H lb s.locked
abbrev wMap (H : Heap) (wb : Nat) (s : TS) : HProp := mapO ek3 rCW true H wb s.works
/-- a table, owned: what lies in it is s -/
def tabO (H : Heap) (p : Nat) (s : TS) : HProp := fun h => ∃ hb lb wb, big [tRow p hb lb wb, hMap H hb s, lMap H lb s, wMap H wb s] h
theorem tab_fold {H : Heap} {p hb lb wb : Nat} {s : TS} {L : List HProp} : Sub (tRow p hb lb wb :: hMap H hb s :: lMap H lb s :: wMap H wb s :: L) (tabO H p s :: L) :=
  sub_fold (B := [tRow p hb lb wb, hMap H hb s, lMap H lb s, wMap H wb s]) (Sub.refl _) fun h hb' => ⟨hb, lb, wb, hb'⟩
theorem new_spec {W0 : World} {H : Heap} :
    Ct Tryz.prog 23 #[] W0 H [] (fun r H' B => ∃ p, r = .pointer (some ⟨p, 0, none⟩) ∧ B = [tabO H p ⟨[], [], []⟩] ∧ H' = H) := by
  refine Ct.go (vs := []) fun R => ?_
  refine walk ?_
  refine ops_makeMap Value.string rInt false rfl fun b1 _ => ?_
  refine ops_makeMap Value.string rTxn true rfl fun b2 _ => ?_
  refine ops_makeMap ek3 rCW true rfl fun b3 _ => ?_
  refine walk ?_
  refine ops_box rfl rfl fun p _ => ?_
  refine walk ?_
  refine finB [tabO H p ⟨[], [], []⟩] ?_ (hs := ?_)
  · exact ⟨p, rfl, rfl, rfl⟩
  · refine Sub.trans ?_ (tab_fold (hb := b1) (lb := b2) (wb := b3))
    (repeat (first | exact Sub.refl _ | exact Sub.nil _ | (apply sub_pick; (repeat (first | exact Has.here | apply Has.there)); skip) | apply Sub.drop))
theorem tab_up {H H' : Heap} {p : Nat} {s : TS} {L : List HProp} (hl : H.le H') : Sub (tabO H p s :: L) (tabO H' p s :: L) := fun h ⟨h1, h2, ⟨hb, lb, wb, hbig⟩, r⟩ => by
  refine ⟨h1, h2, ⟨hb, lb, wb, ?_⟩, r⟩
  obtain ⟨a1, a2, x1, ⟨b1, b2, x2, ⟨c1, c2, x3, ⟨d1, d2, x4, y4⟩, y3⟩, y2⟩, y1⟩ := hbig
  exact ⟨a1, a2, x1, ⟨b1, b2, (let ⟨es, c, a, e⟩ := x2; ⟨es, c, a.mono hl, e⟩), ⟨c1, c2, (let ⟨es, c, a, e⟩ := x3; ⟨es, c, a.mono hl, e⟩), ⟨d1, d2, (let ⟨es, c, a, e⟩ := x4; ⟨es, c, a.mono hl, e⟩), y4⟩, y3⟩, y2⟩, y1⟩
def holderV (s : TS) (k : ByteArray) : Value := .tuple [I ((mget k s.held).getD 0), .bool (mget k s.held).isSome].toArray
def lockedV (s : TS) (k : ByteArray) : Value := .tuple [.agg ((mget k s.locked).getD zTxn).cv.toArray, .bool (mget k s.locked).isSome].toArray
end Go.Proofs.YtjgjcakeimkkdaaGreatDoor

set_option linter.unusedVariables false
set_option linter.unusedSimpArgs false
namespace Go.Proofs.YtjgjcakeimkkdaaGreatDoor
open Go Go.Sx Go.Proofs Go.Shelf Go.RowKit Go.Maps Go.Sort
theorem sorts_at (m : Nat) : AnyZ.SortsIn Tryz.prog Tryz.sortedS_ren Fence.wide m :=
  ⟨fun blk off cap ss W hH hblk hsz => callsIn_wide.2 (AnyM.slices_Sort_string Tryz.sortS blk off cap ss W hH hblk hsz),
   fun p cap W => callsIn_wide.2 (AnyM.slices_Sort_string_none Tryz.sortS p cap W)⟩
theorem keys_ct {W0 : World} {H : Heap} {b : Nat} : Ct Tryz.prog 36 #[.map (some b)] W0 H [] (fun r H' B => ∃ p, r = .func (.func 66) #[] #[.pointer (some ⟨p, 0, none⟩)] ∧ B = [row p 103 [.map (some b)]] ∧ H' = H) :=
  ct_keys fun mb W => callsIn_wide.1 (AnyZ.keys_in Tryz.keysS Fence.wide 5 trivial rfl mb W)
theorem sorted_ct {ν : Type} {RV : Sx.Rd ν} {W0 : World} {H H0 : Heap} {p b : Nat} {ms : List (ByteArray × ν)} (hs : ∀ q ∈ ms, q.1.size ≤ cap47) (hl : ms.length * 16 ≤ cap47) :
    Ct Tryz.prog 35 #[.func (.func 66) #[] #[.pointer (some ⟨p, 0, none⟩)]] W0 H [row p 103 [.map (some b)], mapO Value.string RV false H0 b ms] (fun r H' B => B = [ownS rStr 1 16 9 H r (sortT (ms.map (·.1))), mapO Value.string RV false H0 b ms] ∧ H' = H) :=
  ct_sortedKeys (k := 9) Tryz.underlying9 (fun w nn D0 R hown hp hc hm hb =>
    callsIn_wide.1 (AnyZ.sorted_in Tryz.sortedS Fence.wide 5 trivial trivial trivial trivial rfl (by omega) (sorts_at _) (enters_of Tryz.func53 (by kernel_rfl) rfl) 66 #[.pointer (some ⟨p, 0, none⟩)] trivial (enters_of Tryz.func66 (by kernel_rfl) rfl) _ _ hm hb _
      (AnyZ.keys_gives (ρ := Tryz.keysS_ren) { Tryz.keysS with } Fence.wide _ trivial rfl (by omega) p b nn D0 w hp hc hown))) hs hl
theorem sortT_len (xs : List ByteArray) : (sortT xs).length = xs.length := by simp [sortT]
theorem mem_sortT {xs : List ByteArray} {x : ByteArray} : x ∈ sortT xs ↔ x ∈ xs := by
  unfold sortT
  simp only [List.mem_map, List.mem_mergeSort]
  constructor
  · rintro ⟨l, ⟨y, hy, rfl⟩, rfl⟩; exact hy
  · exact fun h => ⟨_, ⟨x, h, rfl⟩, rfl⟩
/-- what a table keeps to, so that it can be read -/
structure TsOk (s : TS) : Prop where
  hk : ∀ q ∈ s.held, q.1.size ≤ cap47
  hf : ∀ q ∈ s.held, fits q.2
  hn : s.held.length ≤ 1000000
  wf : ∀ q ∈ s.works, fits q.1.1 ∧ fits q.1.2.1 ∧ fits q.1.2.2
  wn : s.works.length ≤ 1000000
/-- all that is held, rising -/
def holdOf (s : TS) (k : ByteArray) : Hold := ⟨k, (mget k s.held).getD 0⟩
def holdsL (s : TS) : List Hold := (sortT (s.held.map (·.1))).map (holdOf s)
theorem mget_fits {s : TS} (h : TsOk s) (k : ByteArray) : fits ((mget k s.held).getD 0) := by
  cases hg : mget k s.held with
  | none => exact fits0
  | some v => exact h.hf (k, v) (mget_mem hg)
set_option maxHeartbeats 4000000 in
theorem holds_spec {W0 : World} {H : Heap} {p : Nat} {s : TS} (hs : TsOk s) :
    Ct Tryz.prog 13 #[.pointer (some ⟨p, 0, none⟩)] W0 H [tabO H p s] (fun r H' B => B = [ownS rHold 2 24 109 H' r (holdsL s), tabO H' p s]) := by
  refine Ct.go (vs := [.pointer (some ⟨p, 0, none⟩)]) fun R => ?_
  have hn := hs.hn
  have hcap : (1000000 : Nat) * 24 ≤ cap47 := by decide
  refine ex_open (A := tabO H p s) (σ := Nat × Nat × Nat) (B := fun a => [tRow p a.1 a.2.1 a.2.2, hMap H a.1 s, lMap H a.2.1 s, wMap H a.2.2 s]) (p := fun _ => True) (by repeat (first | exact Has.here | apply Has.there)) (fun h ⟨hb, lb, wb, hbig⟩ => ⟨(hb, lb, wb), trivial, hbig⟩) fun ⟨hb, lb, wb⟩ _ => ?_
  dsimp only
  refine walk ?_
  refine ops_call rfl rfl keys_ct fun r1 H1 B hl1 ⟨pk, er, eB, eH⟩ => ?_
  subst er eB eH
  have hc := sorted_ct (W0 := W0) (H := H1) (H0 := H1) (RV := rInt) (p := pk) (b := hb) (ms := s.held) hs.hk (by simp only [cap47]; omega)
  refine ops_call rfl rfl hc fun r2 H2 B hl2 ⟨eB, eH⟩ => ?_
  subst eB eH
  have hlen : (sortT (s.held.map (·.1))).length = s.held.length := by rw [sortT_len, List.length_map]
  have hmem : ∀ k ∈ sortT (s.held.map (·.1)), k.size ≤ cap47 := fun k hk => by
    obtain ⟨q, hq, rfl⟩ := List.mem_map.1 (mem_sortT.1 hk)
    exact hs.hk q hq
  unfold holdsL
  generalize sortT (s.held.map (·.1)) = ks at *
  refine ops_freeze r2 fun H3 hl3 hsl => ?_
  obtain ⟨b0, c0, rfl, hc0, hd0⟩ := hsl.1.shape
  refine walk ?_
  refine ex_loop (σ := Nat × Option Addr × Nat) (fun u => u.1 ≤ ks.length) (fun u => [(0, .pointer (some ⟨p, 0, none⟩)), (11, .slice b0 ks.length c0), (12, I ks.length), (13, I u.1), (3, .slice u.2.1 ((ks.take u.1).map (holdOf s)).length u.2.2)]) (fun _ => H3)
    (fun u => ownS rHold 2 24 109 H3 (.slice u.2.1 ((ks.take u.1).map (holdOf s)).length u.2.2) ((ks.take u.1).map (holdOf s)) :: hMap H2 hb s :: tRow p hb lb wb :: lMap H2 lb s :: wMap H2 wb s :: R) (fun u => ks.length - u.1) (0, none, 0) (Nat.zero_le _) (hs0 := ?_) fun ⟨k, d, e⟩ hk0 K hL => ?_
  rotate_left
  · simp only [List.take_zero, List.map_nil, List.length_nil]
    refine Sub.trans ?_ ownS_nil
    (repeat (first | exact Sub.refl _ | exact Sub.nil _ | (apply sub_pick; (repeat (first | exact Has.here | apply Has.there)); skip) | apply Sub.drop))
  simp only at hk0
  dsimp only
  have hll : ((ks.take k).map (holdOf s)).length = k := by simp; omega
  refine walk ?_
  refine ex_if rfl (fun hk => ?_) (fun hk => ?_)
  · have hk1 : k < ks.length := by omega
    have ht := List.take_succ_eq_append_getElem hk1
    refine walk ?_
    refine ops_ixp rfl rfl hsl.1 hk1 fun b o c hr hc => ?_
    obtain ⟨rfl, hsz⟩ := hc
    refine walk ?_
    refine ops_lkA (RV := rInt) (ag := false) (z := 0) rfl rfl (by repeat (first | exact Has.here | apply Has.there)) ?_
    refine walk ?_
    refine ops_app1 (y := holdOf s ks[k]) rfl rfl rfl ⟨rfl, hsz, mget_fits hs _⟩ (by rw [hll]; simp only [cap47]; omega) fun d3 e3 => ?_
    have hse : (ks.take k).map (holdOf s) ++ [holdOf s ks[k]] = (ks.take (k + 1)).map (holdOf s) := by rw [ht, List.map_append]; rfl
    have hsl2 : ((ks.take k).map (holdOf s)).length + 1 = ((ks.take (k + 1)).map (holdOf s)).length := by rw [← hse]; simp
    rw [hsl2, hse]
    refine walk ?_
    exact out_next hL (k + 1, d3, e3) (by simp only; omega)
  · clear hL
    obtain rfl : k = ks.length := by omega
    refine walk ?_
    rw [List.take_length] at *
    refine finB [ownS rHold 2 24 109 H3 (.slice d (ks.map (holdOf s)).length e) (ks.map (holdOf s)), tabO H3 p s] ?_ (hs := ?_)
    · exact rfl
    · refine Sub.trans ?_ (Sub.cons (Sub.trans (tab_fold (H := H2) (hb := hb) (lb := lb) (wb := wb)) (tab_up hl3)))
      (repeat (first | exact Sub.refl _ | exact Sub.nil _ | (apply sub_pick; (repeat (first | exact Has.here | apply Has.there)); skip) | apply Sub.drop))
end Go.Proofs.YtjgjcakeimkkdaaGreatDoor

set_option linter.unusedVariables false
set_option linter.unusedSimpArgs false
namespace Go.Proofs.YtjgjcakeimkkdaaGreatDoor
open Go Go.Sx Go.Proofs
/-- all prepared transactions, in order -/
def recOf (s : TS) (k : K3) : Rec := ⟨2, toTx k, ((mget k s.works).getD zCW).2, false, []⟩
def prepL (s : TS) : List Rec := (sort3 (s.works.map (·.1))).map (recOf s)
theorem mem_sort3 {l : List K3} {k : K3} : k ∈ sort3 l ↔ k ∈ l := by unfold sort3; exact List.mem_mergeSort
theorem zCW_reads {H : Heap} : rCW H zCW.1 zCW := ⟨rfl, zWork_reads⟩
set_option maxHeartbeats 4000000 in
theorem prepared_spec {W0 : World} {H : Heap} {p : Nat} {s : TS} (hs : TsOk s) :
    Ct Tryz.prog 14 #[.pointer (some ⟨p, 0, none⟩)] W0 H [tabO H p s] (fun r H' B => B = [ownS rRec 9 120 53 H' r (prepL s), tabO H' p s]) := by
  refine Ct.go (vs := [.pointer (some ⟨p, 0, none⟩)]) fun R => ?_
  have hn := hs.wn
  have hcap : (1000000 : Nat) * 120 ≤ cap47 := by decide
  refine ex_open (A := tabO H p s) (σ := Nat × Nat × Nat) (B := fun a => [tRow p a.1 a.2.1 a.2.2, hMap H a.1 s, lMap H a.2.1 s, wMap H a.2.2 s]) (p := fun _ => True) (by repeat (first | exact Has.here | apply Has.there)) (fun h ⟨hb, lb, wb, hbig⟩ => ⟨(hb, lb, wb), trivial, hbig⟩) fun ⟨hb, lb, wb⟩ _ => ?_
  dsimp only
  refine ex_know (A := wMap H wb s) (by repeat (first | exact Has.here | apply Has.there)) (fun h ho => mapO_know ho) fun hkw => ?_
  refine walk ?_
  refine ops_call rfl rfl ct_keys3 fun r1 H1 B hl1 ⟨pk, er, eB, eH⟩ => ?_
  subst er eB eH
  have hc := ct_sorted3 (W0 := W0) (H := H1) (H0 := H1) (RV := rCW) (ag := true) (p := pk) (b := wb) (ms := s.works) hs.wf (by simp only [cap47]; omega)
  refine ops_call rfl rfl hc fun r2 H2 B hl2 ⟨eB, eH⟩ => ?_
  subst eB eH
  have hlen : (sort3 (s.works.map (·.1))).length = s.works.length := by rw [sort3_len, List.length_map]
  have hmem : ∀ k ∈ sort3 (s.works.map (·.1)), fits k.1 ∧ fits k.2.1 ∧ fits k.2.2 := fun k hk => by
    obtain ⟨q, hq, rfl⟩ := List.mem_map.1 (mem_sort3.1 hk)
    exact hs.wf q hq
  have hread : ∀ k, rCW H2 ((mget k s.works).getD zCW).1 ((mget k s.works).getD zCW) := fun k => by
    cases hg : mget k s.works with
    | none => exact zCW_reads
    | some v => obtain ⟨cs, e, h⟩ := hkw.1 (k, v) (mget_mem hg); exact ⟨rfl, by subst e; exact h⟩
  unfold prepL
  generalize sort3 (s.works.map (·.1)) = ks at *
  refine ops_freeze r2 fun H3 hl3 hsl => ?_
  obtain ⟨b0, c0, rfl, hc0, hd0⟩ := hsl.1.shape
  have hlx : (ks.map toTx).length = ks.length := by simp
  refine walk ?_
  refine ex_loop (σ := Nat × Option Addr × Nat × Heap) (fun u => u.1 ≤ ks.length ∧ H3.le u.2.2.2) (fun u => [(0, .pointer (some ⟨p, 0, none⟩)), (11, .slice b0 (ks.map toTx).length c0), (12, I (ks.map toTx).length), (13, I u.1), (3, .slice u.2.1 ((ks.take u.1).map (recOf s)).length u.2.2.1)]) (fun u => u.2.2.2)
    (fun u => ownS rRec 9 120 53 u.2.2.2 (.slice u.2.1 ((ks.take u.1).map (recOf s)).length u.2.2.1) ((ks.take u.1).map (recOf s)) :: wMap H2 wb s :: tRow p hb lb wb :: hMap H2 hb s :: lMap H2 lb s :: R) (fun u => ks.length - u.1) (0, none, 0, H3) ⟨Nat.zero_le _, .refl _⟩ (hs0 := ?_) fun ⟨k, d, e, HK⟩ ⟨hk0, hlK⟩ K hL => ?_
  rotate_left
  · simp only [List.take_zero, List.map_nil, List.length_nil]
    refine Sub.trans ?_ ownS_nil
    (repeat (first | exact Sub.refl _ | exact Sub.nil _ | (apply sub_pick; (repeat (first | exact Has.here | apply Has.there)); skip) | apply Sub.drop))
  simp only at hk0 hlK
  dsimp only
  have hll : ((ks.take k).map (recOf s)).length = k := by simp; omega
  refine walk ?_
  refine ex_if rfl (fun hk => ?_) (fun hk => ?_)
  · have hk1 : k < ks.length := by omega
    have ht := List.take_succ_eq_append_getElem hk1
    refine walk ?_
    refine ops_ixp rfl rfl (hsl.mono hlK).1 (show k < (ks.map toTx).length by simpa using hk1) fun b o c hr hc => ?_
    have hx : (ks.map toTx)[k]'(by simpa using hk1) = toTx ks[k] := by simp
    rw [hx] at hc
    have hkm := hmem ks[k] (List.getElem_mem hk1)
    have hrd := hread ks[k]
    have hse : (ks.take k).map (recOf s) ++ [recOf s ks[k]] = (ks.take (k + 1)).map (recOf s) := by rw [ht, List.map_append]; rfl
    have hsl2 : ((ks.take k).map (recOf s)).length + 1 = ((ks.take (k + 1)).map (recOf s)).length := by rw [← hse]; simp
    obtain ⟨rfl, _⟩ := hc
    generalize ks[k] = kk at *
    obtain ⟨ka, kb, kc⟩ := kk
    dsimp only at hkm
    change HRow HK b o [I ka, I kb, I kc] at hr
    refine walk ?_
    refine ops_ldNH rfl rfl hr rfl ?_
    refine ops_alloc rfl fun p5 _ => ?_
    refine walk ?_
    refine ex_any 12 [wMap H2 wb s, tRow p hb lb wb, row p5 29 [I ka, I kb, I kc]] ?_
    refine stepY 0 ?_; refine stepY 1 ?_; refine stepY 2 ?_; refine stepY 3 ?_; refine stepY 4 ?_; refine stepY 5 ?_; refine stepY 6 ?_
    refine gny_lkA (RV := rCW) (ag := true) (z := zCW) 7 rfl rfl rfl (by repeat (first | exact Has.here | apply Has.there)) ?_
    refine gny_call 8 rfl rfl rfl (own_spec (RdOk.mono (R := rWork) (hl3.trans hlK) hrd.2)) fun r4 H4 B hl4 ⟨cs, er, hcs, eB⟩ => ?_
    subst er eB
    refine ⟨(by (repeat (first | exact Sub.refl _ | exact Sub.nil _ | (apply sub_pick; (repeat (first | exact Has.here | apply Has.there)); skip) | apply Sub.drop))), ?_⟩
    obtain ⟨s1, s2, rfl, hrob, hs1, hs2⟩ := hcs
    refine stepY 9 ?_
    have fk2 : fits (2 : Int) := by unfold fits; omega
    refine any_app1 (y := recOf s (ka, kb, kc)) 10 11 rfl rfl rfl ⟨s1, s2, nilS, rfl, fk2, hkm.1, hkm.2.1, hkm.2.2, hrob, hs1, hs2, SlB.nil⟩ (by rw [hll]; simp only [cap47]; omega) fun d3 e3 => ⟨(by (repeat (first | exact Sub.refl _ | exact Sub.nil _ | (apply sub_pick; (repeat (first | exact Has.here | apply Has.there)); skip) | apply Sub.drop))), ?_⟩
    rw [hsl2, hse]
    refine any_rest rfl ?_
    refine walk ?_
    exact out_next hL (k + 1, d3, e3, H4) ⟨by simp only; omega, hlK.trans hl4⟩
  · clear hL
    obtain rfl : k = ks.length := by omega
    refine walk ?_
    rw [List.take_length] at *
    refine finB [ownS rRec 9 120 53 HK (.slice d (ks.map (recOf s)).length e) (ks.map (recOf s)), tabO HK p s] ?_ (hs := ?_)
    · exact rfl
    · refine Sub.trans ?_ (Sub.cons (Sub.trans (tab_fold (H := H2) (hb := hb) (lb := lb) (wb := wb)) (tab_up (hl3.trans hlK))))
      (repeat (first | exact Sub.refl _ | exact Sub.nil _ | (apply sub_pick; (repeat (first | exact Has.here | apply Has.there)); skip) | apply Sub.drop))
end Go.Proofs.YtjgjcakeimkkdaaGreatDoor
