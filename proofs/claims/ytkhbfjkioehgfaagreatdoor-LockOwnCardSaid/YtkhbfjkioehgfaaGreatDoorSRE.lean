/- slices.SortedFunc at api.Txn by locktab.order, against whatever iterator; maps.Keys. -/
import Derived.Test.YtkhbfjkioehgfaaGreatDoorSRD
import Derived.Sort.OwnSorted
import Derived.RangeFuncBound
set_option linter.unusedVariables false
set_option linter.unusedSimpArgs false
namespace Go.Proofs.YtkhbfjkioehgfaaGreatDoor
open Go Go.Sx Go.Proofs Go.RowKit Go.Maps Go.Sort Go.Shelf Go.Lib
theorem c3s_get : ∀ (l : List K3) (t : Nat), t < l.length * 3 → (c3s l)[t]? = some ((c3 (l.toArray)[t / 3]!)[t % 3]!)
  | [], t, h => by simp at h
  | k :: l, t, h => by
    have e : c3s (k :: l) = c3 k ++ c3s l := rfl
    rw [e]
    by_cases h3 : t < 3
    · rw [List.getElem?_append_left (by rw [c3_len]; exact h3)]
      have e1 : t / 3 = 0 := by omega
      have e2 : t % 3 = t := by omega
      rw [e1, e2]
      have : (c3 k).length = 3 := rfl
      simp [List.getElem?_eq_getElem, h3, this]
    · rw [List.getElem?_append_right (by rw [c3_len]; omega), c3_len, c3s_get l (t - 3) (by simp at h; omega)]
      obtain ⟨u, rfl⟩ : ∃ u, t = u + 3 := ⟨t - 3, by omega⟩
      have e1 : (u + 3) / 3 = u / 3 + 1 := by omega
      have e2 : (u + 3) % 3 = u % 3 := by omega
      rw [Nat.add_sub_cancel, e1, e2]
      simp
theorem flat3 (l : List K3) : flatK c3 3 l.toArray = (c3s l).toArray := by
  apply Array.ext'
  apply List.ext_getElem?
  intro t
  by_cases h : t < l.length * 3
  · rw [show (c3s l).toArray.toList = c3s l from rfl, c3s_get l t h]
    simp [flatK, h]
  · rw [List.getElem?_eq_none (by simp; omega), List.getElem?_eq_none (by simp [c3s_len]; omega)]
theorem holds_of_blockG {w : World} {g : Nat} {cur : Array Value} {e : TypeId} {xs : List Value} (hb : w.heap[g]? = some (.cells cur e (0, 0))) (ht : cur.toList.take xs.length = xs) : Holds id w g 0 xs.toArray := by
  intro j hj
  have hj' : j < xs.length := by simpa using hj
  refine ⟨?_, by simp [World.frozen?, hb]⟩
  have h1 : (cur.toList.take xs.length)[j]? = xs[j]? := by rw [ht]
  rw [List.getElem?_take_of_lt hj'] at h1
  simp only [World.cell?, hb, Nat.zero_add]
  simp only [Option.isSome_none, Bool.false_eq_true, if_false]
  rw [← Array.getElem?_toList, h1]
  simp [hj']
theorem heap_sortedG {w : World} {g n : Nat} {os : Array Obj} {cur : Array Value} {e : TypeId} {fr : Nat × Nat} (d : Array Value) (hb : w.heap[g]? = some (.cells cur e fr)) :
    (grow (putRow id (Sort.ahead w n) g 0 d) os).heap[g]? = some (.cells (putCells id 0 d cur) e fr) := by
  have hg : g < w.heap.size := (Array.getElem?_eq_some_iff.1 hb).1
  rw [heap_grow_old _ _ (by simpa using hg)]
  simp [putRow, mapBlock, Sort.ahead, Array.getElem?_modify, hb, onCells]
theorem grownBy_sortedG {w : World} {g n : Nat} {os : Array Obj} (d : Array Value) : w.grownBy (grow (putRow id (Sort.ahead w n) g 0 d) os) (some g) := by
  refine ⟨rfl, rfl, rfl, by simp, fun k hk hne => ?_⟩
  rw [heap_grow_old _ _ (by simpa using hk)]
  have : g ≠ k := fun e => hne (by rw [e])
  simp [putRow, mapBlock, Sort.ahead, Array.getElem?_modify, this]
theorem take_putCellsG (cur : Array Value) (ts : List Value) (h : ts.length ≤ cur.size) : (putCells id 0 ts.toArray cur).toList.take ts.length = ts := by
  apply List.ext_getElem?
  intro j
  by_cases hj : j < ts.length
  · rw [List.getElem?_take_of_lt hj, Array.getElem?_toList]
    simp [putCells, hj, show j < cur.size by omega]
  · rw [List.getElem?_take_eq_none (by omega), List.getElem?_eq_none (by omega)]
theorem ownsRow_sortedG {w : World} {base g cap n m : Nat} {e : TypeId} {os : Array Obj} {cur : Array Value} {ts : List Value} (hl : ts.length = m * 3) (hbase : base ≤ g) (hb : w.heap[g]? = some (.cells cur e (0, 0)))
    (h1 : m ≤ cap) (h2 : cap ≤ maxLen) (h3 : cur.size = cap * 3) :
    (grow (putRow id (Sort.ahead w n) g 0 ts.toArray) os).ownsRow base e 3 (.slice (some ⟨g, 0, none⟩) m cap) m ts :=
  ⟨by simp [hl], .inr ⟨g, cap, _, rfl, hbase, heap_sortedG _ hb, h1, h2, by simp [putCells, h3], by rw [← hl]; exact take_putCellsG cur ts (by omega)⟩⟩
/-- transactions, in order -/
def sort3 (l : List K3) : List K3 := l.mergeSort fun x y => !(ltOf ordI) y x
theorem sort3_len (l : List K3) : (sort3 l).length = l.length := by simp [sort3]
set_option maxRecDepth 100000 in
theorem sortFunc_calls (gb cap : Nat) (ss : List K3) (W : World) (cur : Array Value) (hgb : W.heap[gb]? = some (.cells cur 27 (0, 0))) (r4 : cur.toList.take (ss.length * 3) = c3s ss) (hsz : ss.length < 4611686018427387904) :
    Calls Tryz.prog 59 #[.slice (some ⟨gb, 0, none⟩) ss.length cap, .func (.func 34) #[] #[]] W fun e w' => e = .returned (.tuple #[]) ∧ ∃ n os, w' = grow (putRow id (Sort.ahead W n) gb 0 (c3s (sort3 ss)).toArray) os := by
  have hgl : gb < W.heap.size := (Array.getElem?_eq_some_iff.1 hgb).1
  have hH : HoldsK c3 3 W gb 0 ss.toArray := by
    unfold HoldsK
    rw [flat3]
    exact holds_of_blockG hgb (by rw [c3s_len]; exact r4)
  have h := AnyQ.slices_SortFunc_total Tryz.sortTx 3 Tryz.isAgg27 Tryz.sizeOf27 c3 (fun _ => rfl) (by intro x v hv; simp [c3] at hv; rcases hv with rfl | rfl | rfl <;> rfl) ordI swoK 34 #[] gb 0 cap ss.toArray W (fun _ _ => rfl) (cmpLays gb 0 ss.toArray.size W) hH hgl (by simpa using hsz) (by
    intro x y h1 h2
    have e1 : ¬ ltK x y := fun h => by rw [← ltOf_iff] at h; rw [h] at h1; cases h1
    have e2 : ¬ ltK y x := fun h => by rw [← ltOf_iff] at h; rw [h] at h2; cases h2
    exact ltK_tot e1 e2)
  refine (show Calls Tryz.prog 59 #[.slice (some ⟨gb, 0, none⟩) ss.toArray.size cap, .func (.func 34) #[] #[]] W _ from h).mono ?_
  rintro e w' ⟨he, n, os, hw⟩
  refine ⟨he, n, os, ?_⟩
  rw [hw]
  unfold sortWorldK putRowK
  rw [show (ss.toArray.toList.mergeSort fun x y => !(ltOf ordI) y x) = sort3 ss from rfl, flat3]
theorem sortFunc_none (cap : Nat) (fv : Value) (W : World) : Calls Tryz.prog 59 #[.slice none 0 cap, fv] W fun e w' => e = .returned (.tuple #[]) ∧ w' = W :=
  AnyF.slices_SortFunc_none { Tryz.sortTx with } none cap fv W
set_option maxRecDepth 100000 in
set_option maxHeartbeats 2000000 in
theorem sortedFunc_in (F : Fence) (n : Nat) (h6 : F.fn 32) (h8 : F.fn 58) (h9 : F.fn 59) (h11 : F.fn 83) (hro : F.round = none) (hwd : ∀ f args w R, Calls Tryz.prog f args w R → CallsIn F (n - 1) Tryz.prog f args w R) (hFg : ∀ g, F.fn g) (hn : 4 ≤ n) (g : Nat) (lb : Array Value) (eg : ∀ args w, (callFunc g args).run Tryz.prog w = .ok (.enter g args) w)
    (S : List K3 → Prop) (N : Nat) (hN : N ≤ maxLen) (hNb : N * 24 ≤ 140737488355328) (w : World) (hseq : SeqGives F (n - 1 - 1 - 1) Tryz.prog g lb ek3 S N w) :
    CallsIn F n Tryz.prog 32 #[.func (.func g) #[] lb, .func (.func 34) #[] #[]] w fun e w' => ∃ (v : Value) (ss : List K3), e = .returned v ∧ S ss ∧ w'.ownsRow w.heap.size 27 3 v ss.length (c3s (sort3 ss)) ∧ (v = .slice none 0 0 ↔ ss = []) ∧ Below w.heap.size w w' := by
  have h1 : 1 ≤ n := by omega
  refine callsIn_of_wp Tryz.func32 rfl h6 ?_ hro
  simp only [Tryz.ntmps32, List.size_toArray, List.length_cons, List.length_nil, Nat.reduceAdd, Nat.reduceSub, Array.replicate_succ, Array.replicate_zero, List.push_toArray, List.append_toArray, List.nil_append, List.cons_append]
  gi_wp2_with (gi_at_call 58; refine (collect_in F (n - 1) h8 h11 hro (by omega) g lb (hFg g) eg _ N hN hNb _ hseq.bounded).mono ?_; rintro e W ⟨v, ss, rfl, ⟨hS, hlen⟩, hrow, hnil, hb⟩)
  rcases hrow.2 with ⟨rfl, hz⟩ | ⟨gb, cap, cur, rfl, hbase, hgb, r1, r2, r3, r4⟩
  · have hss : ss = [] := List.eq_nil_of_length_eq_zero hz
    subst hss
    gi_wp2_with (gi_at_call 59; refine (hwd _ _ _ _ (sortFunc_none 0 _ W)).mono ?_; rintro e w' ⟨rfl, rfl⟩)
    go_ret
    exact ⟨.slice none 0 0, [], rfl, hS, by simpa [sort3] using hrow, by simp, hb⟩
  · have hsz : ss.length < 4611686018427387904 := by omega
    have cS := sortFunc_calls gb cap ss W cur hgb r4 hsz
    gi_wp2_with (gi_at_call 59; refine (hwd _ _ _ _ cS).mono ?_; rintro e w' ⟨rfl, nn, os, rfl⟩)
    go_ret
    exact ⟨_, ss, rfl, hS, ownsRow_sortedG (by rw [c3s_len, sort3_len]) hbase hgb r1 r2 r3, hnil, hb.grown (grownBy_sortedG _) hb.size (fun j hj => by cases hj; exact hbase)⟩
set_option maxHeartbeats 1000000 in
theorem keysTx_in (F : Fence) (n : Nat) (h7 : F.fn 33) (hro : F.round = none) (mb : Option Nat) (w : World) :
    CallsIn F n Tryz.prog 33 #[.map mb] w fun e w' => e = .returned (.func (.func 60) #[] #[.pointer (some ⟨w.heap.size, 0, none⟩)]) ∧ w' = w.alloc (.cells #[.map mb] 69) := by
  refine callsIn_of_wp Tryz.func33 rfl h7 ?_ hro
  simp only [Tryz.ntmps33, List.size_toArray, List.length_cons, List.length_nil, Nat.reduceAdd, Nat.reduceSub, Array.replicate_succ, Array.replicate_zero, List.push_toArray, List.append_toArray, List.nil_append, List.cons_append]
  gi_wp2
  go_ret
  exact ⟨rfl, rfl⟩
end Go.Proofs.YtkhbfjkioehgfaaGreatDoor
