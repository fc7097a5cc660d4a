/- maps.Keys at a map whose keys are api.Txn: its iterator; slices.AppendSeq and Collect against such an iterator. -/
import Derived.Test.YtkhbfjkioehgfaaGreatDoorSRA
import Derived.Test.YtkhbfjkioehgfaaGreatDoorProg
import Derived.Test.YtkhbfjkioehgfaaGreatDoorKD
import Derived.Shelf.SlIter.Collect
import Derived.Sort.MapsRangeIn
import Derived.Sort.KeysCollected
import Derived.WalkKit
import Derived.OwnWalkIn
import Derived.TacticsInMore
import Derived.RegionIn
import Derived.LoopNIn
import Derived.LoopIn
import Derived.Shelf.Abstract
set_option linter.unusedVariables false
set_option linter.unusedSimpArgs false
namespace Go.Proofs.YtkhbfjkioehgfaaGreatDoor
open Go Go.Sx Go.Proofs Go.RowKit Go.Maps Go.Sort Go.Shelf
abbrev K3 := Int × Int × Int
set_option maxRecDepth 100000 in
set_option maxHeartbeats 2000000 in
theorem keys1_raw (F : Fence) (n : Nat) (h10 : F.fn 60) (hro : F.round = none) (hn : 1 ≤ n) (l Bm b : Nat) (es : Array MapEntry) (clock : Nat) (kf : MapEntry → K3) (J : List K3 → World → Prop)
    (hY : ∀ pre x W, J pre W → pre.length < es.size → YieldAt F (n - 1) Tryz.prog l #[ek3 x] W fun e W' => e = .returned (.bool true) ∧ J (pre ++ [x]) W' ∧ KeepsWalks W W')
    (W : World) (hJ : AbidesFrom W.heap.size J) (hm : W.cell? ⟨Bm, 0, none⟩ = some (.map (some b))) (hb : W.heap[b]? = some (.map es clock)) (hold : ∀ x ∈ es.toList, x.born < clock) (hnd : (es.toList.map (·.born)).Nodup) (hk : ∀ e ∈ es.toList, e.key = ek3 (kf e)) (h0 : J [] W) :
    CallsIn F n Tryz.prog 60 #[.func (.yield l) #[] #[], .pointer (some ⟨Bm, 0, none⟩)] W fun e W' => (∃ v, e = .returned v) ∧ ∃ ss : List K3, ss.Perm (es.toList.map kf) ∧ J ss W' := by
  have hblt : b < W.heap.size := (Array.getElem?_eq_some_iff.1 hb).1
  refine callsIn_of_wp Tryz.func60 rfl h10 ?_ hro
  simp only [Tryz.ntmps60, List.size_toArray, List.length_cons, List.length_nil, Nat.reduceAdd, Nat.reduceSub, Array.replicate_succ, Array.replicate_zero, List.push_toArray, List.append_toArray, List.nil_append, List.cons_append]
  gi_wp2_with (first
    | (gi_at_range; refine in_range_raw _ rfl _ 69 rfl 27 30 Tryz.underlying69 b es clock rfl hb ?_)
    | gi_in)
  go_frame
  gi_loopw [3] (fun _ wr => ∃ (seen : Array Nat) (c0 : Nat) (ss : List K3), wr.heap[b]? = some (.map es clock) ∧ wr.heap[W.heap.size]? = some (.mapIter (some b) clock seen c0) ∧ clock ≤ c0 ∧ ss.Perm ((cameL es seen).map kf) ∧ J ss wr)
    (fun _ wr => wr.rangeLeft b W.heap.size)
  case atStart =>
    exact ⟨#[], clock, [], (Below.heap_alloc _ _ b hblt).trans hb, World.alloc_heap_new W _, Nat.le_refl _, by rw [came_none]; exact .refl _, hJ [] W _ none h0 (World.grownBy_alloc W _ none) (fun r e => by cases e)⟩
  case round =>
    obtain ⟨seen, c0, ss, hbr, hrr, hc0, hperm, hJs⟩ := hrel
    gi_wp2_with (first
      | (gi_at_next; refine in_next_raw _ rfl _ rfl b W.heap.size es clock clock c0 seen rfl hrr hbr hold hc0 ?_ ?_)
      | gi_in)
    · intro hl0
      gi_wp2
      go_end0
      rw [came_all (by rw [hl0]; rfl)] at hperm
      exact ⟨⟨_, rfl⟩, ss, hperm, hJs⟩
    · intro e he w2 hr2 hg2 hs2
      obtain ⟨hcs, hem⟩ := came_step hnd (show e ∈ (leftOf es seen).toList by simpa using he)
      have hb2 : w2.heap[b]? = some (.map es clock) := (hg2.block b (Array.getElem?_eq_some_iff.1 hbr).1 (fun e1 => by cases e1; omega)).trans hbr
      have hen := run_entry_at (P := Tryz.prog) w2 W.heap.size b clock seen es clock e hr2 hb2 hem hnd
      rw [hk e hem] at hen ⊢
      obtain ⟨⟨x, y, z⟩, hx⟩ : ∃ q, q = kf e := ⟨_, rfl⟩
      rw [← hx] at hen ⊢
      simp only [ek3] at hen
      have he' : e ∈ (leftOf es seen).toList := by simpa using he
      have hwr : wr.heap.size = w2.heap.size := hs2.symm
      clear hs2
      have hJ2 : J ss w2 := hJ ss wr w2 (some W.heap.size) hJs hg2 (fun r e1 => by cases e1; exact ⟨Nat.le_refl _, _, hrr, rfl⟩)
      obtain ⟨W3, hW3⟩ : ∃ W3, W3 = w2.alloc (.cells #[.int .i64 x, .int .i64 y, .int .i64 z] 27) := ⟨_, rfl⟩
      have hJ3 : J ss W3 := by rw [hW3]; exact hJ ss w2 _ none hJ2 (World.grownBy_alloc w2 _ none) (fun r e1 => by cases e1)
      have hlen : ss.length < es.size := by
        have h1 := hperm.length_eq
        have h2 := hcs.length_eq
        have h3 : (cameL es (seen.push e.born)).length ≤ es.toList.length := List.length_filter_le _ _
        simp only [List.length_map, List.length_cons] at h1 h2
        simp only [Array.length_toList] at h3
        omega
      obtain ⟨fn, tmps, assign, body, hy, hR⟩ := hY ss (x, y, z) W3 hJ3 hlen
      simp only [ek3] at hy
      have hb3 : W3.heap[b]? = some (.map es clock) := by rw [hW3]; exact (Below.heap_alloc _ _ b (Array.getElem?_eq_some_iff.1 hb2).1).trans hb2
      have hr3 : W3.heap[W.heap.size]? = some (.mapIter (some b) clock (seen.push e.born) clock) := by rw [hW3]; exact (Below.heap_alloc _ _ _ (Array.getElem?_eq_some_iff.1 hr2).1).trans hr2
      gi_wp2
      rw [← hW3, hy]
      refine ⟨fun _ => hn, hR.mono ?_⟩
      rintro e4 W4 ⟨rfl, hJ4, hk4⟩
      gi_wp2
      go_roundw
      case rel =>
        refine ⟨seen.push e.born, clock, ss ++ [(x, y, z)], hk4.same b _ hb3 rfl, hk4.same _ _ hr3 rfl, Nat.le_refl _, ?_, hJ4⟩
        refine List.Perm.trans ?_ (hcs.map kf).symm
        rw [List.map_cons, ← hx]
        exact (List.perm_append_singleton _ _).trans (hperm.cons _)
      case measure =>
        have h1 := left_shrinks es seen e he'
        simp only [World.rangeLeft, hk4.same b _ hb3 rfl, hk4.same _ _ hr3 rfl, hbr, hrr]
        exact h1
end Go.Proofs.YtkhbfjkioehgfaaGreatDoor
