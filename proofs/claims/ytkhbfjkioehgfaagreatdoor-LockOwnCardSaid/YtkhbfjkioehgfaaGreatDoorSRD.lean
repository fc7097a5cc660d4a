/- Transactions compared, sorted. -/
import Derived.Test.YtkhbfjkioehgfaaGreatDoorSRC
import Derived.Test.YtkhbfjkioehgfaaGreatDoorShelf
import Derived.Deep.RegionWith
import Derived.Deep.QuietTactic
import Derived.StillTailTactics
set_option linter.unusedVariables false
set_option linter.unusedSimpArgs false
namespace Go.Proofs.YtkhbfjkioehgfaaGreatDoor
open Go Go.Sx Go.Proofs Go.RowKit Go.Maps Go.Sort Go.Shelf Go.Lib
set_option maxHeartbeats 2000000 in
theorem or3 (a b c : Int) (blk : Nat) (w : World) (h0 : w.cell? ⟨blk, 0, none⟩ = some (.int .i64 a)) (h1 : w.cell? ⟨blk, 1, none⟩ = some (.int .i64 b)) (h2 : w.cell? ⟨blk, 2, none⟩ = some (.int .i64 c)) :
    Calls Tryz.prog 61 #[.slice (some ⟨blk, 0, none⟩) 3 3] w fun e w' => e = .returned (.int .i64 (if a = 0 then (if b = 0 then c else b) else a)) ∧ w' = w := by
  have hne : ∀ x : Int, x ≠ 0 → (x != 0) = true := fun x h => by simp [h]
  by_cases ha : a = 0
  · subst ha
    rw [if_pos rfl]
    by_cases hb : b = 0
    · subst hb
      rw [if_pos rfl]
      by_cases hc : c = 0
      · subst hc
        go_enter Tryz.func61, Tryz.ntmps61
        go_wp2
        refine wp_loop_rounds 4 ?_
        rw [rounds_succ]
        go_wp2
        rw [rounds_succ]
        go_wp2
        rw [rounds_succ]
        go_wp2
        rw [rounds_succ]
        go_wp2
        go_ret
        exact ⟨rfl, rfl⟩
      · have hc' := hne c hc
        go_enter Tryz.func61, Tryz.ntmps61
        go_wp2
        refine wp_loop_rounds 4 ?_
        rw [rounds_succ]
        go_wp2
        rw [rounds_succ]
        go_wp2
        rw [rounds_succ]
        go_wp2
        go_ret
        exact ⟨rfl, rfl⟩
    · rw [if_neg hb]
      have hb' := hne b hb
      go_enter Tryz.func61, Tryz.ntmps61
      go_wp2
      refine wp_loop_rounds 4 ?_
      rw [rounds_succ]
      go_wp2
      rw [rounds_succ]
      go_wp2
      go_ret
      exact ⟨rfl, rfl⟩
  · rw [if_neg ha]
    have ha' := hne a ha
    go_enter Tryz.func61, Tryz.ntmps61
    go_wp2
    refine wp_loop_rounds 4 ?_
    rw [rounds_succ]
    go_wp2
    go_ret
    exact ⟨rfl, rfl⟩
/-- how two transactions compare -/
def ordI (x y : K3) : Int := if compareInt x.1 y.1 = 0 then (if compareInt x.2.1 y.2.1 = 0 then compareInt x.2.2 y.2.2 else compareInt x.2.1 y.2.1) else compareInt x.1 y.1
theorem cmpI_calls (x y : Int) (W : World) : Calls Tryz.prog 62 #[.int .i64 x, .int .i64 y] W fun e w' => e = .returned (.int .i64 (compareInt x y)) ∧ w' = W := by
  have hcon := AnyG.cmp_Compare_int Tryz.cmpI x y W
  exact hcon
set_option maxRecDepth 100000 in
set_option maxHeartbeats 4000000 in
theorem order_calls (x y : K3) (W : World) : Calls Tryz.prog 34 #[.agg (c3 x).toArray, .agg (c3 y).toArray] W fun e w' => e = .returned (.int .i64 (ordI x y)) ∧ ∃ q os', w' = grow (W.drewN q) os' := by
  obtain ⟨x1, x2, x3⟩ := x
  obtain ⟨y1, y2, y3⟩ := y
  simp only [c3, ordI]
  have h1 := fun W => cmpI_calls x1 y1 W
  have h2 := fun W => cmpI_calls x2 y2 W
  have h3 := fun W => cmpI_calls x3 y3 W
  generalize compareInt x1 y1 = r1 at *
  generalize compareInt x2 y2 = r2 at *
  generalize compareInt x3 y3 = r3 at *
  have h4 := fun (blk : Nat) (w : World) (c0 : w.cell? ⟨blk, 0, none⟩ = some (.int .i64 r1)) (c1 : w.cell? ⟨blk, 1, none⟩ = some (.int .i64 r2)) (c2 : w.cell? ⟨blk, 2, none⟩ = some (.int .i64 r3)) => or3 r1 r2 r3 blk w c0 c1 c2
  generalize (if r1 = 0 then (if r2 = 0 then r3 else r2) else r1) = rr at *
  go_enter Tryz.func34, Tryz.ntmps34
  go_wp2
  obtain ⟨W2, hW2⟩ : ∃ W2, (W.alloc (.cells #[.int .i64 x1, .int .i64 x2, .int .i64 x3] 27)).alloc (.cells #[.int .i64 y1, .int .i64 y2, .int .i64 y3] 27) = W2 := ⟨_, rfl⟩
  have hg : W2 = grow W #[.cells #[.int .i64 x1, .int .i64 x2, .int .i64 x3] 27 (0, 0), .cells #[.int .i64 y1, .int .i64 y2, .int .i64 y3] 27 (0, 0)] := by rw [← hW2, alloc_eq_grow, alloc_eq_grow, grow_grow]; rfl
  have hb1 : W2.heap[W.heap.size]? = some (.cells #[.int .i64 x1, .int .i64 x2, .int .i64 x3] 27 (0, 0)) := by rw [← hW2]; exact (Below.heap_alloc _ _ _ (by simp)).trans (World.alloc_heap_new W _)
  have hb2 : W2.heap[W.heap.size + 1]? = some (.cells #[.int .i64 y1, .int .i64 y2, .int .i64 y3] 27 (0, 0)) := by rw [← hW2]; have := World.alloc_heap_new (W.alloc (.cells #[.int .i64 x1, .int .i64 x2, .int .i64 x3] 27)) (.cells #[.int .i64 y1, .int .i64 y2, .int .i64 y3] 27 (0, 0)); rwa [World.size_alloc] at this
  have a0 : W2.cell? ⟨W.heap.size, 0, none⟩ = some (.int .i64 x1) := by simp [World.cell?, hb1]
  have a1 : W2.cell? ⟨W.heap.size, 1, none⟩ = some (.int .i64 x2) := by simp [World.cell?, hb1]
  have a2 : W2.cell? ⟨W.heap.size, 2, none⟩ = some (.int .i64 x3) := by simp [World.cell?, hb1]
  have b0 : W2.cell? ⟨W.heap.size + 1, 0, none⟩ = some (.int .i64 y1) := by simp [World.cell?, hb2]
  have b1 : W2.cell? ⟨W.heap.size + 1, 1, none⟩ = some (.int .i64 y2) := by simp [World.cell?, hb2]
  have b2 : W2.cell? ⟨W.heap.size + 1, 2, none⟩ = some (.int .i64 y3) := by simp [World.cell?, hb2]
  rw [hW2]
  generalize W.heap.size + 1 = B2 at *
  generalize W.heap.size = B1 at *
  clear hW2 hb1 hb2
  go_still_tail 15, (by kernel_rfl)
  change wpStill _ _ W2.drew (fun a' => wpList _ _ _ _ a' W2.drew) _ _
  have hg3 : ∃ os, W2.drew = grow (W.drewN 1) os := ⟨#[.cells #[.int .i64 x1, .int .i64 x2, .int .i64 x3] 27 (0, 0), .cells #[.int .i64 y1, .int .i64 y2, .int .i64 y3] 27 (0, 0)], by rw [hg]; rfl⟩
  have a0' : W2.drew.cell? ⟨B1, 0, none⟩ = some (.int .i64 x1) := a0
  have a1' : W2.drew.cell? ⟨B1, 1, none⟩ = some (.int .i64 x2) := a1
  have a2' : W2.drew.cell? ⟨B1, 2, none⟩ = some (.int .i64 x3) := a2
  have b0' : W2.drew.cell? ⟨B2, 0, none⟩ = some (.int .i64 y1) := b0
  have b1' : W2.drew.cell? ⟨B2, 1, none⟩ = some (.int .i64 y2) := b1
  have b2' : W2.drew.cell? ⟨B2, 2, none⟩ = some (.int .i64 y3) := b2
  clear a0 a1 a2 b0 b1 b2 hg
  generalize W2.drew = W3 at *
  repeat still_step
  still_call (h1 _)
  repeat still_step
  still_call (h2 _)
  repeat still_step
  still_call (h3 _)
  refine wpStill_nil ?_
  go_wp2_with (go_at_call 61; refine (h4 _ _ (cell_new3 _ _ _ 0) (cell_new3 _ _ _ 1) (cell_new3 _ _ _ 2)).mono ?_; rintro e w' ⟨rfl, rfl⟩)
  go_ret
  obtain ⟨os, hos⟩ := hg3
  exact ⟨rfl, 1, os ++ #[.cells #[.int .i64 r1, .int .i64 r2, .int .i64 r3] 3 (0, 0)], by rw [hos, alloc_eq_grow, grow_grow]⟩
theorem cmpLays (blk off size : Nat) (w : World) : CmpLays Tryz.prog 34 #[] c3 3 ordI blk off size w := fun _ _ _ _ x y => order_calls x y _
theorem cmp0 {x y : Int} : compareInt x y = 0 ↔ x = y := by unfold compareInt; split <;> (try split) <;> omega
theorem cmpL {x y : Int} : compareInt x y < 0 ↔ x < y := by unfold compareInt; split <;> (try split) <;> omega
/-- one transaction stands ahead of another one -/
def ltK (x y : K3) : Prop := x.1 < y.1 ∨ (x.1 = y.1 ∧ (x.2.1 < y.2.1 ∨ (x.2.1 = y.2.1 ∧ x.2.2 < y.2.2)))
instance {x y : K3} : Decidable (ltK x y) := by unfold ltK; infer_instance
theorem ord_lt {x y : K3} : ordI x y < 0 ↔ ltK x y := by
  unfold ordI ltK
  have h1 := @cmp0 x.1 y.1
  have h2 := @cmp0 x.2.1 y.2.1
  have h3 := @cmpL x.1 y.1
  have h4 := @cmpL x.2.1 y.2.1
  have h5 := @cmpL x.2.2 y.2.2
  split
  · split <;> omega
  · omega
theorem ltOf_iff {x y : K3} : ltOf ordI x y = true ↔ ltK x y := by
  unfold ltOf
  rw [decide_eq_true_iff]
  exact ord_lt
theorem ltK_tot {x y : K3} (h1 : ¬ ltK x y) (h2 : ¬ ltK y x) : x = y := by
  obtain ⟨a, b, c⟩ := x
  obtain ⟨d, e, f⟩ := y
  unfold ltK at h1 h2
  simp only at h1 h2
  rw [show a = d by omega, show b = e by omega, show c = f by omega]
theorem swoK : SWO (ltOf ordI) := by
  constructor <;> intros <;> simp_all only [ltOf_iff, Bool.not_eq_true, ← Bool.not_eq_true] <;> unfold ltK at * <;> omega
end Go.Proofs.YtkhbfjkioehgfaaGreatDoor
