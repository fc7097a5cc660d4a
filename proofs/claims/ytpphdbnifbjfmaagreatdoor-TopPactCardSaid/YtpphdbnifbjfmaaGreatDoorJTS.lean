/- SRB to SRF, for another map and another order (printed by gen_srt.py). -/
import Derived.Test.YtpphdbnifbjfmaaGreatDoorJLB
set_option linter.unusedVariables false
set_option linter.unusedSimpArgs false
namespace Go.Proofs.YtpphdbnifbjfmaaGreatDoor
open Go Go.Sx Go.Proofs Go.RowKit Go.Maps Go.Sort Go.Shelf Go.Lib
set_option maxRecDepth 100000 in
set_option maxHeartbeats 2000000 in
theorem keys1_rawC (F : Fence) (n : Nat) (h10 : F.fn 87) (hro : F.round = none) (hn : 1 ≤ n) (l Bm b : Nat) (es : Array MapEntry) (clock : Nat) (kf : MapEntry → K3) (J : List K3 → World → Prop)
    (hY : ∀ pre x W, J pre W → pre.length < es.size → YieldAt F (n - 1) Tryz.prog l #[ek3 x] W fun e W' => e = .returned (.bool true) ∧ J (pre ++ [x]) W' ∧ KeepsWalks W W')
    (W : World) (hJ : AbidesFrom W.heap.size J) (hm : W.cell? ⟨Bm, 0, none⟩ = some (.map (some b))) (hb : W.heap[b]? = some (.map es clock)) (hold : ∀ x ∈ es.toList, x.born < clock) (hnd : (es.toList.map (·.born)).Nodup) (hk : ∀ e ∈ es.toList, e.key = ek3 (kf e)) (h0 : J [] W) :
    CallsIn F n Tryz.prog 87 #[.func (.yield l) #[] #[], .pointer (some ⟨Bm, 0, none⟩)] W fun e W' => (∃ v, e = .returned v) ∧ ∃ ss : List K3, ss.Perm (es.toList.map kf) ∧ J ss W' := by
  have hblt : b < W.heap.size := (Array.getElem?_eq_some_iff.1 hb).1
  refine callsIn_of_wp Tryz.func87 rfl h10 ?_ hro
  simp only [Tryz.ntmps87, List.size_toArray, List.length_cons, List.length_nil, Nat.reduceAdd, Nat.reduceSub, Array.replicate_succ, Array.replicate_zero, List.push_toArray, List.append_toArray, List.nil_append, List.cons_append]
  gi_wp2_with (first
    | (gi_at_range; refine in_range_raw _ rfl _ 104 rfl 45 107 Tryz.underlying104 b es clock rfl hb ?_)
    | gi_in)
  go_frame
  gi_loopw [3] (fun _ wr => ∃ (seen : Array Nat) (c0 : Nat) (ss : List K3), wr.heap[b]? = some (.map es clock) ∧ wr.heap[W.heap.size]? = some (.mapIter (some b) clock seen c0) ∧ clock ≤ c0 ∧ ss.Perm ((cameL es seen).map kf) ∧ J ss wr)
    (fun _ wr => wr.rangeLeft b W.heap.size)
  case atStart =>
    exact ⟨#[], clock, [], (Below.heap_alloc _ _ b hblt).trans hb, World.alloc_heap_new W _, Nat.le_refl _, by rw [came_none]; exact .refl _, hJ [] W _ none h0 (World.grownBy_alloc W _ none) (fun r e => by cases e)⟩
  case round =>
    obtain ⟨seen, c0, ss, hbr, hrr, hc0, hperm, hJs⟩ := hrel
    gi_wp2_with (first
      | (gi_at_next; refine in_next_raw _ rfl _ rfl b W.heap.size es clock clock c0 seen rfl hrr hbr hold hc0 ?_ ?_)
      | gi_in)
    · intro hl0
      gi_wp2
      go_end0
      rw [came_all (by rw [hl0]; rfl)] at hperm
      exact ⟨⟨_, rfl⟩, ss, hperm, hJs⟩
    · intro e he w2 hr2 hg2 hs2
      obtain ⟨hcs, hem⟩ := came_step hnd (show e ∈ (leftOf es seen).toList by simpa using he)
      have hb2 : w2.heap[b]? = some (.map es clock) := (hg2.block b (Array.getElem?_eq_some_iff.1 hbr).1 (fun e1 => by cases e1; omega)).trans hbr
      have hen := run_entry_at (P := Tryz.prog) w2 W.heap.size b clock seen es clock e hr2 hb2 hem hnd
      rw [hk e hem] at hen ⊢
      obtain ⟨⟨x, y, z⟩, hx⟩ : ∃ q, q = kf e := ⟨_, rfl⟩
      rw [← hx] at hen ⊢
      simp only [ek3] at hen
      have he' : e ∈ (leftOf es seen).toList := by simpa using he
      have hwr : wr.heap.size = w2.heap.size := hs2.symm
      clear hs2
      have hJ2 : J ss w2 := hJ ss wr w2 (some W.heap.size) hJs hg2 (fun r e1 => by cases e1; exact ⟨Nat.le_refl _, _, hrr, rfl⟩)
      obtain ⟨W3, hW3⟩ : ∃ W3, W3 = w2.alloc (.cells #[.int .i64 x, .int .i64 y, .int .i64 z] 45) := ⟨_, rfl⟩
      have hJ3 : J ss W3 := by rw [hW3]; exact hJ ss w2 _ none hJ2 (World.grownBy_alloc w2 _ none) (fun r e1 => by cases e1)
      have hlen : ss.length < es.size := by
        have h1 := hperm.length_eq
        have h2 := hcs.length_eq
        have h3 : (cameL es (seen.push e.born)).length ≤ es.toList.length := List.length_filter_le _ _
        simp only [List.length_map, List.length_cons] at h1 h2
        simp only [Array.length_toList] at h3
        omega
      obtain ⟨fn, tmps, assign, body, hy, hR⟩ := hY ss (x, y, z) W3 hJ3 hlen
      simp only [ek3] at hy
      have hb3 : W3.heap[b]? = some (.map es clock) := by rw [hW3]; exact (Below.heap_alloc _ _ b (Array.getElem?_eq_some_iff.1 hb2).1).trans hb2
      have hr3 : W3.heap[W.heap.size]? = some (.mapIter (some b) clock (seen.push e.born) clock) := by rw [hW3]; exact (Below.heap_alloc _ _ _ (Array.getElem?_eq_some_iff.1 hr2).1).trans hr2
      gi_wp2
      rw [← hW3, hy]
      refine ⟨fun _ => hn, hR.mono ?_⟩
      rintro e4 W4 ⟨rfl, hJ4, hk4⟩
      gi_wp2
      go_roundw
      case rel =>
        refine ⟨seen.push e.born, clock, ss ++ [(x, y, z)], hk4.same b _ hb3 rfl, hk4.same _ _ hr3 rfl, Nat.le_refl _, ?_, hJ4⟩
        refine List.Perm.trans ?_ (hcs.map kf).symm
        rw [List.map_cons, ← hx]
        exact (List.perm_append_singleton _ _).trans (hperm.cons _)
      case measure =>
        have h1 := left_shrinks es seen e he'
        simp only [World.rangeLeft, hk4.same b _ hb3 rfl, hk4.same _ _ hr3 rfl, hbr, hrr]
        exact h1
set_option maxRecDepth 100000 in
set_option maxHeartbeats 4000000 in
theorem order_callsC (x y : K3) (W : World) : Calls Tryz.prog 67 #[.agg (c3 x).toArray, .agg (c3 y).toArray] W fun e w' => e = .returned (.int .i64 (ordI x y)) ∧ ∃ q os', w' = grow (W.drewN q) os' := by
  obtain ⟨x1, x2, x3⟩ := x
  obtain ⟨y1, y2, y3⟩ := y
  simp only [c3, ordI]
  have h1 := fun W => cmpI_calls x1 y1 W
  have h2 := fun W => cmpI_calls x2 y2 W
  have h3 := fun W => cmpI_calls x3 y3 W
  generalize compareInt x1 y1 = r1 at *
  generalize compareInt x2 y2 = r2 at *
  generalize compareInt x3 y3 = r3 at *
  have h4 := fun (blk : Nat) (w : World) (c0 : w.cell? ⟨blk, 0, none⟩ = some (.int .i64 r1)) (c1 : w.cell? ⟨blk, 1, none⟩ = some (.int .i64 r2)) (c2 : w.cell? ⟨blk, 2, none⟩ = some (.int .i64 r3)) => or3 r1 r2 r3 blk w c0 c1 c2
  generalize (if r1 = 0 then (if r2 = 0 then r3 else r2) else r1) = rr at *
  go_enter Tryz.func67, Tryz.ntmps67
  go_wp2
  obtain ⟨W2, hW2⟩ : ∃ W2, (W.alloc (.cells #[.int .i64 x1, .int .i64 x2, .int .i64 x3] 45)).alloc (.cells #[.int .i64 y1, .int .i64 y2, .int .i64 y3] 45) = W2 := ⟨_, rfl⟩
  have hg : W2 = grow W #[.cells #[.int .i64 x1, .int .i64 x2, .int .i64 x3] 45 (0, 0), .cells #[.int .i64 y1, .int .i64 y2, .int .i64 y3] 45 (0, 0)] := by rw [← hW2, alloc_eq_grow, alloc_eq_grow, grow_grow]; rfl
  have hb1 : W2.heap[W.heap.size]? = some (.cells #[.int .i64 x1, .int .i64 x2, .int .i64 x3] 45 (0, 0)) := by rw [← hW2]; exact (Below.heap_alloc _ _ _ (by simp)).trans (World.alloc_heap_new W _)
  have hb2 : W2.heap[W.heap.size + 1]? = some (.cells #[.int .i64 y1, .int .i64 y2, .int .i64 y3] 45 (0, 0)) := by rw [← hW2]; have := World.alloc_heap_new (W.alloc (.cells #[.int .i64 x1, .int .i64 x2, .int .i64 x3] 45)) (.cells #[.int .i64 y1, .int .i64 y2, .int .i64 y3] 45 (0, 0)); rwa [World.size_alloc] at this
  have a0 : W2.cell? ⟨W.heap.size, 0, none⟩ = some (.int .i64 x1) := by simp [World.cell?, hb1]
  have a1 : W2.cell? ⟨W.heap.size, 1, none⟩ = some (.int .i64 x2) := by simp [World.cell?, hb1]
  have a2 : W2.cell? ⟨W.heap.size, 2, none⟩ = some (.int .i64 x3) := by simp [World.cell?, hb1]
  have b0 : W2.cell? ⟨W.heap.size + 1, 0, none⟩ = some (.int .i64 y1) := by simp [World.cell?, hb2]
  have b1 : W2.cell? ⟨W.heap.size + 1, 1, none⟩ = some (.int .i64 y2) := by simp [World.cell?, hb2]
  have b2 : W2.cell? ⟨W.heap.size + 1, 2, none⟩ = some (.int .i64 y3) := by simp [World.cell?, hb2]
  rw [hW2]
  generalize W.heap.size + 1 = B2 at *
  generalize W.heap.size = B1 at *
  clear hW2 hb1 hb2
  go_still_tail 15, (by kernel_rfl)
  change wpStill _ _ W2.drew (fun a' => wpList _ _ _ _ a' W2.drew) _ _
  have hg3 : ∃ os, W2.drew = grow (W.drewN 1) os := ⟨#[.cells #[.int .i64 x1, .int .i64 x2, .int .i64 x3] 45 (0, 0), .cells #[.int .i64 y1, .int .i64 y2, .int .i64 y3] 45 (0, 0)], by rw [hg]; rfl⟩
  have a0' : W2.drew.cell? ⟨B1, 0, none⟩ = some (.int .i64 x1) := a0
  have a1' : W2.drew.cell? ⟨B1, 1, none⟩ = some (.int .i64 x2) := a1
  have a2' : W2.drew.cell? ⟨B1, 2, none⟩ = some (.int .i64 x3) := a2
  have b0' : W2.drew.cell? ⟨B2, 0, none⟩ = some (.int .i64 y1) := b0
  have b1' : W2.drew.cell? ⟨B2, 1, none⟩ = some (.int .i64 y2) := b1
  have b2' : W2.drew.cell? ⟨B2, 2, none⟩ = some (.int .i64 y3) := b2
  clear a0 a1 a2 b0 b1 b2 hg
  generalize W2.drew = W3 at *
  repeat still_step
  still_call (h1 _)
  repeat still_step
  still_call (h2 _)
  repeat still_step
  still_call (h3 _)
  refine wpStill_nil ?_
  go_wp2_with (go_at_call 83; refine (h4 _ _ (cell_new3 _ _ _ 0) (cell_new3 _ _ _ 1) (cell_new3 _ _ _ 2)).mono ?_; rintro e w' ⟨rfl, rfl⟩)
  go_ret
  obtain ⟨os, hos⟩ := hg3
  exact ⟨rfl, 1, os ++ #[.cells #[.int .i64 r1, .int .i64 r2, .int .i64 r3] 3 (0, 0)], by rw [hos, alloc_eq_grow, grow_grow]⟩
theorem cmpLaysC (blk off size : Nat) (w : World) : CmpLays Tryz.prog 67 #[] c3 3 ordI blk off size w := fun _ _ _ _ x y => order_callsC x y _
set_option maxRecDepth 100000 in
theorem sortFunc_callsC (gb cap : Nat) (ss : List K3) (W : World) (cur : Array Value) (hgb : W.heap[gb]? = some (.cells cur 45 (0, 0))) (r4 : cur.toList.take (ss.length * 3) = c3s ss) (hsz : ss.length < 4611686018427387904) :
    Calls Tryz.prog 81 #[.slice (some ⟨gb, 0, none⟩) ss.length cap, .func (.func 67) #[] #[]] W fun e w' => e = .returned (.tuple #[]) ∧ ∃ n os, w' = grow (putRow id (Sort.ahead W n) gb 0 (c3s (sort3 ss)).toArray) os := by
  have hgl : gb < W.heap.size := (Array.getElem?_eq_some_iff.1 hgb).1
  have hH : HoldsK c3 3 W gb 0 ss.toArray := by
    unfold HoldsK
    rw [flat3]
    exact holds_of_blockG hgb (by rw [c3s_len]; exact r4)
  have h := AnyQ.slices_SortFunc_total Tryz.sortTx 3 Tryz.isAgg45 Tryz.sizeOf45 c3 (fun _ => rfl) (by intro x v hv; simp [c3] at hv; rcases hv with rfl | rfl | rfl <;> rfl) ordI swoK 67 #[] gb 0 cap ss.toArray W (fun _ _ => rfl) (cmpLaysC gb 0 ss.toArray.size W) hH hgl (by simpa using hsz) (by
    intro x y h1 h2
    have e1 : ¬ ltK x y := fun h => by rw [← ltOf_iff] at h; rw [h] at h1; cases h1
    have e2 : ¬ ltK y x := fun h => by rw [← ltOf_iff] at h; rw [h] at h2; cases h2
    exact ltK_tot e1 e2)
  refine (show Calls Tryz.prog 81 #[.slice (some ⟨gb, 0, none⟩) ss.toArray.size cap, .func (.func 67) #[] #[]] W _ from h).mono ?_
  rintro e w' ⟨he, n, os, hw⟩
  refine ⟨he, n, os, ?_⟩
  rw [hw]
  unfold sortWorldK putRowK
  rw [show (ss.toArray.toList.mergeSort fun x y => !(ltOf ordI) y x) = sort3 ss from rfl, flat3]
set_option maxRecDepth 100000 in
set_option maxHeartbeats 2000000 in
theorem sortedFunc_inC (F : Fence) (n : Nat) (h6 : F.fn 57) (h8 : F.fn 80) (h9 : F.fn 81) (h11 : F.fn 96) (hro : F.round = none) (hwd : ∀ f args w R, Calls Tryz.prog f args w R → CallsIn F (n - 1) Tryz.prog f args w R) (hFg : ∀ g, F.fn g) (hn : 4 ≤ n) (g : Nat) (lb : Array Value) (eg : ∀ args w, (callFunc g args).run Tryz.prog w = .ok (.enter g args) w)
    (S : List K3 → Prop) (N : Nat) (hN : N ≤ maxLen) (hNb : N * 24 ≤ 140737488355328) (w : World) (hseq : SeqGives F (n - 1 - 1 - 1) Tryz.prog g lb ek3 S N w) :
    CallsIn F n Tryz.prog 57 #[.func (.func g) #[] lb, .func (.func 67) #[] #[]] w fun e w' => ∃ (v : Value) (ss : List K3), e = .returned v ∧ S ss ∧ w'.ownsRow w.heap.size 45 3 v ss.length (c3s (sort3 ss)) ∧ (v = .slice none 0 0 ↔ ss = []) ∧ Below w.heap.size w w' := by
  have h1 : 1 ≤ n := by omega
  refine callsIn_of_wp Tryz.func57 rfl h6 ?_ hro
  simp only [Tryz.ntmps57, List.size_toArray, List.length_cons, List.length_nil, Nat.reduceAdd, Nat.reduceSub, Array.replicate_succ, Array.replicate_zero, List.push_toArray, List.append_toArray, List.nil_append, List.cons_append]
  gi_wp2_with (gi_at_call 80; refine (collect_in F (n - 1) h8 h11 hro (by omega) g lb (hFg g) eg _ N hN hNb _ hseq.bounded).mono ?_; rintro e W ⟨v, ss, rfl, ⟨hS, hlen⟩, hrow, hnil, hb⟩)
  rcases hrow.2 with ⟨rfl, hz⟩ | ⟨gb, cap, cur, rfl, hbase, hgb, r1, r2, r3, r4⟩
  · have hss : ss = [] := List.eq_nil_of_length_eq_zero hz
    subst hss
    gi_wp2_with (gi_at_call 81; refine (hwd _ _ _ _ (sortFunc_none 0 _ W)).mono ?_; rintro e w' ⟨rfl, rfl⟩)
    go_ret
    exact ⟨.slice none 0 0, [], rfl, hS, by simpa [sort3] using hrow, by simp, hb⟩
  · have hsz : ss.length < 4611686018427387904 := by omega
    have cS := sortFunc_callsC gb cap ss W cur hgb r4 hsz
    gi_wp2_with (gi_at_call 81; refine (hwd _ _ _ _ cS).mono ?_; rintro e w' ⟨rfl, nn, os, rfl⟩)
    go_ret
    exact ⟨_, ss, rfl, hS, ownsRow_sortedG (by rw [c3s_len, sort3_len]) hbase hgb r1 r2 r3, hnil, hb.grown (grownBy_sortedG _) hb.size (fun j hj => by cases hj; exact hbase)⟩
set_option maxHeartbeats 1000000 in
theorem keysTx_inC (F : Fence) (n : Nat) (h7 : F.fn 66) (hro : F.round = none) (mb : Option Nat) (w : World) :
    CallsIn F n Tryz.prog 66 #[.map mb] w fun e w' => e = .returned (.func (.func 87) #[] #[.pointer (some ⟨w.heap.size, 0, none⟩)]) ∧ w' = w.alloc (.cells #[.map mb] 104) := by
  refine callsIn_of_wp Tryz.func66 rfl h7 ?_ hro
  simp only [Tryz.ntmps66, List.size_toArray, List.length_cons, List.length_nil, Nat.reduceAdd, Nat.reduceSub, Array.replicate_succ, Array.replicate_zero, List.push_toArray, List.append_toArray, List.nil_append, List.cons_append]
  gi_wp2
  go_ret
  exact ⟨rfl, rfl⟩
section
variable {ν : Type} {RV : Go.Sx.Rd ν} {ag : Bool} {H : Heap}
set_option maxRecDepth 100000 in
theorem enters60C : ∀ args w, (callFunc 87 args).run Tryz.prog w = .ok (.enter 87 args) w := fun _ _ => rfl
theorem keys_gives3C (n : Nat) (hn : 1 ≤ n) (Bm b : Nat) (es : Array MapEntry) (clock : Nat) (w : World) (hBm : Bm < w.heap.size) (hm : w.cell? ⟨Bm, 0, none⟩ = some (.map (some b))) (hb : w.heap[b]? = some (.map es clock))
    (hold : ∀ x ∈ es.toList, x.born < clock) (hnd : (es.toList.map (·.born)).Nodup) (hk : ∀ e ∈ es.toList, e.key = ek3 (kf3 e)) :
    SeqGives Fence.wide n Tryz.prog 87 #[.pointer (some ⟨Bm, 0, none⟩)] ek3 (fun ss => ss.Perm (es.toList.map kf3)) es.size w := fun l J W hW hJ hY h0 =>
  keys1_rawC Fence.wide n trivial rfl hn l Bm b es clock kf3 J (fun pre x W1 hj hl => hY pre x W1 hj hl) W hJ ((hW.cell (p := ⟨Bm, 0, none⟩) hBm).trans hm) ((hW.block b (Array.getElem?_eq_some_iff.1 hb).1).trans hb) hold hnd hk h0
theorem ct_sorted3C {W0 : World} {H0 : Heap} {p b : Nat} {ms : List (K3 × ν)} (hs : ∀ q ∈ ms, fits q.1.1 ∧ fits q.1.2.1 ∧ fits q.1.2.2) (hl : ms.length * 24 ≤ cap47) :
    Ct Tryz.prog 57 #[.func (.func 87) #[] #[.pointer (some ⟨p, 0, none⟩)], .func (.func 67) #[] #[]] W0 H [row p 104 [.map (some b)], mapO ek3 RV ag H0 b ms]
      (fun r H' B => B = [ownS rTxn 3 24 45 H r ((sort3 (ms.map (·.1))).map toTx), mapO ek3 RV ag H0 b ms] ∧ H' = H) := by
  intro w R hS
  have hcap : cap47 ≤ maxLen := by decide
  obtain ⟨hA, hR, a, r, d, dA, dR, lA, lR⟩ := hS.parts
  obtain ⟨hB, hR2, ⟨es, clock, hm, hpt⟩, r2, d2, l2, l3⟩ := r
  have h1 : w.heap[p]? = some (.cells #[.map (some b)] 104 (0, 0)) := lA _ _ a
  have hcellp : w.cell? ⟨p, 0, none⟩ = some (.map (some b)) := by simp [World.cell?, h1]
  have hplt : p < w.heap.size := (Array.getElem?_eq_some_iff.1 h1).1
  have hbm : w.heap[b]? = some (.map es clock) := lR _ _ (l2 _ _ hpt)
  have hlm : ms.length ≤ maxLen := by have := hl; simp only [cap47] at this hcap; omega
  have hlen : es.size = ms.length := by simpa using hm.el.len
  obtain ⟨hk1, hk2⟩ := el_kf3 hm.el
  have hnd : (es.toList.map (·.born)).Nodup := hm.rise.imp fun h => Nat.ne_of_lt h
  refine (callsIn_wide.1 (sortedFunc_inC Fence.wide 4 trivial trivial trivial trivial rfl (fun _ _ _ _ h => callsIn_wide.2 h) (fun _ => trivial) (Nat.le_refl _) _ _ enters60C (fun ss => ss.Perm (es.toList.map kf3)) es.size (by rw [hlen]; exact hlm) (by rw [hlen]; exact hl) w
    (keys_gives3C 1 (Nat.le_refl _) p b es clock w hplt hcellp hbm hm.lt hnd hk2))).mono ?_
  rintro e w' ⟨v, ss, rfl, hss, hrow, _, hbl⟩
  have hS2 : St W0 H w (mapO ek3 RV ag H0 b ms :: R) := hS.sub (Sub.drop (Sub.refl _))
  have hS3 := newRow3 hS2 hbl hrow
  rw [hk1] at hss
  have hsort : sort3 ss = sort3 (ms.map (·.1)) := sort3_perm hss
  refine ⟨v, H, [ownS rTxn 3 24 45 H v ((sort3 (ms.map (·.1))).map toTx), mapO ek3 RV ag H0 b ms], rfl, .refl _, ⟨rfl, rfl⟩, ?_⟩
  refine hS3.sub ?_
  have hlen2 : ss.length = ((sort3 (ms.map (·.1))).map toTx).length := by
    rw [List.length_map, sort3_len]
    exact hss.length_eq
  rw [hsort, hlen2]
  refine ownS_mk (rl3 fun k hk => ?_) ?_
  · unfold sort3 at hk
    rw [List.mem_mergeSort] at hk
    obtain ⟨q, hq, rfl⟩ := List.mem_map.1 hk
    exact hs q hq
  · rw [← hlen2, hss.length_eq, List.length_map]
    exact hl
theorem ct_keys3C {W0 : World} {H : Heap} {b : Nat} :
    Ct Tryz.prog 66 #[.map (some b)] W0 H [] (fun r H' B => ∃ p, r = .func (.func 87) #[] #[.pointer (some ⟨p, 0, none⟩)] ∧ B = [row p 104 [.map (some b)]] ∧ H' = H) :=
  ct_keys fun mb W => callsIn_wide.1 (keysTx_inC Fence.wide 0 trivial rfl mb W)
end
end Go.Proofs.YtpphdbnifbjfmaaGreatDoor
