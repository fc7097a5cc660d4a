/- The last tick of a prepared transaction's keys. -/
import Derived.Test.YtlflbkpmfhhikaaGreatDoorPLF
import Derived.Test.YtlflbkpmfhhikaaGreatDoorPLS
import Derived.Test.YtlflbkpmfhhikaaGreatDoorPMR
set_option linter.unusedVariables false
set_option linter.unusedSimpArgs false
namespace Go.Proofs.YtlflbkpmfhhikaaGreatDoor
open Go Go.Sx Go.Proofs Go.RowKit Go.Maps Go.Sort Go.Shelf Go.Lib
set_option maxRecDepth 100000 in
set_option maxHeartbeats 2000000 in
theorem keys1_rawD (F : Fence) (n : Nat) (h10 : F.fn 140) (hro : F.round = none) (hn : 1 ≤ n) (l Bm b : Nat) (es : Array MapEntry) (clock : Nat) (kf : MapEntry → K3) (J : List K3 → World → Prop)
    (hY : ∀ pre x W, J pre W → pre.length < es.size → YieldAt F (n - 1) Tryz.prog l #[ek3 x] W fun e W' => e = .returned (.bool true) ∧ J (pre ++ [x]) W' ∧ KeepsWalks W W')
    (W : World) (hJ : AbidesFrom W.heap.size J) (hm : W.cell? ⟨Bm, 0, none⟩ = some (.map (some b))) (hb : W.heap[b]? = some (.map es clock)) (hold : ∀ x ∈ es.toList, x.born < clock) (hnd : (es.toList.map (·.born)).Nodup) (hk : ∀ e ∈ es.toList, e.key = ek3 (kf e)) (h0 : J [] W) :
    CallsIn F n Tryz.prog 140 #[.func (.yield l) #[] #[], .pointer (some ⟨Bm, 0, none⟩)] W fun e W' => (∃ v, e = .returned v) ∧ ∃ ss : List K3, ss.Perm (es.toList.map kf) ∧ J ss W' := by
  have hblt : b < W.heap.size := (Array.getElem?_eq_some_iff.1 hb).1
  refine callsIn_of_wp Tryz.func140 rfl h10 ?_ hro
  simp only [Tryz.ntmps140, List.size_toArray, List.length_cons, List.length_nil, Nat.reduceAdd, Nat.reduceSub, Array.replicate_succ, Array.replicate_zero, List.push_toArray, List.append_toArray, List.nil_append, List.cons_append]
  gi_wp2_with (first
    | (gi_at_range; refine in_range_raw _ rfl _ 120 rfl 47 3 Tryz.underlying120 b es clock rfl hb ?_)
    | gi_in)
  go_frame
  gi_loopw [3] (fun _ wr => ∃ (seen : Array Nat) (c0 : Nat) (ss : List K3), wr.heap[b]? = some (.map es clock) ∧ wr.heap[W.heap.size]? = some (.mapIter (some b) clock seen c0) ∧ clock ≤ c0 ∧ ss.Perm ((cameL es seen).map kf) ∧ J ss wr)
    (fun _ wr => wr.rangeLeft b W.heap.size)
  case atStart =>
    exact ⟨#[], clock, [], (Below.heap_alloc _ _ b hblt).trans hb, World.alloc_heap_new W _, Nat.le_refl _, by rw [came_none]; exact .refl _, hJ [] W _ none h0 (World.grownBy_alloc W _ none) (fun r e => by cases e)⟩
  case round =>
    obtain ⟨seen, c0, ss, hbr, hrr, hc0, hperm, hJs⟩ := hrel
    gi_wp2_with (first
      | (gi_at_next; refine in_next_raw _ rfl _ rfl b W.heap.size es clock clock c0 seen rfl hrr hbr hold hc0 ?_ ?_)
      | gi_in)
    · intro hl0
      gi_wp2
      go_end0
      rw [came_all (by rw [hl0]; rfl)] at hperm
      exact ⟨⟨_, rfl⟩, ss, hperm, hJs⟩
    · intro e he w2 hr2 hg2 hs2
      obtain ⟨hcs, hem⟩ := came_step hnd (show e ∈ (leftOf es seen).toList by simpa using he)
      have hb2 : w2.heap[b]? = some (.map es clock) := (hg2.block b (Array.getElem?_eq_some_iff.1 hbr).1 (fun e1 => by cases e1; omega)).trans hbr
      have hen := run_entry_at (P := Tryz.prog) w2 W.heap.size b clock seen es clock e hr2 hb2 hem hnd
      rw [hk e hem] at hen ⊢
      obtain ⟨⟨x, y, z⟩, hx⟩ : ∃ q, q = kf e := ⟨_, rfl⟩
      rw [← hx] at hen ⊢
      simp only [ek3] at hen
      have he' : e ∈ (leftOf es seen).toList := by simpa using he
      have hwr : wr.heap.size = w2.heap.size := hs2.symm
      clear hs2
      have hJ2 : J ss w2 := hJ ss wr w2 (some W.heap.size) hJs hg2 (fun r e1 => by cases e1; exact ⟨Nat.le_refl _, _, hrr, rfl⟩)
      obtain ⟨W3, hW3⟩ : ∃ W3, W3 = w2.alloc (.cells #[.int .i64 x, .int .i64 y, .int .i64 z] 47) := ⟨_, rfl⟩
      have hJ3 : J ss W3 := by rw [hW3]; exact hJ ss w2 _ none hJ2 (World.grownBy_alloc w2 _ none) (fun r e1 => by cases e1)
      have hlen : ss.length < es.size := by
        have h1 := hperm.length_eq
        have h2 := hcs.length_eq
        have h3 : (cameL es (seen.push e.born)).length ≤ es.toList.length := List.length_filter_le _ _
        simp only [List.length_map, List.length_cons] at h1 h2
        simp only [Array.length_toList] at h3
        omega
      obtain ⟨fn, tmps, assign, body, hy, hR⟩ := hY ss (x, y, z) W3 hJ3 hlen
      simp only [ek3] at hy
      have hb3 : W3.heap[b]? = some (.map es clock) := by rw [hW3]; exact (Below.heap_alloc _ _ b (Array.getElem?_eq_some_iff.1 hb2).1).trans hb2
      have hr3 : W3.heap[W.heap.size]? = some (.mapIter (some b) clock (seen.push e.born) clock) := by rw [hW3]; exact (Below.heap_alloc _ _ _ (Array.getElem?_eq_some_iff.1 hr2).1).trans hr2
      gi_wp2
      rw [← hW3, hy]
      refine ⟨fun _ => hn, hR.mono ?_⟩
      rintro e4 W4 ⟨rfl, hJ4, hk4⟩
      gi_wp2
      go_roundw
      case rel =>
        refine ⟨seen.push e.born, clock, ss ++ [(x, y, z)], hk4.same b _ hb3 rfl, hk4.same _ _ hr3 rfl, Nat.le_refl _, ?_, hJ4⟩
        refine List.Perm.trans ?_ (hcs.map kf).symm
        rw [List.map_cons, ← hx]
        exact (List.perm_append_singleton _ _).trans (hperm.cons _)
      case measure =>
        have h1 := left_shrinks es seen e he'
        simp only [World.rangeLeft, hk4.same b _ hb3 rfl, hk4.same _ _ hr3 rfl, hbr, hrr]
        exact h1
set_option maxRecDepth 100000 in
set_option maxHeartbeats 4000000 in
theorem order_callsD (x y : K3) (W : World) : Calls Tryz.prog 108 #[.agg (c3 x).toArray, .agg (c3 y).toArray] W fun e w' => e = .returned (.int .i64 (ordI x y)) ∧ ∃ q os', w' = grow (W.drewN q) os' := by
  obtain ⟨x1, x2, x3⟩ := x
  obtain ⟨y1, y2, y3⟩ := y
  simp only [c3, ordI]
  have h1 := fun W => cmpI_calls x1 y1 W
  have h2 := fun W => cmpI_calls x2 y2 W
  have h3 := fun W => cmpI_calls x3 y3 W
  generalize compareInt x1 y1 = r1 at *
  generalize compareInt x2 y2 = r2 at *
  generalize compareInt x3 y3 = r3 at *
  have h4 := fun (blk : Nat) (w : World) (c0 : w.cell? ⟨blk, 0, none⟩ = some (.int .i64 r1)) (c1 : w.cell? ⟨blk, 1, none⟩ = some (.int .i64 r2)) (c2 : w.cell? ⟨blk, 2, none⟩ = some (.int .i64 r3)) => or3 r1 r2 r3 blk w c0 c1 c2
  generalize (if r1 = 0 then (if r2 = 0 then r3 else r2) else r1) = rr at *
  go_enter Tryz.func108, Tryz.ntmps108
  go_wp2
  obtain ⟨W2, hW2⟩ : ∃ W2, (W.alloc (.cells #[.int .i64 x1, .int .i64 x2, .int .i64 x3] 47)).alloc (.cells #[.int .i64 y1, .int .i64 y2, .int .i64 y3] 47) = W2 := ⟨_, rfl⟩
  have hg : W2 = grow W #[.cells #[.int .i64 x1, .int .i64 x2, .int .i64 x3] 47 (0, 0), .cells #[.int .i64 y1, .int .i64 y2, .int .i64 y3] 47 (0, 0)] := by rw [← hW2, alloc_eq_grow, alloc_eq_grow, grow_grow]; rfl
  have hb1 : W2.heap[W.heap.size]? = some (.cells #[.int .i64 x1, .int .i64 x2, .int .i64 x3] 47 (0, 0)) := by rw [← hW2]; exact (Below.heap_alloc _ _ _ (by simp)).trans (World.alloc_heap_new W _)
  have hb2 : W2.heap[W.heap.size + 1]? = some (.cells #[.int .i64 y1, .int .i64 y2, .int .i64 y3] 47 (0, 0)) := by rw [← hW2]; have := World.alloc_heap_new (W.alloc (.cells #[.int .i64 x1, .int .i64 x2, .int .i64 x3] 47)) (.cells #[.int .i64 y1, .int .i64 y2, .int .i64 y3] 47 (0, 0)); rwa [World.size_alloc] at this
  have a0 : W2.cell? ⟨W.heap.size, 0, none⟩ = some (.int .i64 x1) := by simp [World.cell?, hb1]
  have a1 : W2.cell? ⟨W.heap.size, 1, none⟩ = some (.int .i64 x2) := by simp [World.cell?, hb1]
  have a2 : W2.cell? ⟨W.heap.size, 2, none⟩ = some (.int .i64 x3) := by simp [World.cell?, hb1]
  have b0 : W2.cell? ⟨W.heap.size + 1, 0, none⟩ = some (.int .i64 y1) := by simp [World.cell?, hb2]
  have b1 : W2.cell? ⟨W.heap.size + 1, 1, none⟩ = some (.int .i64 y2) := by simp [World.cell?, hb2]
  have b2 : W2.cell? ⟨W.heap.size + 1, 2, none⟩ = some (.int .i64 y3) := by simp [World.cell?, hb2]
  rw [hW2]
  generalize W.heap.size + 1 = B2 at *
  generalize W.heap.size = B1 at *
  clear hW2 hb1 hb2
  go_still_tail 15, (by kernel_rfl)
  change wpStill _ _ W2.drew (fun a' => wpList _ _ _ _ a' W2.drew) _ _
  have hg3 : ∃ os, W2.drew = grow (W.drewN 1) os := ⟨#[.cells #[.int .i64 x1, .int .i64 x2, .int .i64 x3] 47 (0, 0), .cells #[.int .i64 y1, .int .i64 y2, .int .i64 y3] 47 (0, 0)], by rw [hg]; rfl⟩
  have a0' : W2.drew.cell? ⟨B1, 0, none⟩ = some (.int .i64 x1) := a0
  have a1' : W2.drew.cell? ⟨B1, 1, none⟩ = some (.int .i64 x2) := a1
  have a2' : W2.drew.cell? ⟨B1, 2, none⟩ = some (.int .i64 x3) := a2
  have b0' : W2.drew.cell? ⟨B2, 0, none⟩ = some (.int .i64 y1) := b0
  have b1' : W2.drew.cell? ⟨B2, 1, none⟩ = some (.int .i64 y2) := b1
  have b2' : W2.drew.cell? ⟨B2, 2, none⟩ = some (.int .i64 y3) := b2
  clear a0 a1 a2 b0 b1 b2 hg
  generalize W2.drew = W3 at *
  repeat still_step
  still_call (h1 _)
  repeat still_step
  still_call (h2 _)
  repeat still_step
  still_call (h3 _)
  refine wpStill_nil ?_
  go_wp2_with (go_at_call 120; refine (h4 _ _ (cell_new3 _ _ _ 0) (cell_new3 _ _ _ 1) (cell_new3 _ _ _ 2)).mono ?_; rintro e w' ⟨rfl, rfl⟩)
  go_ret
  obtain ⟨os, hos⟩ := hg3
  exact ⟨rfl, 1, os ++ #[.cells #[.int .i64 r1, .int .i64 r2, .int .i64 r3] 3 (0, 0)], by rw [hos, alloc_eq_grow, grow_grow]⟩
theorem cmpLaysD (blk off size : Nat) (w : World) : CmpLays Tryz.prog 108 #[] c3 3 ordI blk off size w := fun _ _ _ _ x y => order_callsD x y _
set_option maxRecDepth 100000 in
theorem sortFunc_callsD (gb cap : Nat) (ss : List K3) (W : World) (cur : Array Value) (hgb : W.heap[gb]? = some (.cells cur 47 (0, 0))) (r4 : cur.toList.take (ss.length * 3) = c3s ss) (hsz : ss.length < 4611686018427387904) :
    Calls Tryz.prog 118 #[.slice (some ⟨gb, 0, none⟩) ss.length cap, .func (.func 108) #[] #[]] W fun e w' => e = .returned (.tuple #[]) ∧ ∃ n os, w' = grow (putRow id (Sort.ahead W n) gb 0 (c3s (sort3 ss)).toArray) os := by
  have hgl : gb < W.heap.size := (Array.getElem?_eq_some_iff.1 hgb).1
  have hH : HoldsK c3 3 W gb 0 ss.toArray := by
    unfold HoldsK
    rw [flat3]
    exact holds_of_blockG hgb (by rw [c3s_len]; exact r4)
  have h := AnyQ.slices_SortFunc_total Tryz.sortTx 3 Tryz.isAgg47 Tryz.sizeOf47 c3 (fun _ => rfl) (by intro x v hv; simp [c3] at hv; rcases hv with rfl | rfl | rfl <;> rfl) ordI swoK 108 #[] gb 0 cap ss.toArray W (fun _ _ => rfl) (cmpLaysD gb 0 ss.toArray.size W) hH hgl (by simpa using hsz) (by
    intro x y h1 h2
    have e1 : ¬ ltK x y := fun h => by rw [← ltOf_iff] at h; rw [h] at h1; cases h1
    have e2 : ¬ ltK y x := fun h => by rw [← ltOf_iff] at h; rw [h] at h2; cases h2
    exact ltK_tot e1 e2)
  refine (show Calls Tryz.prog 118 #[.slice (some ⟨gb, 0, none⟩) ss.toArray.size cap, .func (.func 108) #[] #[]] W _ from h).mono ?_
  rintro e w' ⟨he, n, os, hw⟩
  refine ⟨he, n, os, ?_⟩
  rw [hw]
  unfold sortWorldK putRowK
  rw [show (ss.toArray.toList.mergeSort fun x y => !(ltOf ordI) y x) = sort3 ss from rfl, flat3]
set_option maxRecDepth 100000 in
set_option maxHeartbeats 2000000 in
theorem sortedFunc_inD (F : Fence) (n : Nat) (h6 : F.fn 81) (h8 : F.fn 117) (h9 : F.fn 118) (h11 : F.fn 146) (hro : F.round = none) (hwd : ∀ f args w R, Calls Tryz.prog f args w R → CallsIn F (n - 1) Tryz.prog f args w R) (hFg : ∀ g, F.fn g) (hn : 4 ≤ n) (g : Nat) (lb : Array Value) (eg : ∀ args w, (callFunc g args).run Tryz.prog w = .ok (.enter g args) w)
    (S : List K3 → Prop) (N : Nat) (hN : N ≤ maxLen) (hNb : N * 24 ≤ 140737488355328) (w : World) (hseq : SeqGives F (n - 1 - 1 - 1) Tryz.prog g lb ek3 S N w) :
    CallsIn F n Tryz.prog 81 #[.func (.func g) #[] lb, .func (.func 108) #[] #[]] w fun e w' => ∃ (v : Value) (ss : List K3), e = .returned v ∧ S ss ∧ w'.ownsRow w.heap.size 47 3 v ss.length (c3s (sort3 ss)) ∧ (v = .slice none 0 0 ↔ ss = []) ∧ Below w.heap.size w w' := by
  have h1 : 1 ≤ n := by omega
  refine callsIn_of_wp Tryz.func81 rfl h6 ?_ hro
  simp only [Tryz.ntmps81, List.size_toArray, List.length_cons, List.length_nil, Nat.reduceAdd, Nat.reduceSub, Array.replicate_succ, Array.replicate_zero, List.push_toArray, List.append_toArray, List.nil_append, List.cons_append]
  gi_wp2_with (gi_at_call 117; refine (collect_in F (n - 1) h8 h11 hro (by omega) g lb (hFg g) eg _ N hN hNb _ hseq.bounded).mono ?_; rintro e W ⟨v, ss, rfl, ⟨hS, hlen⟩, hrow, hnil, hb⟩)
  rcases hrow.2 with ⟨rfl, hz⟩ | ⟨gb, cap, cur, rfl, hbase, hgb, r1, r2, r3, r4⟩
  · have hss : ss = [] := List.eq_nil_of_length_eq_zero hz
    subst hss
    gi_wp2_with (gi_at_call 118; refine (hwd _ _ _ _ (sortFunc_none 0 _ W)).mono ?_; rintro e w' ⟨rfl, rfl⟩)
    go_ret
    exact ⟨.slice none 0 0, [], rfl, hS, by simpa [sort3] using hrow, by simp, hb⟩
  · have hsz : ss.length < 4611686018427387904 := by omega
    have cS := sortFunc_callsD gb cap ss W cur hgb r4 hsz
    gi_wp2_with (gi_at_call 118; refine (hwd _ _ _ _ cS).mono ?_; rintro e w' ⟨rfl, nn, os, rfl⟩)
    go_ret
    exact ⟨_, ss, rfl, hS, ownsRow_sortedG (by rw [c3s_len, sort3_len]) hbase hgb r1 r2 r3, hnil, hb.grown (grownBy_sortedG _) hb.size (fun j hj => by cases hj; exact hbase)⟩
set_option maxHeartbeats 1000000 in
theorem keysTx_inD (F : Fence) (n : Nat) (h7 : F.fn 107) (hro : F.round = none) (mb : Option Nat) (w : World) :
    CallsIn F n Tryz.prog 107 #[.map mb] w fun e w' => e = .returned (.func (.func 140) #[] #[.pointer (some ⟨w.heap.size, 0, none⟩)]) ∧ w' = w.alloc (.cells #[.map mb] 120) := by
  refine callsIn_of_wp Tryz.func107 rfl h7 ?_ hro
  simp only [Tryz.ntmps107, List.size_toArray, List.length_cons, List.length_nil, Nat.reduceAdd, Nat.reduceSub, Array.replicate_succ, Array.replicate_zero, List.push_toArray, List.append_toArray, List.nil_append, List.cons_append]
  gi_wp2
  go_ret
  exact ⟨rfl, rfl⟩
section
variable {ν : Type} {RV : Go.Sx.Rd ν} {ag : Bool} {H : Heap}
set_option maxRecDepth 100000 in
theorem enters60D : ∀ args w, (callFunc 140 args).run Tryz.prog w = .ok (.enter 140 args) w := fun _ _ => rfl
theorem keys_gives3D (n : Nat) (hn : 1 ≤ n) (Bm b : Nat) (es : Array MapEntry) (clock : Nat) (w : World) (hBm : Bm < w.heap.size) (hm : w.cell? ⟨Bm, 0, none⟩ = some (.map (some b))) (hb : w.heap[b]? = some (.map es clock))
    (hold : ∀ x ∈ es.toList, x.born < clock) (hnd : (es.toList.map (·.born)).Nodup) (hk : ∀ e ∈ es.toList, e.key = ek3 (kf3 e)) :
    SeqGives Fence.wide n Tryz.prog 140 #[.pointer (some ⟨Bm, 0, none⟩)] ek3 (fun ss => ss.Perm (es.toList.map kf3)) es.size w := fun l J W hW hJ hY h0 =>
  keys1_rawD Fence.wide n trivial rfl hn l Bm b es clock kf3 J (fun pre x W1 hj hl => hY pre x W1 hj hl) W hJ ((hW.cell (p := ⟨Bm, 0, none⟩) hBm).trans hm) ((hW.block b (Array.getElem?_eq_some_iff.1 hb).1).trans hb) hold hnd hk h0
theorem ct_sorted3D {W0 : World} {H0 : Heap} {p b : Nat} {ms : List (K3 × ν)} (hs : ∀ q ∈ ms, fits q.1.1 ∧ fits q.1.2.1 ∧ fits q.1.2.2) (hl : ms.length * 24 ≤ cap47) :
    Ct Tryz.prog 81 #[.func (.func 140) #[] #[.pointer (some ⟨p, 0, none⟩)], .func (.func 108) #[] #[]] W0 H [row p 120 [.map (some b)], mapO ek3 RV ag H0 b ms]
      (fun r H' B => B = [ownS rTxn 3 24 47 H r ((sort3 (ms.map (·.1))).map toTx), mapO ek3 RV ag H0 b ms] ∧ H' = H) := by
  intro w R hS
  have hcap : cap47 ≤ maxLen := by decide
  obtain ⟨hA, hR, a, r, d, dA, dR, lA, lR⟩ := hS.parts
  obtain ⟨hB, hR2, ⟨es, clock, hm, hpt⟩, r2, d2, l2, l3⟩ := r
  have h1 : w.heap[p]? = some (.cells #[.map (some b)] 120 (0, 0)) := lA _ _ a
  have hcellp : w.cell? ⟨p, 0, none⟩ = some (.map (some b)) := by simp [World.cell?, h1]
  have hplt : p < w.heap.size := (Array.getElem?_eq_some_iff.1 h1).1
  have hbm : w.heap[b]? = some (.map es clock) := lR _ _ (l2 _ _ hpt)
  have hlm : ms.length ≤ maxLen := by have := hl; simp only [cap47] at this hcap; omega
  have hlen : es.size = ms.length := by simpa using hm.el.len
  obtain ⟨hk1, hk2⟩ := el_kf3 hm.el
  have hnd : (es.toList.map (·.born)).Nodup := hm.rise.imp fun h => Nat.ne_of_lt h
  refine (callsIn_wide.1 (sortedFunc_inD Fence.wide 4 trivial trivial trivial trivial rfl (fun _ _ _ _ h => callsIn_wide.2 h) (fun _ => trivial) (Nat.le_refl _) _ _ enters60D (fun ss => ss.Perm (es.toList.map kf3)) es.size (by rw [hlen]; exact hlm) (by rw [hlen]; exact hl) w
    (keys_gives3D 1 (Nat.le_refl _) p b es clock w hplt hcellp hbm hm.lt hnd hk2))).mono ?_
  rintro e w' ⟨v, ss, rfl, hss, hrow, _, hbl⟩
  have hS2 : St W0 H w (mapO ek3 RV ag H0 b ms :: R) := hS.sub (Sub.drop (Sub.refl _))
  have hS3 := newRow3 hS2 hbl hrow
  rw [hk1] at hss
  have hsort : sort3 ss = sort3 (ms.map (·.1)) := sort3_perm hss
  refine ⟨v, H, [ownS rTxn 3 24 47 H v ((sort3 (ms.map (·.1))).map toTx), mapO ek3 RV ag H0 b ms], rfl, .refl _, ⟨rfl, rfl⟩, ?_⟩
  refine hS3.sub ?_
  have hlen2 : ss.length = ((sort3 (ms.map (·.1))).map toTx).length := by
    rw [List.length_map, sort3_len]
    exact hss.length_eq
  rw [hsort, hlen2]
  refine ownS_mk (rl3 fun k hk => ?_) ?_
  · unfold sort3 at hk
    rw [List.mem_mergeSort] at hk
    obtain ⟨q, hq, rfl⟩ := List.mem_map.1 hk
    exact hs q hq
  · rw [← hlen2, hss.length_eq, List.length_map]
    exact hl
theorem ct_keys3D {W0 : World} {H : Heap} {b : Nat} :
    Ct Tryz.prog 107 #[.map (some b)] W0 H [] (fun r H' B => ∃ p, r = .func (.func 140) #[] #[.pointer (some ⟨p, 0, none⟩)] ∧ B = [row p 120 [.map (some b)]] ∧ H' = H) :=
  ct_keys fun mb W => callsIn_wide.1 (keysTx_inD Fence.wide 0 trivial rfl mb W)
end
end Go.Proofs.YtlflbkpmfhhikaaGreatDoor
namespace Go.Proofs.YtlflbkpmfhhikaaGreatDoor
open Go Go.Sx Go.Proofs
abbrev pRow (p tp : Nat) (sh : Int) (db : Nat) : HProp := row p 122 [.pointer (some ⟨tp, 0, none⟩), I sh, .map (some db)]
abbrev dMap (H : Heap) (db : Nat) (s : PS) : HProp := mapO ek3 rInt false H db s.done
def partO (H : Heap) (p : Nat) (s : PS) : HProp := fun h => ∃ tp db, big [pRow p tp s.sh db, tabO H tp s.t, dMap H db s] h
theorem part_fold {H : Heap} {p tp db : Nat} {s : PS} {L : List HProp} : Sub (pRow p tp s.sh db :: tabO H tp s.t :: dMap H db s :: L) (partO H p s :: L) :=
  sub_fold (B := [pRow p tp s.sh db, tabO H tp s.t, dMap H db s]) (Sub.refl _) fun h hb => ⟨tp, db, hb⟩
theorem d_up {H H' : Heap} {db : Nat} {l : List (K3 × Int)} {L : List HProp} (hl : H.le H') : Sub (mapO ek3 rInt false H db l :: L) (mapO ek3 rInt false H' db l :: L) := mapO_up hl
theorem part_up {H H' : Heap} {p : Nat} {s : PS} {L : List HProp} (hl : H.le H') : Sub (partO H p s :: L) (partO H' p s :: L) := fun h ⟨h1, h2, ⟨tp, db, hbig⟩, r⟩ => by
  refine ⟨h1, h2, ⟨tp, db, ?_⟩, r⟩
  obtain ⟨a1, a2, x1, ⟨b1, b2, x2, y2, z2⟩, z1⟩ := hbig
  have k := tab_up (L := [dMap H db s]) hl _ ⟨b1, b2, x2, y2, z2⟩
  obtain ⟨c1, c2, u1, u2, u3⟩ := k
  exact ⟨a1, a2, x1, ⟨c1, c2, u1, (d_up (L := []) hl _ (by exact u2)), u3⟩, z1⟩
theorem part_shut {H1 H2 H' : Heap} {p tp db : Nat} {sh : Int} {t : TS} {d : List (K3 × Int)} {L : List HProp} (h1 : H1.le H') (h2 : H2.le H') : Sub (pRow p tp sh db :: tabO H1 tp t :: mapO ek3 rInt false H2 db d :: L) (partO H' p ⟨sh, t, d⟩ :: L) :=
  Sub.trans (Sub.cons (Sub.trans (tab_up h1) (Sub.cons (d_up h2)))) (part_fold (s := ⟨sh, t, d⟩))
theorem pnew_spec {W0 : World} {H : Heap} {sh : Int} (hsh : fits sh) :
    Ct Tryz.prog 33 #[I sh] W0 H [] (fun r H' B => ∃ p, r = .pointer (some ⟨p, 0, none⟩) ∧ B = [partO H p ⟨sh, ⟨[], [], []⟩, []⟩] ∧ H' = H) := by
  refine Ct.go (vs := [I sh]) fun R => ?_
  refine walk ?_
  refine ops_call (vs := []) rfl rfl new_spec fun r1 H1 B hl1 ⟨tp, er, eB, eH⟩ => ?_
  subst er eB eH
  refine walk ?_
  refine ops_makeMap ek3 rInt false rfl fun db _ => ?_
  refine walk ?_
  refine ops_box rfl rfl fun p _ => ?_
  refine walk ?_
  refine finB [partO H1 p ⟨sh, ⟨[], [], []⟩, []⟩] ?_ (hs := ?_)
  · exact ⟨p, rfl, rfl, rfl⟩
  · refine Sub.trans ?_ (part_fold (tp := tp) (db := db) (s := ⟨sh, ⟨[], [], []⟩, []⟩))
    exact subA
theorem pown_spec {W0 : World} {H : Heap} {c : List Value} {m : Work} (h0 : rWork H c m) :
    Ct Tryz.prog 102 #[.agg c.toArray] W0 H [] (fun r H' B => ∃ cs, r = .agg cs.toArray ∧ rWork H' cs m ∧ B = []) := by
  refine Ct.go fun R => ?_
  obtain ⟨s1, s2, rfl, f1, h1, h2⟩ := h0
  refine walk ?_
  refine ops_box rfl rfl fun p1 _ => ?_
  refine ops_alloc rfl fun p2 _ => ?_
  refine walk ?_
  refine ex_any 7 [row p1 50 (m.cv s1 s2)] ?_
  refine stepY 0 ?_; refine stepY 1 ?_
  refine stepY 3 ?_; refine stepY 4 ?_
  refine any_call 2 rfl rfl (cloneT_spec h1) fun r1 H1 B hl1 ⟨eB, eH⟩ => ?_
  subst eB eH
  refine ⟨subA, ?_⟩
  refine stepY 6 ?_
  refine any_call 5 rfl rfl (cloneT_spec h2) fun r2 H2 B hl2 ⟨eB, eH⟩ => ?_
  subst eB eH
  refine ⟨subA, ?_⟩
  refine any_rest rfl ?_
  refine ops_shape r1 fun d1 e1 e _ _ _ => ?_
  subst e
  refine ops_shape r2 fun d2 e2 e _ _ _ => ?_
  subst e
  refine walk ?_
  refine out_freeze (.slice d1 m.Take.length e1) fun H3 hl3 k1 => ?_
  refine out_freeze (.slice d2 m.Drop.length e2) fun H4 hl4 k2 => ?_
  refine fin0 ?_
  exact ⟨m.cv (.slice d1 m.Take.length e1) (.slice d2 m.Drop.length e2), rfl, ⟨_, _, rfl, f1, k1.mono hl4, k2⟩, rfl⟩
theorem tx_ext {a b : Txn} : a = b ↔ a.Node = b.Node ∧ a.Life = b.Life ∧ a.Count = b.Count := by cases a; cases b; simp
theorem ask_is {W0 : World} {H : Heap} {p : Nat} {x : Txn} : Asks Tryz.prog W0 H rRec 132 [.pointer (some ⟨p, 0, none⟩)] (fun c => .agg c.toArray) [row p 47 [I x.Node, I x.Life, I x.Count]] (fun q => decide (q.Txn = x)) := by
  intro c q hc
  refine Ct.go (vs := [.agg c.toArray, .pointer (some ⟨p, 0, none⟩)]) fun R => ?_
  obtain ⟨s1, s2, s3, rfl, g1, g2, g3, g4, g5, g6, g7, g8⟩ := hc
  obtain ⟨b1, c1, rfl, _, _⟩ := g6.1.shape
  obtain ⟨b2, c2, rfl, _, _⟩ := g7.1.shape
  obtain ⟨b3, c3, rfl, _, _⟩ := g8.1.shape
  obtain ⟨x1, x2, x3⟩ := x
  refine walk ?_
  refine ops_box rfl rfl fun p2 _ => ?_
  refine walk ?_
  refine finB [row p 47 [I x1, I x2, I x3]] ?_
  exact ⟨bdec tx_ext.symm, rfl, rfl⟩
theorem idxRec_spec {W0 : World} {H HS : Heap} {v : Value} {xs : List Rec} {f : FuncId} {cap : List Value} {a : HProp} {p : Rec → Bool} [hf : TFn Tryz.prog f] (hl : HS.le H) (hask : Asks Tryz.prog W0 H rRec f cap (fun c => .agg c.toArray) [a] p) :
    Ct Tryz.prog 155 #[v, .func (.func f) #[] cap.toArray] W0 H [ownS rRec 9 120 53 HS v xs, a]
      (fun r H' B => B = [ownS rRec 9 120 53 HS v xs, a] ∧ H' = H ∧ ∃ j, j ≤ xs.length ∧ (∀ i (h : i < xs.length), i < j → p xs[i] = false) ∧ ((j = xs.length ∧ r = I (-1)) ∨ (∃ h : j < xs.length, p xs[j] = true ∧ r = I j))) := by
  refine Ct.go fun R => ?_
  refine ex_shape v fun base cp e q1 q2 q3 => ?_
  subst e
  refine walk ?_
  refine ex_loop (fun k => k ≤ xs.length ∧ ∀ i (h : i < xs.length), i < k → p xs[i] = false) (fun k => [(0, .slice base xs.length cp), (1, .func (.func f) #[] cap.toArray), (7, I xs.length), (8, I k)]) (fun _ => H) (fun _ => ownS rRec 9 120 53 HS (.slice base xs.length cp) xs :: a :: R) (fun k => xs.length - k) 0 ⟨Nat.zero_le _, fun i _ h => by omega⟩ fun k ⟨hk0, hno⟩ K hL => ?_
  refine walk ?_
  refine ex_if rfl (fun hk => ?_) (fun hk => ?_)
  · have hk1 : k < xs.length := by omega
    refine walk ?_
    refine ops_ixo rfl rfl rfl hk1 fun c hc => ?_
    refine ops_callv rfl rfl rfl (hask c _ (RdOk.mono hl hc)) fun r H' B hl' ⟨er, eB, eH⟩ => ?_
    subst er eB eH
    refine walk ?_
    refine ex_ifb rfl Iff.rfl (fun hp => ?_) (fun hp => ?_)
    · refine walk ?_
      refine finB [ownS rRec 9 120 53 HS (.slice base xs.length cp) xs, a] ?_
      exact ⟨rfl, rfl, k, hk0, hno, .inr ⟨hk1, hp, rfl⟩⟩
    · refine walk ?_
      refine out_next hL (k + 1) ⟨by omega, fun i h hi => ?_⟩
      rcases Nat.lt_or_ge i k with h' | h'
      · exact hno i h h'
      · obtain rfl : i = k := by omega
        simpa using hp
  · refine walk ?_
    refine finB [ownS rRec 9 120 53 HS (.slice base xs.length cp) xs, a] ?_
    exact ⟨rfl, rfl, xs.length, Nat.le_refl _, fun i h hi => hno i h (by omega), .inl ⟨rfl, rfl⟩⟩
theorem isP_mem {s : PS} {x : Txn} (hn : (s.t.works.map (·.1)).Nodup) : isP s x ↔ ∃ q ∈ prepL s.t, q.Txn = x := by
  have hp := prepL_spec hn
  constructor
  · intro h
    obtain ⟨w, hw⟩ := isP_iff.1 h
    exact ⟨recW x w, (hp.mem _).2 ⟨w, hw, rfl⟩, rfl⟩
  · rintro ⟨q, hq, rfl⟩
    obtain ⟨w, hw, _⟩ := (hp.mem q).1 hq
    exact isP_iff.2 ⟨w, hw⟩
theorem contains_spec {W0 : World} {H HS : Heap} {v : Value} {xs : List Rec} {p : Nat} {x : Txn} (hl : HS.le H) :
    Ct Tryz.prog 131 #[v, .func (.func 132) #[] #[.pointer (some ⟨p, 0, none⟩)]] W0 H [ownS rRec 9 120 53 HS v xs, row p 47 [I x.Node, I x.Life, I x.Count]]
      (fun r H' B => r = .bool (decide (∃ q ∈ xs, q.Txn = x)) ∧ B = [ownS rRec 9 120 53 HS v xs, row p 47 [I x.Node, I x.Life, I x.Count]] ∧ H' = H) := by
  refine Ct.go (vs := [v, .func (.func 132) #[] #[.pointer (some ⟨p, 0, none⟩)]]) fun R => ?_
  refine walk ?_
  refine ops_call rfl rfl (idxRec_spec (W0 := W0) (H := H) (HS := HS) (v := v) (xs := xs) hl (ask_is (p := p) (x := x))) fun r1 H1 B hl1 ⟨eB, eH, j, hj, hno, hcase⟩ => ?_
  subst eB eH
  rcases hcase with ⟨rfl, rfl⟩ | ⟨hj1, hpj, rfl⟩
  · refine walk ?_
    refine finB [ownS rRec 9 120 53 HS v xs, row p 47 [I x.Node, I x.Life, I x.Count]] ?_
    refine ⟨?_, rfl, rfl⟩
    rw [decide_eq_false]
    rintro ⟨q, hq, hx⟩
    obtain ⟨i, hi, rfl⟩ := List.getElem_of_mem hq
    have := hno i hi hi
    rw [decide_eq_false_iff_not] at this
    exact this hx
  · have hge : (0 : Int) ≤ (j : Int) := by omega
    refine walk ?_
    refine finB [ownS rRec 9 120 53 HS v xs, row p 47 [I x.Node, I x.Life, I x.Count]] ?_
    refine ⟨?_, rfl, rfl⟩
    rw [decide_eq_true]
    exact ⟨_, List.getElem_mem hj1, of_decide_eq_true hpj⟩
theorem is_spec {W0 : World} {H : Heap} {p : Nat} {s : PS} {x : Txn} (hs : TsOk s.t) (hn : (s.t.works.map (·.1)).Nodup) :
    Ct Tryz.prog 100 #[.pointer (some ⟨p, 0, none⟩), .agg x.cv.toArray] W0 H [partO H p s] (fun r H' B => r = .bool (decide (isP s x)) ∧ B = [partO H' p s]) := by
  refine Ct.go (vs := [.pointer (some ⟨p, 0, none⟩), .agg x.cv.toArray]) fun R => ?_
  rw [decide_eq_decide.2 (isP_mem hn)]
  refine ex_open (A := partO H p s) (σ := Nat × Nat) (B := fun a => [pRow p a.1 (PS.sh s) a.2, tabO H a.1 (PS.t s), dMap H a.2 s]) (p := fun _ => True) (by repeat (first | exact Has.here | apply Has.there)) (fun h ⟨tp, db, hbig⟩ => ⟨(tp, db), trivial, hbig⟩) fun ⟨tp, db⟩ _ => ?_
  dsimp only
  refine walk ?_
  refine ops_box rfl rfl fun p3 _ => ?_
  refine walk ?_
  refine ops_call rfl rfl (prepared_spec (W0 := W0) (H := H) (p := tp) hs) fun r1 H1 B hl1 eB => ?_
  subst eB
  refine walk ?_
  refine ops_call rfl rfl (contains_spec (W0 := W0) (H := H1) (HS := H1) (v := r1) (xs := prepL s.t) (p := p3) (x := x) (.refl _)) fun r2 H2 B hl2 ⟨er, eB, eH⟩ => ?_
  subst er eB eH
  refine walk ?_
  refine finB [partO H2 p s] ?_ (hs := ?_)
  · exact ⟨rfl, rfl⟩
  · refine Sub.trans ?_ (part_shut (H1 := H2) (H2 := H) (tp := tp) (db := db) (.refl _) hl1)
    exact subA
theorem askM_reads {H : Heap} {s : PS} {x : Txn} (hs : fits s.sh) (hx : okX x.k) : rMessage H [I s.sh, I x.Node, I 5, I x.Node, I x.Life, I x.Count, I 0, nilS, nilS, .bool false, I 0, I 0, I 0, I 0, nilS, I 0, I 0, I 0, nilS] (askM s x) :=
  ⟨nilS, nilS, nilS, nilS, rfl, hs, hx.1, by unfold fits; simp [askM], hx.1, hx.2.1, hx.2.2, fits0, SlB.nil, SlB.nil, fits0, fits0, fits0, fits0, SlB.nil, fits0, fits0, fits0, SlB.nil⟩
set_option maxHeartbeats 4000000 in
theorem ask_spec {W0 : World} {H : Heap} {p : Nat} {s : PS} (hs : TsOk s.t) (hsh : fits s.sh) (hx : ∀ q ∈ prepL s.t, okX q.Txn.k) :
    Ct Tryz.prog 44 #[.pointer (some ⟨p, 0, none⟩)] W0 H [partO H p s] (fun r H' B => B = [ownS rMessage 19 216 106 H' r ((prepL s.t).map fun q => askM s q.Txn), partO H' p s]) := by
  refine Ct.go (vs := [.pointer (some ⟨p, 0, none⟩)]) fun R => ?_
  refine ex_open (A := partO H p s) (σ := Nat × Nat) (B := fun a => [pRow p a.1 (PS.sh s) a.2, tabO H a.1 (PS.t s), dMap H a.2 s]) (p := fun _ => True) (by repeat (first | exact Has.here | apply Has.there)) (fun h ⟨tp, db, hbig⟩ => ⟨(tp, db), trivial, hbig⟩) fun ⟨tp, db⟩ _ => ?_
  dsimp only
  refine walk ?_
  refine ops_call rfl rfl (prepared_spec (W0 := W0) (H := H) (p := tp) hs) fun r1 H1 B hl1 eB => ?_
  subst eB
  refine ops_freeze r1 fun H2 hl2 hsl => ?_
  have hln : (prepL s.t).length ≤ 1000000 := by have := hs.wn; simpa [prepL, sort3_len] using this
  generalize hl : prepL s.t = l at *
  obtain ⟨b0, c0, rfl, hc0, hd0⟩ := hsl.1.shape
  refine walk ?_
  refine ex_loop (σ := Nat × Option Addr × Nat) (fun u => u.1 ≤ l.length) (fun u => [(0, .pointer (some ⟨p, 0, none⟩)), (3, .slice u.2.1 ((l.take u.1).map fun q => askM s q.Txn).length u.2.2), (10, .slice b0 l.length c0), (11, I l.length), (12, I u.1)]) (fun _ => H2) (fun u => ownS rMessage 19 216 106 H2 (.slice u.2.1 ((l.take u.1).map fun q => askM s q.Txn).length u.2.2) ((l.take u.1).map fun q => askM s q.Txn) :: pRow p tp s.sh db :: tabO H1 tp s.t :: dMap H db s :: R) (fun u => l.length - u.1) (0, none, 0) (Nat.zero_le _) (hs0 := ?_) fun ⟨k, d, e⟩ hk0 K hL => ?_
  rotate_left
  · simp only [List.take_zero, List.map_nil, List.length_nil]
    refine Sub.trans ?_ ownS_nil
    exact subA
  simp only at hk0
  dsimp only
  have hll : ((l.take k).map fun q => askM s q.Txn).length = k := by simp; omega
  have hcap : (1000000 : Nat) * 216 ≤ cap47 := by decide
  refine walk ?_
  refine ex_if rfl (fun hk => ?_) (fun hk => ?_)
  · have hk1 : k < l.length := by omega
    have ht := List.take_succ_eq_append_getElem hk1
    have hxk := hx l[k] (List.getElem_mem hk1)
    have hse : ((l.take k).map fun q => askM s q.Txn) ++ [askM s l[k].Txn] = (l.take (k + 1)).map fun q => askM s q.Txn := by rw [ht, List.map_append]; rfl
    have hsl2 : ((l.take k).map fun q => askM s q.Txn).length + 1 = ((l.take (k + 1)).map fun q => askM s q.Txn).length := by rw [← hse]; simp
    refine walk ?_
    refine ops_ixp rfl rfl hsl.1 hk1 fun b o c hr hc => ?_
    obtain ⟨s1, s2, s3, rfl, g1, g2, g3, g4, g5, g6, g7, g8⟩ := hc
    generalize l[k] = q at hr g1 g2 g3 g4 g5 g6 g7 g8 hse hxk
    obtain ⟨qk, ⟨xa, xb, xc⟩, ⟨wr, wt, wd⟩, qy, qp⟩ := q
    dsimp only at hr g1 g2 g3 g4 g5 g6 g7 g8 hse hxk
    obtain ⟨sb1, sc1, rfl, _, _⟩ := g6.1.shape
    obtain ⟨sb2, sc2, rfl, _, _⟩ := g7.1.shape
    obtain ⟨sb3, sc3, rfl, _, _⟩ := g8.1.shape
    change HRow H2 b o [I qk, I xa, I xb, I xc, I wr, .slice sb1 wt.length sc1, .slice sb2 wd.length sc2, .bool qy, .slice sb3 qp.length sc3] at hr
    refine ops_ldNH rfl rfl hr rfl ?_
    refine ops_alloc rfl fun p5 _ => ?_
    refine walk ?_
    refine ex_any 13 [pRow p tp s.sh db, row p5 53 [I qk, I xa, I xb, I xc, I wr, .slice sb1 wt.length sc1, .slice sb2 wd.length sc2, .bool qy, .slice sb3 qp.length sc3]] ?_
    refine stepY 0 ?_; refine stepY 1 ?_; refine stepY 2 ?_; refine stepY 3 ?_; refine stepY 4 ?_; refine stepY 5 ?_; refine stepY 6 ?_; refine stepY 7 ?_; refine stepY 8 ?_; refine stepY 9 ?_; refine stepY 10 ?_
    refine any_app1 (y := askM s ⟨xa, xb, xc⟩) 11 12 rfl rfl rfl (askM_reads hsh hxk) (by rw [hll]; simp only [cap47]; omega) fun d3 e3 => ⟨subA, ?_⟩
    rw [hsl2, hse]
    refine any_rest rfl ?_
    refine walk ?_
    exact out_next hL (k + 1, d3, e3) (by simp only; omega)
  · clear hL
    obtain rfl : k = l.length := by omega
    refine walk ?_
    rw [List.take_length] at *
    refine finB [ownS rMessage 19 216 106 H2 (.slice d (l.map fun q => askM s q.Txn).length e) (l.map fun q => askM s q.Txn), partO H2 p s] ?_ (hs := ?_)
    · exact rfl
    · refine Sub.trans ?_ (Sub.cons (part_shut (H1 := H1) (H2 := H) (tp := tp) (db := db) hl2 (hl1.trans hl2)))
      exact subA
noncomputable def untilK (c : Int → Int) : Int → List ByteArray → Int
  | a, [] => c a
  | a, k :: ks => if (tickK k).isSome = true then untilK c (max a ((tickK k).getD 0)) ks else maxTick
noncomputable def untilR (x : Txn) : Int → List Rec → Int
  | a, [] => a
  | a, q :: l => if q.Txn = x then untilK (fun a => untilR x a l) a q.Work.ks else untilR x a l
theorem untilK_id : ∀ {ks : List ByteArray} {a : Int}, untilK (fun a => a) a ks = untilL a ks
  | [], a => rfl
  | k :: ks, a => by unfold untilK untilL; rw [untilK_id]
theorem untilR_none {x : Txn} : ∀ {l : List Rec} {a : Int}, (∀ q ∈ l, q.Txn ≠ x) → untilR x a l = a
  | [], a, _ => rfl
  | q :: l, a, h => by
    unfold untilR
    rw [if_neg (h q (List.mem_cons_self ..)), untilR_none fun q hq => h q (List.mem_cons_of_mem _ hq)]
theorem untilR_one {x : Txn} : ∀ {l : List Rec} {a : Int} {q : Rec}, l.Pairwise (fun a b => ltK a.Txn.k b.Txn.k) → q ∈ l → q.Txn = x → untilR x a l = untilL a q.Work.ks
  | q :: l, a, q', hr, hq, hx => by
    rw [List.pairwise_cons] at hr
    unfold untilR
    rcases List.mem_cons.1 hq with rfl | hq
    · rw [if_pos hx]
      have hno : ∀ q ∈ l, q.Txn ≠ x := fun q hq e => by
        have := hr.1 q hq
        rw [hx, e] at this
        exact ltK_irr this
      have : (fun a => untilR x a l) = fun a => a := funext fun a => untilR_none hno
      rw [this, untilK_id]
    · rw [if_neg, untilR_one hr.2 hq hx]
      intro e
      have := hr.1 q' hq
      rw [hx, e] at this
      exact ltK_irr this
theorem untilR_eq {s : PS} {x : Txn} (hn : (s.t.works.map (·.1)).Nodup) : untilR x 0 (prepL s.t) = untilS s x := by
  have hp := prepL_spec hn
  unfold untilS
  by_cases h : isP s x
  · rw [if_pos h]
    obtain ⟨w, hw⟩ := isP_iff.1 h
    have hm := (hp.mem (recW x w)).2 ⟨w, hw, rfl⟩
    rw [untilR_one (x := x) hp.rise hm (rfl : (recW x w).Txn = x)]
    unfold gW at hw
    cases hq : mget x.k s.t.works with
    | none => rw [hq] at hw; cases hw
    | some v => rw [hq] at hw; cases hw; rfl
  · rw [if_neg h, untilR_none]
    rintro q hq rfl
    obtain ⟨w, hw, _⟩ := (hp.mem q).1 hq
    exact h (isP_iff.2 ⟨w, hw⟩)
set_option maxHeartbeats 8000000 in
theorem until_spec {W0 : World} {H : Heap} {p : Nat} {s : PS} {x : Txn} (hP : PkH H) (hs : TsOk s.t) (hn : (s.t.works.map (·.1)).Nodup) (hks : ∀ q ∈ prepL s.t, q.Work.ks.length * 16 ≤ cap47) :
    Ct Tryz.prog 103 #[.pointer (some ⟨p, 0, none⟩), .agg x.cv.toArray] W0 H [partO H p s] (fun r H' B => r = I (untilS s x) ∧ B = [partO H' p s]) := by
  refine Ct.go (vs := [.pointer (some ⟨p, 0, none⟩), .agg x.cv.toArray]) fun R => ?_
  rw [← untilR_eq hn]
  obtain ⟨x1, x2, x3⟩ := x
  refine ex_open (A := partO H p s) (σ := Nat × Nat) (B := fun a => [pRow p a.1 (PS.sh s) a.2, tabO H a.1 (PS.t s), dMap H a.2 s]) (p := fun _ => True) (by repeat (first | exact Has.here | apply Has.there)) (fun h ⟨tp, db, hbig⟩ => ⟨(tp, db), trivial, hbig⟩) fun ⟨tp, db⟩ _ => ?_
  dsimp only
  refine walk ?_
  refine ops_box rfl rfl fun p3 _ => ?_
  refine walk ?_
  refine ops_call rfl rfl (prepared_spec (W0 := W0) (H := H) (p := tp) hs) fun r1 H1 B hl1 eB => ?_
  subst eB
  refine ops_freeze r1 fun H2 hl2 hsl => ?_
  generalize hl : prepL s.t = l at *
  generalize hT : untilR ⟨x1, x2, x3⟩ 0 l = T
  obtain ⟨b0, c0, rfl, hc0, hd0⟩ := hsl.1.shape
  refine walk ?_
  refine ex_loop (σ := Nat × Int × Heap) (fun u => u.1 ≤ l.length ∧ untilR ⟨x1, x2, x3⟩ u.2.1 (l.drop u.1) = T ∧ fits u.2.1 ∧ H2.le u.2.2) (fun u => [(0, .pointer (some ⟨p, 0, none⟩)), (3, .pointer (some ⟨p3, 0, none⟩)), (5, I u.2.1), (16, .slice b0 l.length c0), (17, I l.length), (18, I u.1)]) (fun u => u.2.2) (fun u => pRow p tp s.sh db :: tabO H1 tp s.t :: dMap H db s :: row p3 47 [I x1, I x2, I x3] :: R) (fun u => l.length - u.1) (0, 0, H2) ⟨Nat.zero_le _, hT, fits0, .refl _⟩ fun ⟨j, a, HK⟩ ⟨hj0, hF, hfa, hlK⟩ K hL => ?_
  simp only at hj0 hF hfa hlK
  dsimp only
  have hPK := hP.mono (hl1.trans (hl2.trans hlK))
  refine walk ?_
  refine ex_if rfl (fun hj => ?_) (fun hj => ?_)
  · have hj1 : j < l.length := by omega
    have hkq := hks l[j] (List.getElem_mem hj1)
    rw [List.drop_eq_getElem_cons hj1] at hF
    unfold untilR at hF
    refine walk ?_
    refine ops_ixp rfl rfl (hsl.mono hlK).1 hj1 fun b o c hr hc => ?_
    obtain ⟨s1, s2, s3, rfl, g1, g2, g3, g4, g5, g6, g7, g8⟩ := hc
    generalize l[j] = q at hr g1 g2 g3 g4 g5 g6 g7 g8 hF hkq
    obtain ⟨qk, ⟨xa, xb, xc⟩, ⟨wr, wt, wd⟩, qy, qp⟩ := q
    dsimp only at hr g1 g2 g3 g4 g5 g6 g7 g8 hF hkq
    obtain ⟨sb1, sc1, rfl, _, _⟩ := g6.1.shape
    obtain ⟨sb2, sc2, rfl, _, _⟩ := g7.1.shape
    obtain ⟨sb3, sc3, rfl, _, _⟩ := g8.1.shape
    change HRow HK b o [I qk, I xa, I xb, I xc, I wr, .slice sb1 wt.length sc1, .slice sb2 wd.length sc2, .bool qy, .slice sb3 qp.length sc3] at hr
    refine ops_ldNH rfl rfl hr rfl ?_
    refine ops_alloc rfl fun p7 _ => ?_
    refine walk ?_
    refine ex_if rfl (fun hq => ?_) (fun hq => ?_)
    · rw [if_neg (fun e => hq (by simpa using tx_ext.1 e))] at hF
      refine walk ?_
      exact out_next hL (j + 1, a, HK) ⟨by simp only; omega, hF, hfa, hlK⟩
    · have hq' : (⟨xa, xb, xc⟩ : Txn) = ⟨x1, x2, x3⟩ := Classical.byContradiction fun h => hq fun e => h (tx_ext.2 e)
      rw [if_pos hq'] at hF
      generalize hcn : (fun a => untilR ⟨x1, x2, x3⟩ a (l.drop (j + 1))) = cn at hF
      refine walk ?_
      refine ops_bsN rfl rfl fun pb _ => ?_
      refine ops_frzR .here fun H3 hl3 hr3 => ?_
      have hwn' : (wt.length + wd.length) * 16 ≤ cap47 := by simpa [Work.ks] using hkq
      have hsr : SlR (rSl rStr 1 16) 1 H3 (.slice (some ⟨pb, 0, none⟩) 2 2) [wt, wd] := slr_of_hrow (R := rSl rStr 1 16) (xs := [wt, wd]) hr3 (show RL (rSl rStr 1 16) H3 [.slice sb1 wt.length sc1, .slice sb2 wd.length sc2] [wt, wd] from ⟨[_], [_], rfl, ⟨_, rfl, g6.mono hl3⟩, ⟨[_], [], rfl, ⟨_, rfl, g7.mono hl3⟩, rfl⟩⟩) (by simp) (by omega)
      have hcat := concat_spec (W0 := W0) hsr (by simpa [sumLen] using hwn')
      rw [show [wt, wd].flatten = (⟨wr, wt, wd⟩ : Work).ks by simp [Work.ks]] at hcat
      generalize hks2 : (⟨wr, wt, wd⟩ : Work).ks = ks at hcat hF hkq
      refine ops_call rfl rfl hcat fun r4 H4 B hl4 ⟨eB, eH⟩ => ?_
      subst eB eH
      refine ops_freeze r4 fun H5 hl5 hsk => ?_
      obtain ⟨bk, ck, rfl, hck, hdk⟩ := hsk.1.shape
      have hl25 : H2.le H5 := hlK.trans (hl3.trans (hl4.trans hl5))
      have hP5 := hPK.mono (hl3.trans (hl4.trans hl5))
      refine walk ?_
      refine ex_loop (σ := Nat × Int) (fun u => u.1 ≤ ks.length ∧ untilK cn u.2 (ks.drop u.1) = T ∧ fits u.2) (fun u => [(0, .pointer (some ⟨p, 0, none⟩)), (3, .pointer (some ⟨p3, 0, none⟩)), (5, I u.2), (16, .slice b0 l.length c0), (17, I l.length), (18, I j), (33, .slice bk ks.length ck), (34, I ks.length), (35, I u.1)]) (fun _ => H5) (fun _ => pRow p tp s.sh db :: tabO H1 tp s.t :: dMap H db s :: row p3 47 [I x1, I x2, I x3] :: R) (fun u => ks.length - u.1) (0, a) ⟨Nat.zero_le _, hF, hfa⟩ fun ⟨i, a2⟩ ⟨hi0, hF2, hfa2⟩ K2 hL2 => ?_
      simp only at hi0 hF2 hfa2
      dsimp only
      refine walk ?_
      refine ex_if rfl (fun hi => ?_) (fun hi => ?_)
      · have hi1 : i < ks.length := by omega
        rw [List.drop_eq_getElem_cons hi1] at hF2
        unfold untilK at hF2
        have hrd := fun (hz : ks[i].data.toList.length ≤ cap47) => read_spec (W0 := W0) (l := ks[i].data.toList) hP5 hz
        rw [sb_self] at hrd
        refine walk ?_
        refine ops_ixp rfl rfl hsk.1 hi1 fun b o c hr hc => ?_
        obtain ⟨rfl, hsz⟩ := hc
        refine walk ?_
        refine ops_call rfl rfl (hrd (by rw [← Lib.size_eq]; exact hsz)) fun r6 H6 B hl6 ⟨hrr, eB, eH⟩ => ?_
        subst eB eH
        obtain ⟨ka, kb, kt, ok, rfl, hkk⟩ := hrr.form
        refine walk ?_
        refine ops_alloc rfl fun p10 _ => ?_
        refine walk ?_
        rcases hkk with ⟨rfl, hkk⟩ | ⟨rfl, hno, rfl, rfl, rfl⟩
        · have ht := tickK_yes hkk
          rw [ht, if_pos (show (some kt).isSome = true from rfl), show (some kt).getD 0 = kt from rfl] at hF2
          have hft : fits kt := by have := tickK_fits (k := ks[i]); rw [ht] at this; exact this
          rw [show (!true) = false from rfl]
          refine walk ?_
          exact out_next hL2 (i + 1, max a2 kt) ⟨by simp only; omega, hF2, by simp only; unfold fits at *; omega⟩
        · have ht := tickK_no hno
          rw [ht, if_neg (by simp)] at hF2
          rw [show (!false) = true from rfl]
          refine walk ?_
          rw [← hF2]
          refine finB [partO H6 p s] ?_ (hs := ?_)
          · exact ⟨rfl, rfl⟩
          · refine Sub.trans ?_ (part_shut (H1 := H1) (H2 := H) (tp := tp) (db := db) (hl2.trans hl25) (hl1.trans (hl2.trans hl25)))
            exact subA
      clear hL2
      obtain rfl : i = ks.length := by omega
      rw [List.drop_length] at hF2
      unfold untilK at hF2
      rw [← hcn] at hF2
      refine walk ?_
      exact out_next hL (j + 1, a2, H5) ⟨by simp only; omega, hF2, hfa2, hl25⟩
  clear hL
  obtain rfl : j = l.length := by omega
  rw [List.drop_length] at hF
  unfold untilR at hF
  refine walk ?_
  rw [← hF]
  refine finB [partO HK p s] ?_ (hs := ?_)
  · exact ⟨rfl, rfl⟩
  · refine Sub.trans ?_ (part_shut (H1 := H1) (H2 := H) (tp := tp) (db := db) (hl2.trans hlK) (hl1.trans (hl2.trans hlK)))
    exact subA
end Go.Proofs.YtlflbkpmfhhikaaGreatDoor
