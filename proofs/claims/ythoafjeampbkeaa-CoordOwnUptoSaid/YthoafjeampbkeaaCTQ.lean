/- The reference's coordinator: Less, put, At, without, no. -/
import Derived.Test.YthoafjeampbkeaaN4
import Derived.Test.YthoafjeampbkeaaN2
set_option linter.unusedVariables false
set_option linter.unusedSimpArgs false
namespace Go.Proofs.Ythoafjeampbkeaa
open Go Go.Sx Go.Proofs
theorem less_spec {W0 : World} {H : Heap} {x y : K3} :
    Ct Try.prog 46 #[.agg #[I x.1, I x.2.1, I x.2.2], .agg #[I y.1, I y.2.1, I y.2.2]] W0 H [] (fun r H' B => r = .bool (decide (ltK x y)) ∧ B = [] ∧ H' = H) := by
  refine Ct.go (vs := [.agg #[I x.1, I x.2.1, I x.2.2], .agg #[I y.1, I y.2.1, I y.2.2]]) fun R => ?_
  obtain ⟨x1, x2, x3⟩ := x
  obtain ⟨y1, y2, y3⟩ := y
  dsimp only
  refine walk ?_
  refine ops_box rfl rfl fun p1 _ => ?_
  refine ops_box rfl rfl fun p2 _ => ?_
  refine walk ?_
  refine ex_if rfl (fun h1 => ?_) (fun h1 => ?_)
  · refine walk ?_
    refine fin0 ?_
    exact ⟨bdec (by unfold ltK; simp only; omega), rfl, rfl⟩
  refine walk ?_
  refine ex_if rfl (fun h2 => ?_) (fun h2 => ?_)
  · refine walk ?_
    refine fin0 ?_
    exact ⟨bdec (by unfold ltK; simp only; omega), rfl, rfl⟩
  refine walk ?_
  refine fin0 ?_
  exact ⟨bdec (by unfold ltK; simp only; omega), rfl, rfl⟩
abbrev rC16 : Rd RTx := rConvoyref16Txn
theorem txC_ext {a b : Txn} : a = b ↔ a.Node = b.Node ∧ a.Life = b.Life ∧ a.Count = b.Count := by cases a; cases b; simp
theorem rx_tx {H : Heap} {b o : Nat} {q : RTx} {s1 s2 s3 : Value} (hr : HRow H b o (q.cv s1 s2 s3)) : HRow H b o [I q.X.Node, I q.X.Life, I q.X.Count] := HRow.take (k := 3) hr
theorem putR_split {t : RTx} : ∀ {l : List RTx} {i : Nat}, i ≤ l.length → (∀ a ∈ l.take i, ltK a.X.k t.X.k) → (∀ h : i < l.length, ¬ ltK l[i].X.k t.X.k) → putR t l = l.take i ++ t :: (if ∃ h : i < l.length, l[i].X = t.X then l.drop (i + 1) else l.drop i)
  | [], i, hi, _, _ => by
    obtain rfl : i = 0 := by simpa using hi
    simp [putR]
  | a :: l, 0, _, _, hn => by
    have := hn (by simp)
    simp only [List.getElem_cons_zero] at this
    unfold putR
    rw [if_neg this]
    by_cases he : a.X = t.X
    · simp [he]
    · simp [he]
  | a :: l, i + 1, hi, hl, hn => by
    have ih := putR_split (t := t) (l := l) (i := i) (by simpa using hi) (fun b hb => hl b (by simp [hb])) (fun h => (by have := hn (by simpa using h); simp only [List.getElem_cons_succ] at this; exact this))
    unfold putR
    rw [if_pos (hl a (by simp)), ih]
    simp
theorem putR_len {t : RTx} : ∀ {l : List RTx}, (putR t l).length ≤ l.length + 1
  | [] => by simp [putR]
  | a :: l => by
    unfold putR
    split
    · simpa using putR_len (t := t) (l := l)
    · split <;> simp
set_option maxHeartbeats 8000000 in
set_option maxRecDepth 20000 in
theorem rPutC_spec {W0 : World} {H : Heap} {v : Value} {l : List RTx} {t : RTx} {ct : List Value} (h0 : SlB rC16 8 112 H v l) (ht : rC16 H ct t) (hn : l.length ≤ 100000) :
    Ct Try.prog 28 #[v, .agg ct.toArray] W0 H [] (fun r H' B => B = [ownS rC16 8 112 98 H r (putR t l)] ∧ H' = H) := by
  refine Ct.go (vs := [v, .agg ct.toArray]) fun R => ?_
  obtain ⟨b0, c0, rfl, hc0, hd0⟩ := h0.1.shape
  have hcap : (100000 : Nat) * 240 ≤ cap47 := by decide
  have ht0 := ht
  obtain ⟨⟨x1, x2, x3⟩, op, bg, ps, wk, hd⟩ := t
  obtain ⟨s1, s2, s3, rfl, _, _, _, _, hs1, hs2, hs3⟩ := ht
  obtain ⟨b1, c1, rfl, _, _⟩ := hs1.1.shape
  obtain ⟨b2, c2, rfl, _, _⟩ := hs2.1.shape
  obtain ⟨b3, c3, rfl, _, _⟩ := hs3.1.shape
  dsimp only at ht0
  refine walk ?_
  refine ops_box rfl rfl fun p3 _ => ?_
  refine walk ?_
  refine ex_loop (σ := Nat × Option Addr × Nat) (fun u => u.1 ≤ l.length ∧ ∀ q ∈ l.take u.1, ltK q.X.k (x1, x2, x3)) (fun u => [(0, .slice b0 l.length c0), (3, .pointer (some ⟨p3, 0, none⟩)), (5, .slice u.2.1 (l.take u.1).length u.2.2), (6, I u.1)]) (fun _ => H) (fun u => ownS rC16 8 112 98 H (.slice u.2.1 (l.take u.1).length u.2.2) (l.take u.1) :: row p3 98 [I x1, I x2, I x3, .bool op, I bg, .slice b1 ps.length c1, .slice b2 wk.length c2, .slice b3 hd.length c3] :: R) (fun u => l.length - u.1) (0, none, 0) ⟨Nat.zero_le _, by simp⟩ (hs0 := ?_) fun ⟨k, dd, e⟩ ⟨hk0, hlt⟩ K hL => ?_
  rotate_left
  · simp only [List.take_zero, List.length_nil]
    refine Sub.trans ?_ ownS_nil
    (repeat (first | exact Sub.refl _ | exact Sub.nil _ | (apply sub_pick; (repeat (first | exact Has.here | apply Has.there)); skip) | apply Sub.drop))
  simp only at hk0 hlt
  dsimp only
  have hll : (l.take k).length = k := by simp; omega
  by_cases hk1 : k < l.length
  · have hkk : ((k : Int) < (l.length : Int)) := by omega
    have htk := List.take_succ_eq_append_getElem hk1
    refine walk ?_
    refine ex_any 14 [row p3 98 [I x1, I x2, I x3, .bool op, I bg, .slice b1 ps.length c1, .slice b2 wk.length c2, .slice b3 hd.length c3]] ?_
    refine stepY 0 ?_; refine stepY 1 ?_; refine stepY 2 ?_; refine stepY 3 ?_; refine stepY 4 ?_; refine stepY 5 ?_; refine stepY 6 ?_
    refine gny_ixp 7 rfl rfl rfl h0.1 hk1 fun b o cc hr hc => ?_
    obtain ⟨u1, u2, u3, rfl, hc⟩ := hc
    have hrt := rx_tx hr
    obtain ⟨ya, yb, yc, hy⟩ : ∃ ya yb yc, l[k].X = ⟨ya, yb, yc⟩ := ⟨_, _, _, rfl⟩
    rw [hy] at hrt
    refine stepY 8 ?_
    refine gny_ldNH 9 rfl rfl rfl hrt rfl ?_
    refine stepY 10 ?_; refine stepY 11 ?_
    refine gny_pcall 12 rfl rfl rfl (less_spec (x := (ya, yb, yc)) (y := (x1, x2, x3))) ?_
    refine stepY 13 ?_
    refine any_rest rfl ?_
    have hyk : l[k].X.k = (ya, yb, yc) := by rw [hy]; rfl
    refine walk ?_
    refine ex_if rfl (fun hq => ?_) (fun hq => ?_)
    · have hse : l.take k ++ [l[k]] = l.take (k + 1) := htk.symm
      have hsl2 : (l.take k).length + 1 = (l.take (k + 1)).length := by rw [List.length_take, List.length_take]; omega
      refine walk ?_
      refine ops_ixp rfl rfl h0.1 hk1 fun b' o' cc' hr' hc' => ?_
      have hcc := hc'
      obtain ⟨v1, v2, v3, rfl, _, _, _, _, hv1, hv2, hv3⟩ := hc'
      refine walk ?_
      refine ops_ldNH rfl rfl hr' rfl ?_
      refine ops_app1 (y := l[k]) rfl rfl rfl hcc (by rw [hll]; simp only [cap47] at hcap ⊢; omega) fun d3 e3 => ?_
      rw [hsl2, hse]
      refine walk ?_
      refine out_next hL (k + 1, d3, e3) ⟨by simp only; omega, fun q hm => ?_⟩
      rw [htk, List.mem_append, List.mem_singleton] at hm
      rcases hm with hm | rfl
      · exact hlt q hm
      · rw [hyk]; exact hq
    · have hsp := putR_split (t := ⟨⟨x1, x2, x3⟩, op, bg, ps, wk, hd⟩) hk0 hlt (fun h => by rw [hyk]; exact hq)
      clear hL
      refine walk ?_
      refine ops_app1 (y := (⟨⟨x1, x2, x3⟩, op, bg, ps, wk, hd⟩ : RTx)) rfl rfl rfl ht0 (by rw [hll]; simp only [cap47] at hcap ⊢; omega) fun d3 e3 => ?_
      refine walk ?_
      refine ops_ixp rfl rfl h0.1 hk1 fun b' o' cc' hr' hc' => ?_
      obtain ⟨v1, v2, v3, rfl, _⟩ := hc'
      have hrt' := rx_tx hr'
      rw [hy] at hrt'
      change HRow H b' o' [I ya, I yb, I yc] at hrt'
      refine walk ?_
      refine ops_ldNH rfl rfl hrt' rfl ?_
      refine walk ?_
      refine ex_if rfl (fun hq2 => ?_) (fun hq2 => ?_)
      · have hx : l[k].X = ⟨x1, x2, x3⟩ := hy.trans (by first | exact hq2 | exact txC_ext.2 hq2)
        rw [if_pos ⟨hk1, hx⟩] at hsp
        refine walk ?_
        have hkc : ((k : Int) + 1) = ((k + 1 : Nat) : Int) := by omega
        rw [hkc]
        refine walk ?_
        refine ops_pure rfl rfl (op_slice (l := ((k + 1 : Nat) : Int)) (h := (l.length : Int)) rfl rfl rfl (by omega) (by omega) (by omega)) ?_
        have hsd := h0.1.slc (l := k + 1) (h := l.length) (by omega) (Nat.le_refl _)
        rw [List.take_of_length_le (by rw [List.length_drop]; omega)] at hsd
        rw [Int.toNat_natCast, Int.toNat_natCast]
        have hl4 : (l.take k ++ [(⟨⟨x1, x2, x3⟩, op, bg, ps, wk, hd⟩ : RTx)]).length = k + 1 := by rw [List.length_append, hll]; rfl
        have hl5 : (l.drop (k + 1)).length = l.length - (k + 1) := List.length_drop
        rw [show (l.take k).length + 1 = (l.take k ++ [(⟨⟨x1, x2, x3⟩, op, bg, ps, wk, hd⟩ : RTx)]).length by rw [hl4, hll]]
        refine ops_appS rfl rfl hsd (by rw [hl4, hl5]; simp only [cap47] at hcap ⊢; omega) fun d4 e4 => ?_
        rw [← List.length_append]
        have hfin : l.take k ++ [(⟨⟨x1, x2, x3⟩, op, bg, ps, wk, hd⟩ : RTx)] ++ l.drop (k + 1) = putR ⟨⟨x1, x2, x3⟩, op, bg, ps, wk, hd⟩ l := by rw [hsp, List.append_assoc]; rfl
        rw [hfin]
        refine walk ?_
        refine finB [ownS rC16 8 112 98 H (.slice d4 (putR ⟨⟨x1, x2, x3⟩, op, bg, ps, wk, hd⟩ l).length e4) (putR ⟨⟨x1, x2, x3⟩, op, bg, ps, wk, hd⟩ l)] ?_
        exact ⟨rfl, rfl⟩
      · have hx : ¬ ∃ h : k < l.length, l[k].X = ⟨x1, x2, x3⟩ := fun ⟨_, h⟩ => hq2 (by first | exact hy.symm.trans h | exact txC_ext.1 (hy.symm.trans h))
        rw [if_neg hx] at hsp
        refine walk ?_
        refine ops_pure rfl rfl (op_slice (l := ((k : Nat) : Int)) (h := (l.length : Int)) rfl rfl rfl (by omega) (by omega) (by omega)) ?_
        have hsd := h0.1.slc (l := k) (h := l.length) (by omega) (Nat.le_refl _)
        rw [List.take_of_length_le (by rw [List.length_drop]; omega)] at hsd
        rw [Int.toNat_natCast, Int.toNat_natCast]
        have hl4 : (l.take k ++ [(⟨⟨x1, x2, x3⟩, op, bg, ps, wk, hd⟩ : RTx)]).length = k + 1 := by rw [List.length_append, hll]; rfl
        have hl5 : (l.drop (k)).length = l.length - (k) := List.length_drop
        rw [show (l.take k).length + 1 = (l.take k ++ [(⟨⟨x1, x2, x3⟩, op, bg, ps, wk, hd⟩ : RTx)]).length by rw [hl4, hll]]
        refine ops_appS rfl rfl hsd (by rw [hl4, hl5]; simp only [cap47] at hcap ⊢; omega) fun d4 e4 => ?_
        rw [← List.length_append]
        have hfin : l.take k ++ [(⟨⟨x1, x2, x3⟩, op, bg, ps, wk, hd⟩ : RTx)] ++ l.drop (k) = putR ⟨⟨x1, x2, x3⟩, op, bg, ps, wk, hd⟩ l := by rw [hsp, List.append_assoc]; rfl
        rw [hfin]
        refine walk ?_
        refine finB [ownS rC16 8 112 98 H (.slice d4 (putR ⟨⟨x1, x2, x3⟩, op, bg, ps, wk, hd⟩ l).length e4) (putR ⟨⟨x1, x2, x3⟩, op, bg, ps, wk, hd⟩ l)] ?_
        exact ⟨rfl, rfl⟩
  · have hkk : ¬ ((k : Int) < (l.length : Int)) := by omega
    have hsp := putR_split (t := ⟨⟨x1, x2, x3⟩, op, bg, ps, wk, hd⟩) hk0 hlt (fun h => absurd h hk1)
    rw [if_neg (fun h => hk1 h.1)] at hsp
    clear hL
    refine walk ?_
    refine ex_any 14 [row p3 98 [I x1, I x2, I x3, .bool op, I bg, .slice b1 ps.length c1, .slice b2 wk.length c2, .slice b3 hd.length c3]] ?_
    refine stepY 0 ?_; refine stepY 1 ?_; refine stepY 2 ?_; refine stepY 3 ?_; refine stepY 4 ?_
    refine gny_skip 5 rfl rfl ?_; refine gny_skip 6 rfl rfl ?_; refine gny_skip 7 rfl rfl ?_; refine gny_skip 8 rfl rfl ?_; refine gny_skip 9 rfl rfl ?_; refine gny_skip 10 rfl rfl ?_; refine gny_skip 11 rfl rfl ?_; refine gny_skip 12 rfl rfl ?_
    refine stepY 13 ?_
    refine any_rest rfl ?_
    refine walk ?_
    refine ops_app1 (y := (⟨⟨x1, x2, x3⟩, op, bg, ps, wk, hd⟩ : RTx)) rfl rfl rfl ht0 (by rw [hll]; simp only [cap47] at hcap ⊢; omega) fun d3 e3 => ?_
    refine walk ?_
    refine walk ?_
    refine ops_pure rfl rfl (op_slice (l := ((k : Nat) : Int)) (h := (l.length : Int)) rfl rfl rfl (by omega) (by omega) (by omega)) ?_
    have hsd := h0.1.slc (l := k) (h := l.length) (by omega) (Nat.le_refl _)
    rw [List.take_of_length_le (by rw [List.length_drop]; omega)] at hsd
    rw [Int.toNat_natCast, Int.toNat_natCast]
    have hl4 : (l.take k ++ [(⟨⟨x1, x2, x3⟩, op, bg, ps, wk, hd⟩ : RTx)]).length = k + 1 := by rw [List.length_append, hll]; rfl
    have hl5 : (l.drop (k)).length = l.length - (k) := List.length_drop
    rw [show (l.take k).length + 1 = (l.take k ++ [(⟨⟨x1, x2, x3⟩, op, bg, ps, wk, hd⟩ : RTx)]).length by rw [hl4, hll]]
    refine ops_appS rfl rfl hsd (by rw [hl4, hl5]; simp only [cap47] at hcap ⊢; omega) fun d4 e4 => ?_
    rw [← List.length_append]
    have hfin : l.take k ++ [(⟨⟨x1, x2, x3⟩, op, bg, ps, wk, hd⟩ : RTx)] ++ l.drop (k) = putR ⟨⟨x1, x2, x3⟩, op, bg, ps, wk, hd⟩ l := by rw [hsp, List.append_assoc]; rfl
    rw [hfin]
    refine walk ?_
    refine finB [ownS rC16 8 112 98 H (.slice d4 (putR ⟨⟨x1, x2, x3⟩, op, bg, ps, wk, hd⟩ l).length e4) (putR ⟨⟨x1, x2, x3⟩, op, bg, ps, wk, hd⟩ l)] ?_
    exact ⟨rfl, rfl⟩
set_option maxHeartbeats 4000000 in
theorem rAtC_spec {W0 : World} {H : Heap} {c : List Value} {m : Coord} {x : Txn} (h0 : rCoord H c m) :
    Ct Try.prog 37 #[.agg c.toArray, .agg x.cv.toArray] W0 H [] (fun r H' B => ((r = I (-1) ∧ ∀ t ∈ m.Txns, t.X ≠ x) ∨ ∃ j : Nat, ∃ h : j < m.Txns.length, r = I j ∧ m.Txns[j].X = x) ∧ B = [] ∧ H' = H) := by
  refine Ct.go (vs := [.agg c.toArray, .agg x.cv.toArray]) fun R => ?_
  obtain ⟨s1, rfl, f1, f2, f3, hs1⟩ := h0
  obtain ⟨b1, c1, rfl, hc1, hd1⟩ := hs1.1.shape
  obtain ⟨nd, lf, ct, l⟩ := m
  obtain ⟨x1, x2, x3⟩ := x
  dsimp only at hs1 hc1
  dsimp only
  refine walk ?_
  refine ops_box rfl rfl fun p2 _ => ?_
  refine ops_box rfl rfl fun p3 _ => ?_
  refine walk ?_
  refine ex_loop (σ := Nat) (fun j => j ≤ l.length ∧ ∀ q ∈ l.take j, q.X ≠ ⟨x1, x2, x3⟩) (fun j => [(2, .pointer (some ⟨p2, 0, none⟩)), (3, .pointer (some ⟨p3, 0, none⟩)), (5, I j)]) (fun _ => H) (fun _ => row p2 35 [I nd, I lf, I ct, .slice b1 l.length c1] :: row p3 28 [I x1, I x2, I x3] :: R) (fun j => l.length - j) 0 ⟨Nat.zero_le _, by simp⟩ fun j ⟨hj0, hj⟩ K hL => ?_
  refine walk ?_
  refine ex_if rfl (fun hk => ?_) (fun hk => ?_)
  · have hk1 : j < l.length := by omega
    have ht := List.take_succ_eq_append_getElem hk1
    refine walk ?_
    refine ops_ixp rfl rfl hs1.1 hk1 fun b o cc hr hc => ?_
    obtain ⟨u1, u2, u3, rfl, hc⟩ := hc
    have hrt := rx_tx hr
    obtain ⟨ya, yb, yc, hy⟩ : ∃ ya yb yc, l[j].X = ⟨ya, yb, yc⟩ := ⟨_, _, _, rfl⟩
    rw [hy] at hrt
    change HRow H b o [I ya, I yb, I yc] at hrt
    refine walk ?_
    refine ops_ldNH rfl rfl hrt rfl ?_
    refine walk ?_
    refine ex_if rfl (fun hq => ?_) (fun hq => ?_)
    · refine walk ?_
      refine fin0 ?_
      exact ⟨.inr ⟨j, hk1, rfl, hy.trans (txC_ext.2 hq)⟩, rfl, rfl⟩
    · refine walk ?_
      refine out_next hL (j + 1) ⟨by omega, fun q hm => ?_⟩
      rw [ht, List.mem_append, List.mem_singleton] at hm
      rcases hm with hm | rfl
      · exact hj q hm
      · rw [hy]
        exact fun h => hq (txC_ext.1 h)
  · clear hL
    obtain rfl : j = l.length := by omega
    rw [List.take_length] at hj
    refine walk ?_
    refine fin0 ?_
    exact ⟨.inl ⟨rfl, hj⟩, rfl, rfl⟩
theorem cutR_snoc {x : Txn} {l : List RTx} {t : RTx} : cutR x (l ++ [t]) = if t.X = x then cutR x l else cutR x l ++ [t] := by
  unfold cutR
  rw [List.filter_append]
  by_cases h : t.X = x <;> simp [h]
theorem cutR_len {x : Txn} {l : List RTx} : (cutR x l).length ≤ l.length := List.length_filter_le _ _
set_option maxHeartbeats 4000000 in
set_option maxRecDepth 20000 in
theorem rWithout_spec {W0 : World} {H : Heap} {c : List Value} {m : Coord} {x : Txn} (h0 : rCoord H c m) (hn : m.Txns.length ≤ 100000) :
    Ct Try.prog 57 #[.agg c.toArray, .agg x.cv.toArray] W0 H [] (fun r H' B => ∃ c', r = .agg c'.toArray ∧ rCoord H' c' { m with Txns := cutR x m.Txns } ∧ B = []) := by
  refine Ct.go (vs := [.agg c.toArray, .agg x.cv.toArray]) fun R => ?_
  obtain ⟨s1, rfl, f1, f2, f3, hs1⟩ := h0
  obtain ⟨b1, c1, rfl, hc1, hd1⟩ := hs1.1.shape
  obtain ⟨nd, lf, ct, l⟩ := m
  obtain ⟨x1, x2, x3⟩ := x
  have hcap : (100000 : Nat) * 240 ≤ cap47 := by decide
  dsimp only at hs1 hc1 hn f1 f2 f3
  dsimp only
  refine walk ?_
  refine ops_box rfl rfl fun p2 _ => ?_
  refine ops_box rfl rfl fun p3 _ => ?_
  refine ops_alloc rfl fun p4 _ => ?_
  refine walk ?_
  refine ex_loop (σ := Nat × Option Addr × Nat) (fun u => u.1 ≤ l.length) (fun u => [(2, .pointer (some ⟨p2, 0, none⟩)), (3, .pointer (some ⟨p3, 0, none⟩)), (4, .pointer (some ⟨p4, 0, none⟩)), (5, .slice u.2.1 (cutR ⟨x1, x2, x3⟩ (l.take u.1)).length u.2.2), (6, I u.1)]) (fun _ => H) (fun u => ownS rC16 8 112 98 H (.slice u.2.1 (cutR ⟨x1, x2, x3⟩ (l.take u.1)).length u.2.2) (cutR ⟨x1, x2, x3⟩ (l.take u.1)) :: row p2 35 [I nd, I lf, I ct, .slice b1 l.length c1] :: row p3 28 [I x1, I x2, I x3] :: row p4 35 [I 0, I 0, I 0, nilS] :: R) (fun u => l.length - u.1) (0, none, 0) (Nat.zero_le _) (hs0 := ?_) fun ⟨j, dd, e⟩ hj0 K hL => ?_
  rotate_left
  · show Sub _ (ownS rC16 8 112 98 H (.slice none 0 0) [] :: _)
    refine Sub.trans ?_ ownS_nil
    (repeat (first | exact Sub.refl _ | exact Sub.nil _ | (apply sub_pick; (repeat (first | exact Has.here | apply Has.there)); skip) | apply Sub.drop))
  simp only at hj0
  dsimp only
  refine walk ?_
  refine ex_if rfl (fun hk => ?_) (fun hk => ?_)
  · have hk1 : j < l.length := by omega
    have ht := List.take_succ_eq_append_getElem hk1
    have hsn := cutR_snoc (x := ⟨x1, x2, x3⟩) (l := l.take j) (t := l[j])
    rw [← ht] at hsn
    have hcl := cutR_len (x := ⟨x1, x2, x3⟩) (l := l.take j)
    refine walk ?_
    refine ops_ixp rfl rfl hs1.1 hk1 fun b o cc hr hc => ?_
    obtain ⟨u1, u2, u3, rfl, hc⟩ := hc
    have hrt := rx_tx hr
    obtain ⟨ya, yb, yc, hy⟩ : ∃ ya yb yc, l[j].X = ⟨ya, yb, yc⟩ := ⟨_, _, _, rfl⟩
    rw [hy] at hrt
    change HRow H b o [I ya, I yb, I yc] at hrt
    refine walk ?_
    refine ops_ldNH rfl rfl hrt rfl ?_
    refine walk ?_
    refine ex_if rfl (fun hq => ?_) (fun hq => ?_)
    · have hx : ¬ l[j].X = ⟨x1, x2, x3⟩ := fun h => hq (txC_ext.1 (hy.symm.trans h))
      rw [if_neg hx] at hsn
      refine walk ?_
      refine ops_ixp rfl rfl hs1.1 hk1 fun b' o' cc' hr' hc' => ?_
      have hcc := hc'
      obtain ⟨v1, v2, v3, rfl, _⟩ := hc'
      refine walk ?_
      refine ops_ldNH rfl rfl hr' rfl ?_
      refine ops_app1 (y := l[j]) rfl rfl rfl hcc (by rw [List.length_take] at hcl; simp only [cap47] at hcap ⊢; omega) fun d3 e3 => ?_
      rw [← hsn, show (cutR ⟨x1, x2, x3⟩ (l.take j)).length + 1 = (cutR ⟨x1, x2, x3⟩ (l.take (j + 1))).length by rw [hsn, List.length_append]; rfl]
      refine walk ?_
      exact out_next hL (j + 1, d3, e3) (by simp only; omega)
    · have hx : l[j].X = ⟨x1, x2, x3⟩ := hy.trans (txC_ext.2 (Classical.not_not.1 hq))
      rw [if_pos hx] at hsn
      rw [← hsn]
      refine walk ?_
      exact out_next hL (j + 1, dd, e) (by simp only; omega)
  · clear hL
    obtain rfl : j = l.length := by omega
    rw [List.take_length]
    refine walk ?_
    refine out_freeze (.slice dd (cutR ⟨x1, x2, x3⟩ l).length e) fun H2 hl2 hsl => ?_
    refine fin0 ?_
    exact ⟨_, rfl, ⟨_, rfl, f1, f2, f3, hsl⟩, rfl⟩
end Go.Proofs.Ythoafjeampbkeaa
