/- Records held against each other by the reference. -/
import Derived.Test.YthoafjeampbkeaaN4
set_option linter.unusedVariables false
set_option linter.unusedSimpArgs false
namespace Go.Proofs.Ythoafjeampbkeaa
open Go Go.Sx Go.Proofs
theorem ints_spec {W0 : World} {H : Heap} {v0 v1 : Value} {xs ys : List Int} (h0 : SlR rInt 1 H v0 xs) (h1 : SlR rInt 1 H v1 ys) :
    Ct Try.prog 54 #[v0, v1] W0 H [] (fun r H' B => r = .bool (decide (xs = ys)) ∧ B = [] ∧ H' = H) := by
  refine Ct.go fun R => ?_
  obtain ⟨b0, c0, rfl, hc0, hd0⟩ := h0.shape
  obtain ⟨b1, c1, rfl, hc1, hd1⟩ := h1.shape
  refine walk ?_
  refine ex_if rfl (fun h => ?_) (fun h => ?_)
  · refine walk ?_
    refine fin0 ?_
    exact ⟨by simp; rintro rfl; exact h rfl, rfl, rfl⟩
  refine walk ?_
  refine ex_loop (fun k => k ≤ xs.length ∧ xs.take k = ys.take k) (fun k => [(0, .slice b0 xs.length c0), (1, .slice b1 ys.length c1), (12, I xs.length), (13, I k)]) (fun _ => H) (fun _ => R) (fun k => xs.length - k) 0 ⟨Nat.zero_le _, rfl⟩ fun k ⟨hk0, ht⟩ K hL => ?_
  refine walk ?_
  refine ex_if rfl (fun hk => ?_) (fun hk => ?_)
  · refine walk ?_
    refine ex_if rfl (fun hq => ?_) (fun hq => ?_)
    · refine walk ?_
      refine fin0 ?_
      exact ⟨by simp; rintro rfl; exact hq rfl, rfl, rfl⟩
    · refine walk ?_
      refine out_next hL (k + 1) ⟨by omega, ?_⟩
      simp at hq
      rw [List.take_succ_eq_append_getElem (by omega), List.take_succ_eq_append_getElem (by omega), ht, hq]
  · refine walk ?_
    refine fin0 ?_
    obtain rfl : k = xs.length := by omega
    exact ⟨by rw [List.take_length] at ht; simp; rw [ht]; exact List.take_of_length_le (by omega), rfl, rfl⟩
theorem texts_spec {W0 : World} {H : Heap} {v0 v1 : Value} {xs ys : List ByteArray} (h0 : SlR rStr 1 H v0 xs) (h1 : SlR rStr 1 H v1 ys) :
    Ct Try.prog 59 #[v0, v1] W0 H [] (fun r H' B => r = .bool (decide (xs = ys)) ∧ B = [] ∧ H' = H) := by
  refine Ct.go fun R => ?_
  obtain ⟨b0, c0, rfl, hc0, hd0⟩ := h0.shape
  obtain ⟨b1, c1, rfl, hc1, hd1⟩ := h1.shape
  refine walk ?_
  refine ex_if rfl (fun h => ?_) (fun h => ?_)
  · refine walk ?_
    refine fin0 ?_
    exact ⟨by rw [decide_eq_false (p := xs = ys) (by rintro rfl; exact h rfl)], rfl, rfl⟩
  refine walk ?_
  refine ex_loop (fun k => k ≤ xs.length ∧ xs.take k = ys.take k) (fun k => [(0, .slice b0 xs.length c0), (1, .slice b1 ys.length c1), (12, I xs.length), (13, I k)]) (fun _ => H) (fun _ => R) (fun k => xs.length - k) 0 ⟨Nat.zero_le _, rfl⟩ fun k ⟨hk0, ht⟩ K hL => ?_
  refine walk ?_
  refine ex_if rfl (fun hk => ?_) (fun hk => ?_)
  · refine walk ?_
    refine ex_if rfl (fun hq => ?_) (fun hq => ?_)
    · refine walk ?_
      refine fin0 ?_
      exact ⟨by rw [decide_eq_false (p := xs = ys) (by rintro rfl; exact hq rfl)], rfl, rfl⟩
    · refine walk ?_
      refine out_next hL (k + 1) ⟨by omega, ?_⟩
      simp at hq
      rw [List.take_succ_eq_append_getElem (by omega), List.take_succ_eq_append_getElem (by omega), ht, hq]
  · refine walk ?_
    refine fin0 ?_
    obtain rfl : k = xs.length := by omega
    exact ⟨by rw [List.take_length] at ht; rw [decide_eq_true (p := xs = ys) (by rw [ht]; exact List.take_of_length_le (by omega))], rfl, rfl⟩
set_option maxHeartbeats 8000000 in
theorem sameWork_spec {W0 : World} {H : Heap} {c d : List Value} {x y : Work} (h0 : rWork H c x) (h1 : rWork H d y) :
    Ct Try.prog 47 #[.agg c.toArray, .agg d.toArray] W0 H [] (fun r H' B => r = .bool (decide (x = y)) ∧ B = [] ∧ H' = H) := by
  refine Ct.go fun R => ?_
  obtain ⟨xr, xt, xd⟩ := x
  obtain ⟨yr, yt, yd⟩ := y
  obtain ⟨s1, s2, rfl, f1, h0, h0'⟩ := h0
  obtain ⟨t1, t2, rfl, f2, h1, h1'⟩ := h1
  dsimp only at *
  refine walk ?_
  refine ops_box rfl rfl fun p0 _ => ?_
  refine ops_box rfl rfl fun p1 _ => ?_
  by_cases e1 : xr = yr
  · refine walk ?_
    refine ops_call rfl rfl (texts_spec h0.1 h1.1) fun r H' B hl ⟨e, eB, eH⟩ => ?_
    subst e eB eH
    refine walk ?_
    refine ops_case (fun e2 => ?_) (fun e2 => ?_)
    · refine walk ?_
      refine ops_call rfl rfl (texts_spec h0'.1 h1'.1) fun r H' B hl ⟨e, eB, eH⟩ => ?_
      subst e eB eH
      refine walk ?_
      refine fin0 ?_
      exact ⟨by simp [e1, e2], rfl, rfl⟩
    · refine walk ?_
      refine fin0 ?_
      exact ⟨by simp [e2], rfl, rfl⟩
  · refine walk ?_
    refine fin0 ?_
    exact ⟨by simp [e1], rfl, rfl⟩
theorem rec_txn {H : Heap} {b o : Nat} {q : Rec} {s1 s2 s3 : Value} (hr : HRow H b o (q.cv s1 s2 s3)) : HRow H b (o + 1) [I q.Txn.Node, I q.Txn.Life, I q.Txn.Count] := HRow.take (k := 3) (HRow.drop (k := 1) hr)
theorem rec_work {H : Heap} {b o : Nat} {q : Rec} {s1 s2 s3 : Value} (hr : HRow H b o (q.cv s1 s2 s3)) : HRow H b (o + 4) [I q.Work.Robot, s1, s2] := HRow.take (k := 3) (HRow.drop (k := 4) hr)
set_option maxHeartbeats 16000000 in
set_option maxRecDepth 20000 in
theorem sameRecs_spec {W0 : World} {H : Heap} {v0 v1 : Value} {l : List Rec} (h0 : SlR rRec 9 H v0 l) (h1 : SlR rRec 9 H v1 l) :
    Ct Try.prog 38 #[v0, v1] W0 H [] (fun r H' B => r = .bool true ∧ B = [] ∧ H' = H) := by
  refine Ct.go (vs := [v0, v1]) fun R => ?_
  obtain ⟨b0, c0, rfl, hc0, hd0⟩ := h0.shape
  obtain ⟨b1, c1, rfl, hc1, hd1⟩ := h1.shape
  refine walk ?_
  refine ex_loop (σ := Nat) (fun k => k ≤ l.length) (fun k => [(0, .slice b0 l.length c0), (1, .slice b1 l.length c1), (12, I l.length), (13, I k)]) (fun _ => H) (fun _ => R) (fun k => l.length - k) 0 (Nat.zero_le _) fun k hk0 K hL => ?_
  refine walk ?_
  refine ex_if rfl (fun hk => ?_) (fun hk => ?_)
  · have hk1 : k < l.length := by omega
    obtain ⟨q, hq⟩ : ∃ q, l[k] = q := ⟨_, rfl⟩
    refine walk ?_
    refine ex_any 65 [] ?_
    refine stepY 0 ?_; refine stepY 1 ?_
    refine gny_ixp 2 rfl rfl rfl h0 hk1 fun ba oa ca ra ea => ?_
    obtain ⟨ua, va, wa', rfl, fa⟩ := ea
    rw [hq] at ra fa
    refine stepY 3 ?_
    refine gny_ldHo 4 0 rfl rfl ra rfl rfl ?_
    refine stepY 5 ?_; refine stepY 6 ?_
    refine gny_ixp 7 rfl rfl rfl h1 hk1 fun bb ob cb rb eb => ?_
    obtain ⟨ub, vb, wb', rfl, fb⟩ := eb
    rw [hq] at rb fb
    refine stepY 8 ?_
    refine gny_ldHo 9 0 rfl rfl rb rfl rfl ?_
    refine stepY 10 ?_
    refine stepY 11 ?_; refine stepY 12 ?_; refine stepY 13 ?_
    refine gny_ixp 14 rfl rfl rfl h0 hk1 fun ba2 oa2 ca2 ra2 ea2 => ?_
    obtain ⟨ua2, va2, wa2, rfl, fa2⟩ := ea2
    rw [hq] at ra2 fa2
    refine stepY 15 ?_
    refine gny_ldNH 16 rfl rfl rfl (rec_txn ra2) rfl ?_
    refine stepY 17 ?_; refine stepY 18 ?_
    refine gny_ixp 19 rfl rfl rfl h1 hk1 fun bb2 ob2 cb2 rb2 eb2 => ?_
    obtain ⟨ub2, vb2, wb2, rfl, fb2⟩ := eb2
    rw [hq] at rb2 fb2
    refine stepY 20 ?_
    refine gny_ldNH 21 rfl rfl rfl (rec_txn rb2) rfl ?_
    refine stepY 22 ?_
    refine stepY 23 ?_; refine stepY 24 ?_; refine stepY 25 ?_; refine stepY 26 ?_
    refine gny_ixp 27 rfl rfl rfl h0 hk1 fun ba3 oa3 ca3 ra3 ea3 => ?_
    obtain ⟨ua3, va3, wa3, rfl, fa3⟩ := ea3
    rw [hq] at ra3 fa3
    refine stepY 28 ?_
    refine gny_ldHo 29 7 rfl rfl ra3 rfl rfl ?_
    refine stepY 30 ?_; refine stepY 31 ?_
    refine gny_ixp 32 rfl rfl rfl h1 hk1 fun bb3 ob3 cb3 rb3 eb3 => ?_
    obtain ⟨ub3, vb3, wb3, rfl, fb3⟩ := eb3
    rw [hq] at rb3 fb3
    refine stepY 33 ?_
    refine gny_ldHo 34 7 rfl rfl rb3 rfl rfl ?_
    have hyy : ¬ ¬ q.Yes = q.Yes := fun h => h rfl
    refine stepY 35 ?_; refine stepY 36 ?_; refine stepY 37 ?_; refine stepY 38 ?_; refine stepY 39 ?_
    refine gny_ixp 40 rfl rfl rfl h0 hk1 fun ba4 oa4 ca4 ra4 ea4 => ?_
    obtain ⟨ua4, va4, wa4, rfl, _, _, _, _, fa4, fa5, fa6, _⟩ := ea4
    rw [hq] at ra4 fa4 fa5 fa6
    refine stepY 41 ?_
    refine gny_ldNH 42 rfl rfl rfl (rec_work ra4) rfl ?_
    refine stepY 43 ?_; refine stepY 44 ?_
    refine gny_ixp 45 rfl rfl rfl h1 hk1 fun bb4 ob4 cb4 rb4 eb4 => ?_
    obtain ⟨ub4, vb4, wb4, rfl, _, _, _, _, fb4, fb5, fb6, _⟩ := eb4
    rw [hq] at rb4 fb4 fb5 fb6
    refine stepY 46 ?_
    refine gny_ldNH 47 rfl rfl rfl (rec_work rb4) rfl ?_
    refine gny_pcall 48 rfl rfl rfl (sameWork_spec (x := q.Work) (y := q.Work) (c := [I q.Work.Robot, ua4, va4]) (d := [I q.Work.Robot, ub4, vb4]) ⟨_, _, rfl, fa4, fa5, fa6⟩ ⟨_, _, rfl, fb4, fb5, fb6⟩) ?_
    rw [decide_eq_true (p := q.Work = q.Work) rfl]
    refine stepY 49 ?_; refine stepY 50 ?_; refine stepY 51 ?_; refine stepY 52 ?_; refine stepY 53 ?_
    refine gny_ixp 54 rfl rfl rfl h0 hk1 fun ba5 oa5 ca5 ra5 ea5 => ?_
    obtain ⟨ua5, va5, wa5, rfl, _, _, _, _, _, _, _, ga5⟩ := ea5
    rw [hq] at ra5 ga5
    refine stepY 55 ?_
    refine gny_ldHo 56 8 rfl rfl ra5 rfl rfl ?_
    refine stepY 57 ?_; refine stepY 58 ?_
    refine gny_ixp 59 rfl rfl rfl h1 hk1 fun bb5 ob5 cb5 rb5 eb5 => ?_
    obtain ⟨ub5, vb5, wb5, rfl, _, _, _, _, _, _, _, gb5⟩ := eb5
    rw [hq] at rb5 gb5
    refine stepY 60 ?_
    refine gny_ldHo 61 8 rfl rfl rb5 rfl rfl ?_
    refine gny_pcall 62 rfl rfl rfl (ints_spec ga5.1 gb5.1) ?_
    rw [decide_eq_true (p := q.Parts = q.Parts) rfl]
    refine stepY 63 ?_; refine stepY 64 ?_
    refine any_rest rfl ?_
    refine walk ?_
    exact out_next hL (k + 1) (by omega)
  · refine walk ?_
    refine fin0 ?_
    exact ⟨rfl, rfl, rfl⟩
end Go.Proofs.Ythoafjeampbkeaa
