/- The reference's coordinator: late, what is said again. -/
import Derived.Test.YthoafjeampbkeaaCUD
set_option linter.unusedVariables false
set_option linter.unusedSimpArgs false
namespace Go.Proofs.Ythoafjeampbkeaa
open Go Go.Sx Go.Proofs
theorem half (n : Int) : 2 * n.tdiv 2 ≤ n + 1 ∧ n - 1 ≤ 2 * n.tdiv 2 := by
  have h1 := Int.mul_tdiv_add_tmod n 2
  have h2 := Int.tmod_lt_of_pos n (b := 2) (by omega)
  have h3 := Int.lt_tmod_of_pos n (b := 2) (by omega)
  omega
theorem half2 (n : Int) : (0 ≤ n → 2 * n.tdiv 2 ≤ n) ∧ (n ≤ 0 → n ≤ 2 * n.tdiv 2) := by
  have h1 := Int.mul_tdiv_add_tmod n 2
  refine ⟨fun h => ?_, fun h => ?_⟩
  · have := Int.tmod_nonneg 2 h
    omega
  · have h2 := Int.tmod_nonneg 2 (show 0 ≤ -n by omega)
    rw [Int.neg_tmod] at h2
    omega
theorem rLate_spec {W0 : World} {H : Heap} {b n : Int} (hb : fits b) (hn : fits n) :
    Ct Try.prog 55 #[I b, I n] W0 H [] (fun r H' B => r = .bool (decide (lateT b n)) ∧ B = [] ∧ H' = H) := by
  refine Ct.go (vs := [I b, I n]) fun R => ?_
  have e1 := half n
  have e2 := half b
  have e3 := half2 n
  have e4 := half2 b
  have hb' := hb
  have hn' := hn
  unfold fits at hb' hn'
  by_cases h : n < b
  · refine walk ?_
    refine fin0 ?_
    exact ⟨by rw [decide_eq_false (fun h2 : lateT b n => by have := h2.1; omega)], rfl, rfl⟩
  have f1 : fits (n.tdiv 2) := by unfold fits; omega
  have f2 : fits (b.tdiv 2) := by unfold fits; omega
  have h2 : (0 : Int) < 2 := by omega
  have f3 : fits (n.tdiv 2 - b.tdiv 2) := by unfold fits; omega
  have f4 : -9223372036854775808 ≤ n.tdiv 2 - b.tdiv 2 := by omega
  have f5 : n.tdiv 2 - b.tdiv 2 ≤ 9223372036854775807 := by omega
  by_cases h1 : 8 < n.tdiv 2 - b.tdiv 2
  · refine walk ?_
    refine fin0 ?_
    exact ⟨by rw [decide_eq_true (show lateT b n from ⟨by omega, by omega⟩)], rfl, rfl⟩
  · refine walk ?_
    refine fin0 ?_
    exact ⟨bdec ⟨fun h3 => ⟨by omega, h3⟩, fun h3 => h3.2⟩, rfl, rfl⟩
theorem againR_no {n : Int} {t : RTx} {j : Nat} (h : t.Heard[j]?.getD false = true) : againR n t (j + 1) = againR n t j := by rw [againR_succ, if_pos h, List.append_nil]
theorem againR_yes {n : Int} {t : RTx} {j : Nat} (h : t.Heard[j]?.getD false = false) : againR n t (j + 1) = againR n t j ++ [againI n t j] := by rw [againR_succ, if_neg (by rw [h]; decide)]
set_option maxHeartbeats 8000000 in
set_option maxRecDepth 20000 in
theorem rAgainC_spec {W0 : World} {H : Heap} {c ct : List Value} {m : Coord} {t : RTx} (h0 : rCoord H c m) (ht : rC16 H ct t) (hh : t.Heard.length = t.Parts.length) (hw : t.Open = false → t.Works.length = t.Parts.length) (hn : t.Parts.length ≤ 1000000) :
    Ct Try.prog 29 #[.agg c.toArray, .agg ct.toArray] W0 H [] (fun r H' B => B = [ownS rMessage 19 216 53 H' r (againR m.Node t t.Parts.length)] ∧ H' = H) := by
  refine Ct.go (vs := [.agg c.toArray, .agg ct.toArray]) fun R => ?_
  obtain ⟨s1, rfl, f1, f2, f3, hs1⟩ := h0
  obtain ⟨b1, c1, rfl, hc1, hd1⟩ := hs1.1.shape
  obtain ⟨nd, lf, cn, l⟩ := m
  obtain ⟨⟨x1, x2, x3⟩, op, bg, ps, wk, hd⟩ := t
  obtain ⟨u1, u2, u3, rfl, g1, g2, g3, g4, g5, g6, g7⟩ := ht
  obtain ⟨e1, d1, rfl, he1, hd1⟩ := g5.1.shape
  obtain ⟨e2, d2, rfl, he2, hd2⟩ := g6.1.shape
  obtain ⟨e3, d3, rfl, he3, hd3⟩ := g7.1.shape
  have hcap : (1000001 : Nat) * 216 ≤ cap47 := by decide
  dsimp only at f1 f2 f3 g1 g2 g3 g4 g5 g6 g7 hn he1 hh hw
  dsimp only
  have hsl : SlR rInt 1 H (.slice e1 ps.length d1) ps := g5.1
  have hsh : SlR rBool 1 H (.slice e3 hd.length d3) hd := g7.1
  have hpf : ∀ k (hk : k < ps.length), fits ps[k] := fun k hk => by
    obtain ⟨_, _, c, _, _, _, hc⟩ := hsl.get hk
    exact hc.2
  refine walk ?_
  refine ops_box rfl rfl fun p2 _ => ?_
  refine ops_box rfl rfl fun p3 _ => ?_
  refine walk ?_
  refine ex_loop (σ := Nat × Option Addr × Nat) (fun u => u.1 ≤ ps.length) (fun u => [(2, .pointer (some ⟨p2, 0, none⟩)), (3, .pointer (some ⟨p3, 0, none⟩)), (5, .slice u.2.1 (againR nd ⟨⟨x1, x2, x3⟩, op, bg, ps, wk, hd⟩ u.1).length u.2.2), (6, I u.1)]) (fun _ => H) (fun u => ownS rMessage 19 216 53 H (.slice u.2.1 (againR nd ⟨⟨x1, x2, x3⟩, op, bg, ps, wk, hd⟩ u.1).length u.2.2) (againR nd ⟨⟨x1, x2, x3⟩, op, bg, ps, wk, hd⟩ u.1) :: row p2 35 [I nd, I lf, I cn, .slice b1 l.length c1] :: row p3 98 [I x1, I x2, I x3, .bool op, I bg, .slice e1 ps.length d1, .slice e2 wk.length d2, .slice e3 hd.length d3] :: R) (fun u => ps.length - u.1) (0, none, 0) (Nat.zero_le _) (hs0 := ?_) fun ⟨j, dd, e⟩ hj0 K hL => ?_
  rotate_left
  · show Sub _ (ownS rMessage 19 216 53 H (.slice none 0 0) [] :: _)
    refine Sub.trans ?_ ownS_nil
    (repeat (first | exact Sub.refl _ | exact Sub.nil _ | (apply sub_pick; (repeat (first | exact Has.here | apply Has.there)); skip) | apply Sub.drop))
  simp only at hj0
  dsimp only
  have hal := againR_len (n := nd) (t := ⟨⟨x1, x2, x3⟩, op, bg, ps, wk, hd⟩) (k := j)
  refine walk ?_
  refine ex_if rfl (fun hk => ?_) (fun hk => ?_)
  · have hk1 : j < ps.length := by omega
    have hk2 : j < hd.length := by omega
    have hfp := hpf j hk1
    have hge : hd[j]?.getD false = hd[j] := by rw [List.getElem?_eq_getElem hk2]; rfl
    have hgp : ps[j]?.getD 0 = ps[j] := by rw [List.getElem?_eq_getElem hk1]; rfl
    refine walk ?_
    refine ex_ifb rfl Iff.rfl (fun hq => ?_) (fun hq => ?_)
    · rw [← againR_no (n := nd) (t := ⟨⟨x1, x2, x3⟩, op, bg, ps, wk, hd⟩) (j := j) (by dsimp only; rw [hge, hq])]
      refine walk ?_
      exact out_next hL (j + 1, dd, e) (by simp only; omega)
    have hs2 := againR_yes (n := nd) (t := ⟨⟨x1, x2, x3⟩, op, bg, ps, wk, hd⟩) (j := j) (by dsimp only; rw [hge]; simpa using hq)
    refine walk ?_
    refine ex_any 11 [row p2 35 [I nd, I lf, I cn, .slice b1 l.length c1], row p3 98 [I x1, I x2, I x3, .bool op, I bg, .slice e1 ps.length d1, .slice e2 wk.length d2, .slice e3 hd.length d3]] ?_
    refine stepY 0 ?_; refine stepY 1 ?_; refine stepY 2 ?_; refine stepY 3 ?_; refine stepY 4 ?_
    refine gny_el 5 6 rfl rfl rfl rfl rfl hsl hk1 ?_
    refine stepY 7 ?_; refine stepY 8 ?_; refine stepY 9 ?_
    refine gny_alloc 10 rfl rfl fun p7 _ => ?_
    refine any_rest rfl ?_
    cases op with
    | true =>
      have hI : againI nd ⟨⟨x1, x2, x3⟩, true, bg, ps, wk, hd⟩ j = decM nd ⟨x1, x2, x3⟩ ps[j] true := by unfold againI; rw [if_pos rfl, hgp]
      rw [hI] at hs2
      refine walk ?_
      refine ops_app1 (y := decM nd ⟨x1, x2, x3⟩ ps[j] true) rfl rfl rfl (decM_reads f1 hfp ⟨g1, g2, g3⟩) (by simp only [cap47] at hcap ⊢; omega) fun d9 e9 => ?_
      rw [← hs2, show (againR nd ⟨⟨x1, x2, x3⟩, true, bg, ps, wk, hd⟩ j).length + 1 = (againR nd ⟨⟨x1, x2, x3⟩, true, bg, ps, wk, hd⟩ (j + 1)).length by rw [hs2, List.length_append]; rfl]
      refine walk ?_
      exact out_next hL (j + 1, d9, e9) (by simp only; omega)
    | false =>
      have hwl := hw rfl
      have hk3 : j < wk.length := by omega
      have hgw : wk[j]?.getD zWork = wk[j] := by rw [List.getElem?_eq_getElem hk3]; rfl
      have hI : againI nd ⟨⟨x1, x2, x3⟩, false, bg, ps, wk, hd⟩ j = prepM nd ⟨x1, x2, x3⟩ ps[j] wk[j] := by unfold againI; rw [if_neg (by simp), hgp, hgw]
      rw [hI] at hs2
      refine walk ?_
      refine ex_any 15 [row p2 35 [I nd, I lf, I cn, .slice b1 l.length c1], row p3 98 [I x1, I x2, I x3, .bool false, I bg, .slice e1 ps.length d1, .slice e2 wk.length d2, .slice e3 hd.length d3]] ?_
      refine stepY 0 ?_; refine stepY 1 ?_; refine stepY 2 ?_; refine stepY 3 ?_; refine stepY 4 ?_
      refine gny_el 5 6 rfl rfl rfl rfl rfl hsl hk1 ?_
      refine stepY 7 ?_; refine stepY 8 ?_; refine stepY 9 ?_; refine stepY 10 ?_; refine stepY 11 ?_
      refine gny_ixp 12 rfl rfl rfl g6.1 hk3 fun b o cc hr hc => ?_
      generalize wk[j] = w at hr hc hs2
      obtain ⟨wr, wt, wd⟩ := w
      obtain ⟨v1, v2, rfl, q1, q2, q3⟩ := hc
      obtain ⟨a1, a2, rfl, _, _⟩ := q2.1.shape
      obtain ⟨a3, a4, rfl, _, _⟩ := q3.1.shape
      dsimp only at q1 q2 q3
      change HRow H b o [I wr, .slice a1 wt.length a2, .slice a3 wd.length a4] at hr
      refine gny_ldNH 13 rfl rfl rfl hr rfl ?_
      refine stepY 14 ?_
      refine any_rest rfl ?_
      refine walk ?_
      refine ops_app1 (y := prepM nd ⟨x1, x2, x3⟩ ps[j] ⟨wr, wt, wd⟩) rfl rfl rfl (prepM_reads f1 hfp ⟨g1, g2, g3⟩ ⟨_, _, rfl, q1, q2, q3⟩) (by simp only [cap47] at hcap ⊢; omega) fun d9 e9 => ?_
      rw [← hs2, show (againR nd ⟨⟨x1, x2, x3⟩, false, bg, ps, wk, hd⟩ j).length + 1 = (againR nd ⟨⟨x1, x2, x3⟩, false, bg, ps, wk, hd⟩ (j + 1)).length by rw [hs2, List.length_append]; rfl]
      refine walk ?_
      exact out_next hL (j + 1, d9, e9) (by simp only; omega)
  · clear hL
    obtain rfl : j = ps.length := by omega
    refine walk ?_
    refine finB [ownS rMessage 19 216 53 H (.slice dd (againR nd ⟨⟨x1, x2, x3⟩, op, bg, ps, wk, hd⟩ ps.length).length e) (againR nd ⟨⟨x1, x2, x3⟩, op, bg, ps, wk, hd⟩ ps.length)] ?_
    exact ⟨rfl, rfl⟩
end Go.Proofs.Ythoafjeampbkeaa
