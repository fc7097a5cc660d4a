/- The reference's coordinator: what is said again, a decision against, late. -/
import Derived.Test.YthoafjeampbkeaaCTQ
set_option linter.unusedVariables false
set_option linter.unusedSimpArgs false
namespace Go.Proofs.Ythoafjeampbkeaa
open Go Go.Sx Go.Proofs
theorem noR_snoc {n : Int} {t : RTx} {j : Nat} (hj : j < t.Parts.length) : (t.Parts.take (j + 1)).map (fun p => decM n t.X p false) = (t.Parts.take j).map (fun p => decM n t.X p false) ++ [decM n t.X t.Parts[j] false] := by
  rw [List.take_succ_eq_append_getElem hj, List.map_append]; rfl
theorem againR_len {n : Int} {t : RTx} {k : Nat} : (againR n t k).length ≤ k := by
  unfold againR
  rw [List.length_map]
  exact Nat.le_trans (List.length_filter_le _ _) (by simp)
set_option maxHeartbeats 8000000 in
set_option maxRecDepth 20000 in
theorem rNo_spec {W0 : World} {H : Heap} {c ct : List Value} {m : Coord} {t : RTx} (h0 : rCoord H c m) (ht : rC16 H ct t) (hn : t.Parts.length ≤ 1000000) :
    Ct Try.prog 56 #[.agg c.toArray, .agg ct.toArray] W0 H [] (fun r H' B => B = [ownS rMessage 19 216 53 H' r (noR m.Node t)] ∧ H' = H) := by
  refine Ct.go (vs := [.agg c.toArray, .agg ct.toArray]) fun R => ?_
  obtain ⟨s1, rfl, f1, f2, f3, hs1⟩ := h0
  obtain ⟨b1, c1, rfl, hc1, hd1⟩ := hs1.1.shape
  obtain ⟨nd, lf, cn, l⟩ := m
  obtain ⟨⟨x1, x2, x3⟩, op, bg, ps, wk, hd⟩ := t
  obtain ⟨u1, u2, u3, rfl, g1, g2, g3, g4, g5, g6, g7⟩ := ht
  obtain ⟨e1, d1, rfl, he1, hd1⟩ := g5.1.shape
  obtain ⟨e2, d2, rfl, he2, hd2⟩ := g6.1.shape
  obtain ⟨e3, d3, rfl, he3, hd3⟩ := g7.1.shape
  have hcap : (1000001 : Nat) * 216 ≤ cap47 := by decide
  dsimp only at f1 f2 f3 g1 g2 g3 g4 g5 g6 g7 hn he1
  dsimp only
  have hsl : SlR rInt 1 H (.slice e1 ps.length d1) ps := g5.1
  have hpf : ∀ k (hk : k < ps.length), fits ps[k] := fun k hk => by
    obtain ⟨_, _, c, _, _, _, hc⟩ := hsl.get hk
    exact hc.2
  have hsn := fun {j : Nat} => noR_snoc (n := nd) (t := ⟨⟨x1, x2, x3⟩, op, bg, ps, wk, hd⟩) (j := j)
  refine walk ?_
  refine ops_box rfl rfl fun p2 _ => ?_
  refine ops_box rfl rfl fun p3 _ => ?_
  refine walk ?_
  refine ex_loop (σ := Nat × Option Addr × Nat) (fun u => u.1 ≤ ps.length) (fun u => [(2, .pointer (some ⟨p2, 0, none⟩)), (3, .pointer (some ⟨p3, 0, none⟩)), (5, .slice u.2.1 ((ps.take u.1).map (fun p => decM nd ⟨x1, x2, x3⟩ p false)).length u.2.2), (6, I u.1)]) (fun _ => H) (fun u => ownS rMessage 19 216 53 H (.slice u.2.1 ((ps.take u.1).map (fun p => decM nd ⟨x1, x2, x3⟩ p false)).length u.2.2) ((ps.take u.1).map (fun p => decM nd ⟨x1, x2, x3⟩ p false)) :: row p2 35 [I nd, I lf, I cn, .slice b1 l.length c1] :: row p3 98 [I x1, I x2, I x3, .bool op, I bg, .slice e1 ps.length d1, .slice e2 wk.length d2, .slice e3 hd.length d3] :: R) (fun u => ps.length - u.1) (0, none, 0) (Nat.zero_le _) (hs0 := ?_) fun ⟨j, dd, e⟩ hj0 K hL => ?_
  rotate_left
  · show Sub _ (ownS rMessage 19 216 53 H (.slice none 0 0) [] :: _)
    refine Sub.trans ?_ ownS_nil
    (repeat (first | exact Sub.refl _ | exact Sub.nil _ | (apply sub_pick; (repeat (first | exact Has.here | apply Has.there)); skip) | apply Sub.drop))
  simp only at hj0
  dsimp only
  refine walk ?_
  refine ex_if rfl (fun hk => ?_) (fun hk => ?_)
  · have hk1 : j < ps.length := by omega
    have hfp := hpf j hk1
    have hs2 := hsn hk1
    dsimp only at hs2
    have hll : ((ps.take j).map (fun p => decM nd ⟨x1, x2, x3⟩ p false)).length = j := by simp; omega
    refine walk ?_
    refine ex_any 13 [row p2 35 [I nd, I lf, I cn, .slice b1 l.length c1], row p3 98 [I x1, I x2, I x3, .bool op, I bg, .slice e1 ps.length d1, .slice e2 wk.length d2, .slice e3 hd.length d3]] ?_
    refine stepY 0 ?_; refine stepY 1 ?_; refine stepY 2 ?_; refine stepY 3 ?_; refine stepY 4 ?_; refine stepY 5 ?_
    refine gny_el 6 7 rfl rfl rfl rfl rfl hsl hk1 ?_
    refine stepY 8 ?_; refine stepY 9 ?_; refine stepY 10 ?_
    refine any_app1 (y := decM nd ⟨x1, x2, x3⟩ ps[j] false) 11 12 rfl rfl rfl (decM_reads f1 hfp ⟨g1, g2, g3⟩) (by rw [hll]; simp only [cap47] at hcap ⊢; omega) fun d9 e9 => ⟨(by (repeat (first | exact Sub.refl _ | exact Sub.nil _ | (apply sub_pick; (repeat (first | exact Has.here | apply Has.there)); skip) | apply Sub.drop))), ?_⟩
    rw [← hs2, show ((ps.take j).map (fun p => decM nd ⟨x1, x2, x3⟩ p false)).length + 1 = ((ps.take (j + 1)).map (fun p => decM nd ⟨x1, x2, x3⟩ p false)).length by rw [hs2, List.length_append]; rfl]
    refine any_rest rfl ?_
    refine walk ?_
    exact out_next hL (j + 1, d9, e9) (by simp only; omega)
  · clear hL
    obtain rfl : j = ps.length := by omega
    rw [List.take_length]
    refine walk ?_
    refine finB [ownS rMessage 19 216 53 H (.slice dd (ps.map (fun p => decM nd ⟨x1, x2, x3⟩ p false)).length e) (ps.map (fun p => decM nd ⟨x1, x2, x3⟩ p false))] ?_
    exact ⟨rfl, rfl⟩
end Go.Proofs.Ythoafjeampbkeaa
