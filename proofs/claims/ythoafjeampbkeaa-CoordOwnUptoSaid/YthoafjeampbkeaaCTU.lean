/- The reference's coordinator: Open, Load. -/
import Derived.Test.YthoafjeampbkeaaCTQ
import Derived.Test.YthoafjeampbkeaaCTO
set_option linter.unusedVariables false
set_option linter.unusedSimpArgs false
namespace Go.Proofs.Ythoafjeampbkeaa
open Go Go.Sx Go.Proofs
def openRL (l : List RTx) : List Rec := (l.filter fun t => t.Open).map fun t => recC t.X t.Parts
theorem openRL_snoc {l : List RTx} {t : RTx} : openRL (l ++ [t]) = if t.Open = true then openRL l ++ [recC t.X t.Parts] else openRL l := by
  unfold openRL
  rw [List.filter_append, List.map_append]
  by_cases h : t.Open = true <;> simp [h]
theorem openRL_len {l : List RTx} : (openRL l).length ≤ l.length := by unfold openRL; rw [List.length_map]; exact List.length_filter_le _ _
set_option maxHeartbeats 4000000 in
set_option maxRecDepth 20000 in
theorem rOpenC_spec {W0 : World} {H : Heap} {c : List Value} {m : Coord} (h0 : rCoord H c m) (hn : m.Txns.length ≤ 100000) :
    Ct Try.prog 39 #[.agg c.toArray] W0 H [] (fun r H' B => B = [ownS rRec 9 120 63 H' r (openRL m.Txns)] ∧ H' = H) := by
  refine Ct.go (vs := [.agg c.toArray]) fun R => ?_
  obtain ⟨s1, rfl, f1, f2, f3, hs1⟩ := h0
  obtain ⟨b1, c1, rfl, hc1, hd1⟩ := hs1.1.shape
  obtain ⟨nd, lf, ct, l⟩ := m
  have hcap : (100001 : Nat) * 120 ≤ cap47 := by decide
  dsimp only at hs1 hc1 hn
  dsimp only
  refine walk ?_
  refine ops_box rfl rfl fun p1 _ => ?_
  refine walk ?_
  refine ex_loop (σ := Nat × Option Addr × Nat) (fun u => u.1 ≤ l.length) (fun u => [(1, .pointer (some ⟨p1, 0, none⟩)), (3, .slice u.2.1 (openRL (l.take u.1)).length u.2.2), (4, I u.1)]) (fun _ => H) (fun u => ownS rRec 9 120 63 H (.slice u.2.1 (openRL (l.take u.1)).length u.2.2) (openRL (l.take u.1)) :: row p1 35 [I nd, I lf, I ct, .slice b1 l.length c1] :: R) (fun u => l.length - u.1) (0, none, 0) (Nat.zero_le _) (hs0 := ?_) fun ⟨j, dd, e⟩ hj0 K hL => ?_
  rotate_left
  · show Sub _ (ownS rRec 9 120 63 H (.slice none 0 0) [] :: _)
    refine Sub.trans ?_ ownS_nil
    (repeat (first | exact Sub.refl _ | exact Sub.nil _ | (apply sub_pick; (repeat (first | exact Has.here | apply Has.there)); skip) | apply Sub.drop))
  simp only at hj0
  dsimp only
  refine walk ?_
  refine ex_if rfl (fun hk => ?_) (fun hk => ?_)
  · have hk1 : j < l.length := by omega
    have ht := List.take_succ_eq_append_getElem hk1
    have hsn := openRL_snoc (l := l.take j) (t := l[j])
    rw [← ht] at hsn
    have hol := openRL_len (l := l.take j)
    rw [List.length_take] at hol
    refine walk ?_
    refine ops_ixp rfl rfl hs1.1 hk1 fun b o cc hr hc => ?_
    obtain ⟨y, hle⟩ : ∃ y, l[j] = y := ⟨_, rfl⟩
    rw [hle] at hc hsn
    obtain ⟨⟨x1, x2, x3⟩, op, bg, ps, wk, hd⟩ := y
    obtain ⟨u1, u2, u3, rfl, g1, g2, g3, g4, g5, g6, g7⟩ := hc
    dsimp only at g1 g2 g3 g4 g5 hsn
    change HRow H b o [I x1, I x2, I x3, .bool op, I bg, u1, u2, u3] at hr
    refine walk ?_
    refine ex_ifb rfl Iff.rfl (fun hq => ?_) (fun hq => ?_)
    · rw [if_pos hq] at hsn
      refine walk ?_
      refine ex_any 16 [row p1 35 [I nd, I lf, I ct, .slice b1 l.length c1]] ?_
      refine stepY 0 ?_; refine stepY 1 ?_; refine stepY 2 ?_; refine stepY 3 ?_
      refine gny_ixp 4 rfl rfl rfl hs1.1 hk1 fun b' o' cc' hr' hc' => ?_
      rw [hle] at hc'
      obtain ⟨v1, v2, v3, rfl, _⟩ := hc'
      change HRow H b' o' [I x1, I x2, I x3, .bool op, I bg, v1, v2, v3] at hr'
      refine stepY 5 ?_
      refine gny_ldNH 6 rfl rfl rfl (HRow.take (k := 3) hr') rfl ?_
      refine stepY 7 ?_; refine stepY 8 ?_; refine stepY 9 ?_
      refine gny_ixp 10 rfl rfl rfl hs1.1 hk1 fun b2 o2 cc2 hr2 hc2 => ?_
      rw [hle] at hc2
      obtain ⟨w1, w2, w3, rfl, _, _, _, _, hw1, _⟩ := hc2
      obtain ⟨bw, cw, rfl, _, _⟩ := hw1.1.shape
      change HRow H b2 o2 [I x1, I x2, I x3, .bool op, I bg, .slice bw ps.length cw, w2, w3] at hr2
      refine stepY 11 ?_
      refine gny_ldHo 12 5 rfl rfl hr2 rfl rfl ?_
      refine stepY 13 ?_
      refine any_app1 (y := recC ⟨x1, x2, x3⟩ ps) 14 15 rfl rfl rfl (recC_reads ⟨g1, g2, g3⟩ hw1) (by simp only [cap47] at hcap ⊢; omega) fun d3 e3 => ⟨(by (repeat (first | exact Sub.refl _ | exact Sub.nil _ | (apply sub_pick; (repeat (first | exact Has.here | apply Has.there)); skip) | apply Sub.drop))), ?_⟩
      rw [← hsn, show (openRL (l.take j)).length + 1 = (openRL (l.take (j + 1))).length by rw [hsn, List.length_append]; rfl]
      refine any_rest rfl ?_
      refine walk ?_
      exact out_next hL (j + 1, d3, e3) (by simp only; omega)
    · rw [if_neg (by simpa using hq)] at hsn
      rw [← hsn]
      refine walk ?_
      exact out_next hL (j + 1, dd, e) (by simp only; omega)
  · clear hL
    obtain rfl : j = l.length := by omega
    rw [List.take_length]
    refine walk ?_
    refine finB [ownS rRec 9 120 63 H (.slice dd (openRL l).length e) (openRL l)] ?_
    exact ⟨rfl, rfl⟩
end Go.Proofs.Ythoafjeampbkeaa
