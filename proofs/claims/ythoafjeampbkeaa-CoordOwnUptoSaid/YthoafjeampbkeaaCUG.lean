/- The reference's coordinator: Step. -/
import Derived.Test.YthoafjeampbkeaaCUF
set_option linter.unusedVariables false
set_option linter.unusedSimpArgs false
namespace Go.Proofs.Ythoafjeampbkeaa
open Go Go.Sx Go.Proofs
abbrev rO16 : Rd ROc := rConvoyref16Outcome
/-- those given up are cut, one by one -/
def cutsR (now : Int) : List RTx → List RTx → List RTx
  | [], cur => cur
  | t :: r, cur => if goneR t now then cutsR now r (cutR t.X cur) else cutsR now r cur
theorem cutsR_cons {now : Int} {t : RTx} {r cur : List RTx} : cutsR now (t :: r) cur = if goneR t now then cutsR now r (cutR t.X cur) else cutsR now r cur := rfl
def ocsR (now : Int) (l : List RTx) : List ROc := (l.filter fun t => decide (goneR t now)).map fun t => ocR t.X false false
theorem ocsR_cons {now : Int} {t : RTx} {l : List RTx} : ocsR now (t :: l) = if goneR t now then ocR t.X false false :: ocsR now l else ocsR now l := by
  unfold ocsR
  by_cases h : goneR t now <;> simp [h]
theorem cutsR_all {now : Int} : ∀ {r cur : List RTx}, cutsR now r cur = cur.filter fun t => !decide (∃ u ∈ r, goneR u now ∧ u.X = t.X)
  | [], cur => by
    unfold cutsR
    exact (List.filter_eq_self.2 fun t _ => by simp).symm
  | u :: r, cur => by
    unfold cutsR
    split
    · next h =>
      rw [cutsR_all]
      unfold cutR
      rw [List.filter_filter]
      refine List.filter_congr fun t ht => ?_
      by_cases h1 : t.X = u.X
      · have : ∃ x ∈ u :: r, goneR x now ∧ x.X = t.X := ⟨u, by simp, h, h1.symm⟩
        simp [h1, h]
      · have h2 : ¬ u.X = t.X := fun e => h1 e.symm
        simp [h1, h2]
    · next h =>
      rw [cutsR_all]
      refine List.filter_congr fun t ht => ?_
      simp [h]
theorem cutsR_rise {now : Int} {l : List RTx} (hr : l.Pairwise fun a b => ltK a.X.k b.X.k) : cutsR now l l = l.filter fun t => !decide (goneR t now) := by
  rw [cutsR_all]
  refine List.filter_congr fun t ht => ?_
  have : (∃ u ∈ l, goneR u now ∧ u.X = t.X) ↔ goneR t now := by
    constructor
    · rintro ⟨u, hu, hg, he⟩
      have : u = t := by
        obtain ⟨i, hi, rfl⟩ := List.getElem_of_mem hu
        obtain ⟨j, hj, rfl⟩ := List.getElem_of_mem ht
        have hp := List.pairwise_iff_getElem.1 hr
        rcases Nat.lt_trichotomy i j with h | h | h
        · have := hp i j hi hj h
          rw [he] at this
          exact absurd this ltK_irr
        · subst h; rfl
        · have := hp j i hj hi h
          rw [he] at this
          exact absurd this ltK_irr
      rw [← this]; exact hg
    · exact fun h => ⟨t, ht, h, rfl⟩
  simp [this]
/-- what a list of transactions keeps to -/
def TxsOk (l : List RTx) : Prop := ∀ t ∈ l, t.Heard.length = t.Parts.length ∧ (t.Open = false → t.Works.length = t.Parts.length) ∧ t.Parts.length ≤ 1000000
theorem stepOutR_len {n now : Int} {t : RTx} (h : t.Parts.length ≤ 1000000) : (stepOutR n now t).length ≤ 1000000 := by
  unfold stepOutR
  split
  · unfold noR; rw [List.length_map]; exact h
  · exact Nat.le_trans againR_len h
set_option maxHeartbeats 16000000 in
set_option maxRecDepth 20000 in
theorem rStepC_spec {W0 : World} {H : Heap} {c : List Value} {m : Coord} {now : Int} (h0 : rCoord H c m) (hnow : fits now) (hok : TxsOk m.Txns) (hn : m.Txns.length ≤ 1000) :
    Ct Try.prog 40 #[.agg c.toArray, I now] W0 H [] (fun r H' B => ∃ c' v1 v2, r = .tuple #[.agg c'.toArray, v1, v2] ∧ rCoord H' c' { m with Txns := cutsR now m.Txns m.Txns } ∧ B = [ownS rMessage 19 216 53 H' v1 (m.Txns.flatMap (stepOutR m.Node now)), ownS rO16 5 32 133 H' v2 (ocsR now m.Txns)]) := by
  refine Ct.go (vs := [.agg c.toArray, I now]) fun R => ?_
  obtain ⟨s1, rfl, f1, f2, f3, hs1⟩ := h0
  obtain ⟨b1, c1, rfl, hc1, hd1⟩ := hs1.1.shape
  obtain ⟨nd, lf, cn, l⟩ := m
  dsimp only at f1 f2 f3 hs1 hok hn hc1
  dsimp only
  have hcap : (1001 : Nat) * 1000000 * 216 ≤ cap47 := by decide
  refine walk ?_
  refine ops_box rfl rfl fun p2 _ => ?_
  refine ops_alloc rfl fun p4 _ => ?_
  refine walk ?_
  refine ex_loop (σ := Nat × List RTx × (Option Addr × Nat) × List Message × (Option Addr × Nat) × List ROc × (Option Addr × Nat) × Heap) (fun u => (u.1 ≤ l.length ∧ H.le u.2.2.2.2.2.2.2) ∧ SlB rC16 8 112 u.2.2.2.2.2.2.2 (.slice u.2.2.1.1 u.2.1.length u.2.2.1.2) u.2.1 ∧ cutsR now (l.drop u.1) u.2.1 = cutsR now l l ∧ u.2.1.length ≤ l.length ∧ u.2.2.2.1 ++ (l.drop u.1).flatMap (stepOutR nd now) = l.flatMap (stepOutR nd now) ∧ u.2.2.2.1.length ≤ u.1 * 1000000 ∧ u.2.2.2.2.2.1 ++ ocsR now (l.drop u.1) = ocsR now l ∧ u.2.2.2.2.2.1.length ≤ u.1)
    (fun u => [(1, I now), (2, .pointer (some ⟨p2, 0, none⟩)), (4, .pointer (some ⟨p4, 0, none⟩)), (5, nilS), (6, nilS), (7, .slice u.2.2.2.2.1.1 u.2.2.2.1.length u.2.2.2.2.1.2), (8, .slice u.2.2.2.2.2.2.1.1 u.2.2.2.2.2.1.length u.2.2.2.2.2.2.1.2), (9, .slice b1 l.length c1), (10, I u.1)]) (fun u => u.2.2.2.2.2.2.2)
    (fun u => ownS rMessage 19 216 53 u.2.2.2.2.2.2.2 (.slice u.2.2.2.2.1.1 u.2.2.2.1.length u.2.2.2.2.1.2) u.2.2.2.1 :: ownS rO16 5 32 133 u.2.2.2.2.2.2.2 (.slice u.2.2.2.2.2.2.1.1 u.2.2.2.2.2.1.length u.2.2.2.2.2.2.1.2) u.2.2.2.2.2.1 :: row p2 35 [I nd, I lf, I cn, .slice u.2.2.1.1 u.2.1.length u.2.2.1.2] :: row p4 35 [I 0, I 0, I 0, nilS] :: R) (fun u => l.length - u.1) (0, l, (b1, c1), [], (none, 0), [], (none, 0), H) ⟨⟨Nat.zero_le _, .refl _⟩, hs1, rfl, Nat.le_refl _, rfl, by simp, rfl, by simp⟩ (hs0 := ?_) fun ⟨j, cur, ⟨db, dc⟩, o1, ⟨d1, e1⟩, o2, ⟨d2, e2⟩, HK⟩ ⟨⟨hj0, hlK⟩, hcur, hcut, hcl, ho1, hl1, ho2, hl2⟩ K hL => ?_
  rotate_left
  · show Sub _ (ownS rMessage 19 216 53 H (.slice none 0 0) [] :: ownS rO16 5 32 133 H (.slice none 0 0) [] :: _)
    refine Sub.trans ?_ (ownS_nil.trans ownS_nil)
    (repeat (first | exact Sub.refl _ | exact Sub.nil _ | (apply sub_pick; (repeat (first | exact Has.here | apply Has.there)); skip) | apply Sub.drop))
  simp only at hj0 hlK hcur hcut hcl ho1 hl1 ho2 hl2
  dsimp only
  refine walk ?_
  refine ex_if rfl (fun hk => ?_) (fun hk => ?_)
  · have hk1 : j < l.length := by omega
    have hdr := List.drop_eq_getElem_cons hk1
    have hsl := (hs1.mono hlK).1
    have hmul := Nat.mul_le_mul_right 1000000 (show j ≤ 1000 by omega)
    refine walk ?_
    refine ops_ixp rfl rfl hsl hk1 fun b o cc hr hc => ?_
    obtain ⟨t, htj⟩ : ∃ t, l[j] = t := ⟨_, rfl⟩
    obtain ⟨okh, okw, okn⟩ := hok t (by rw [← htj]; exact List.getElem_mem hk1)
    rw [htj] at hc hdr
    rw [hdr] at hcut ho1 ho2
    rw [ocsR_cons] at ho2
    rw [List.flatMap_cons] at ho1
    have hsl1 := stepOutR_len (n := nd) (now := now) okn
    rw [cutsR_cons] at hcut
    obtain ⟨⟨x1, x2, x3⟩, op, bg, ps, wk, hd⟩ := t
    have hcc := hc
    obtain ⟨u1, u2, u3, rfl, g1, g2, g3, g4, g5, g6, g7⟩ := hc
    dsimp only at g1 g2 g3 g4
    change HRow HK b o [I x1, I x2, I x3, .bool op, I bg, u1, u2, u3] at hr
    cases op with
    | true =>
      have hgo : ¬ goneR ⟨⟨x1, x2, x3⟩, true, bg, ps, wk, hd⟩ now := fun h => by cases h.1
      refine walk ?_
      rw [if_neg hgo] at hcut ho2
      have hso : stepOutR nd now ⟨⟨x1, x2, x3⟩, true, bg, ps, wk, hd⟩ = againR nd ⟨⟨x1, x2, x3⟩, true, bg, ps, wk, hd⟩ ps.length := if_neg hgo
      rw [hso] at ho1 hsl1
      refine ex_any 7 [row p2 35 [I nd, I lf, I cn, .slice db cur.length dc]] ?_
      refine stepY 0 ?_; refine stepY 1 ?_; refine stepY 2 ?_; refine stepY 3 ?_
      refine gny_ixp 4 rfl rfl rfl hsl hk1 fun b3 o3 cc3 hr3 hc3 => ?_
      rw [htj] at hc3
      have hcc3 := hc3
      obtain ⟨y1, y2, y3, rfl, _⟩ := hc3
      refine gny_ldNH 5 rfl rfl rfl hr3 rfl ?_
      refine gny_call 6 rfl rfl rfl (rAgainC_spec (m := ⟨nd, lf, cn, cur⟩) (t := ⟨⟨x1, x2, x3⟩, true, bg, ps, wk, hd⟩) (c := [I nd, I lf, I cn, .slice db cur.length dc]) ⟨_, rfl, f1, f2, f3, hcur⟩ hcc3 okh okw okn) fun r6 H6 B hl6 ⟨eB, eH⟩ => ?_
      subst eB eH
      refine ⟨(by (repeat (first | exact Sub.refl _ | exact Sub.nil _ | (apply sub_pick; (repeat (first | exact Has.here | apply Has.there)); skip) | apply Sub.drop))), ?_⟩
      refine any_freeze r6 fun H7 hl7 hsr => ?_
      obtain ⟨br, cr, rfl, _, _⟩ := hsr.1.shape
      refine any_rest rfl ?_
      refine ops_appS rfl rfl hsr.1 (by simp only [cap47] at hcap ⊢; (try simp only at hsl1 ⊢); omega) fun d3 e3 => ?_
      rw [← List.length_append]
      refine walk ?_
      refine out_next hL (j + 1, cur, (db, dc), o1 ++ againR nd ⟨⟨x1, x2, x3⟩, true, bg, ps, wk, hd⟩ ps.length, (d3, e3), o2, (d2, e2), H7) ⟨⟨by simp only; omega, hlK.trans hl7⟩, hcur.mono hl7, hcut, by simp only; omega, by simp only; rw [List.append_assoc]; exact ho1, by simp only [List.length_append]; omega, by simp only; exact ho2, by simp only; omega⟩ (hs := ?_)
      dsimp only
      refine Sub.trans ?_ (Sub.cons (ownS_up hl7))
      (repeat (first | exact Sub.refl _ | exact Sub.nil _ | (apply sub_pick; (repeat (first | exact Has.here | apply Has.there)); skip) | apply Sub.drop))
    | false =>
      refine walk ?_
      refine ops_ixp rfl rfl hsl hk1 fun b' o' cc' hr' hc' => ?_
      rw [htj] at hc'
      obtain ⟨v1, v2, v3, rfl, _⟩ := hc'
      change HRow HK b' o' [I x1, I x2, I x3, .bool false, I bg, v1, v2, v3] at hr'
      refine walk ?_
      by_cases hlt : lateT bg now
      · have hL1 := rLate_spec (W0 := W0) (H := HK) (b := bg) (n := now) g4 hnow
        rw [decide_eq_true hlt] at hL1
        refine ops_call rfl rfl hL1 fun r3 H3 B hl3 ⟨er, eB, eH⟩ => ?_
        subst er eB eH
        refine walk ?_
        have hgo : goneR ⟨⟨x1, x2, x3⟩, false, bg, ps, wk, hd⟩ now := ⟨rfl, hlt⟩
        rw [if_pos hgo] at hcut ho2
        have hso : stepOutR nd now ⟨⟨x1, x2, x3⟩, false, bg, ps, wk, hd⟩ = noR nd ⟨⟨x1, x2, x3⟩, false, bg, ps, wk, hd⟩ := if_pos hgo
        rw [hso] at ho1 hsl1
        refine ex_any 7 [row p2 35 [I nd, I lf, I cn, .slice db cur.length dc]] ?_
        refine stepY 0 ?_; refine stepY 1 ?_; refine stepY 2 ?_; refine stepY 3 ?_
        refine gny_ixp 4 rfl rfl rfl hsl hk1 fun b3 o3 cc3 hr3 hc3 => ?_
        rw [htj] at hc3
        have hcc3 := hc3
        obtain ⟨y1, y2, y3, rfl, _⟩ := hc3
        refine gny_ldNH 5 rfl rfl rfl hr3 rfl ?_
        refine gny_call 6 rfl rfl rfl (rNo_spec (m := ⟨nd, lf, cn, cur⟩) (t := ⟨⟨x1, x2, x3⟩, false, bg, ps, wk, hd⟩) (c := [I nd, I lf, I cn, .slice db cur.length dc]) ⟨_, rfl, f1, f2, f3, hcur⟩ hcc3 okn) fun r6 H6 B hl6 ⟨eB, eH⟩ => ?_
        subst eB eH
        refine ⟨(by (repeat (first | exact Sub.refl _ | exact Sub.nil _ | (apply sub_pick; (repeat (first | exact Has.here | apply Has.there)); skip) | apply Sub.drop))), ?_⟩
        refine any_freeze r6 fun H7 hl7 hsr => ?_
        obtain ⟨br, cr, rfl, _, _⟩ := hsr.1.shape
        refine any_rest rfl ?_
        refine ops_appS rfl rfl hsr.1 (by simp only [cap47] at hcap ⊢; omega) fun d3 e3 => ?_
        rw [← List.length_append]
        refine walk ?_
        refine ops_ixp rfl rfl (hsl.mono hl7) hk1 fun b4 o4 cc4 hr4 hc4 => ?_
        rw [htj] at hc4
        obtain ⟨y4, y5, y6, rfl, _⟩ := hc4
        have hrt := rx_tx hr4
        change HRow H7 b4 o4 [I x1, I x2, I x3] at hrt
        refine walk ?_
        refine ops_ldNH rfl rfl hrt rfl ?_
        refine walk ?_
        refine ops_app1 (y := ocR ⟨x1, x2, x3⟩ false false) rfl rfl rfl ⟨rfl, g1, g2, g3⟩ (by simp only [cap47]; omega) fun d4 e4 => ?_
        rw [show o2.length + 1 = (o2 ++ [ocR ⟨x1, x2, x3⟩ false false]).length by rw [List.length_append]; rfl]
        refine walk ?_
        refine ex_any 6 [row p2 35 [I nd, I lf, I cn, .slice db cur.length dc]] ?_
        refine stepY 0 ?_; refine stepY 1 ?_; refine stepY 2 ?_
        refine gny_ixp 3 rfl rfl rfl (hsl.mono hl7) hk1 fun b5 o5 cc5 hr5 hc5 => ?_
        rw [htj] at hc5
        obtain ⟨y7, y8, y9, rfl, _⟩ := hc5
        have hrt5 := rx_tx hr5
        change HRow H7 b5 o5 [I x1, I x2, I x3] at hrt5
        refine stepY 4 ?_
        refine gny_ldNH 5 rfl rfl rfl hrt5 rfl ?_
        refine any_rest rfl ?_
        refine ops_call rfl rfl (rWithout_spec (m := ⟨nd, lf, cn, cur⟩) (x := ⟨x1, x2, x3⟩) (c := [I nd, I lf, I cn, .slice db cur.length dc]) ⟨_, rfl, f1, f2, f3, hcur.mono hl7⟩ (by simp only; omega)) fun r8 H8 B hl8 ⟨c', er, hc', eB⟩ => ?_
        subst er eB
        obtain ⟨s', rfl, _, _, _, hs'⟩ := hc'
        obtain ⟨bq, cq, rfl, _, _⟩ := hs'.1.shape
        refine walk ?_
        refine out_next hL (j + 1, cutR ⟨x1, x2, x3⟩ cur, (bq, cq), o1 ++ noR nd ⟨⟨x1, x2, x3⟩, false, bg, ps, wk, hd⟩, (d3, e3), o2 ++ [ocR ⟨x1, x2, x3⟩ false false], (d4, e4), H8) ⟨⟨by simp only; omega, hlK.trans (hl7.trans hl8)⟩, hs', hcut, by simp only; have := cutR_len (x := ⟨x1, x2, x3⟩) (l := cur); omega, by simp only; rw [List.append_assoc]; exact ho1, by simp only [List.length_append]; omega, by simp only; rw [List.append_assoc]; exact ho2, by simp only [List.length_append, List.length_singleton]; omega⟩ (hs := ?_)
        dsimp only
        refine Sub.trans ?_ ((ownS_up hl8).trans (Sub.cons (ownS_up hl8)))
        (repeat (first | exact Sub.refl _ | exact Sub.nil _ | (apply sub_pick; (repeat (first | exact Has.here | apply Has.there)); skip) | apply Sub.drop))
      · have hL1 := rLate_spec (W0 := W0) (H := HK) (b := bg) (n := now) g4 hnow
        rw [decide_eq_false hlt] at hL1
        refine ops_call rfl rfl hL1 fun r3 H3 B hl3 ⟨er, eB, eH⟩ => ?_
        subst er eB eH
        have hgo : ¬ goneR ⟨⟨x1, x2, x3⟩, false, bg, ps, wk, hd⟩ now := fun h => hlt h.2
        refine walk ?_
        rw [if_neg hgo] at hcut ho2
        have hso : stepOutR nd now ⟨⟨x1, x2, x3⟩, false, bg, ps, wk, hd⟩ = againR nd ⟨⟨x1, x2, x3⟩, false, bg, ps, wk, hd⟩ ps.length := if_neg hgo
        rw [hso] at ho1 hsl1
        refine ex_any 7 [row p2 35 [I nd, I lf, I cn, .slice db cur.length dc]] ?_
        refine stepY 0 ?_; refine stepY 1 ?_; refine stepY 2 ?_; refine stepY 3 ?_
        refine gny_ixp 4 rfl rfl rfl hsl hk1 fun b3 o3 cc3 hr3 hc3 => ?_
        rw [htj] at hc3
        have hcc3 := hc3
        obtain ⟨y1, y2, y3, rfl, _⟩ := hc3
        refine gny_ldNH 5 rfl rfl rfl hr3 rfl ?_
        refine gny_call 6 rfl rfl rfl (rAgainC_spec (m := ⟨nd, lf, cn, cur⟩) (t := ⟨⟨x1, x2, x3⟩, false, bg, ps, wk, hd⟩) (c := [I nd, I lf, I cn, .slice db cur.length dc]) ⟨_, rfl, f1, f2, f3, hcur⟩ hcc3 okh okw okn) fun r6 H6 B hl6 ⟨eB, eH⟩ => ?_
        subst eB eH
        refine ⟨(by (repeat (first | exact Sub.refl _ | exact Sub.nil _ | (apply sub_pick; (repeat (first | exact Has.here | apply Has.there)); skip) | apply Sub.drop))), ?_⟩
        refine any_freeze r6 fun H7 hl7 hsr => ?_
        obtain ⟨br, cr, rfl, _, _⟩ := hsr.1.shape
        refine any_rest rfl ?_
        refine ops_appS rfl rfl hsr.1 (by simp only [cap47] at hcap ⊢; (try simp only at hsl1 ⊢); omega) fun d3 e3 => ?_
        rw [← List.length_append]
        refine walk ?_
        refine out_next hL (j + 1, cur, (db, dc), o1 ++ againR nd ⟨⟨x1, x2, x3⟩, false, bg, ps, wk, hd⟩ ps.length, (d3, e3), o2, (d2, e2), H7) ⟨⟨by simp only; omega, hlK.trans hl7⟩, hcur.mono hl7, hcut, by simp only; omega, by simp only; rw [List.append_assoc]; exact ho1, by simp only [List.length_append]; omega, by simp only; exact ho2, by simp only; omega⟩ (hs := ?_)
        dsimp only
        refine Sub.trans ?_ (Sub.cons (ownS_up hl7))
        (repeat (first | exact Sub.refl _ | exact Sub.nil _ | (apply sub_pick; (repeat (first | exact Has.here | apply Has.there)); skip) | apply Sub.drop))
  · clear hL
    obtain rfl : j = l.length := by omega
    rw [List.drop_length] at hcut ho1 ho2
    simp only [List.flatMap_nil, List.append_nil] at ho1
    rw [show ocsR now [] = [] from rfl, List.append_nil] at ho2
    rw [show cutsR now [] cur = cur from rfl] at hcut
    subst ho1 ho2
    rw [← hcut]
    refine walk ?_
    refine finB [ownS rMessage 19 216 53 HK (.slice d1 (l.flatMap (stepOutR nd now)).length e1) (l.flatMap (stepOutR nd now)), ownS rO16 5 32 133 HK (.slice d2 (ocsR now l).length e2) (ocsR now l)] ?_
    exact ⟨_, _, _, rfl, ⟨_, rfl, f1, f2, f3, hcur⟩, rfl⟩
end Go.Proofs.Ythoafjeampbkeaa
