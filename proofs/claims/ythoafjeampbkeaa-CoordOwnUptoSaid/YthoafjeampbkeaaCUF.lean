/- The reference's coordinator: Begin. -/
import Derived.Test.YthoafjeampbkeaaCUE
import Derived.Test.YthoafjeampbkeaaCTN
set_option linter.unusedVariables false
set_option linter.unusedSimpArgs false
namespace Go.Proofs.Ythoafjeampbkeaa
open Go Go.Sx Go.Proofs
/-- what the reference's Begin answers -/
def RBeginQ (c : List Value) (m : Coord) (now : Int) (l : List Work) (r : Value) (H' : Heap) (B : List HProp) : Prop :=
  (works0 0 l = [] ∧ r = .tuple #[.agg c.toArray, .agg #[I 0, I 0, I 0], nilS, I 4] ∧ B = []) ∨
  (works0 0 l ≠ [] ∧ ∃ c' v, r = .tuple #[.agg c'.toArray, .agg #[I m.Node, I m.Life, I (m.Count + 1)], v, I 0] ∧ rCoord H' c' ⟨m.Node, m.Life, m.Count + 1, putR (begunR m now (works0 0 l)) m.Txns⟩ ∧ B = [ownS rMessage 19 216 53 H' v (againR m.Node (begunR m now (works0 0 l)) (works0 0 l).length)])
set_option maxHeartbeats 8000000 in
set_option maxRecDepth 20000 in
theorem rBeginC_spec {W0 : World} {H : Heap} {c : List Value} {m : Coord} {v : Value} {l : List Work} {now : Int} (h0 : rCoord H c m) (hw : SlB rWork 3 56 H v l) (hl : l.length ≤ 1000) (hnow : fits now) (hct : fits (m.Count + 1)) (hn : m.Txns.length ≤ 100000) :
    Ct Try.prog 12 #[.agg c.toArray, v, I now] W0 H [] (fun r H' B => RBeginQ c m now l r H' B) := by
  refine Ct.go (vs := [.agg c.toArray, v, I now]) fun R => ?_
  obtain ⟨s1, rfl, f1, f2, f3, hs1⟩ := h0
  obtain ⟨b1, c1, rfl, hc1, hd1⟩ := hs1.1.shape
  obtain ⟨b0, c0, rfl, hc0, hd0⟩ := hw.1.shape
  obtain ⟨nd, lf, cn, tl⟩ := m
  dsimp only at f1 f2 f3 hs1 hct hn hc1
  have hcap : (1001 : Nat) * 56 ≤ cap47 := by decide
  have hct' := hct
  unfold fits at hct'
  refine walk ?_
  refine ops_box rfl rfl fun p3 _ => ?_
  refine ops_alloc rfl fun p6 _ => ?_
  refine ops_alloc rfl fun p7 _ => ?_
  refine walk ?_
  refine ops_alloc rfl fun p10 _ => ?_
  refine walk ?_
  refine ex_loop (σ := Nat × (Option Addr × Nat) × (Option Addr × Nat) × (Option Addr × Nat)) (fun u => u.1 ≤ l.length) (fun u => [(1, .slice b0 l.length c0), (3, .pointer (some ⟨p3, 0, none⟩)), (6, .pointer (some ⟨p6, 0, none⟩)), (7, .pointer (some ⟨p7, 0, none⟩)), (8, nilS), (9, I 0), (10, .pointer (some ⟨p10, 0, none⟩)), (11, I u.1)]) (fun _ => H)
    (fun u => ownS rInt 1 8 3 H (.slice u.2.1.1 ((works0 0 (l.take u.1)).map (·.1)).length u.2.1.2) ((works0 0 (l.take u.1)).map (·.1)) :: ownS rWork 3 56 41 H (.slice u.2.2.1.1 ((works0 0 (l.take u.1)).map (·.2)).length u.2.2.1.2) ((works0 0 (l.take u.1)).map (·.2)) :: ownS rBool 1 1 4 H (.slice u.2.2.2.1 (List.replicate (works0 0 (l.take u.1)).length false).length u.2.2.2.2) (List.replicate (works0 0 (l.take u.1)).length false) :: row p10 98 [I 0, I 0, I 0, .bool false, I now, .slice u.2.1.1 ((works0 0 (l.take u.1)).map (·.1)).length u.2.1.2, .slice u.2.2.1.1 ((works0 0 (l.take u.1)).map (·.2)).length u.2.2.1.2, .slice u.2.2.2.1 (List.replicate (works0 0 (l.take u.1)).length false).length u.2.2.2.2] :: row p3 35 [I nd, I lf, I cn, .slice b1 tl.length c1] :: row p6 35 [I 0, I 0, I 0, nilS] :: row p7 28 [I 0, I 0, I 0] :: R) (fun u => l.length - u.1) (0, (none, 0), (none, 0), (none, 0)) (Nat.zero_le _) (hs0 := ?_) fun ⟨j, ⟨d1, e1⟩, ⟨d2, e2⟩, ⟨d3, e3⟩⟩ hj0 K hL => ?_
  rotate_left
  · show Sub _ (ownS rInt 1 8 3 H (.slice none 0 0) [] :: ownS rWork 3 56 41 H (.slice none 0 0) [] :: ownS rBool 1 1 4 H (.slice none 0 0) [] :: _)
    refine Sub.trans ?_ ((ownS_nil.trans ownS_nil).trans ownS_nil)
    (repeat (first | exact Sub.refl _ | exact Sub.nil _ | (apply sub_pick; (repeat (first | exact Has.here | apply Has.there)); skip) | apply Sub.drop))
  simp only at hj0
  dsimp only
  have hwl : (works0 0 (l.take j)).length ≤ j := by
    have h1 := works0_len (i := 0) (l := l.take j)
    rw [List.length_take] at h1
    omega
  refine walk ?_
  refine ex_if rfl (fun hk => ?_) (fun hk => ?_)
  · have hk1 : j < l.length := by omega
    have ht := List.take_succ_eq_append_getElem hk1
    have hsn := works0_snoc (w := l[j]) (l := l.take j) (i := 0)
    rw [← ht, List.length_take, Nat.min_eq_left hj0, Int.zero_add] at hsn
    have hfj : fits (j : Int) := by unfold fits; omega
    refine walk ?_
    refine ops_ixp rfl rfl hw.1 hk1 fun b o cc hr hc => ?_
    obtain ⟨w, hwj⟩ : ∃ w, l[j] = w := ⟨_, rfl⟩
    rw [hwj] at hc hsn
    have hcc := hc
    obtain ⟨wr, wt, wd⟩ := w
    obtain ⟨u1, u2, rfl, g1, g2, g3⟩ := hc
    obtain ⟨a1, a2, rfl, _, _⟩ := g2.1.shape
    obtain ⟨a3, a4, rfl, _, _⟩ := g3.1.shape
    dsimp only at g1 g2 g3 hsn
    change HRow H b o [I wr, .slice a1 wt.length a2, .slice a3 wd.length a4] at hr
    obtain ⟨ws, hws⟩ : ∃ ws, works0 0 (l.take j) = ws := ⟨_, rfl⟩
    rw [hws] at hsn hwl ⊢
    by_cases ha : (0 : Int) < (wt.length : Int)
    · rw [if_pos (by omega)] at hsn
      refine walk ?_
      refine ops_app1 (y := (j : Int)) rfl rfl rfl ⟨rfl, hfj⟩ (by rw [List.length_map]; simp only [cap47] at hcap ⊢; omega) fun d4 e4 => ?_
      refine walk ?_
      refine ex_any 8 [row p10 98 [I 0, I 0, I 0, .bool false, I now, (.slice d4 ((ws.map (fun q : Int × Work => q.1)).length + 1) e4), (.slice d2 (ws.map (fun q : Int × Work => q.2)).length e2), (.slice d3 (List.replicate ws.length false).length e3)]] ?_
      refine stepY 0 ?_; refine stepY 1 ?_; refine stepY 2 ?_; refine stepY 3 ?_
      refine gny_ixp 4 rfl rfl rfl hw.1 hk1 fun bx ox ccx hrx hcx => ?_
      rw [hwj] at hcx
      have hccx := hcx
      obtain ⟨y1, y2, rfl, z1, z2, z3⟩ := hcx
      obtain ⟨k1, k2, rfl, _, _⟩ := z2.1.shape
      obtain ⟨k3, k4, rfl, _, _⟩ := z3.1.shape
      change HRow H bx ox [I wr, .slice k1 wt.length k2, .slice k3 wd.length k4] at hrx
      refine gny_ldNH 5 rfl rfl rfl hrx rfl ?_
      refine any_app1 (y := (⟨wr, wt, wd⟩ : Work)) 6 7 rfl rfl rfl hccx (by rw [List.length_map]; simp only [cap47] at hcap ⊢; omega) fun d5 e5 => ⟨(by (repeat (first | exact Sub.refl _ | exact Sub.nil _ | (apply sub_pick; (repeat (first | exact Has.here | apply Has.there)); skip) | apply Sub.drop))), ?_⟩
      refine any_rest rfl ?_
      refine walk ?_
      refine ops_app1 (y := false) rfl rfl rfl rfl (by rw [List.length_replicate]; simp only [cap47] at hcap ⊢; omega) fun d6 e6 => ?_
      refine walk ?_
      refine out_next hL (j + 1, (d4, e4), (d5, e5), (d6, e6)) (by simp only; omega) (hs := ?_)
      dsimp only
      rw [hsn, List.map_append, List.map_append]
      simp only [List.map_cons, List.map_nil, List.length_append, List.length_map, List.length_singleton, List.length_replicate, List.replicate_succ', List.length_cons, List.length_nil, Nat.zero_add]
      (repeat (first | exact Sub.refl _ | exact Sub.nil _ | (apply sub_pick; (repeat (first | exact Has.here | apply Has.there)); skip) | apply Sub.drop))
    by_cases hb : (0 : Int) < (wd.length : Int)
    · rw [if_pos (by omega)] at hsn
      refine walk ?_
      refine ops_ixp rfl rfl hw.1 hk1 fun b' o' cc' hr' hc' => ?_
      rw [hwj] at hc'
      obtain ⟨t1, t2, rfl, q1, q2, q3⟩ := hc'
      obtain ⟨t3, t4, rfl, _, _⟩ := q2.1.shape
      obtain ⟨t5, t6, rfl, _, _⟩ := q3.1.shape
      change HRow H b' o' [I wr, .slice t3 wt.length t4, .slice t5 wd.length t6] at hr'
      refine walk ?_
      refine ops_app1 (y := (j : Int)) rfl rfl rfl ⟨rfl, hfj⟩ (by rw [List.length_map]; simp only [cap47] at hcap ⊢; omega) fun d4 e4 => ?_
      refine walk ?_
      refine ex_any 8 [row p10 98 [I 0, I 0, I 0, .bool false, I now, (.slice d4 ((ws.map (fun q : Int × Work => q.1)).length + 1) e4), (.slice d2 (ws.map (fun q : Int × Work => q.2)).length e2), (.slice d3 (List.replicate ws.length false).length e3)]] ?_
      refine stepY 0 ?_; refine stepY 1 ?_; refine stepY 2 ?_; refine stepY 3 ?_
      refine gny_ixp 4 rfl rfl rfl hw.1 hk1 fun bx ox ccx hrx hcx => ?_
      rw [hwj] at hcx
      have hccx := hcx
      obtain ⟨y1, y2, rfl, z1, z2, z3⟩ := hcx
      obtain ⟨k1, k2, rfl, _, _⟩ := z2.1.shape
      obtain ⟨k3, k4, rfl, _, _⟩ := z3.1.shape
      change HRow H bx ox [I wr, .slice k1 wt.length k2, .slice k3 wd.length k4] at hrx
      refine gny_ldNH 5 rfl rfl rfl hrx rfl ?_
      refine any_app1 (y := (⟨wr, wt, wd⟩ : Work)) 6 7 rfl rfl rfl hccx (by rw [List.length_map]; simp only [cap47] at hcap ⊢; omega) fun d5 e5 => ⟨(by (repeat (first | exact Sub.refl _ | exact Sub.nil _ | (apply sub_pick; (repeat (first | exact Has.here | apply Has.there)); skip) | apply Sub.drop))), ?_⟩
      refine any_rest rfl ?_
      refine walk ?_
      refine ops_app1 (y := false) rfl rfl rfl rfl (by rw [List.length_replicate]; simp only [cap47] at hcap ⊢; omega) fun d6 e6 => ?_
      refine walk ?_
      refine out_next hL (j + 1, (d4, e4), (d5, e5), (d6, e6)) (by simp only; omega) (hs := ?_)
      dsimp only
      rw [hsn, List.map_append, List.map_append]
      simp only [List.map_cons, List.map_nil, List.length_append, List.length_map, List.length_singleton, List.length_replicate, List.replicate_succ', List.length_cons, List.length_nil, Nat.zero_add]
      (repeat (first | exact Sub.refl _ | exact Sub.nil _ | (apply sub_pick; (repeat (first | exact Has.here | apply Has.there)); skip) | apply Sub.drop))
    · rw [if_neg (by omega), List.append_nil] at hsn
      refine walk ?_
      refine ops_ixp rfl rfl hw.1 hk1 fun b' o' cc' hr' hc' => ?_
      rw [hwj] at hc'
      obtain ⟨t1, t2, rfl, q1, q2, q3⟩ := hc'
      obtain ⟨t3, t4, rfl, _, _⟩ := q2.1.shape
      obtain ⟨t5, t6, rfl, _, _⟩ := q3.1.shape
      change HRow H b' o' [I wr, .slice t3 wt.length t4, .slice t5 wd.length t6] at hr'
      refine walk ?_
      refine out_next hL (j + 1, (d1, e1), (d2, e2), (d3, e3)) (by simp only; omega) (hs := ?_)
      dsimp only
      rw [hsn]
      (repeat (first | exact Sub.refl _ | exact Sub.nil _ | (apply sub_pick; (repeat (first | exact Has.here | apply Has.there)); skip) | apply Sub.drop))
  · clear hL
    obtain rfl : j = l.length := by omega
    rw [List.take_length] at hwl ⊢
    obtain ⟨ws, hws⟩ : ∃ ws, works0 0 l = ws := ⟨_, rfl⟩
    rw [hws] at hwl ⊢
    refine walk ?_
    refine ex_if rfl (fun hq => ?_) (fun hq => ?_)
    · have hws0 : ws = [] := by
        cases ws with
        | nil => rfl
        | cons a r => simp at hq; omega
      refine walk ?_
      refine fin0 ?_
      exact .inl ⟨hws.trans hws0, rfl, rfl⟩
    have hne : ws ≠ [] := fun h => hq (by rw [h]; rfl)
    refine walk ?_
    refine ops_freeze (.slice d1 (ws.map (fun q : Int × Work => q.1)).length e1) fun H1 hl1 z1 => ?_
    refine ops_freeze (.slice d2 (ws.map (fun q : Int × Work => q.2)).length e2) fun H2 hl2 z2 => ?_
    refine ops_freeze (.slice d3 (List.replicate ws.length false).length e3) fun H3 hl3 z3 => ?_
    have hrt : rC16 H3 [I nd, I lf, I (cn + 1), .bool false, I now, .slice d1 (ws.map (fun q : Int × Work => q.1)).length e1, .slice d2 (ws.map (fun q : Int × Work => q.2)).length e2, .slice d3 (List.replicate ws.length false).length e3] (begunR ⟨nd, lf, cn, tl⟩ now ws) := ⟨_, _, _, rfl, f1, f2, hct, hnow, z1.mono (hl2.trans hl3), z2.mono hl3, z3⟩
    have hpl : (begunR ⟨nd, lf, cn, tl⟩ now ws).Parts.length = ws.length := List.length_map ..
    have hag := fun {H : Heap} {c ct : List Value} (h : rCoord H c ⟨nd, lf, cn + 1, putR (begunR ⟨nd, lf, cn, tl⟩ now ws) tl⟩) (ht : rC16 H ct (begunR ⟨nd, lf, cn, tl⟩ now ws)) => rAgainC_spec (W0 := W0) (t := begunR ⟨nd, lf, cn, tl⟩ now ws) h ht (by rw [hpl]; exact List.length_replicate) (fun _ => by rw [hpl]; exact List.length_map ..) (by rw [hpl]; omega)
    refine ops_call rfl rfl (rPutC_spec (W0 := W0) (H := H3) (t := begunR ⟨nd, lf, cn, tl⟩ now ws) (l := tl) (hs1.mono (hl1.trans (hl2.trans hl3))) hrt hn) fun r4 H4 B hl4 ⟨eB, eH⟩ => ?_
    subst eB eH
    refine ops_freeze r4 fun H5 hl5 hsp => ?_
    obtain ⟨bp, cp, rfl, _, _⟩ := hsp.1.shape
    refine walk ?_
    refine ex_any 7 [row p3 35 [I nd, I lf, I (cn + 1), .slice bp (putR (begunR ⟨nd, lf, cn, tl⟩ now ws) tl).length cp], row p10 98 [I nd, I lf, I (cn + 1), .bool false, I now, .slice d1 (ws.map (fun q : Int × Work => q.1)).length e1, .slice d2 (ws.map (fun q : Int × Work => q.2)).length e2, .slice d3 (List.replicate ws.length false).length e3]] ?_
    refine stepY 0 ?_; refine stepY 1 ?_; refine stepY 2 ?_; refine stepY 3 ?_; refine stepY 4 ?_
    refine gny_call 5 rfl rfl rfl (hag (H := H5) (c := [I nd, I lf, I (cn + 1), .slice bp (putR (begunR ⟨nd, lf, cn, tl⟩ now ws) tl).length cp]) ⟨_, rfl, f1, f2, hct, hsp⟩ (RdOk.mono (R := rC16) hl5 hrt)) fun r6 H6 B hl6 ⟨eB, eH⟩ => ?_
    subst eB eH
    rw [hpl]
    refine ⟨(by (repeat (first | exact Sub.refl _ | exact Sub.nil _ | (apply sub_pick; (repeat (first | exact Has.here | apply Has.there)); skip) | apply Sub.drop))), ?_⟩
    refine any_sta 6 rfl rfl rfl rfl (by simp) rfl ⟨(by (repeat (first | exact Sub.refl _ | exact Sub.nil _ | (apply sub_pick; (repeat (first | exact Has.here | apply Has.there)); skip) | apply Sub.drop))), ?_⟩
    refine any_rest rfl ?_
    refine walk ?_
    refine finB [ownS rMessage 19 216 53 H6 r6 (againR nd (begunR ⟨nd, lf, cn, tl⟩ now ws) ws.length)] ?_
    refine .inr ⟨by rw [hws]; exact hne, _, r6, rfl, ?_, ?_⟩
    · rw [hws]
      exact ⟨_, rfl, f1, f2, hct, hsp⟩
    · rw [hws]
end Go.Proofs.Ythoafjeampbkeaa
