/- PactExclusive, walked. -/
import Derived.Test.YtlflbkpmfhhikaaGreatDoorPXM
import Derived.Test.YtlflbkpmfhhikaaGreatDoorPYM
set_option linter.unusedVariables false
set_option linter.unusedSimpArgs false
namespace Go.Proofs.YtlflbkpmfhhikaaGreatDoor
open Go Go.Sx Go.Proofs
theorem ownP_ok {H : Heap} {v : Value} {l : List Work} (h : SlR rWork 3 H v l) : ∀ x ∈ ownP l, OkW x := fun x hx => by
  unfold ownP at hx
  obtain ⟨y, hy, rfl⟩ := List.mem_map.1 hx
  obtain ⟨c, s1, s2, rfl, hr, g1, g2⟩ := slr_mem h (List.mem_of_mem_take hy)
  refine ⟨by show (y.Take.take 20).length ≤ 40; rw [List.length_take]; omega, by show (y.Drop.take 20).length ≤ 40; rw [List.length_take]; omega, hr, fun k hk => ?_⟩
  have hk2 : k ∈ y.Take.take 20 ++ y.Drop.take 20 := hk
  rcases List.mem_append.1 hk2 with hk2 | hk2
  · obtain ⟨c, _, hc⟩ := slr_mem g1.1 (List.mem_of_mem_take hk2)
    exact hc
  · obtain ⟨c, _, hc⟩ := slr_mem g2.1 (List.mem_of_mem_take hk2)
    exact hc
set_option maxHeartbeats 16000000 in
set_option maxRecDepth 20000 in
theorem played_spec {W0 : World} {H : Heap} {v : Value} {script : List Move} (hP : PkH H) (h0 : SlR rMove 3 H v script) :
    Ct Tryz.prog 9 #[v] W0 H [] (fun r H' B => ∃ p w K B', r = ptrC p ∧ K ≤ 150 ∧ WInv 3 K B' w ∧ w.log.length ≤ K ∧ B = [worldO H' p w]) := by
  refine Ct.go (vs := [v]) fun R => ?_
  obtain ⟨b0, c0, rfl, hc0, hd0⟩ := h0.shape
  refine walk ?_
  refine ops_call rfl rfl (wnew_spec (W0 := W0) (H := H) (nodes := 3)) fun r1 H1 B hl1 hq => ?_
  obtain ⟨h, _⟩ | ⟨n, p, hn, _, er, eB⟩ := hq
  · exact absurd ⟨by decide, by decide⟩ h
  obtain rfl : n = 3 := by omega
  subst er eB
  refine walk ?_
  refine ex_loop (σ := Nat × PW × Heap) (fun u => ((u.1 ≤ script.length ∧ u.1 ≤ 150) ∧ (∃ B, WInv 3 u.1 B u.2.1) ∧ u.2.1.log.length ≤ u.1) ∧ H1.le u.2.2) (fun u => [(0, .slice b0 script.length c0), (3, ptrC p), (5, I u.1)]) (fun u => u.2.2)
    (fun u => worldO u.2.2 p u.2.1 :: R) (fun u => script.length - u.1) (0, newW 3, H1) ⟨⟨⟨Nat.zero_le _, by omega⟩, ⟨[], winv0 (by decide)⟩, Nat.le_refl _⟩, .refl _⟩ fun ⟨j, w, HK⟩ ⟨⟨⟨hj0, hj150⟩, ⟨B0, I0⟩, hlg⟩, hlK⟩ K hL => ?_
  simp only at hj0 hj150 I0 hlg hlK
  dsimp only
  by_cases hj1 : j < script.length
  · by_cases hj2 : j < 150
    · have hj3 : (j : Int) < (script.length : Int) := by omega
      have hj4 : (j : Int) < 150 := by omega
      refine walk ?_
      have hlHK : H.le HK := hl1.trans hlK
      have hsl := h0.mono hlHK
      obtain ⟨m, hm⟩ : ∃ m, script[j] = m := ⟨_, rfl⟩
      refine ex_any 19 [] ?_
      refine stepY 0 ?_; refine stepY 1 ?_; refine stepY 2 ?_
      refine gny_ixp 3 rfl rfl rfl hsl hj1 fun ba oa ca hra hca => ?_
      rw [hm] at hca
      obtain ⟨sa, rfl, ka, _, ga⟩ := hca
      obtain ⟨xa, ya, rfl, _, _⟩ := ga.1.shape
      refine stepY 4 ?_
      refine gny_ldHo 5 0 rfl rfl hra rfl rfl ?_
      refine stepY 6 ?_; refine stepY 7 ?_
      refine gny_ixp 8 rfl rfl rfl hsl hj1 fun bb ob cb hrb hcb => ?_
      rw [hm] at hcb
      obtain ⟨sb, rfl, _, kb, gb⟩ := hcb
      obtain ⟨xb, yb, rfl, _, _⟩ := gb.1.shape
      refine stepY 9 ?_
      refine gny_ldHo 10 1 rfl rfl hrb rfl rfl ?_
      refine stepY 11 ?_; refine stepY 12 ?_
      refine gny_ixp 13 rfl rfl rfl hsl hj1 fun bc oc cc hrc hcc => ?_
      rw [hm] at hcc
      obtain ⟨sc, rfl, _, _, gc⟩ := hcc
      obtain ⟨xc, yc, rfl, _, _⟩ := gc.1.shape
      refine stepY 14 ?_
      refine gny_ldHo 15 2 rfl rfl hrc rfl rfl ?_
      refine gny_call 16 rfl rfl rfl (ownP_spec (W0 := W0) (H := HK) gc) fun r16 H6 B hl6 eB => ?_
      subst eB
      refine ⟨.nil _, ?_⟩
      refine any_freeze r16 fun H7 hl7 hs => ?_
      obtain ⟨xd, yd, rfl, _, _⟩ := hs.1.shape
      refine any_L (L' := worldO H7 p w :: R) ?_ ?_
      · refine Sub.trans (B := worldO HK p w :: R) subA ?_
        exact world_up (hl6.trans hl7)
      refine stepY 17 ?_
      refine gny_call 18 rfl rfl rfl (wplay_spec (W0 := W0) (H := H7) (p := p) (m := ⟨m.Kind, m.A, ownP m.Works⟩) (hP.mono (hlHK.trans (hl6.trans hl7))) I0 (by omega) hs ka kb) fun r18 H8 B hl8 ⟨w', e, hp, er, eB⟩ => ?_
      subst er eB
      refine ⟨.nil _, ?_⟩
      refine any_rest rfl ?_
      refine walk ?_
      obtain ⟨B', I1, _⟩ := I0.play (by omega) (ownP_ok gc.1) hp
      exact out_next hL (j + 1, w', H8) ⟨⟨⟨by simp only; omega, by simp only; omega⟩, ⟨B', I1⟩, by have := hp.log; simp only; omega⟩, hlK.trans (hl6.trans (hl7.trans hl8))⟩
    · obtain rfl : j = 150 := by omega
      have hj3 : (150 : Int) < (script.length : Int) := by omega
      clear hL
      refine walk ?_
      refine finB [worldO HK p w] ?_
      exact ⟨p, w, _, _, rfl, by omega, I0, hlg, rfl⟩
  · obtain rfl : j = script.length := by omega
    clear hL
    refine walk ?_
    refine finB [worldO HK p w] ?_
    exact ⟨p, w, _, _, rfl, hj150, I0, hlg, rfl⟩
inductive Steps (m : Nat) (w : PW) : Nat → PW → Prop
  | nil : Steps m w 0 w
  | more {j : Nat} {w' w'' : PW} {e : Int} (h : Steps m w j w') (hp : PPlay m w' 5 j [] w'' e) : Steps m w (j + 1) w''
theorem Steps.round {m : Nat} {w w1 w4 w' : PW} {e1 : Int} (h1 : PPlay m w 6 8 [] w1 e1) (h : Steps m w1 3 w4) {j : Nat} (hd : Dels m w4 j w') (he : j = 2000 ∨ w'.net = []) : RoundR m w w' := by
  cases h with
  | more h c =>
    cases h with
    | more h b =>
      cases h with
      | more h a =>
        cases h
        exact ⟨_, _, _, _, _, _, _, _, h1, a, b, c, j, hd, he⟩
theorem Dels.inv {n K m : Nat} {B : List BT} {w w' : PW} {j : Nat} (I : WInv n K B w) (h : Dels m w j w') : WInv n K B w' ∧ w'.log.length ≤ w.log.length + j := by
  induction h with
  | nil => exact ⟨I, Nat.le_refl _⟩
  | more _ _ hp ih => exact ⟨ih.1.quiet (by decide) hp, by have := hp.log; have := ih.2; omega⟩
set_option maxHeartbeats 16000000 in
set_option maxRecDepth 20000 in
theorem round_spec {W0 : World} {H : Heap} {p K : Nat} {B0 : List BT} {w : PW} (hP : PkH H) (IW : WInv 3 K B0 w) (hl : w.log.length ≤ 700000000) :
    Ct Tryz.prog 18 #[ptrC p] W0 H [worldO H p w] (fun r H' B => ∃ w', RoundR (K + 1) w w' ∧ WInv 3 K B0 w' ∧ w'.log.length ≤ w.log.length + 2004 ∧ B = [worldO H' p w']) := by
  refine Ct.go (vs := [ptrC p]) fun R => ?_
  have hf2 : fits (2 : Int) := by unfold fits; omega
  have hf5 : fits (5 : Int) := by unfold fits; omega
  have hf6 : fits (6 : Int) := by unfold fits; omega
  have hf8 : fits (8 : Int) := by unfold fits; omega
  refine walk ?_
  refine ops_call rfl rfl (wplay_spec (W0 := W0) (H := H) (p := p) (m := ⟨6, 8, []⟩) hP IW (by omega) SlB.nil hf6 hf8) fun r1 H1 B hl1 ⟨w1, e1, p1, er, eB⟩ => ?_
  subst er eB
  have I1 : WInv 3 K B0 w1 := IW.quiet (k := 6) (by decide) p1
  have g1 := p1.log
  refine walk ?_
  refine ex_loop (σ := Nat × PW × Heap) (fun u => (u.1 ≤ 3 ∧ Steps (K + 1) w1 u.1 u.2.1 ∧ WInv 3 K B0 u.2.1 ∧ u.2.1.log.length ≤ w.log.length + 1 + u.1) ∧ H1.le u.2.2) (fun u => [(0, ptrC p), (2, I u.1)]) (fun u => u.2.2)
    (fun u => worldO u.2.2 p u.2.1 :: R) (fun u => 3 - u.1) (0, w1, H1) ⟨⟨Nat.zero_le _, .nil, I1, by simpa using g1⟩, .refl _⟩ fun ⟨i, v, HK⟩ ⟨⟨hi0, hS, Iv, hlg⟩, hlK⟩ K2 hL => ?_
  simp only at hi0 hS Iv hlg hlK
  dsimp only
  by_cases hi1 : i < 3
  · have hi2 : (i : Int) < 3 := by omega
    have hfi : fits (i : Int) := by unfold fits; omega
    refine walk ?_
    refine ops_call rfl rfl (wplay_spec (W0 := W0) (H := HK) (p := p) (m := ⟨5, i, []⟩) (hP.mono (hl1.trans hlK)) Iv (by omega) SlB.nil hf5 hfi) fun r2 H2 B hl2 ⟨w2, e2, p2, er, eB⟩ => ?_
    subst er eB
    have I2 : WInv 3 K B0 w2 := Iv.quiet (k := 5) (by decide) p2
    have g2 := p2.log
    refine walk ?_
    exact out_next hL (i + 1, w2, H2) ⟨⟨by simp only; omega, hS.more p2, I2, by simp only; omega⟩, hlK.trans hl2⟩
  · obtain rfl : i = 3 := by omega
    clear hL
    refine walk ?_
    refine ex_loop (σ := Nat × PW × Heap) (fun u => (u.1 ≤ 2000 ∧ Dels (K + 1) v u.1 u.2.1) ∧ HK.le u.2.2) (fun u => [(0, ptrC p), (3, I u.1)]) (fun u => u.2.2)
      (fun u => worldO u.2.2 p u.2.1 :: R) (fun u => 2000 - u.1) (0, v, HK) ⟨⟨Nat.zero_le _, .nil⟩, .refl _⟩ fun ⟨j, x, HJ⟩ ⟨⟨hj0, hD⟩, hlJ⟩ K3 hL => ?_
    simp only at hj0 hD hlJ
    dsimp only
    obtain ⟨Ix, hxl⟩ := hD.inv Iv
    by_cases hj1 : j < 2000
    · have hj2 : (j : Int) < 2000 := by omega
      refine walk ?_
      refine ops_call rfl rfl (wflight_spec (W0 := W0) (H := HJ) (p := p) (w := x)) fun r3 H3 B hl3 ⟨er, eB, eH⟩ => ?_
      subst er eB eH
      by_cases hx0 : x.net = []
      · have hx9 : ¬ (0 : Int) < (x.net.length : Int) := by rw [hx0]; decide
        clear hL
        refine walk ?_
        refine endnB [worldO H3 p x] ?_
        exact ⟨x, Steps.round p1 hS hD (.inr hx0), Ix, by omega, rfl⟩
      · have hx1 : (0 : Int) < (x.net.length : Int) := by
          have := List.length_pos_iff.2 hx0
          omega
        refine walk ?_
        refine ops_call rfl rfl (wplay_spec (W0 := W0) (H := H3) (p := p) (m := ⟨2, 0, []⟩) (hP.mono (hl1.trans (hlK.trans hlJ))) Ix (by omega) SlB.nil hf2 fits0) fun r4 H4 B hl4 ⟨x', e4, p4, er, eB⟩ => ?_
        subst er eB
        refine walk ?_
        exact out_next hL (j + 1, x', H4) ⟨⟨by simp only; omega, hD.more hx0 p4⟩, hlJ.trans hl4⟩
    · obtain rfl : j = 2000 := by omega
      clear hL
      refine walk ?_
      refine endnB [worldO HJ p x] ?_
      exact ⟨x, Steps.round p1 hS hD (.inl rfl), Ix, by omega, rfl⟩
theorem hrow_sub {H : Heap} {b off k : Nat} {cs us : List Value} (h : HRow H b off cs) (hu : ∀ i v, us[i]? = some v → cs[k + i]? = some v) : HRow H b (off + k) us := fun i v hi => by rw [Nat.add_assoc]; exact h _ _ (hu i v hi)
theorem hrow_txn {H : Heap} {b off : Nat} {e : PactNote} {s1 s2 s3 : Value} (h : HRow H b off (e.cv s1 s2 s3)) : HRow H b (off + 1 + 1) e.Rec.Txn.cv := hrow_sub (k := 2) h fun i v hi => by
  match i, hi with
  | 0, hi => exact hi
  | 1, hi => exact hi
  | 2, hi => exact hi
  | _ + 3, hi => simp at hi
set_option maxHeartbeats 16000000 in
set_option maxRecDepth 20000 in
theorem first_spec {W0 : World} {H : Heap} {v : Value} {l : List PactNote} {i : Nat} (hi : i < l.length) (h0 : SlR rPactNote 10 H v l) :
    Ct Tryz.prog 28 #[v, I i] W0 H [] (fun r H' B => ∃ b, r = .bool b ∧ (b = true ↔ firstN (l.take i) l[i]) ∧ B = [] ∧ H' = H) := by
  refine Ct.go (vs := [v, I i]) fun R => ?_
  obtain ⟨b0, c0, rfl, hc0, hd0⟩ := h0.shape
  refine walk ?_
  refine ex_loop (σ := Nat) (fun u => u ≤ i ∧ firstN (l.take u) l[i]) (fun u => [(0, .slice b0 l.length c0), (1, I i), (5, I u)]) (fun _ => H)
    (fun u => R) (fun u => i - u) 0 ⟨Nat.zero_le _, by intro f hf; simp at hf⟩ fun j ⟨hj0, hF⟩ K hL => ?_
  by_cases hj1 : j < i
  · have hj3 : (j : Int) < (i : Int) := by omega
    have hjl : j < l.length := by omega
    obtain ⟨m, hm⟩ : ∃ m, l[j] = m := ⟨_, rfl⟩
    obtain ⟨e, he⟩ : ∃ e, l[i] = e := ⟨_, rfl⟩
    have hsn : l.take (j + 1) = l.take j ++ [m] := by rw [List.take_succ_eq_append_getElem hjl, hm]
    have hmem : m ∈ l.take i := by rw [← hm]; exact List.mem_take_iff_getElem.2 ⟨j, by omega, rfl⟩
    have hgo : ¬ (m.Rec.Kind = 3 ∧ m.Rec.Txn = e.Rec.Txn ∧ m.Node = e.Node) → j + 1 ≤ i ∧ firstN (l.take (j + 1)) l[i] := fun hk => ⟨hj1, by
      rw [hsn, he]
      intro f hf h3 h4
      rcases List.mem_append.1 hf with hf | hf
      · rw [he] at hF; exact hF f hf h3 h4
      · rw [List.mem_singleton.1 hf] at h3 h4 ⊢; exact fun h5 => hk ⟨h3, h4, h5⟩⟩
    refine walk ?_
    refine ops_ixp rfl rfl h0 hjl fun ba oa ca hra hca => ?_
    rw [hm] at hca
    obtain ⟨s1, s2, s3, rfl, f0, f1, f2, f3, f4, f5, g1, g2, g3⟩ := hca
    change HRow H ba oa [I m.Node, I m.Rec.Kind, I m.Rec.Txn.Node, I m.Rec.Txn.Life, I m.Rec.Txn.Count, I m.Rec.Work.Robot, s1, s2, .bool m.Rec.Yes, s3] at hra
    by_cases k1 : m.Rec.Kind = 3
    · skip
      rw [k1] at hra
      refine walk ?_
      refine ops_ldH (i := 1) rfl rfl hra rfl rfl ?_
      refine walk ?_
      refine ops_ixp rfl rfl h0 hjl fun bb ob cb hrb hcb => ?_
      rw [hm] at hcb
      obtain ⟨sb1, sb2, sb3, rfl, _⟩ := hcb
      refine walk ?_
      refine ops_ldNH rfl rfl (hrow_txn hrb) rfl ?_
      refine walk ?_
      refine ops_ixp rfl rfl h0 hi fun bc oc cc hrc hcc => ?_
      rw [he] at hcc
      obtain ⟨sc1, sc2, sc3, rfl, _⟩ := hcc
      refine walk ?_
      refine ops_ldNH rfl rfl (hrow_txn hrc) rfl ?_
      refine walk ?_
      by_cases k2 : m.Rec.Txn = e.Rec.Txn
      · rw [decide_eq_true (p := m.Rec.Txn.Node = e.Rec.Txn.Node ∧ m.Rec.Txn.Life = e.Rec.Txn.Life ∧ m.Rec.Txn.Count = e.Rec.Txn.Count) (by rw [k2]; exact ⟨rfl, rfl, rfl⟩)]
        refine walk ?_
        refine ops_ixp rfl rfl h0 hjl fun bd od cd hrd hcd => ?_
        rw [hm] at hcd
        obtain ⟨sd1, sd2, sd3, rfl, _⟩ := hcd
        change HRow H bd od [I m.Node, I m.Rec.Kind, I m.Rec.Txn.Node, I m.Rec.Txn.Life, I m.Rec.Txn.Count, I m.Rec.Work.Robot, sd1, sd2, .bool m.Rec.Yes, sd3] at hrd
        refine walk ?_
        refine ops_ixp rfl rfl h0 hi fun be oe ce hre hce => ?_
        rw [he] at hce
        obtain ⟨se1, se2, se3, rfl, _⟩ := hce
        change HRow H be oe [I e.Node, I e.Rec.Kind, I e.Rec.Txn.Node, I e.Rec.Txn.Life, I e.Rec.Txn.Count, I e.Rec.Work.Robot, se1, se2, .bool e.Rec.Yes, se3] at hre
        refine walk ?_
        by_cases k3 : m.Node = e.Node
        · rw [decide_eq_true k3]
          clear hL
          refine walk ?_
          refine fin0 ?_
          exact ⟨false, rfl, ⟨(fun h => by cases h), (fun h => by rw [he] at h; exact absurd k3 (h m hmem k1 k2))⟩, rfl, rfl⟩
        · rw [decide_eq_false k3]
          refine walk ?_
          exact out_next hL (j + 1) (hgo fun h => k3 h.2.2)
      · rw [decide_eq_false (p := m.Rec.Txn.Node = e.Rec.Txn.Node ∧ m.Rec.Txn.Life = e.Rec.Txn.Life ∧ m.Rec.Txn.Count = e.Rec.Txn.Count) fun h => k2 (by revert h; obtain ⟨a, b, c⟩ := m.Rec.Txn; obtain ⟨a', b', c'⟩ := e.Rec.Txn; rintro ⟨rfl, rfl, rfl⟩; rfl)]
        refine walk ?_
        exact out_next hL (j + 1) (hgo fun h => k2 h.2.1)
    · skip
      refine walk ?_
      refine ops_ldH (i := 1) rfl rfl hra rfl rfl ?_
      refine walk ?_
      exact out_next hL (j + 1) (hgo fun h => k1 h.1)
  · obtain rfl : j = i := by omega
    clear hL
    refine walk ?_
    refine fin0 ?_
    exact ⟨true, rfl, ⟨fun _ => hF, fun _ => rfl⟩, rfl, rfl⟩
theorem WInv.ts {n K : Nat} {B : List BT} {w : PW} (I : WInv n K B w) : ∀ q ∈ w.ns, TsOk q.ps.t := fun q hq => by
  obtain ⟨i, h, rfl⟩ := List.getElem_of_mem hq
  exact (I.N.P i h).t.ok (by have := I.k3; omega)
theorem holdsW_rise {n K : Nat} {B : List BT} {w : PW} (I : WInv n K B w) (a : Int) : (holdsW w a).Pairwise fun a b => SLt a.Key b.Key := by
  unfold holdsW
  cases hn : nAt w a with
  | none => exact List.Pairwise.nil
  | some q =>
    obtain ⟨i, rfl, h, rfl⟩ := nAt_some.1 hn
    exact (holdsL_spec (I.N.P i h).t.hd).rise
theorem held_take {n K : Nat} {B : List BT} {w : PW} (I : WInv n K B w) {a : Int} {x : Hold} {q : Rec} (hx : x ∈ holdsW w a) (hq : q ∈ prepW w a) : x.Key ∉ q.Work.Take := by
  unfold holdsW at hx
  unfold prepW at hq
  cases hn : nAt w a with
  | none => rw [hn] at hx; cases hx
  | some e =>
    rw [hn] at hx hq
    obtain ⟨i, rfl, h, rfl⟩ := nAt_some.1 hn
    have hP := (I.N.P i h).t
    intro hk
    have h1 := ((holdsL_spec hP.hd).mem x).1 hx
    have h2 := hP.tk _ _ (hP.recs hq) _ hk
    rw [h2] at h1; cases h1
set_option maxHeartbeats 16000000 in
set_option maxRecDepth 20000 in
theorem pactExclusive_spec {W0 : World} {H : Heap} {v : Value} {script : List Move} (hP : PkH H) (h0 : SlB rMove 3 40 H v script) :
    Ct Tryz.prog 4 #[v] W0 H [] (fun r H' B => r = .bool true ∧ B = []) := by
  refine Ct.go (vs := [v]) fun R => ?_
  obtain ⟨b0, c0, rfl, hc0, hd0⟩ := h0.1.shape
  refine walk ?_
  refine ops_call rfl rfl (wnew_spec (W0 := W0) (H := H) (nodes := 3)) fun r1 H1 B hl1 hq => ?_
  obtain ⟨h, _⟩ | ⟨n, p, hn, _, er, eB⟩ := hq
  · exact absurd ⟨by decide, by decide⟩ h
  obtain rfl : n = 3 := by omega
  subst er eB
  refine walk ?_
  refine ops_call (vs := []) rfl rfl (wawake_spec (W0 := W0) (H := H1) (hP.mono hl1)) fun r2 H2 B hl2 ⟨er, eB⟩ => ?_
  subst er eB
  refine ops_L (L' := worldO H2 p (newW 3) :: R) ?_ ?_
  · refine Sub.trans (B := worldO H1 p (newW 3) :: R) subA ?_
    exact world_up hl2
  refine walk ?_
  refine ex_loop (σ := Nat × PW × Heap) (fun u => ((u.1 ≤ script.length ∧ u.1 ≤ 150) ∧ (∃ B, WInv 3 u.1 B u.2.1) ∧ u.2.1.log.length ≤ u.1) ∧ H2.le u.2.2) (fun u => [(0, .slice b0 script.length c0), (3, ptrC p), (5, I u.1)]) (fun u => u.2.2)
    (fun u => worldO u.2.2 p u.2.1 :: R) (fun u => script.length - u.1) (0, newW 3, H2) ⟨⟨⟨Nat.zero_le _, by omega⟩, ⟨[], winv0 (by decide)⟩, Nat.le_refl _⟩, .refl _⟩ fun ⟨j, w, HK⟩ ⟨⟨⟨hj0, hj150⟩, ⟨B0, I0⟩, hlg⟩, hlK⟩ K hL => ?_
  simp only at hj0 hj150 I0 hlg hlK
  dsimp only
  by_cases hj1 : j < script.length
  · by_cases hj2 : j < 150
    · have hj3 : (j : Int) < (script.length : Int) := by omega
      have hj4 : (j : Int) < 150 := by omega
      refine walk ?_
      have hlHK : H.le HK := hl1.trans (hl2.trans hlK)
      have hsl := h0.1.mono hlHK
      obtain ⟨m, hm⟩ : ∃ m, script[j] = m := ⟨_, rfl⟩
      refine ex_any 19 [] ?_
      refine stepY 0 ?_; refine stepY 1 ?_; refine stepY 2 ?_
      refine gny_ixp 3 rfl rfl rfl hsl hj1 fun ba oa ca hra hca => ?_
      rw [hm] at hca
      obtain ⟨sa, rfl, ka, _, ga⟩ := hca
      obtain ⟨xa, ya, rfl, _, _⟩ := ga.1.shape
      refine stepY 4 ?_
      refine gny_ldHo 5 0 rfl rfl hra rfl rfl ?_
      refine stepY 6 ?_; refine stepY 7 ?_
      refine gny_ixp 8 rfl rfl rfl hsl hj1 fun bb ob cb hrb hcb => ?_
      rw [hm] at hcb
      obtain ⟨sb, rfl, _, kb, gb⟩ := hcb
      obtain ⟨xb, yb, rfl, _, _⟩ := gb.1.shape
      refine stepY 9 ?_
      refine gny_ldHo 10 1 rfl rfl hrb rfl rfl ?_
      refine stepY 11 ?_; refine stepY 12 ?_
      refine gny_ixp 13 rfl rfl rfl hsl hj1 fun bc oc cc hrc hcc => ?_
      rw [hm] at hcc
      obtain ⟨sc, rfl, _, _, gc⟩ := hcc
      obtain ⟨xc, yc, rfl, _, _⟩ := gc.1.shape
      refine stepY 14 ?_
      refine gny_ldHo 15 2 rfl rfl hrc rfl rfl ?_
      refine gny_call 16 rfl rfl rfl (ownP_spec (W0 := W0) (H := HK) gc) fun r16 H6 B hl6 eB => ?_
      subst eB
      refine ⟨.nil _, ?_⟩
      refine any_freeze r16 fun H7 hl7 hs => ?_
      obtain ⟨xd, yd, rfl, _, _⟩ := hs.1.shape
      refine any_L (L' := worldO H7 p w :: R) ?_ ?_
      · refine Sub.trans (B := worldO HK p w :: R) subA ?_
        exact world_up (hl6.trans hl7)
      refine stepY 17 ?_
      refine gny_call 18 rfl rfl rfl (wplay_spec (W0 := W0) (H := H7) (p := p) (m := ⟨m.Kind, m.A, ownP m.Works⟩) (hP.mono (hlHK.trans (hl6.trans hl7))) I0 (by omega) hs ka kb) fun r18 H8 B hl8 ⟨w', e, hp, er, eB⟩ => ?_
      subst er eB
      refine ⟨.nil _, ?_⟩
      refine any_rest rfl ?_
      obtain ⟨B', I1, _⟩ := I0.play (by omega) (ownP_ok gc.1) hp
      have hlg' := hp.log
      have hlK8 : HK.le H8 := hl6.trans (hl7.trans hl8)
      have hts := I1.ts
      clear hra hrb hrc hsl hs ga gb gc hp I0
      refine walk ?_
      refine ex_loop (σ := Nat × Heap) (fun u => u.1 ≤ 3 ∧ H8.le u.2) (fun u => [(0, .slice b0 script.length c0), (3, ptrC p), (5, I j), (6, I u.1)]) (fun u => u.2)
        (fun u => worldO u.2 p w' :: R) (fun u => 3 - u.1) (0, H8) ⟨Nat.zero_le _, .refl _⟩ fun ⟨i, HI⟩ ⟨hi0, hlI⟩ K2 hL2 => ?_
      simp only at hi0 hlI
      dsimp only
      by_cases hi1 : i < 3
      · have hi2 : (i : Int) < 3 := by omega
        refine walk ?_
        refine ops_call rfl rfl (wholds_spec (W0 := W0) (H := HI) (p := p) (w := w') (a := i) hts) fun r9 H9 B hl9 eB => ?_
        subst eB
        refine ops_freeze r9 fun H10 hl10 hsh => ?_
        refine ops_L (L' := worldO H10 p w' :: R) ?_ ?_
        · refine Sub.trans (B := worldO H9 p w' :: R) subA ?_
          exact world_up hl10
        have hrise := holdsW_rise I1 (i : Int)
        have htk := fun {x q} => held_take I1 (a := (i : Int)) (x := x) (q := q)
        generalize hhw : holdsW w' (i : Int) = hw at hsh hrise htk
        obtain ⟨b9, c9, rfl, _, _⟩ := hsh.1.shape
        refine walk ?_
        refine ex_loop (σ := Nat × Heap) (fun u => u.1 ≤ hw.length ∧ H10.le u.2) (fun u => [(0, .slice b0 script.length c0), (3, ptrC p), (5, I j), (6, I i), (7, .slice b9 hw.length c9), (64, I hw.length), (65, I u.1)]) (fun u => u.2)
          (fun u => worldO u.2 p w' :: R) (fun u => hw.length - u.1) (0, H10) ⟨Nat.zero_le _, .refl _⟩ fun ⟨k, HQ⟩ ⟨hk0, hlQ⟩ K3 hL3 => ?_
        simp only at hk0 hlQ
        dsimp only
        by_cases hk1 : k < hw.length
        · have hk2 : (k : Int) < (hw.length : Int) := by omega
          have hsq := hsh.mono hlQ
          refine walk ?_
          refine ops_cut1 (σ := Unit) (fun _ => True) (fun _ => [(0, .slice b0 script.length c0), (3, ptrC p), (5, I j), (6, I i), (7, .slice b9 hw.length c9), (8, I k), (64, I hw.length), (65, I k)]) (fun _ => HQ) (fun _ => worldO HQ p w' :: R) (fun K4 hK4 => ?_) fun _ _ => ?_
          · rcases Nat.eq_zero_or_pos k with hk9 | hk9
            · rw [decide_eq_false (p := (0 : Int) < (k : Int)) (by omega)]
              refine walk ?_
              exact out_to hK4 () trivial
            · rw [decide_eq_true (p := (0 : Int) < (k : Int)) (by omega)]
              have hkm : k - 1 < hw.length := by omega
              have hlt := List.pairwise_iff_getElem.1 hrise (k - 1) k hkm hk1 (by omega)
              refine walk ?_
              rw [show (k : Int) - 1 = ((k - 1 : Nat) : Int) by omega]
              refine ops_ixp rfl rfl hsq.1 hkm fun b3 o3 c3' hr3 hc3 => ?_
              obtain ⟨rfl, _, _⟩ := hc3
              refine walk ?_
              refine ops_ixp rfl rfl hsq.1 hk1 fun b4 o4 c4 hr4 hc4 => ?_
              obtain ⟨rfl, _, _⟩ := hc4
              refine walk ?_
              rw [decide_eq_false (p := ¬ SLt hw[k - 1].Key hw[k].Key) (fun h => h hlt)]
              refine walk ?_
              exact out_to hK4 () trivial
          · clear hrise
            refine walk ?_
            refine ops_call rfl rfl (wprep_spec (W0 := W0) (H := HQ) (p := p) (w := w') (a := i) hts) fun r11 H11 B hl11 eB => ?_
            subst eB
            refine ops_freeze r11 fun H12 hl12 hsp => ?_
            refine ops_L (L' := worldO H12 p w' :: R) ?_ ?_
            · refine Sub.trans (B := worldO H11 p w' :: R) subA ?_
              exact world_up hl12
            generalize hpw : prepW w' (i : Int) = pw at hsp htk
            obtain ⟨b11, c11, rfl, _, _⟩ := hsp.1.shape
            have hsr := hsq.mono (hl11.trans hl12)
            refine walk ?_
            refine ex_loop (σ := Nat) (fun u => u ≤ pw.length) (fun u => [(0, .slice b0 script.length c0), (3, ptrC p), (5, I j), (6, I i), (7, .slice b9 hw.length c9), (8, I k), (64, I hw.length), (65, I k), (86, .slice b11 pw.length c11), (87, I pw.length), (88, I u)]) (fun _ => H12)
              (fun u => worldO H12 p w' :: R) (fun u => pw.length - u) 0 (Nat.zero_le _) fun q hq0 K5 hL5 => ?_
            by_cases hq1 : q < pw.length
            · have hq2 : (q : Int) < (pw.length : Int) := by omega
              have htk2 := fun {x} hx => htk (x := x) (q := pw[q]) hx (List.getElem_mem hq1)
              refine walk ?_
              refine ops_ixp rfl rfl hsp.1 hq1 fun bb ob cb hrb hcb => ?_
              obtain ⟨x, hx⟩ : ∃ x, pw[q] = x := ⟨_, rfl⟩
              rw [hx] at hcb htk2
              obtain ⟨t1, t2, t3, rfl, _, _, _, _, _, g1, g2, g3⟩ := hcb
              obtain ⟨u1, v1, rfl, _, _⟩ := g1.1.shape
              obtain ⟨u2, v2, rfl, _, _⟩ := g2.1.shape
              obtain ⟨u3, v3, rfl, _, _⟩ := g3.1.shape
              refine ops_ldNH rfl rfl hrb rfl ?_
              refine walk ?_
              refine ops_alloc rfl fun p10 _ => ?_
              refine walk ?_
              refine ex_loop (σ := Nat) (fun u => u ≤ x.Work.Take.length) (fun u => [(0, .slice b0 script.length c0), (3, ptrC p), (5, I j), (6, I i), (7, .slice b9 hw.length c9), (8, I k), (64, I hw.length), (65, I k), (86, .slice b11 pw.length c11), (87, I pw.length), (88, I q), (94, .slice u1 x.Work.Take.length v1), (95, I x.Work.Take.length), (96, I u)]) (fun _ => H12)
                (fun u => worldO H12 p w' :: R) (fun u => x.Work.Take.length - u) 0 (Nat.zero_le _) fun z hz0 K6 hL6 => ?_
              by_cases hz1 : z < x.Work.Take.length
              · have hz2 : (z : Int) < (x.Work.Take.length : Int) := by omega
                refine walk ?_
                refine ops_ixp rfl rfl g1.1 hz1 fun b5 o5 c5 hr5 hc5 => ?_
                obtain ⟨rfl, _⟩ := hc5
                refine walk ?_
                refine ops_ixp rfl rfl hsr.1 hk1 fun b6 o6 c6 hr6 hc6 => ?_
                obtain ⟨rfl, _, _⟩ := hc6
                refine walk ?_
                have hne : ¬ x.Work.Take[z] = hw[k].Key := fun e => htk2 (List.getElem_mem hk1) (by rw [← e]; exact List.getElem_mem hz1)
                rw [decide_eq_false hne]
                refine walk ?_
                exact out_next hL6 (z + 1) (by omega)
              · obtain rfl : z = x.Work.Take.length := by omega
                clear hL6
                refine walk ?_
                exact out_next hL5 (q + 1) (by omega)
            · obtain rfl : q = pw.length := by omega
              clear hL5
              refine walk ?_
              exact out_next hL3 (k + 1, H12) ⟨by simp only; omega, hlQ.trans (hl11.trans hl12)⟩
        · obtain rfl : k = hw.length := by omega
          clear hL3
          refine walk ?_
          exact out_next hL2 (i + 1, HQ) ⟨by simp only; omega, hlI.trans (hl9.trans (hl10.trans hlQ))⟩
      · obtain rfl : i = 3 := by omega
        clear hL2
        refine walk ?_
        exact out_next hL (j + 1, w', HI) ⟨⟨⟨by simp only; omega, by simp only; omega⟩, ⟨B', I1⟩, by simp only; omega⟩, hlK.trans (hlK8.trans hlI)⟩
    · obtain rfl : j = 150 := by omega
      have hj3 : (150 : Int) < (script.length : Int) := by omega
      clear hL
      refine walk ?_
      refine fin0 ?_
      exact ⟨rfl, rfl⟩
  · obtain rfl : j = script.length := by omega
    clear hL
    refine walk ?_
    refine fin0 ?_
    exact ⟨rfl, rfl⟩
end Go.Proofs.YtlflbkpmfhhikaaGreatDoor
