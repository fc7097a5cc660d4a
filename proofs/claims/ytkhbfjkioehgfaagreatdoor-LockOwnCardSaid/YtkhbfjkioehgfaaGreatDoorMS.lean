/- Is all that is told the document's? One call. -/
import Derived.Test.YtkhbfjkioehgfaaGreatDoorMR
import Derived.Test.YtkhbfjkioehgfaaGreatDoorMD
set_option linter.unusedVariables false
set_option linter.unusedSimpArgs false
namespace Go.Proofs.YtkhbfjkioehgfaaGreatDoor
open Go Go.Sx Go.Proofs
set_option maxHeartbeats 8000000 in
set_option maxRecDepth 20000 in
theorem tells_spec {W0 : World} {H : Heap} {p : Nat} {s : TS} {m : Table} {c : List Value} {n : Nat} (I0 : Inv n s) (hn : n ≤ 1000) (r : Rel s m) (h0 : rTable H c m) :
    Ct Tryz.prog 22 #[.pointer (some ⟨p, 0, none⟩), .agg c.toArray] W0 H [tabO H p s] (fun v H' B => v = .bool true ∧ B = [tabO H' p s]) := by
  refine Ct.go (vs := [.pointer (some ⟨p, 0, none⟩), .agg c.toArray]) fun R => ?_
  obtain ⟨s1, s2, rfl, hs1, hs2⟩ := h0
  obtain ⟨b1, c1, rfl, hc1, hd1⟩ := hs1.1.shape
  obtain ⟨b2, c2, rfl, hc2, hd2⟩ := hs2.1.shape
  have hok := I0.ok hn
  have e1 := r.held I0
  have e2 := r.prep I0
  refine walk ?_
  refine ops_box rfl rfl fun p3 _ => ?_
  refine walk ?_
  refine ex_any 12 [row p3 55 [.slice b1 m.Held.length c1, .slice b2 m.Prep.length c2]] ?_
  (first | refine gny_p 0 rfl rfl rfl ?_ | refine gny_ld 0 rfl rfl rfl rfl ?_ | refine gny_ldH 0 rfl rfl rfl ‹HRow _ _ 0 _› rfl ?_ | refine gny_T 0 rfl rfl rfl ?_ | refine gny_F 0 rfl rfl rfl ?_ | refine gny_B 0 rfl rfl rfl ?_ | refine gny_skip 0 rfl rfl ?_ | refine gny_sp 0 rfl rfl rfl ?_ | refine gny_sB 0 rfl rfl rfl ?_ | refine gny_sld 0 rfl rfl rfl rfl ?_ | refine gny_sldH 0 rfl rfl rfl ‹HRow _ _ 0 _› rfl ?_ | refine gny_ldN 0 rfl rfl rfl rfl ?_ | refine gny_bld 0 rfl rfl rfl ?_); (first | refine gny_p 2 rfl rfl rfl ?_ | refine gny_ld 2 rfl rfl rfl rfl ?_ | refine gny_ldH 2 rfl rfl rfl ‹HRow _ _ 0 _› rfl ?_ | refine gny_T 2 rfl rfl rfl ?_ | refine gny_F 2 rfl rfl rfl ?_ | refine gny_B 2 rfl rfl rfl ?_ | refine gny_skip 2 rfl rfl ?_ | refine gny_sp 2 rfl rfl rfl ?_ | refine gny_sB 2 rfl rfl rfl ?_ | refine gny_sld 2 rfl rfl rfl rfl ?_ | refine gny_sldH 2 rfl rfl rfl ‹HRow _ _ 0 _› rfl ?_ | refine gny_ldN 2 rfl rfl rfl rfl ?_ | refine gny_bld 2 rfl rfl rfl ?_); (first | refine gny_p 3 rfl rfl rfl ?_ | refine gny_ld 3 rfl rfl rfl rfl ?_ | refine gny_ldH 3 rfl rfl rfl ‹HRow _ _ 0 _› rfl ?_ | refine gny_T 3 rfl rfl rfl ?_ | refine gny_F 3 rfl rfl rfl ?_ | refine gny_B 3 rfl rfl rfl ?_ | refine gny_skip 3 rfl rfl ?_ | refine gny_sp 3 rfl rfl rfl ?_ | refine gny_sB 3 rfl rfl rfl ?_ | refine gny_sld 3 rfl rfl rfl rfl ?_ | refine gny_sldH 3 rfl rfl rfl ‹HRow _ _ 0 _› rfl ?_ | refine gny_ldN 3 rfl rfl rfl rfl ?_ | refine gny_bld 3 rfl rfl rfl ?_)
  refine gny_call 1 rfl rfl rfl (holds_spec (W0 := W0) (H := H) (p := p) hok) fun r1 H1 B hl1 eB => ?_
  subst eB
  refine ⟨(by (repeat (first | exact Sub.refl _ | exact Sub.nil _ | (apply sub_pick; (repeat (first | exact Has.here | apply Has.there)); skip) | apply Sub.drop))), ?_⟩
  rw [e1]
  refine any_freeze r1 fun H2 hl2 hsl => ?_
  refine gny_pcall 4 rfl rfl rfl (sameHolds_spec hsl.1 (hs1.mono (hl1.trans hl2)).1) ?_
  (first | refine gny_p 5 rfl rfl rfl ?_ | refine gny_ld 5 rfl rfl rfl rfl ?_ | refine gny_ldH 5 rfl rfl rfl ‹HRow _ _ 0 _› rfl ?_ | refine gny_T 5 rfl rfl rfl ?_ | refine gny_F 5 rfl rfl rfl ?_ | refine gny_B 5 rfl rfl rfl ?_ | refine gny_skip 5 rfl rfl ?_ | refine gny_sp 5 rfl rfl rfl ?_ | refine gny_sB 5 rfl rfl rfl ?_ | refine gny_sld 5 rfl rfl rfl rfl ?_ | refine gny_sldH 5 rfl rfl rfl ‹HRow _ _ 0 _› rfl ?_ | refine gny_ldN 5 rfl rfl rfl rfl ?_ | refine gny_bld 5 rfl rfl rfl ?_); (first | refine gny_p 6 rfl rfl rfl ?_ | refine gny_ld 6 rfl rfl rfl rfl ?_ | refine gny_ldH 6 rfl rfl rfl ‹HRow _ _ 0 _› rfl ?_ | refine gny_T 6 rfl rfl rfl ?_ | refine gny_F 6 rfl rfl rfl ?_ | refine gny_B 6 rfl rfl rfl ?_ | refine gny_skip 6 rfl rfl ?_ | refine gny_sp 6 rfl rfl rfl ?_ | refine gny_sB 6 rfl rfl rfl ?_ | refine gny_sld 6 rfl rfl rfl rfl ?_ | refine gny_sldH 6 rfl rfl rfl ‹HRow _ _ 0 _› rfl ?_ | refine gny_ldN 6 rfl rfl rfl rfl ?_ | refine gny_bld 6 rfl rfl rfl ?_); (first | refine gny_p 8 rfl rfl rfl ?_ | refine gny_ld 8 rfl rfl rfl rfl ?_ | refine gny_ldH 8 rfl rfl rfl ‹HRow _ _ 0 _› rfl ?_ | refine gny_T 8 rfl rfl rfl ?_ | refine gny_F 8 rfl rfl rfl ?_ | refine gny_B 8 rfl rfl rfl ?_ | refine gny_skip 8 rfl rfl ?_ | refine gny_sp 8 rfl rfl rfl ?_ | refine gny_sB 8 rfl rfl rfl ?_ | refine gny_sld 8 rfl rfl rfl rfl ?_ | refine gny_sldH 8 rfl rfl rfl ‹HRow _ _ 0 _› rfl ?_ | refine gny_ldN 8 rfl rfl rfl rfl ?_ | refine gny_bld 8 rfl rfl rfl ?_); (first | refine gny_p 9 rfl rfl rfl ?_ | refine gny_ld 9 rfl rfl rfl rfl ?_ | refine gny_ldH 9 rfl rfl rfl ‹HRow _ _ 0 _› rfl ?_ | refine gny_T 9 rfl rfl rfl ?_ | refine gny_F 9 rfl rfl rfl ?_ | refine gny_B 9 rfl rfl rfl ?_ | refine gny_skip 9 rfl rfl ?_ | refine gny_sp 9 rfl rfl rfl ?_ | refine gny_sB 9 rfl rfl rfl ?_ | refine gny_sld 9 rfl rfl rfl rfl ?_ | refine gny_sldH 9 rfl rfl rfl ‹HRow _ _ 0 _› rfl ?_ | refine gny_ldN 9 rfl rfl rfl rfl ?_ | refine gny_bld 9 rfl rfl rfl ?_)
  refine any_L (L' := tabO H2 p s :: row p3 55 [.slice b1 m.Held.length c1, .slice b2 m.Prep.length c2] :: R) ?_ ?_
  · refine Sub.trans ?_ (tab_up hl2)
    (repeat (first | exact Sub.refl _ | exact Sub.nil _ | (apply sub_pick; (repeat (first | exact Has.here | apply Has.there)); skip) | apply Sub.drop))
  refine gny_call 7 rfl rfl rfl (prepared_spec (W0 := W0) (H := H2) (p := p) hok) fun r3 H3 B hl3 eB => ?_
  subst eB
  refine ⟨(by (repeat (first | exact Sub.refl _ | exact Sub.nil _ | (apply sub_pick; (repeat (first | exact Has.here | apply Has.there)); skip) | apply Sub.drop))), ?_⟩
  rw [e2]
  refine any_freeze r3 fun H4 hl4 hsp => ?_
  refine gny_pcall 10 rfl rfl rfl (sameRecs_spec hsp.1 (hs2.mono (hl1.trans (hl2.trans (hl3.trans hl4)))).1) ?_
  (first | refine gny_p 11 rfl rfl rfl ?_ | refine gny_ld 11 rfl rfl rfl rfl ?_ | refine gny_ldH 11 rfl rfl rfl ‹HRow _ _ 0 _› rfl ?_ | refine gny_T 11 rfl rfl rfl ?_ | refine gny_F 11 rfl rfl rfl ?_ | refine gny_B 11 rfl rfl rfl ?_ | refine gny_skip 11 rfl rfl ?_ | refine gny_sp 11 rfl rfl rfl ?_ | refine gny_sB 11 rfl rfl rfl ?_ | refine gny_sld 11 rfl rfl rfl rfl ?_ | refine gny_sldH 11 rfl rfl rfl ‹HRow _ _ 0 _› rfl ?_ | refine gny_ldN 11 rfl rfl rfl rfl ?_ | refine gny_bld 11 rfl rfl rfl ?_)
  refine any_rest rfl ?_
  refine ops_L (L' := tabO H4 p s :: R) ?_ ?_
  · refine Sub.trans ?_ (tab_up hl4)
    (repeat (first | exact Sub.refl _ | exact Sub.nil _ | (apply sub_pick; (repeat (first | exact Has.here | apply Has.there)); skip) | apply Sub.drop))
  refine walk ?_
  refine finB [tabO H4 p s] ?_
  exact ⟨rfl, rfl⟩
/-- one call: what stands behind it -/
def PlayP (n : Nat) (s : TS) (m : Table) : Prop := Inv n s ∧ Rel s m
set_option maxHeartbeats 32000000 in
set_option maxRecDepth 20000 in
theorem play_spec {W0 : World} {H : Heap} {p : Nat} {s : TS} {m : Table} {c co : List Value} {o : Op} {n : Nat} (hP : PkH H) (I0 : Inv n s) (hn : n ≤ 500) (r : Rel s m) (h0 : rTable H c m) (ho : rOp H co o) :
    Ct Tryz.prog 23 #[.pointer (some ⟨p, 0, none⟩), .agg c.toArray, .agg co.toArray] W0 H [tabO H p s] (fun v H' B => ∃ p' s' m' c', v = .tuple #[.pointer (some ⟨p', 0, none⟩), .agg c'.toArray, .bool true] ∧ rTable H' c' m' ∧ Inv (n + 1) s' ∧ Rel s' m' ∧ B = [tabO H' p' s']) := by
  refine Ct.go (vs := [.pointer (some ⟨p, 0, none⟩), .agg c.toArray, .agg co.toArray]) fun R => ?_
  have h00 := h0
  obtain ⟨s1, s2, rfl, hs1, hs2⟩ := h0
  obtain ⟨b1, c1, rfl, hc1, hd1⟩ := hs1.1.shape
  obtain ⟨b2, c2, rfl, hc2, hd2⟩ := hs2.1.shape
  obtain ⟨t1, t2, rfl, f1, f2, f3, f4, f5, f6, f7, f8, f9⟩ := ho
  obtain ⟨ok, ⟨x1, x2, x3⟩, ⟨wr, wt, wd⟩, oy, on, oq⟩ := o
  dsimp only at f1 f2 f3 f4 f5 f6 f7 f8 f9
  obtain ⟨sb1, sc1, rfl, _, _⟩ := f6.1.shape
  obtain ⟨sb2, sc2, rfl, _, _⟩ := f7.1.shape
  have hok := I0.ok (by omega)
  have e1 := r.held I0
  have e2 := r.prep I0
  have hml : m.Held.length ≤ 40 * n := by rw [← e1]; simpa [holdsL, sortT_len] using I0.hn
  have hmp : m.Prep.length ≤ n := by rw [← e2, prepL_len]; exact I0.wn
  have h80 : ∀ q ∈ m.Prep, q.Work.ks.length ≤ 80 := fun q hq => (I0.ww _ _ (r.recs hq)).1.1.ks_len
  refine walk ?_
  refine ops_box rfl rfl fun p4 _ => ?_
  refine ops_box rfl rfl fun p5 _ => ?_
  refine walk ?_
  refine ops_alloc rfl fun p7 _ => ?_
  refine walk ?_
  have hw0 : rWork H [I wr, .slice sb1 wt.length sc1, .slice sb2 wd.length sc2] ⟨wr, wt, wd⟩ := ⟨_, _, rfl, f5, f6, f7⟩
  have hcw := clip_ok hw0
  have hc80 := hcw.ks_len
  refine ex_L (L' := tabO H p s :: row p4 55 [.slice b1 m.Held.length c1, .slice b2 m.Prep.length c2] :: row p5 32 [I ok, I x1, I x2, I x3, I wr, .slice sb1 wt.length sc1, .slice sb2 wd.length sc2, .bool oy, I on, .string oq] :: row p7 55 [nilS, nilS] :: R) (by (repeat (first | exact Sub.refl _ | exact Sub.nil _ | (apply sub_pick; (repeat (first | exact Has.here | apply Has.there)); skip) | apply Sub.drop))) ?_
  refine ex_cutb (σ := Nat × TS × Table × Int × (Option Addr × Nat) × (Option Addr × Nat) × Heap) (fun u => Inv (n + 1) u.2.1 ∧ Rel u.2.1 u.2.2.1 ∧ H.le u.2.2.2.2.2.2 ∧ SlB rHold 2 24 u.2.2.2.2.2.2 (.slice u.2.2.2.2.1.1 u.2.2.1.Held.length u.2.2.2.2.1.2) u.2.2.1.Held ∧ SlB rRec 9 120 u.2.2.2.2.2.2 (.slice u.2.2.2.2.2.1.1 u.2.2.1.Prep.length u.2.2.2.2.2.1.2) u.2.2.1.Prep)
    (fun u => [(0, .pointer (some ⟨u.1, 0, none⟩)), (4, .pointer (some ⟨p4, 0, none⟩)), (7, .pointer (some ⟨p7, 0, none⟩)), (9, I u.2.2.2.1), (10, I u.2.2.2.1)]) (fun u => u.2.2.2.2.2.2)
    (fun u => tabO u.2.2.2.2.2.2 u.1 u.2.1 :: row p4 55 [.slice u.2.2.2.2.1.1 u.2.2.1.Held.length u.2.2.2.2.1.2, .slice u.2.2.2.2.2.1.1 u.2.2.1.Prep.length u.2.2.2.2.2.1.2] :: row p7 55 [nilS, nilS] :: R) (fun K hK => ?_) fun ⟨p', s', m', e, ⟨d1, d2⟩, ⟨d3, d4⟩, HK⟩ ⟨hI', hR', hlK, hn1, hn2⟩ => ?_
  · refine walk ?_
    refine ex_if rfl (fun hq1 => ?_) (fun hq1 => ?_)
    · refine walk ?_
      refine ex_any 6 [row p5 32 [I ok, I x1, I x2, I x3, I wr, .slice sb1 wt.length sc1, .slice sb2 wd.length sc2, .bool oy, I on, .string oq]] ?_
      (first | refine gny_p 0 rfl rfl rfl ?_ | refine gny_ld 0 rfl rfl rfl rfl ?_ | refine gny_ldH 0 rfl rfl rfl ‹HRow _ _ 0 _› rfl ?_ | refine gny_T 0 rfl rfl rfl ?_ | refine gny_F 0 rfl rfl rfl ?_ | refine gny_B 0 rfl rfl rfl ?_ | refine gny_skip 0 rfl rfl ?_ | refine gny_sp 0 rfl rfl rfl ?_ | refine gny_sB 0 rfl rfl rfl ?_ | refine gny_sld 0 rfl rfl rfl rfl ?_ | refine gny_sldH 0 rfl rfl rfl ‹HRow _ _ 0 _› rfl ?_ | refine gny_ldN 0 rfl rfl rfl rfl ?_ | refine gny_bld 0 rfl rfl rfl ?_); (first | refine gny_p 1 rfl rfl rfl ?_ | refine gny_ld 1 rfl rfl rfl rfl ?_ | refine gny_ldH 1 rfl rfl rfl ‹HRow _ _ 0 _› rfl ?_ | refine gny_T 1 rfl rfl rfl ?_ | refine gny_F 1 rfl rfl rfl ?_ | refine gny_B 1 rfl rfl rfl ?_ | refine gny_skip 1 rfl rfl ?_ | refine gny_sp 1 rfl rfl rfl ?_ | refine gny_sB 1 rfl rfl rfl ?_ | refine gny_sld 1 rfl rfl rfl rfl ?_ | refine gny_sldH 1 rfl rfl rfl ‹HRow _ _ 0 _› rfl ?_ | refine gny_ldN 1 rfl rfl rfl rfl ?_ | refine gny_bld 1 rfl rfl rfl ?_); (first | refine gny_p 2 rfl rfl rfl ?_ | refine gny_ld 2 rfl rfl rfl rfl ?_ | refine gny_ldH 2 rfl rfl rfl ‹HRow _ _ 0 _› rfl ?_ | refine gny_T 2 rfl rfl rfl ?_ | refine gny_F 2 rfl rfl rfl ?_ | refine gny_B 2 rfl rfl rfl ?_ | refine gny_skip 2 rfl rfl ?_ | refine gny_sp 2 rfl rfl rfl ?_ | refine gny_sB 2 rfl rfl rfl ?_ | refine gny_sld 2 rfl rfl rfl rfl ?_ | refine gny_sldH 2 rfl rfl rfl ‹HRow _ _ 0 _› rfl ?_ | refine gny_ldN 2 rfl rfl rfl rfl ?_ | refine gny_bld 2 rfl rfl rfl ?_); (first | refine gny_p 3 rfl rfl rfl ?_ | refine gny_ld 3 rfl rfl rfl rfl ?_ | refine gny_ldH 3 rfl rfl rfl ‹HRow _ _ 0 _› rfl ?_ | refine gny_T 3 rfl rfl rfl ?_ | refine gny_F 3 rfl rfl rfl ?_ | refine gny_B 3 rfl rfl rfl ?_ | refine gny_skip 3 rfl rfl ?_ | refine gny_sp 3 rfl rfl rfl ?_ | refine gny_sB 3 rfl rfl rfl ?_ | refine gny_sld 3 rfl rfl rfl rfl ?_ | refine gny_sldH 3 rfl rfl rfl ‹HRow _ _ 0 _› rfl ?_ | refine gny_ldN 3 rfl rfl rfl rfl ?_ | refine gny_bld 3 rfl rfl rfl ?_); (first | refine gny_p 4 rfl rfl rfl ?_ | refine gny_ld 4 rfl rfl rfl rfl ?_ | refine gny_ldH 4 rfl rfl rfl ‹HRow _ _ 0 _› rfl ?_ | refine gny_T 4 rfl rfl rfl ?_ | refine gny_F 4 rfl rfl rfl ?_ | refine gny_B 4 rfl rfl rfl ?_ | refine gny_skip 4 rfl rfl ?_ | refine gny_sp 4 rfl rfl rfl ?_ | refine gny_sB 4 rfl rfl rfl ?_ | refine gny_sld 4 rfl rfl rfl rfl ?_ | refine gny_sldH 4 rfl rfl rfl ‹HRow _ _ 0 _› rfl ?_ | refine gny_ldN 4 rfl rfl rfl rfl ?_ | refine gny_bld 4 rfl rfl rfl ?_)
      refine gny_call 5 rfl rfl rfl (lawOwn_spec hw0) fun r3 H3 B hl3 ⟨cs, er, hcs, eB⟩ => ?_
      subst er eB
      refine ⟨(by (repeat (first | exact Sub.refl _ | exact Sub.nil _ | (apply sub_pick; (repeat (first | exact Has.here | apply Has.there)); skip) | apply Sub.drop))), ?_⟩
      refine any_rest rfl ?_
      refine ops_L (L' := tabO H3 p s :: row p4 55 [.slice b1 m.Held.length c1, .slice b2 m.Prep.length c2] :: row p5 32 [I ok, I x1, I x2, I x3, I wr, .slice sb1 wt.length sc1, .slice sb2 wd.length sc2, .bool oy, I on, .string oq] :: row p7 55 [nilS, nilS] :: R) ?_ ?_
      · refine Sub.trans ?_ (tab_up hl3)
        (repeat (first | exact Sub.refl _ | exact Sub.nil _ | (apply sub_pick; (repeat (first | exact Has.here | apply Has.there)); skip) | apply Sub.drop))
      refine ops_call rfl rfl (prepare_spec (W0 := W0) (H := H3) (p := p) (s := s) (x := ⟨x1, x2, x3⟩) (w := clipW ⟨wr, wt, wd⟩) (cw := cs) ⟨f2, f3, f4⟩ hcs (by simp only [cap47]; omega)) fun r4 H4 B hl4 ⟨er, cs2, hcs2, eB⟩ => ?_
      subst er eB
      have hl14 : H.le H4 := hl3.trans hl4
      refine walk ?_
      refine ex_any 6 [row p5 32 [I ok, I x1, I x2, I x3, I wr, .slice sb1 wt.length sc1, .slice sb2 wd.length sc2, .bool oy, I on, .string oq], row p4 55 [.slice b1 m.Held.length c1, .slice b2 m.Prep.length c2]] ?_
      (first | refine gny_p 0 rfl rfl rfl ?_ | refine gny_ld 0 rfl rfl rfl rfl ?_ | refine gny_ldH 0 rfl rfl rfl ‹HRow _ _ 0 _› rfl ?_ | refine gny_T 0 rfl rfl rfl ?_ | refine gny_F 0 rfl rfl rfl ?_ | refine gny_B 0 rfl rfl rfl ?_ | refine gny_skip 0 rfl rfl ?_ | refine gny_sp 0 rfl rfl rfl ?_ | refine gny_sB 0 rfl rfl rfl ?_ | refine gny_sld 0 rfl rfl rfl rfl ?_ | refine gny_sldH 0 rfl rfl rfl ‹HRow _ _ 0 _› rfl ?_ | refine gny_ldN 0 rfl rfl rfl rfl ?_ | refine gny_bld 0 rfl rfl rfl ?_); (first | refine gny_p 1 rfl rfl rfl ?_ | refine gny_ld 1 rfl rfl rfl rfl ?_ | refine gny_ldH 1 rfl rfl rfl ‹HRow _ _ 0 _› rfl ?_ | refine gny_T 1 rfl rfl rfl ?_ | refine gny_F 1 rfl rfl rfl ?_ | refine gny_B 1 rfl rfl rfl ?_ | refine gny_skip 1 rfl rfl ?_ | refine gny_sp 1 rfl rfl rfl ?_ | refine gny_sB 1 rfl rfl rfl ?_ | refine gny_sld 1 rfl rfl rfl rfl ?_ | refine gny_sldH 1 rfl rfl rfl ‹HRow _ _ 0 _› rfl ?_ | refine gny_ldN 1 rfl rfl rfl rfl ?_ | refine gny_bld 1 rfl rfl rfl ?_); (first | refine gny_p 2 rfl rfl rfl ?_ | refine gny_ld 2 rfl rfl rfl rfl ?_ | refine gny_ldH 2 rfl rfl rfl ‹HRow _ _ 0 _› rfl ?_ | refine gny_T 2 rfl rfl rfl ?_ | refine gny_F 2 rfl rfl rfl ?_ | refine gny_B 2 rfl rfl rfl ?_ | refine gny_skip 2 rfl rfl ?_ | refine gny_sp 2 rfl rfl rfl ?_ | refine gny_sB 2 rfl rfl rfl ?_ | refine gny_sld 2 rfl rfl rfl rfl ?_ | refine gny_sldH 2 rfl rfl rfl ‹HRow _ _ 0 _› rfl ?_ | refine gny_ldN 2 rfl rfl rfl rfl ?_ | refine gny_bld 2 rfl rfl rfl ?_); (first | refine gny_p 3 rfl rfl rfl ?_ | refine gny_ld 3 rfl rfl rfl rfl ?_ | refine gny_ldH 3 rfl rfl rfl ‹HRow _ _ 0 _› rfl ?_ | refine gny_T 3 rfl rfl rfl ?_ | refine gny_F 3 rfl rfl rfl ?_ | refine gny_B 3 rfl rfl rfl ?_ | refine gny_skip 3 rfl rfl ?_ | refine gny_sp 3 rfl rfl rfl ?_ | refine gny_sB 3 rfl rfl rfl ?_ | refine gny_sld 3 rfl rfl rfl rfl ?_ | refine gny_sldH 3 rfl rfl rfl ‹HRow _ _ 0 _› rfl ?_ | refine gny_ldN 3 rfl rfl rfl rfl ?_ | refine gny_bld 3 rfl rfl rfl ?_); (first | refine gny_p 4 rfl rfl rfl ?_ | refine gny_ld 4 rfl rfl rfl rfl ?_ | refine gny_ldH 4 rfl rfl rfl ‹HRow _ _ 0 _› rfl ?_ | refine gny_T 4 rfl rfl rfl ?_ | refine gny_F 4 rfl rfl rfl ?_ | refine gny_B 4 rfl rfl rfl ?_ | refine gny_skip 4 rfl rfl ?_ | refine gny_sp 4 rfl rfl rfl ?_ | refine gny_sB 4 rfl rfl rfl ?_ | refine gny_sld 4 rfl rfl rfl rfl ?_ | refine gny_sldH 4 rfl rfl rfl ‹HRow _ _ 0 _› rfl ?_ | refine gny_ldN 4 rfl rfl rfl rfl ?_ | refine gny_bld 4 rfl rfl rfl ?_)
      refine gny_call 5 rfl rfl rfl (lawOwn_spec (RdOk.mono (R := rWork) hl14 hw0)) fun r5 H5 B hl5 ⟨cs3, er, hcs3, eB⟩ => ?_
      subst er eB
      refine ⟨(by (repeat (first | exact Sub.refl _ | exact Sub.nil _ | (apply sub_pick; (repeat (first | exact Has.here | apply Has.there)); skip) | apply Sub.drop))), ?_⟩
      refine any_stage 11 [] ?_
      refine gny_call 6 rfl rfl rfl (rPrepare_spec (x := ⟨x1, x2, x3⟩) (w := clipW ⟨wr, wt, wd⟩) (cw := cs3) (RdOk.mono (R := rTable) (hl14.trans hl5) h00) ⟨f2, f3, f4⟩ hcs3 hc80 h80 (by omega)) fun r6 H6 B hl6 ⟨cs4, m', e, er, hcs4, hrp, eB⟩ => ?_
      subst er eB
      refine ⟨(by (repeat (first | exact Sub.refl _ | exact Sub.nil _ | (apply sub_pick; (repeat (first | exact Has.here | apply Has.there)); skip) | apply Sub.drop))), ?_⟩
      obtain ⟨he, hrel⟩ := r.prepare I0 hrp
      have hrel := hrel cs2
      obtain ⟨q1, q2, rfl, hq1', hq2'⟩ := hcs4
      obtain ⟨qb1, qc1, rfl, _, _⟩ := hq1'.1.shape
      obtain ⟨qb2, qc2, rfl, _, _⟩ := hq2'.1.shape
      (first | refine gny_p 7 rfl rfl rfl ?_ | refine gny_ld 7 rfl rfl rfl rfl ?_ | refine gny_ldH 7 rfl rfl rfl ‹HRow _ _ 0 _› rfl ?_ | refine gny_T 7 rfl rfl rfl ?_ | refine gny_F 7 rfl rfl rfl ?_ | refine gny_B 7 rfl rfl rfl ?_ | refine gny_skip 7 rfl rfl ?_ | refine gny_sp 7 rfl rfl rfl ?_ | refine gny_sB 7 rfl rfl rfl ?_ | refine gny_sld 7 rfl rfl rfl rfl ?_ | refine gny_sldH 7 rfl rfl rfl ‹HRow _ _ 0 _› rfl ?_ | refine gny_ldN 7 rfl rfl rfl rfl ?_ | refine gny_bld 7 rfl rfl rfl ?_)
      refine gny_ext 8 rfl rfl rfl rfl ?_
      refine gny_ext 9 rfl rfl rfl rfl ?_
      refine any_sta 10 rfl rfl rfl rfl (by simp) rfl ⟨(by (repeat (first | exact Sub.refl _ | exact Sub.nil _ | (apply sub_pick; (repeat (first | exact Has.here | apply Has.there)); skip) | apply Sub.drop))), ?_⟩
      refine any_rest rfl ?_
      rw [← he] at hrel ⊢
      have hinv := I0.prepS (x := ⟨x1, x2, x3⟩) (cs := cs2) hcw ⟨f2, f3, f4⟩
      rw [← he] at hinv
      generalize (if e = 0 then prepT s ⟨x1, x2, x3⟩ (clipW ⟨wr, wt, wd⟩) cs2 else s) = s' at hrel hinv ⊢
      refine ops_L (L' := tabO H6 p s' :: row p4 55 [.slice qb1 m'.Held.length qc1, .slice qb2 m'.Prep.length qc2] :: row p7 55 [nilS, nilS] :: R) ?_ ?_
      · refine Sub.trans ?_ (tab_up (hl5.trans hl6))
        (repeat (first | exact Sub.refl _ | exact Sub.nil _ | (apply sub_pick; (repeat (first | exact Has.here | apply Has.there)); skip) | apply Sub.drop))
      refine walk ?_
      exact out_to hK (p, s', m', e, (qb1, qc1), (qb2, qc2), H6) ⟨hinv, hrel, hl14.trans (hl5.trans hl6), hq1', hq2'⟩
    refine walk ?_
    refine ex_if rfl (fun hq2 => ?_) (fun hq2 => ?_)
    · refine walk ?_
      refine ops_call rfl rfl (apply_spec (W0 := W0) (H := H) (p := p) (s := s) (x := ⟨x1, x2, x3⟩) (yes := oy) (I0.ks_ok _)) fun r4 H4 B hl4 ⟨er, eB⟩ => ?_
      subst er eB
      refine walk ?_
      refine ops_call rfl rfl (rApply_spec (x := ⟨x1, x2, x3⟩) (yes := oy) (RdOk.mono (R := rTable) hl4 h00) h80 (by omega) (by omega)) fun r6 H6 B hl6 ⟨cs4, m', e, er, hcs4, hrp, eB⟩ => ?_
      subst er eB
      obtain ⟨he, hrel⟩ := r.apply I0 hrp
      obtain ⟨q1, q2, rfl, hq1', hq2'⟩ := hcs4
      obtain ⟨qb1, qc1, rfl, _, _⟩ := hq1'.1.shape
      obtain ⟨qb2, qc2, rfl, _, _⟩ := hq2'.1.shape
      rw [← he]
      have hinv := I0.applyS (x := ⟨x1, x2, x3⟩) (yes := oy)
      generalize applyT s ⟨x1, x2, x3⟩ oy = s' at hrel hinv ⊢
      refine ops_L (L' := tabO H6 p s' :: row p4 55 [.slice b1 m.Held.length c1, .slice b2 m.Prep.length c2] :: row p7 55 [nilS, nilS] :: R) ?_ ?_
      · refine Sub.trans ?_ (tab_up hl6)
        (repeat (first | exact Sub.refl _ | exact Sub.nil _ | (apply sub_pick; (repeat (first | exact Has.here | apply Has.there)); skip) | apply Sub.drop))
      refine walk ?_
      exact out_to hK (p, s', m', e, (qb1, qc1), (qb2, qc2), H6) ⟨hinv, hrel, hl4.trans hl6, hq1', hq2'⟩
    refine walk ?_
    refine ex_if rfl (fun hq3 => ?_) (fun hq3 => ?_)
    · refine walk ?_
      refine ops_call rfl rfl (rExpire_spec (now := on) h00 (by omega)) fun r6 H6 B hl6 ⟨cs4, v4, er, hcs4, hv4, eB⟩ => ?_
      subst er eB
      obtain ⟨hexp, hrel⟩ := r.expire I0 (now := on)
      obtain ⟨q1, q2, rfl, hq1', hq2'⟩ := hcs4
      obtain ⟨qb1, qc1, rfl, _, _⟩ := hq1'.1.shape
      obtain ⟨qb2, qc2, rfl, _, _⟩ := hq2'.1.shape
      rw [← hexp] at hv4
      obtain ⟨vb, vc, rfl, _, _⟩ := hv4.1.shape
      refine ops_L (L' := tabO H6 p s :: row p4 55 [.slice b1 m.Held.length c1, .slice b2 m.Prep.length c2] :: row p5 32 [I ok, I x1, I x2, I x3, I wr, .slice sb1 wt.length sc1, .slice sb2 wd.length sc2, .bool oy, I on, .string oq] :: row p7 55 [nilS, nilS] :: R) ?_ ?_
      · refine Sub.trans ?_ (tab_up hl6)
        (repeat (first | exact Sub.refl _ | exact Sub.nil _ | (apply sub_pick; (repeat (first | exact Has.here | apply Has.there)); skip) | apply Sub.drop))
      refine walk ?_
      refine ops_call rfl rfl (expire_spec (W0 := W0) (H := H6) (p := p) (s := s) (now := on) (hP.mono hl6) hok) fun r4 H4 B hl4 eB => ?_
      subst eB
      refine ops_freeze r4 fun H7 hl7 hsl => ?_
      refine walk ?_
      refine ops_call rfl rfl (texts_spec hsl.1 (hv4.mono (hl4.trans hl7)).1) fun r8 H8 B hl8 ⟨er, eB, eH⟩ => ?_
      subst er eB eH
      rw [decide_eq_true (p := expireL s on = expireL s on) rfl]
      have hinv := I0.expire (now := on)
      refine ops_L (L' := tabO H8 p (expireT s on) :: row p4 55 [.slice qb1 (m.Held.filter fun h => !goneK on h.Key).length qc1, .slice qb2 m.Prep.length qc2] :: row p7 55 [nilS, nilS] :: R) ?_ ?_
      · refine Sub.trans ?_ (tab_up hl7)
        (repeat (first | exact Sub.refl _ | exact Sub.nil _ | (apply sub_pick; (repeat (first | exact Has.here | apply Has.there)); skip) | apply Sub.drop))
      refine walk ?_
      exact out_to hK (p, expireT s on, ⟨m.Held.filter fun h => !goneK on h.Key, m.Prep⟩, 0, (qb1, qc1), (qb2, qc2), H8) ⟨hinv.1.more (Nat.le_succ n), hrel, hl6.trans (hl4.trans hl7), hq1'.mono (hl4.trans hl7), hq2'.mono (hl4.trans hl7)⟩
    refine walk ?_
    refine ex_if rfl (fun hq4 => ?_) (fun hq4 => ?_)
    · refine walk ?_
      refine ops_call rfl rfl (holds_spec (W0 := W0) (H := H) (p := p) hok) fun r5 H5 B hl5 eB => ?_
      subst eB
      refine ops_freeze r5 fun H6 hl6 hsl => ?_
      refine ops_L (L' := tabO H6 p s :: row p4 55 [.slice b1 m.Held.length c1, .slice b2 m.Prep.length c2] :: row p7 55 [nilS, nilS] :: R) ?_ ?_
      · refine Sub.trans ?_ (tab_up hl6)
        (repeat (first | exact Sub.refl _ | exact Sub.nil _ | (apply sub_pick; (repeat (first | exact Has.here | apply Has.there)); skip) | apply Sub.drop))
      refine walk ?_
      refine ops_call rfl rfl (prepared_spec (W0 := W0) (H := H6) (p := p) hok) fun r7 H7 B hl7 eB => ?_
      subst eB
      refine ops_freeze r7 fun H8 hl8 hsp => ?_
      refine walk ?_
      have hks : ∀ q ∈ prepL s, q.Work.ks.length * 16 ≤ cap47 := fun q hq => by
        have := (I0.ww _ _ (I0.recs hq)).1.1.ks_len
        simp only [cap47]; omega
      refine ops_call rfl rfl (load_spec (W0 := W0) (H := H8) (hsl.mono (hl7.trans hl8)) hsp (by rw [e2]; omega) hks) fun r9 H9 B hl9 ⟨s', a', p', hLP, hlast⟩ => ?_
      obtain ⟨g1, g2, g3⟩ := load_own I0 r hLP
      rw [if_pos g1] at hlast
      obtain ⟨er, eB⟩ := hlast
      subst er eB
      have hlA : H.le H9 := hl5.trans (hl6.trans (hl7.trans (hl8.trans hl9)))
      refine walk ?_
      exact out_to hK (p', s', m, 0, (b1, c1), (b2, c2), H9) ⟨g2.more (Nat.le_succ n), g3, hlA, hs1.mono hlA, hs2.mono hlA⟩
    refine walk ?_
    have hv1 : rHolderV m.Held oq = holderV s oq := by
      unfold rHolderV holderV
      rw [r.h.find oq]
      cases mget oq s.held <;> rfl
    have hv2 : rLockedV m.Prep oq = lockedV s oq := by
      have hl := r.lock I0 oq
      unfold rLockedV lockedV
      rw [hl, ← hl, Option.isSome_map]
    refine ops_call rfl rfl (holder_spec (W0 := W0) (H := H) (p := p) (s := s) (k := oq)) fun r5 H5 B hl5 ⟨er, eB, eH⟩ => ?_
    subst er eB eH
    obtain ⟨va, vb, hva⟩ : ∃ va vb, holderV s oq = .tuple #[I va, .bool vb] := ⟨_, _, rfl⟩
    rw [hva]
    refine walk ?_
    refine ops_call rfl rfl (locked_spec (W0 := W0) (H := H5) (p := p) (s := s) (k := oq)) fun r6 H6 B hl6 ⟨er, eB, eH⟩ => ?_
    subst er eB eH
    obtain ⟨y1, y2, y3, yb, hvb⟩ : ∃ y1 y2 y3 yb, lockedV s oq = .tuple #[.agg #[I y1, I y2, I y3], .bool yb] := ⟨_, _, _, _, rfl⟩
    rw [hvb]
    refine walk ?_
    refine ops_alloc rfl fun p14 _ => ?_
    refine walk ?_
    refine ops_call rfl rfl (rHolder_spec (k := oq) h00) fun r7 H7 B hl7 ⟨er, eB, eH⟩ => ?_
    subst er eB eH
    rw [hv1, hva]
    refine walk ?_
    refine ops_call rfl rfl (rLocked_spec (k := oq) h00 (fun q hq => by have := h80 q hq; simp only [cap47]; omega)) fun r8 H8 B hl8 ⟨er, eB⟩ => ?_
    subst er eB
    rw [hv2, hvb]
    refine walk ?_
    refine ops_alloc rfl fun p18 _ => ?_
    refine walk ?_
    have hbb : vb = vb := rfl
    have hyb : yb = yb := rfl
    refine ex_any 22 [row p4 55 [.slice b1 m.Held.length c1, .slice b2 m.Prep.length c2], row p14 27 [I y1, I y2, I y3], row p18 27 [I y1, I y2, I y3]] ?_
    (first | refine gny_p 0 rfl rfl rfl ?_ | refine gny_ld 0 rfl rfl rfl rfl ?_ | refine gny_ldH 0 rfl rfl rfl ‹HRow _ _ 0 _› rfl ?_ | refine gny_T 0 rfl rfl rfl ?_ | refine gny_F 0 rfl rfl rfl ?_ | refine gny_B 0 rfl rfl rfl ?_ | refine gny_skip 0 rfl rfl ?_ | refine gny_sp 0 rfl rfl rfl ?_ | refine gny_sB 0 rfl rfl rfl ?_ | refine gny_sld 0 rfl rfl rfl rfl ?_ | refine gny_sldH 0 rfl rfl rfl ‹HRow _ _ 0 _› rfl ?_ | refine gny_ldN 0 rfl rfl rfl rfl ?_ | refine gny_bld 0 rfl rfl rfl ?_); (first | refine gny_p 1 rfl rfl rfl ?_ | refine gny_ld 1 rfl rfl rfl rfl ?_ | refine gny_ldH 1 rfl rfl rfl ‹HRow _ _ 0 _› rfl ?_ | refine gny_T 1 rfl rfl rfl ?_ | refine gny_F 1 rfl rfl rfl ?_ | refine gny_B 1 rfl rfl rfl ?_ | refine gny_skip 1 rfl rfl ?_ | refine gny_sp 1 rfl rfl rfl ?_ | refine gny_sB 1 rfl rfl rfl ?_ | refine gny_sld 1 rfl rfl rfl rfl ?_ | refine gny_sldH 1 rfl rfl rfl ‹HRow _ _ 0 _› rfl ?_ | refine gny_ldN 1 rfl rfl rfl rfl ?_ | refine gny_bld 1 rfl rfl rfl ?_); (first | refine gny_p 2 rfl rfl rfl ?_ | refine gny_ld 2 rfl rfl rfl rfl ?_ | refine gny_ldH 2 rfl rfl rfl ‹HRow _ _ 0 _› rfl ?_ | refine gny_T 2 rfl rfl rfl ?_ | refine gny_F 2 rfl rfl rfl ?_ | refine gny_B 2 rfl rfl rfl ?_ | refine gny_skip 2 rfl rfl ?_ | refine gny_sp 2 rfl rfl rfl ?_ | refine gny_sB 2 rfl rfl rfl ?_ | refine gny_sld 2 rfl rfl rfl rfl ?_ | refine gny_sldH 2 rfl rfl rfl ‹HRow _ _ 0 _› rfl ?_ | refine gny_ldN 2 rfl rfl rfl rfl ?_ | refine gny_bld 2 rfl rfl rfl ?_); (first | refine gny_p 3 rfl rfl rfl ?_ | refine gny_ld 3 rfl rfl rfl rfl ?_ | refine gny_ldH 3 rfl rfl rfl ‹HRow _ _ 0 _› rfl ?_ | refine gny_T 3 rfl rfl rfl ?_ | refine gny_F 3 rfl rfl rfl ?_ | refine gny_B 3 rfl rfl rfl ?_ | refine gny_skip 3 rfl rfl ?_ | refine gny_sp 3 rfl rfl rfl ?_ | refine gny_sB 3 rfl rfl rfl ?_ | refine gny_sld 3 rfl rfl rfl rfl ?_ | refine gny_sldH 3 rfl rfl rfl ‹HRow _ _ 0 _› rfl ?_ | refine gny_ldN 3 rfl rfl rfl rfl ?_ | refine gny_bld 3 rfl rfl rfl ?_); (first | refine gny_p 4 rfl rfl rfl ?_ | refine gny_ld 4 rfl rfl rfl rfl ?_ | refine gny_ldH 4 rfl rfl rfl ‹HRow _ _ 0 _› rfl ?_ | refine gny_T 4 rfl rfl rfl ?_ | refine gny_F 4 rfl rfl rfl ?_ | refine gny_B 4 rfl rfl rfl ?_ | refine gny_skip 4 rfl rfl ?_ | refine gny_sp 4 rfl rfl rfl ?_ | refine gny_sB 4 rfl rfl rfl ?_ | refine gny_sld 4 rfl rfl rfl rfl ?_ | refine gny_sldH 4 rfl rfl rfl ‹HRow _ _ 0 _› rfl ?_ | refine gny_ldN 4 rfl rfl rfl rfl ?_ | refine gny_bld 4 rfl rfl rfl ?_); (first | refine gny_p 5 rfl rfl rfl ?_ | refine gny_ld 5 rfl rfl rfl rfl ?_ | refine gny_ldH 5 rfl rfl rfl ‹HRow _ _ 0 _› rfl ?_ | refine gny_T 5 rfl rfl rfl ?_ | refine gny_F 5 rfl rfl rfl ?_ | refine gny_B 5 rfl rfl rfl ?_ | refine gny_skip 5 rfl rfl ?_ | refine gny_sp 5 rfl rfl rfl ?_ | refine gny_sB 5 rfl rfl rfl ?_ | refine gny_sld 5 rfl rfl rfl rfl ?_ | refine gny_sldH 5 rfl rfl rfl ‹HRow _ _ 0 _› rfl ?_ | refine gny_ldN 5 rfl rfl rfl rfl ?_ | refine gny_bld 5 rfl rfl rfl ?_); (first | refine gny_p 6 rfl rfl rfl ?_ | refine gny_ld 6 rfl rfl rfl rfl ?_ | refine gny_ldH 6 rfl rfl rfl ‹HRow _ _ 0 _› rfl ?_ | refine gny_T 6 rfl rfl rfl ?_ | refine gny_F 6 rfl rfl rfl ?_ | refine gny_B 6 rfl rfl rfl ?_ | refine gny_skip 6 rfl rfl ?_ | refine gny_sp 6 rfl rfl rfl ?_ | refine gny_sB 6 rfl rfl rfl ?_ | refine gny_sld 6 rfl rfl rfl rfl ?_ | refine gny_sldH 6 rfl rfl rfl ‹HRow _ _ 0 _› rfl ?_ | refine gny_ldN 6 rfl rfl rfl rfl ?_ | refine gny_bld 6 rfl rfl rfl ?_); (first | refine gny_p 7 rfl rfl rfl ?_ | refine gny_ld 7 rfl rfl rfl rfl ?_ | refine gny_ldH 7 rfl rfl rfl ‹HRow _ _ 0 _› rfl ?_ | refine gny_T 7 rfl rfl rfl ?_ | refine gny_F 7 rfl rfl rfl ?_ | refine gny_B 7 rfl rfl rfl ?_ | refine gny_skip 7 rfl rfl ?_ | refine gny_sp 7 rfl rfl rfl ?_ | refine gny_sB 7 rfl rfl rfl ?_ | refine gny_sld 7 rfl rfl rfl rfl ?_ | refine gny_sldH 7 rfl rfl rfl ‹HRow _ _ 0 _› rfl ?_ | refine gny_ldN 7 rfl rfl rfl rfl ?_ | refine gny_bld 7 rfl rfl rfl ?_); (first | refine gny_p 8 rfl rfl rfl ?_ | refine gny_ld 8 rfl rfl rfl rfl ?_ | refine gny_ldH 8 rfl rfl rfl ‹HRow _ _ 0 _› rfl ?_ | refine gny_T 8 rfl rfl rfl ?_ | refine gny_F 8 rfl rfl rfl ?_ | refine gny_B 8 rfl rfl rfl ?_ | refine gny_skip 8 rfl rfl ?_ | refine gny_sp 8 rfl rfl rfl ?_ | refine gny_sB 8 rfl rfl rfl ?_ | refine gny_sld 8 rfl rfl rfl rfl ?_ | refine gny_sldH 8 rfl rfl rfl ‹HRow _ _ 0 _› rfl ?_ | refine gny_ldN 8 rfl rfl rfl rfl ?_ | refine gny_bld 8 rfl rfl rfl ?_); (first | refine gny_p 9 rfl rfl rfl ?_ | refine gny_ld 9 rfl rfl rfl rfl ?_ | refine gny_ldH 9 rfl rfl rfl ‹HRow _ _ 0 _› rfl ?_ | refine gny_T 9 rfl rfl rfl ?_ | refine gny_F 9 rfl rfl rfl ?_ | refine gny_B 9 rfl rfl rfl ?_ | refine gny_skip 9 rfl rfl ?_ | refine gny_sp 9 rfl rfl rfl ?_ | refine gny_sB 9 rfl rfl rfl ?_ | refine gny_sld 9 rfl rfl rfl rfl ?_ | refine gny_sldH 9 rfl rfl rfl ‹HRow _ _ 0 _› rfl ?_ | refine gny_ldN 9 rfl rfl rfl rfl ?_ | refine gny_bld 9 rfl rfl rfl ?_); (first | refine gny_p 10 rfl rfl rfl ?_ | refine gny_ld 10 rfl rfl rfl rfl ?_ | refine gny_ldH 10 rfl rfl rfl ‹HRow _ _ 0 _› rfl ?_ | refine gny_T 10 rfl rfl rfl ?_ | refine gny_F 10 rfl rfl rfl ?_ | refine gny_B 10 rfl rfl rfl ?_ | refine gny_skip 10 rfl rfl ?_ | refine gny_sp 10 rfl rfl rfl ?_ | refine gny_sB 10 rfl rfl rfl ?_ | refine gny_sld 10 rfl rfl rfl rfl ?_ | refine gny_sldH 10 rfl rfl rfl ‹HRow _ _ 0 _› rfl ?_ | refine gny_ldN 10 rfl rfl rfl rfl ?_ | refine gny_bld 10 rfl rfl rfl ?_); (first | refine gny_p 11 rfl rfl rfl ?_ | refine gny_ld 11 rfl rfl rfl rfl ?_ | refine gny_ldH 11 rfl rfl rfl ‹HRow _ _ 0 _› rfl ?_ | refine gny_T 11 rfl rfl rfl ?_ | refine gny_F 11 rfl rfl rfl ?_ | refine gny_B 11 rfl rfl rfl ?_ | refine gny_skip 11 rfl rfl ?_ | refine gny_sp 11 rfl rfl rfl ?_ | refine gny_sB 11 rfl rfl rfl ?_ | refine gny_sld 11 rfl rfl rfl rfl ?_ | refine gny_sldH 11 rfl rfl rfl ‹HRow _ _ 0 _› rfl ?_ | refine gny_ldN 11 rfl rfl rfl rfl ?_ | refine gny_bld 11 rfl rfl rfl ?_); (first | refine gny_p 12 rfl rfl rfl ?_ | refine gny_ld 12 rfl rfl rfl rfl ?_ | refine gny_ldH 12 rfl rfl rfl ‹HRow _ _ 0 _› rfl ?_ | refine gny_T 12 rfl rfl rfl ?_ | refine gny_F 12 rfl rfl rfl ?_ | refine gny_B 12 rfl rfl rfl ?_ | refine gny_skip 12 rfl rfl ?_ | refine gny_sp 12 rfl rfl rfl ?_ | refine gny_sB 12 rfl rfl rfl ?_ | refine gny_sld 12 rfl rfl rfl rfl ?_ | refine gny_sldH 12 rfl rfl rfl ‹HRow _ _ 0 _› rfl ?_ | refine gny_ldN 12 rfl rfl rfl rfl ?_ | refine gny_bld 12 rfl rfl rfl ?_); (first | refine gny_p 13 rfl rfl rfl ?_ | refine gny_ld 13 rfl rfl rfl rfl ?_ | refine gny_ldH 13 rfl rfl rfl ‹HRow _ _ 0 _› rfl ?_ | refine gny_T 13 rfl rfl rfl ?_ | refine gny_F 13 rfl rfl rfl ?_ | refine gny_B 13 rfl rfl rfl ?_ | refine gny_skip 13 rfl rfl ?_ | refine gny_sp 13 rfl rfl rfl ?_ | refine gny_sB 13 rfl rfl rfl ?_ | refine gny_sld 13 rfl rfl rfl rfl ?_ | refine gny_sldH 13 rfl rfl rfl ‹HRow _ _ 0 _› rfl ?_ | refine gny_ldN 13 rfl rfl rfl rfl ?_ | refine gny_bld 13 rfl rfl rfl ?_); (first | refine gny_p 14 rfl rfl rfl ?_ | refine gny_ld 14 rfl rfl rfl rfl ?_ | refine gny_ldH 14 rfl rfl rfl ‹HRow _ _ 0 _› rfl ?_ | refine gny_T 14 rfl rfl rfl ?_ | refine gny_F 14 rfl rfl rfl ?_ | refine gny_B 14 rfl rfl rfl ?_ | refine gny_skip 14 rfl rfl ?_ | refine gny_sp 14 rfl rfl rfl ?_ | refine gny_sB 14 rfl rfl rfl ?_ | refine gny_sld 14 rfl rfl rfl rfl ?_ | refine gny_sldH 14 rfl rfl rfl ‹HRow _ _ 0 _› rfl ?_ | refine gny_ldN 14 rfl rfl rfl rfl ?_ | refine gny_bld 14 rfl rfl rfl ?_); (first | refine gny_p 15 rfl rfl rfl ?_ | refine gny_ld 15 rfl rfl rfl rfl ?_ | refine gny_ldH 15 rfl rfl rfl ‹HRow _ _ 0 _› rfl ?_ | refine gny_T 15 rfl rfl rfl ?_ | refine gny_F 15 rfl rfl rfl ?_ | refine gny_B 15 rfl rfl rfl ?_ | refine gny_skip 15 rfl rfl ?_ | refine gny_sp 15 rfl rfl rfl ?_ | refine gny_sB 15 rfl rfl rfl ?_ | refine gny_sld 15 rfl rfl rfl rfl ?_ | refine gny_sldH 15 rfl rfl rfl ‹HRow _ _ 0 _› rfl ?_ | refine gny_ldN 15 rfl rfl rfl rfl ?_ | refine gny_bld 15 rfl rfl rfl ?_); (first | refine gny_p 16 rfl rfl rfl ?_ | refine gny_ld 16 rfl rfl rfl rfl ?_ | refine gny_ldH 16 rfl rfl rfl ‹HRow _ _ 0 _› rfl ?_ | refine gny_T 16 rfl rfl rfl ?_ | refine gny_F 16 rfl rfl rfl ?_ | refine gny_B 16 rfl rfl rfl ?_ | refine gny_skip 16 rfl rfl ?_ | refine gny_sp 16 rfl rfl rfl ?_ | refine gny_sB 16 rfl rfl rfl ?_ | refine gny_sld 16 rfl rfl rfl rfl ?_ | refine gny_sldH 16 rfl rfl rfl ‹HRow _ _ 0 _› rfl ?_ | refine gny_ldN 16 rfl rfl rfl rfl ?_ | refine gny_bld 16 rfl rfl rfl ?_); (first | refine gny_p 17 rfl rfl rfl ?_ | refine gny_ld 17 rfl rfl rfl rfl ?_ | refine gny_ldH 17 rfl rfl rfl ‹HRow _ _ 0 _› rfl ?_ | refine gny_T 17 rfl rfl rfl ?_ | refine gny_F 17 rfl rfl rfl ?_ | refine gny_B 17 rfl rfl rfl ?_ | refine gny_skip 17 rfl rfl ?_ | refine gny_sp 17 rfl rfl rfl ?_ | refine gny_sB 17 rfl rfl rfl ?_ | refine gny_sld 17 rfl rfl rfl rfl ?_ | refine gny_sldH 17 rfl rfl rfl ‹HRow _ _ 0 _› rfl ?_ | refine gny_ldN 17 rfl rfl rfl rfl ?_ | refine gny_bld 17 rfl rfl rfl ?_); (first | refine gny_p 18 rfl rfl rfl ?_ | refine gny_ld 18 rfl rfl rfl rfl ?_ | refine gny_ldH 18 rfl rfl rfl ‹HRow _ _ 0 _› rfl ?_ | refine gny_T 18 rfl rfl rfl ?_ | refine gny_F 18 rfl rfl rfl ?_ | refine gny_B 18 rfl rfl rfl ?_ | refine gny_skip 18 rfl rfl ?_ | refine gny_sp 18 rfl rfl rfl ?_ | refine gny_sB 18 rfl rfl rfl ?_ | refine gny_sld 18 rfl rfl rfl rfl ?_ | refine gny_sldH 18 rfl rfl rfl ‹HRow _ _ 0 _› rfl ?_ | refine gny_ldN 18 rfl rfl rfl rfl ?_ | refine gny_bld 18 rfl rfl rfl ?_); (first | refine gny_p 19 rfl rfl rfl ?_ | refine gny_ld 19 rfl rfl rfl rfl ?_ | refine gny_ldH 19 rfl rfl rfl ‹HRow _ _ 0 _› rfl ?_ | refine gny_T 19 rfl rfl rfl ?_ | refine gny_F 19 rfl rfl rfl ?_ | refine gny_B 19 rfl rfl rfl ?_ | refine gny_skip 19 rfl rfl ?_ | refine gny_sp 19 rfl rfl rfl ?_ | refine gny_sB 19 rfl rfl rfl ?_ | refine gny_sld 19 rfl rfl rfl rfl ?_ | refine gny_sldH 19 rfl rfl rfl ‹HRow _ _ 0 _› rfl ?_ | refine gny_ldN 19 rfl rfl rfl rfl ?_ | refine gny_bld 19 rfl rfl rfl ?_); (first | refine gny_p 20 rfl rfl rfl ?_ | refine gny_ld 20 rfl rfl rfl rfl ?_ | refine gny_ldH 20 rfl rfl rfl ‹HRow _ _ 0 _› rfl ?_ | refine gny_T 20 rfl rfl rfl ?_ | refine gny_F 20 rfl rfl rfl ?_ | refine gny_B 20 rfl rfl rfl ?_ | refine gny_skip 20 rfl rfl ?_ | refine gny_sp 20 rfl rfl rfl ?_ | refine gny_sB 20 rfl rfl rfl ?_ | refine gny_sld 20 rfl rfl rfl rfl ?_ | refine gny_sldH 20 rfl rfl rfl ‹HRow _ _ 0 _› rfl ?_ | refine gny_ldN 20 rfl rfl rfl rfl ?_ | refine gny_bld 20 rfl rfl rfl ?_)
    refine any_sta 21 rfl rfl rfl rfl (by simp) rfl ⟨(by (repeat (first | exact Sub.refl _ | exact Sub.nil _ | (apply sub_pick; (repeat (first | exact Has.here | apply Has.there)); skip) | apply Sub.drop))), ?_⟩
    refine any_rest rfl ?_
    refine ops_L (L' := tabO H8 p s :: row p7 55 [.slice b1 m.Held.length c1, .slice b2 m.Prep.length c2] :: R) ?_ ?_
    · refine Sub.trans ?_ (tab_up hl8)
      (repeat (first | exact Sub.refl _ | exact Sub.nil _ | (apply sub_pick; (repeat (first | exact Has.here | apply Has.there)); skip) | apply Sub.drop))
    refine walk ?_
    refine finB [tabO H8 p s] ?_
    exact ⟨p, s, m, _, rfl, RdOk.mono (R := rTable) hl8 h00, I0.more (Nat.le_succ n), r, rfl⟩
  simp only at hI' hR' hlK hn1 hn2
  dsimp only
  refine walk ?_
  refine ex_any 12 [row p4 55 [.slice d1 m'.Held.length d2, .slice d3 m'.Prep.length d4]] ?_
  (first | refine gny_p 0 rfl rfl rfl ?_ | refine gny_ld 0 rfl rfl rfl rfl ?_ | refine gny_ldH 0 rfl rfl rfl ‹HRow _ _ 0 _› rfl ?_ | refine gny_T 0 rfl rfl rfl ?_ | refine gny_F 0 rfl rfl rfl ?_ | refine gny_B 0 rfl rfl rfl ?_ | refine gny_skip 0 rfl rfl ?_ | refine gny_sp 0 rfl rfl rfl ?_ | refine gny_sB 0 rfl rfl rfl ?_ | refine gny_sld 0 rfl rfl rfl rfl ?_ | refine gny_sldH 0 rfl rfl rfl ‹HRow _ _ 0 _› rfl ?_ | refine gny_ldN 0 rfl rfl rfl rfl ?_ | refine gny_bld 0 rfl rfl rfl ?_); (first | refine gny_p 1 rfl rfl rfl ?_ | refine gny_ld 1 rfl rfl rfl rfl ?_ | refine gny_ldH 1 rfl rfl rfl ‹HRow _ _ 0 _› rfl ?_ | refine gny_T 1 rfl rfl rfl ?_ | refine gny_F 1 rfl rfl rfl ?_ | refine gny_B 1 rfl rfl rfl ?_ | refine gny_skip 1 rfl rfl ?_ | refine gny_sp 1 rfl rfl rfl ?_ | refine gny_sB 1 rfl rfl rfl ?_ | refine gny_sld 1 rfl rfl rfl rfl ?_ | refine gny_sldH 1 rfl rfl rfl ‹HRow _ _ 0 _› rfl ?_ | refine gny_ldN 1 rfl rfl rfl rfl ?_ | refine gny_bld 1 rfl rfl rfl ?_); (first | refine gny_p 2 rfl rfl rfl ?_ | refine gny_ld 2 rfl rfl rfl rfl ?_ | refine gny_ldH 2 rfl rfl rfl ‹HRow _ _ 0 _› rfl ?_ | refine gny_T 2 rfl rfl rfl ?_ | refine gny_F 2 rfl rfl rfl ?_ | refine gny_B 2 rfl rfl rfl ?_ | refine gny_skip 2 rfl rfl ?_ | refine gny_sp 2 rfl rfl rfl ?_ | refine gny_sB 2 rfl rfl rfl ?_ | refine gny_sld 2 rfl rfl rfl rfl ?_ | refine gny_sldH 2 rfl rfl rfl ‹HRow _ _ 0 _› rfl ?_ | refine gny_ldN 2 rfl rfl rfl rfl ?_ | refine gny_bld 2 rfl rfl rfl ?_); (first | refine gny_p 3 rfl rfl rfl ?_ | refine gny_ld 3 rfl rfl rfl rfl ?_ | refine gny_ldH 3 rfl rfl rfl ‹HRow _ _ 0 _› rfl ?_ | refine gny_T 3 rfl rfl rfl ?_ | refine gny_F 3 rfl rfl rfl ?_ | refine gny_B 3 rfl rfl rfl ?_ | refine gny_skip 3 rfl rfl ?_ | refine gny_sp 3 rfl rfl rfl ?_ | refine gny_sB 3 rfl rfl rfl ?_ | refine gny_sld 3 rfl rfl rfl rfl ?_ | refine gny_sldH 3 rfl rfl rfl ‹HRow _ _ 0 _› rfl ?_ | refine gny_ldN 3 rfl rfl rfl rfl ?_ | refine gny_bld 3 rfl rfl rfl ?_); (first | refine gny_p 4 rfl rfl rfl ?_ | refine gny_ld 4 rfl rfl rfl rfl ?_ | refine gny_ldH 4 rfl rfl rfl ‹HRow _ _ 0 _› rfl ?_ | refine gny_T 4 rfl rfl rfl ?_ | refine gny_F 4 rfl rfl rfl ?_ | refine gny_B 4 rfl rfl rfl ?_ | refine gny_skip 4 rfl rfl ?_ | refine gny_sp 4 rfl rfl rfl ?_ | refine gny_sB 4 rfl rfl rfl ?_ | refine gny_sld 4 rfl rfl rfl rfl ?_ | refine gny_sldH 4 rfl rfl rfl ‹HRow _ _ 0 _› rfl ?_ | refine gny_ldN 4 rfl rfl rfl rfl ?_ | refine gny_bld 4 rfl rfl rfl ?_); (first | refine gny_p 5 rfl rfl rfl ?_ | refine gny_ld 5 rfl rfl rfl rfl ?_ | refine gny_ldH 5 rfl rfl rfl ‹HRow _ _ 0 _› rfl ?_ | refine gny_T 5 rfl rfl rfl ?_ | refine gny_F 5 rfl rfl rfl ?_ | refine gny_B 5 rfl rfl rfl ?_ | refine gny_skip 5 rfl rfl ?_ | refine gny_sp 5 rfl rfl rfl ?_ | refine gny_sB 5 rfl rfl rfl ?_ | refine gny_sld 5 rfl rfl rfl rfl ?_ | refine gny_sldH 5 rfl rfl rfl ‹HRow _ _ 0 _› rfl ?_ | refine gny_ldN 5 rfl rfl rfl rfl ?_ | refine gny_bld 5 rfl rfl rfl ?_); (first | refine gny_p 6 rfl rfl rfl ?_ | refine gny_ld 6 rfl rfl rfl rfl ?_ | refine gny_ldH 6 rfl rfl rfl ‹HRow _ _ 0 _› rfl ?_ | refine gny_T 6 rfl rfl rfl ?_ | refine gny_F 6 rfl rfl rfl ?_ | refine gny_B 6 rfl rfl rfl ?_ | refine gny_skip 6 rfl rfl ?_ | refine gny_sp 6 rfl rfl rfl ?_ | refine gny_sB 6 rfl rfl rfl ?_ | refine gny_sld 6 rfl rfl rfl rfl ?_ | refine gny_sldH 6 rfl rfl rfl ‹HRow _ _ 0 _› rfl ?_ | refine gny_ldN 6 rfl rfl rfl rfl ?_ | refine gny_bld 6 rfl rfl rfl ?_); (first | refine gny_p 7 rfl rfl rfl ?_ | refine gny_ld 7 rfl rfl rfl rfl ?_ | refine gny_ldH 7 rfl rfl rfl ‹HRow _ _ 0 _› rfl ?_ | refine gny_T 7 rfl rfl rfl ?_ | refine gny_F 7 rfl rfl rfl ?_ | refine gny_B 7 rfl rfl rfl ?_ | refine gny_skip 7 rfl rfl ?_ | refine gny_sp 7 rfl rfl rfl ?_ | refine gny_sB 7 rfl rfl rfl ?_ | refine gny_sld 7 rfl rfl rfl rfl ?_ | refine gny_sldH 7 rfl rfl rfl ‹HRow _ _ 0 _› rfl ?_ | refine gny_ldN 7 rfl rfl rfl rfl ?_ | refine gny_bld 7 rfl rfl rfl ?_)
  refine gny_call 8 rfl rfl rfl (tells_spec (W0 := W0) (H := HK) (p := p') (s := s') (m := m') (n := n + 1) hI' (by omega) hR' ⟨_, _, rfl, hn1, hn2⟩) fun r9 H9 B hl9 ⟨er, eB⟩ => ?_
  subst er eB
  refine ⟨(by (repeat (first | exact Sub.refl _ | exact Sub.nil _ | (apply sub_pick; (repeat (first | exact Has.here | apply Has.there)); skip) | apply Sub.drop))), ?_⟩
  (first | refine gny_p 9 rfl rfl rfl ?_ | refine gny_ld 9 rfl rfl rfl rfl ?_ | refine gny_ldH 9 rfl rfl rfl ‹HRow _ _ 0 _› rfl ?_ | refine gny_T 9 rfl rfl rfl ?_ | refine gny_F 9 rfl rfl rfl ?_ | refine gny_B 9 rfl rfl rfl ?_ | refine gny_skip 9 rfl rfl ?_ | refine gny_sp 9 rfl rfl rfl ?_ | refine gny_sB 9 rfl rfl rfl ?_ | refine gny_sld 9 rfl rfl rfl rfl ?_ | refine gny_sldH 9 rfl rfl rfl ‹HRow _ _ 0 _› rfl ?_ | refine gny_ldN 9 rfl rfl rfl rfl ?_ | refine gny_bld 9 rfl rfl rfl ?_); (first | refine gny_p 10 rfl rfl rfl ?_ | refine gny_ld 10 rfl rfl rfl rfl ?_ | refine gny_ldH 10 rfl rfl rfl ‹HRow _ _ 0 _› rfl ?_ | refine gny_T 10 rfl rfl rfl ?_ | refine gny_F 10 rfl rfl rfl ?_ | refine gny_B 10 rfl rfl rfl ?_ | refine gny_skip 10 rfl rfl ?_ | refine gny_sp 10 rfl rfl rfl ?_ | refine gny_sB 10 rfl rfl rfl ?_ | refine gny_sld 10 rfl rfl rfl rfl ?_ | refine gny_sldH 10 rfl rfl rfl ‹HRow _ _ 0 _› rfl ?_ | refine gny_ldN 10 rfl rfl rfl rfl ?_ | refine gny_bld 10 rfl rfl rfl ?_)
  refine any_sta 11 rfl rfl rfl rfl (by simp) rfl ⟨(by (repeat (first | exact Sub.refl _ | exact Sub.nil _ | (apply sub_pick; (repeat (first | exact Has.here | apply Has.there)); skip) | apply Sub.drop))), ?_⟩
  refine any_rest rfl ?_
  refine walk ?_
  refine finB [tabO H9 p' s'] ?_
  exact ⟨p', s', m', _, rfl, ⟨_, _, rfl, hn1.mono hl9, hn2.mono hl9⟩, hI', hR', rfl⟩
end Go.Proofs.YtkhbfjkioehgfaaGreatDoor
