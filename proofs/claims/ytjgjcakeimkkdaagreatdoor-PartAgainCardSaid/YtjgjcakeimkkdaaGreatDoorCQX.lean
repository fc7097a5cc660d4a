/- PartAgain, walked. -/
import Derived.Test.YtjgjcakeimkkdaaGreatDoorM13
set_option linter.unusedVariables false
set_option linter.unusedSimpArgs false
namespace Go.Proofs.YtjgjcakeimkkdaaGreatDoor
open Go Go.Sx Go.Proofs
theorem clipM_idem {m : Message} : clipM (clipM m) = clipM m := by
  simp [clipM, clipW, List.take_take]
set_option maxHeartbeats 16000000 in
set_option maxRecDepth 20000 in
theorem partAgain_spec {W0 : World} {H : Heap} {v : Value} {sh : Int} {script : List Op} {cm : List Value} {m : Message} (hP : PkH H) (hsh : fits sh) (h0 : SlB rOp 21 232 H v script) (hm : rMessage H cm m) :
    Ct Tryz.prog 4 #[I sh, v, .agg cm.toArray] W0 H [] (fun r H' B => r = .bool true ∧ B = []) := by
  refine Ct.go (vs := [I sh, v, .agg cm.toArray]) fun R => ?_
  have hm0 := hm
  obtain ⟨t1, t2, t3, t4, rfl, f1, f2, f3, f4, f5, f6, f7, h1, h2, f8, f9, f10, f11, h3, f12, f13, f14, h4⟩ := hm
  obtain ⟨b5, c5, rfl, _, _⟩ := h1.1.shape
  obtain ⟨b6, c6, rfl, _, _⟩ := h2.1.shape
  obtain ⟨b7, c7, rfl, _, _⟩ := h3.1.shape
  obtain ⟨b8, c8, rfl, _, _⟩ := h4.1.shape
  refine walk ?_
  refine ops_box rfl rfl fun p5 _ => ?_
  refine walk ?_
  refine ops_call rfl rfl (pbuilt_spec hP hsh h0.1) fun r1 H1 B hl1 ⟨p, s, x, c, er, hc, I0, hR, hse, eB⟩ => ?_
  subst er eB
  obtain ⟨q1, q2, q3, rfl, hxs, hq1, hq2, hq3⟩ := hc
  obtain ⟨qb1, qc1, rfl, _, _⟩ := hq1.1.shape
  obtain ⟨qb2, qc2, rfl, _, _⟩ := hq2.1.shape
  obtain ⟨qb3, qc3, rfl, _, _⟩ := hq3.1.shape
  refine walk ?_
  refine ops_alloc rfl fun p8 _ => ?_
  refine walk ?_
  refine ops_call (vs := []) rfl rfl (pawake_spec (hP.mono hl1)) fun r2 H2 B hl2 ⟨er, eB⟩ => ?_
  subst er eB
  refine walk ?_
  refine ops_call rfl rfl (pOwn_spec (RdOk.mono (R := rMessage) (hl1.trans hl2) hm0)) fun r3 H3 B hl3 ⟨cs3, er, hcs3, eB⟩ => ?_
  subst er eB
  have hok1 := clipM_ok hm0
  obtain ⟨u1, u2, u3, u4, rfl, k1, k2, k3, k4, k5, k6, k7, j1, j2, k8, k9, k10, k11, j3, k12, k13, k14, j4⟩ := id hcs3
  obtain ⟨db1, dc1, rfl, _, _⟩ := j1.1.shape
  obtain ⟨db2, dc2, rfl, _, _⟩ := j2.1.shape
  obtain ⟨db3, dc3, rfl, _, _⟩ := j3.1.shape
  obtain ⟨db4, dc4, rfl, _, _⟩ := j4.1.shape
  refine walk ?_
  have hcl := pOwn_spec (W0 := W0) (H := H3) (m := clipM m) hcs3
  rw [clipM_idem] at hcl
  refine ops_call rfl rfl hcl fun r4 H4 B hl4 ⟨cs4, er, hcs4, eB⟩ => ?_
  subst er eB
  have hA := I0.hear (n := 60) (m := clipM m) (cs := []) hok1
  refine ops_L (L' := partO H4 p s :: row p5 43 ((clipM m).cv (.slice db1 (clipM m).Work.Take.length dc1) (.slice db2 (clipM m).Work.Drop.length dc2) (.slice db3 (clipM m).Call.Route.Cells.length dc3) (.slice db4 (clipM m).Reply.Route.Cells.length dc4)) :: R) ?_ ?_
  · refine Sub.trans ?_ (part_up (hl2.trans (hl3.trans hl4)))
    (repeat (first | exact Sub.refl _ | exact Sub.nil _ | (apply sub_pick; (repeat (first | exact Has.here | apply Has.there)); skip) | apply Sub.drop))
  refine walk ?_
  refine ops_call rfl rfl (hear_spec (W0 := W0) (H := H4) (p := p) (n := 60) (s := s) (m := clipM m) (hP.mono (hl1.trans (hl2.trans (hl3.trans hl4)))) I0 (by omega) hok1 hcs4) fun r5 H5 B hl5 ⟨v1, v2, cs5, er, eB⟩ => ?_
  subst er eB
  have hinv := I0.hear (cs := cs5) hok1
  have hag := hear_again (cs := cs5) (m := clipM m) I0
  generalize hearS s (clipM m) cs5 = s1 at hinv hag ⊢
  obtain ⟨ha1, ha2, ha3⟩ := hag
  have hok2 := hinv.t.ok (by omega)
  refine ops_freeze v1 fun H6 hl6 hsm => ?_
  obtain ⟨ba, ca, rfl, _, _⟩ := hsm.1.shape
  refine ops_shape v2 fun bb cb e _ _ _ => ?_
  subst e
  refine walk ?_
  refine ex_L (L' := partO H6 p s1 :: row p5 43 ((clipM m).cv (.slice db1 (clipM m).Work.Take.length dc1) (.slice db2 (clipM m).Work.Drop.length dc2) (.slice db3 (clipM m).Call.Route.Cells.length dc3) (.slice db4 (clipM m).Reply.Route.Cells.length dc4)) :: R) ?_ ?_
  · refine Sub.trans ?_ (part_up hl6)
    (repeat (first | exact Sub.refl _ | exact Sub.nil _ | (apply sub_pick; (repeat (first | exact Has.here | apply Has.there)); skip) | apply Sub.drop))
  refine ex_open (A := partO H6 p s1) (σ := Nat × Nat) (B := fun a => [pRow p a.1 (PS.sh s1) a.2, tabO H6 a.1 (PS.t s1), dMap H6 a.2 s1]) (p := fun _ => True) (by repeat (first | exact Has.here | apply Has.there)) (fun h ⟨tp, db, hbig⟩ => ⟨(tp, db), trivial, hbig⟩) fun ⟨tp, db⟩ _ => ?_
  dsimp only
  refine ex_any 10 [pRow p tp s1.sh db] ?_
  refine stepY 0 ?_; refine stepY 1 ?_; refine stepY 2 ?_; refine stepY 3 ?_; refine stepY 5 ?_; refine stepY 6 ?_; refine stepY 7 ?_; refine stepY 8 ?_
  refine gny_call 4 rfl rfl rfl (holds_spec (W0 := W0) (H := H6) (p := tp) hok2) fun r7 H7 B hl7 eB => ?_
  subst eB
  refine ⟨(by (repeat (first | exact Sub.refl _ | exact Sub.nil _ | (apply sub_pick; (repeat (first | exact Has.here | apply Has.there)); skip) | apply Sub.drop))), ?_⟩
  refine any_freeze r7 fun H8 hl8 hsh8 => ?_
  refine any_L (L' := tabO H8 tp s1.t :: pRow p tp s1.sh db :: dMap H6 db s1 :: row p5 43 ((clipM m).cv (.slice db1 (clipM m).Work.Take.length dc1) (.slice db2 (clipM m).Work.Drop.length dc2) (.slice db3 (clipM m).Call.Route.Cells.length dc3) (.slice db4 (clipM m).Reply.Route.Cells.length dc4)) :: R) ?_ ?_
  · refine Sub.trans ?_ (tab_up hl8)
    (repeat (first | exact Sub.refl _ | exact Sub.nil _ | (apply sub_pick; (repeat (first | exact Has.here | apply Has.there)); skip) | apply Sub.drop))
  refine gny_call 9 rfl rfl rfl (prepared_spec (W0 := W0) (H := H8) (p := tp) hok2) fun r9 H9 B hl9 eB => ?_
  subst eB
  refine ⟨(by (repeat (first | exact Sub.refl _ | exact Sub.nil _ | (apply sub_pick; (repeat (first | exact Has.here | apply Has.there)); skip) | apply Sub.drop))), ?_⟩
  refine any_freeze r9 fun H10 hl10 hsp => ?_
  obtain ⟨bh, ch, rfl, _, _⟩ := hsh8.1.shape
  obtain ⟨bp, cp, rfl, _, _⟩ := hsp.1.shape
  refine any_rest rfl ?_
  refine walk ?_
  refine ops_L (L' := partO H10 p s1 :: row p5 43 ((clipM m).cv (.slice db1 (clipM m).Work.Take.length dc1) (.slice db2 (clipM m).Work.Drop.length dc2) (.slice db3 (clipM m).Call.Route.Cells.length dc3) (.slice db4 (clipM m).Reply.Route.Cells.length dc4)) :: R) ?_ ?_
  · refine Sub.trans ?_ (part_shut (H1 := H9) (H2 := H6) (tp := tp) (db := db) hl10 (hl7.trans (hl8.trans (hl9.trans hl10))))
    (repeat (first | exact Sub.refl _ | exact Sub.nil _ | (apply sub_pick; (repeat (first | exact Has.here | apply Has.there)); skip) | apply Sub.drop))
  have hle : H3.le H10 := hl4.trans (hl5.trans (hl6.trans (hl7.trans (hl8.trans (hl9.trans hl10)))))
  have hcl2 := pOwn_spec (W0 := W0) (H := H10) (m := clipM m) (RdOk.mono (R := rMessage) hle hcs3)
  rw [clipM_idem] at hcl2
  clear hle
  refine ops_call rfl rfl hcl2 fun r11 H11 B hl11 ⟨cs11, er, hcs11, eB⟩ => ?_
  subst er eB
  refine ops_L (L' := partO H11 p s1 :: R) ?_ ?_
  · refine Sub.trans ?_ (part_up hl11)
    (repeat (first | exact Sub.refl _ | exact Sub.nil _ | (apply sub_pick; (repeat (first | exact Has.here | apply Has.there)); skip) | apply Sub.drop))
  refine walk ?_
  refine ops_call rfl rfl (hear_spec (W0 := W0) (H := H11) (p := p) (n := 61) (s := s1) (m := clipM m) (hP.mono (hl1.trans (hl2.trans (hl3.trans (hl4.trans (hl5.trans (hl6.trans (hl7.trans (hl8.trans (hl9.trans (hl10.trans hl11))))))))))) hinv (by omega) hok1 hcs11) fun r12 H12 B hl12 ⟨v3, v4, cs12, er, eB⟩ => ?_
  subst er eB
  rw [ha1, ha2, ha3]
  refine ops_freeze v3 fun H13 hl13 hsm2 => ?_
  obtain ⟨bc, cc, rfl, _, _⟩ := hsm2.1.shape
  refine ops_shape v4 fun bd cd e _ _ _ => ?_
  rw [show ([] : List Rec).length = 0 from rfl] at e
  subst e
  refine walk ?_
  refine ops_call rfl rfl (sameAll_spec (hsm.mono (hl7.trans (hl8.trans (hl9.trans (hl10.trans (hl11.trans (hl12.trans hl13))))))).1 hsm2.1) fun r14 H14 B hl14 ⟨er, eB, eH⟩ => ?_
  subst er eB eH
  refine ops_open (A := partO H12 p s1) (σ := Nat × Nat) (B := fun a => [pRow p a.1 (PS.sh s1) a.2, tabO H12 a.1 (PS.t s1), dMap H12 a.2 s1]) (p := fun _ => True) (by repeat (first | exact Has.here | apply Has.there)) (fun h ⟨tp, db, hbig⟩ => ⟨(tp, db), trivial, hbig⟩) fun ⟨tp, db⟩ _ => ?_
  dsimp only
  refine walk ?_
  refine ops_L (L' := tabO H14 tp s1.t :: pRow p tp s1.sh db :: dMap H12 db s1 :: R) ?_ ?_
  · refine Sub.trans ?_ (tab_up hl13)
    (repeat (first | exact Sub.refl _ | exact Sub.nil _ | (apply sub_pick; (repeat (first | exact Has.here | apply Has.there)); skip) | apply Sub.drop))
  refine ops_call rfl rfl (holds_spec (W0 := W0) (H := H14) (p := tp) hok2) fun r15 H15 B hl15 eB => ?_
  subst eB
  refine ops_freeze r15 fun H16 hl16 hsh2 => ?_
  obtain ⟨be, ce, rfl, _, _⟩ := hsh2.1.shape
  refine walk ?_
  refine ops_call rfl rfl (sameHolds_spec hsh2.1 (hsh8.mono (hl9.trans (hl10.trans (hl11.trans (hl12.trans (hl13.trans (hl15.trans hl16))))))).1) fun r17 H17 B hl17 ⟨er, eB, eH⟩ => ?_
  subst er eB eH
  refine walk ?_
  refine ops_L (L' := tabO H17 tp s1.t :: pRow p tp s1.sh db :: dMap H12 db s1 :: R) ?_ ?_
  · refine Sub.trans ?_ (tab_up hl16)
    (repeat (first | exact Sub.refl _ | exact Sub.nil _ | (apply sub_pick; (repeat (first | exact Has.here | apply Has.there)); skip) | apply Sub.drop))
  refine ops_call rfl rfl (prepared_spec (W0 := W0) (H := H17) (p := tp) hok2) fun r18 H18 B hl18 eB => ?_
  subst eB
  refine ops_freeze r18 fun H19 hl19 hsp2 => ?_
  obtain ⟨bf, cf, rfl, _, _⟩ := hsp2.1.shape
  refine walk ?_
  refine ops_call rfl rfl (sameRecs_spec hsp2.1 (hsp.mono (hl11.trans (hl12.trans (hl13.trans (hl15.trans (hl16.trans (hl18.trans hl19))))))).1) fun r20 H20 B hl20 ⟨er, eB, eH⟩ => ?_
  subst er eB eH
  refine walk ?_
  refine fin0 ?_
  exact ⟨rfl, rfl⟩
end Go.Proofs.YtjgjcakeimkkdaaGreatDoor
