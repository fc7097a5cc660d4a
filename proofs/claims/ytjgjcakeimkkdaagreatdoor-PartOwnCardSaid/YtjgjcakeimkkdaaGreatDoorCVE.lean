/- PartOwn, walked: what is handed in isn't kept, answers share no memory with the participant. -/
import Derived.Test.YtjgjcakeimkkdaaGreatDoorM14
set_option linter.unusedVariables false
set_option linter.unusedSimpArgs false
namespace Go.Proofs.YtjgjcakeimkkdaaGreatDoor
open Go Go.Sx Go.Proofs
theorem ownV_open {H : Heap} {v : RecV} {L : List HProp} : Sub (ownV H v :: L) (ownS rStr 1 16 9 H (.slice v.d1 v.q.Work.Take.length v.e1) v.q.Work.Take :: ownS rStr 1 16 9 H (.slice v.d2 v.q.Work.Drop.length v.e2) v.q.Work.Drop :: L) :=
  Sub.trans (sub_open (B := [_, _]) fun _ h => h) (Sub.refl _)
theorem ownV_flat {H H' : Heap} {v : RecV} : ∀ h, ownV H v h → ownV H' v h := fun h ⟨a1, a2, x1, ⟨b1, b2, x2, y2⟩, y1⟩ =>
  ⟨a1, a2, ownS_flat x1, ⟨b1, b2, ownS_flat x2, y2⟩, y1⟩
theorem bigL_weak {ι : Type} {A A' : ι → HProp} (hA : ∀ x h, A x h → A' x h) : ∀ {l : List ι} h, bigL A l h → bigL A' l h
  | [], h, hb => hb
  | x :: l, h, ⟨a1, a2, x1, y1⟩ => ⟨a1, a2, hA _ _ x1, bigL_weak hA (l := l) _ y1.1, y1.2⟩
/-- lists that lie in a heap are read in it -/
theorem bigL_reads {H H' : Heap} : ∀ {ys : List RecV} {D : Heap}, bigL (ownV H) ys D → D.le H' → ∀ y ∈ ys, SlB rStr 1 16 H' (.slice y.d1 y.q.Work.Take.length y.e1) y.q.Work.Take ∧ SlB rStr 1 16 H' (.slice y.d2 y.q.Work.Drop.length y.e2) y.q.Work.Drop
  | [], _, _, _, y, hy => by cases hy
  | x :: ys, D, ⟨a1, a2, ⟨c1, c2, o1, ⟨d1, d2, o2, _, _, ld1, _⟩, _, lc1, lc2⟩, y1, _, le1, le2⟩, hl, y, hy => by
    rcases List.mem_cons.1 hy with rfl | hy
    · exact ⟨ownS_reads (ownS_flat (H' := Heap.empty) o1) (empty_le _) (lc1.trans (le1.trans hl)), ownS_reads (ownS_flat (H' := Heap.empty) o2) (empty_le _) (ld1.trans (lc2.trans (le1.trans hl)))⟩
    · exact bigL_reads (ys := ys) y1 (le2.trans hl) y hy
theorem slr_weak {α : Type} {R R' : Sx.Rd α} {sz : Nat} [RdOk R sz] [RdOk R' sz] {H : Heap} {v : Value} {xs : List α} (hw : ∀ x ∈ xs, ∀ c, R H c x → R' H c x) (h : SlR R sz H v xs) : SlR R' sz H v xs := by
  obtain ⟨cs, a, b⟩ := h
  exact ⟨cs, a, RL.weak hw b⟩
theorem tsA {L L' : List HProp} (h : Sub L L' := by (repeat (first | exact Sub.refl _ | exact Sub.nil _ | (apply sub_pick; (repeat (first | exact Has.here | apply Has.there)); skip) | apply Sub.drop))) : Sub L L' := h
theorem slb_nil {α : Type} {R : Sx.Rd α} {sz w : Nat} {H : Heap} {xs : List α} (h : SlB R sz w H nilS xs) : xs = [] := by
  obtain ⟨b, c, e, _, _⟩ := h.1.shape
  injection e with _ e2 _
  exact List.eq_nil_of_length_eq_zero e2.symm
theorem RL.map {α β : Type} {R : Sx.Rd α} {R' : Sx.Rd β} {f : α → β} {H H' : Heap} : ∀ {xs : List α} {cs : List Value}, (∀ x ∈ xs, ∀ c, R H c x → R' H' c (f x)) → RL R H cs xs → RL R' H' cs (xs.map f)
  | [], _, _, h => h
  | x :: xs, cs, hw, ⟨a, b, e, h1, h2⟩ => ⟨a, b, e, hw x (List.mem_cons_self ..) a h1, RL.map (fun y hy => hw y (List.mem_cons_of_mem _ hy)) h2⟩
theorem slr_map {α β : Type} {R : Sx.Rd α} {R' : Sx.Rd β} {f : α → β} {sz : Nat} {H : Heap} {v : Value} {xs : List α} (hw : ∀ x ∈ xs, ∀ c, R H c x → R' H c (f x)) (h : SlR R sz H v xs) : SlR R' sz H v (xs.map f) := by
  obtain ⟨cs, a, b⟩ := h
  exact ⟨cs, by rw [List.length_map]; exact a, RL.map hw b⟩
abbrev oM (p5 : Nat) (m : Message) (b5 : Option Addr) (c5 : Nat) (b6 : Option Addr) (c6 : Nat) (b7 : Option Addr) (c7 : Nat) (b8 : Option Addr) (c8 : Nat) : HProp := row p5 43 (m.cv (.slice b5 m.Work.Take.length c5) (.slice b6 m.Work.Drop.length c6) (.slice b7 m.Call.Route.Cells.length c7) (.slice b8 m.Reply.Route.Cells.length c8))
abbrev oP (p8 : Nat) (x : Part) (b1 : Option Addr) (c1 : Nat) (b2 : Option Addr) (c2 : Nat) (b3 : Option Addr) (c3 : Nat) : HProp := row p8 72 [I x.Shard, .slice b1 x.T.Held.length c1, .slice b2 x.T.Prep.length c2, .slice b3 x.Done.length c3]
set_option maxHeartbeats 32000000 in
set_option maxRecDepth 20000 in
theorem partOwn_spec {W0 : World} {H : Heap} {v : Value} {sh : Int} {script : List Op} {cm : List Value} {m : Message} (hP : PkH H) (hsh : fits sh) (h0 : SlB rOp 21 232 H v script) (hm : rMessage H cm m) :
    Ct Tryz.prog 6 #[I sh, v, .agg cm.toArray] W0 H [] (fun r H' B => r = .bool true ∧ B = []) := by
  refine Ct.go (vs := [I sh, v, .agg cm.toArray]) fun R => ?_
  have hm0 := hm
  obtain ⟨t1, t2, t3, t4, rfl, f1, f2, f3, f4, f5, f6, f7, h1, h2, f8, f9, f10, f11, h3, f12, f13, f14, h4⟩ := hm
  obtain ⟨b5, c5, rfl, _, _⟩ := h1.1.shape
  obtain ⟨b6, c6, rfl, _, _⟩ := h2.1.shape
  obtain ⟨b7, c7, rfl, _, _⟩ := h3.1.shape
  obtain ⟨b8, c8, rfl, _, _⟩ := h4.1.shape
  refine walk ?_
  refine ops_box rfl rfl fun p5 _ => ?_
  refine walk ?_
  refine ops_call rfl rfl (pbuilt_spec hP hsh h0.1) fun r1 H1 B hl1 ⟨p, s, x, c, er, hc, I0, hR, hse, eB⟩ => ?_
  subst er eB
  have hc00 := hc
  obtain ⟨q1, q2, q3, rfl, hxs, hq1, hq2, hq3⟩ := hc
  obtain ⟨qb1, qc1, rfl, _, _⟩ := hq1.1.shape
  obtain ⟨qb2, qc2, rfl, _, _⟩ := hq2.1.shape
  obtain ⟨qb3, qc3, rfl, _, _⟩ := hq3.1.shape
  refine walk ?_
  refine ops_alloc rfl fun p8 _ => ?_
  refine walk ?_
  refine ops_call (vs := []) rfl rfl (pawake_spec (hP.mono hl1)) fun r2 H2 B hl2 ⟨er, eB⟩ => ?_
  subst er eB
  refine ops_know (A := partO H1 p s) (by repeat (first | exact Has.here | apply Has.there)) (fun h ht => part_know ht) fun hWR => ?_
  have hWR2 := hWR.mono hl2
  refine walk ?_
  refine ops_call rfl rfl (pOwnO_spec (RdOk.mono (R := rMessage) (hl1.trans hl2) hm0)) fun r3 H3 B hl3 ⟨s1, s2, s3, s4, er, eB, eH⟩ => ?_
  subst er eB eH
  have hok1 := clipM_ok hm0
  refine walk ?_
  refine ops_alloc rfl fun p10 _ => ?_
  refine walk ?_
  refine ops_cut0 (σ := PS × (Option Addr × Nat) × (Option Addr × Nat) × List RecV × Heap) (fun u => PInv 61 u.1 ∧ (∃ cs, u.1 = hearS s (clipM m) cs) ∧ u.2.2.2.1.map (·.q) = hearRec s (clipM m) ∧ (∀ y ∈ u.2.2.2.1, OkV y) ∧ H3.le u.2.2.2.2 ∧ SlB rMsg0 19 216 u.2.2.2.2 (.slice u.2.1.1 (hearOut s (clipM m)).length u.2.1.2) (hearOut s (clipM m)) ∧ SlB rRecV 9 120 u.2.2.2.2 (.slice u.2.2.1.1 u.2.2.2.1.length u.2.2.1.2) u.2.2.2.1)
    (fun u => [(5, .pointer (some ⟨p5, 0, none⟩)), (7, .pointer (some ⟨p, 0, none⟩)), (8, .pointer (some ⟨p8, 0, none⟩)), (10, .pointer (some ⟨p10, 0, none⟩)), (11, .slice u.2.1.1 (hearOut s (clipM m)).length u.2.1.2), (12, .slice u.2.2.1.1 u.2.2.2.1.length u.2.2.1.2)]) (fun u => u.2.2.2.2) (fun u => partO u.2.2.2.2 p u.1 :: bigL (ownV H3) u.2.2.2.1 :: ownS rStr 1 16 9 H3 (sl s1 (clipM m).Work.Take) (clipM m).Work.Take :: ownS rStr 1 16 9 H3 (sl s2 (clipM m).Work.Drop) (clipM m).Work.Drop :: row p10 43 (cvM s1 s2 s3 s4 (clipM m)) :: oP p8 x qb1 qc1 qb2 qc2 qb3 qc3 :: oM p5 m b5 c5 b6 c6 b7 c7 b8 c8 :: R) (fun K hK => ?_) fun ⟨s', ⟨ba, ca⟩, ⟨bb, cb⟩, ys, HA⟩ ⟨hI', ⟨cs, hs'⟩, hys, hyok, hlA, hsm, hsr⟩ => ?_
  · refine ops_freeze (sl s3 (clipM m).Call.Route.Cells) fun H4 hl4 z3 => ?_
    refine ops_freeze (sl s4 (clipM m).Reply.Route.Cells) fun H5 hl5 z4 => ?_
    refine ops_L (L' := partO H5 p s :: ownS rStr 1 16 9 H3 (sl s1 (clipM m).Work.Take) (clipM m).Work.Take :: ownS rStr 1 16 9 H3 (sl s2 (clipM m).Work.Drop) (clipM m).Work.Drop :: row p10 43 (cvM s1 s2 s3 s4 (clipM m)) :: oP p8 x qb1 qc1 qb2 qc2 qb3 qc3 :: oM p5 m b5 c5 b6 c6 b7 c7 b8 c8 :: R) ?_ ?_
    · refine Sub.trans ?_ (part_up (H := H1) (hl2.trans (hl4.trans hl5)))
      exact tsA
    refine ops_lendS (sl s1 (clipM m).Work.Take) fun D1 hD1 hdj1 hle1 hz1 => ?_
    refine ops_lendS (sl s2 (clipM m).Work.Drop) fun D2 hD2 hdj2 hle2 hz2 => ?_
    refine ops_L (L' := partO (union (union H5 D1) D2) p s :: row p10 43 (cvM s1 s2 s3 s4 (clipM m)) :: oP p8 x qb1 qc1 qb2 qc2 qb3 qc3 :: oM p5 m b5 c5 b6 c6 b7 c7 b8 c8 :: R) ?_ ?_
    · refine Sub.trans ?_ (part_up (H := H5) (hle1.trans hle2))
      exact tsA
    refine ops_call rfl rfl (hearO_spec (W0 := W0) (p := p) (n := 60) (s := s) (m := clipM m) (c := cvM s1 s2 s3 s4 (clipM m)) (hP.mono (hl1.trans (hl2.trans (hl4.trans (hl5.trans (hle1.trans hle2)))))) I0 (by omega) hok1 ⟨_, _, _, _, rfl, f1, f2, f3, f4, f5, f6, f7, hz1.mono hle2, hz2, f8, f9, f10, f11, z3.mono (hl5.trans (hle1.trans hle2)), f12, f13, f14, z4.mono (hle1.trans hle2)⟩) fun r4 H6 B hl6 hQ => ?_
    obtain ⟨v1, v2, ys, er, hys, hyok, hB⟩ := hQ
    subst er
    refine ops_back hD2 hdj2 hl6 ?_
    refine ops_back hD1 hdj1 (.refl _) ?_
    have hWR5 := hWR2.mono (hl4.trans hl5)
    rcases hB with ⟨s', hS, hW, eB⟩ | ⟨d1, e1, d2, e2, s', hS, hW, eB⟩
    · subst eB
      refine ops_L (L' := ownS rMsg0 19 216 43 H3 v1 (hearOut s (clipM m)) :: ownS rRecV 9 120 53 H3 v2 ys :: bigL (ownV H3) ys :: partO H5 p s' :: ownS rStr 1 16 9 H3 (sl s1 (clipM m).Work.Take) (clipM m).Work.Take :: ownS rStr 1 16 9 H3 (sl s2 (clipM m).Work.Drop) (clipM m).Work.Drop :: row p10 43 (cvM s1 s2 s3 s4 (clipM m)) :: oP p8 x qb1 qc1 qb2 qc2 qb3 qc3 :: oM p5 m b5 c5 b6 c6 b7 c7 b8 c8 :: R) ?_ ?_
      · refine Sub.trans ?_ (Sub.trans (sub_flat H6 H3) (Sub.cons (Sub.trans (sub_flat H6 H3) (Sub.cons (Sub.trans (sub_head (A := bigL (ownV H6) ys) (bigL_weak fun _ => ownV_flat)) (Sub.cons (sub_head (A := pRaw p s') (raw_part (hW _ hWR5)))))))))
        exact tsA
      have hinv := I0.hear (cs := []) hok1
      rw [hS] at hinv
      refine ops_freeze v1 fun H7 hl7 hsm => ?_
      refine ops_freeze v2 fun H8 hl8 hsr => ?_
      have hsm := hsm.mono hl8
      obtain ⟨ba, ca, rfl, _, _⟩ := hsm.1.shape
      obtain ⟨bb, cb, rfl, _, _⟩ := hsr.1.shape
      refine ops_L (L' := partO H8 p s' :: bigL (ownV H3) ys :: ownS rStr 1 16 9 H3 (sl s1 (clipM m).Work.Take) (clipM m).Work.Take :: ownS rStr 1 16 9 H3 (sl s2 (clipM m).Work.Drop) (clipM m).Work.Drop :: row p10 43 (cvM s1 s2 s3 s4 (clipM m)) :: oP p8 x qb1 qc1 qb2 qc2 qb3 qc3 :: oM p5 m b5 c5 b6 c6 b7 c7 b8 c8 :: R) ?_ ?_
      · refine Sub.trans ?_ (part_up (hl7.trans hl8))
        exact tsA
      refine walk ?_
      exact out_to hK (s', (ba, ca), (bb, cb), ys, H8) ⟨hinv, ⟨[], (hS []).symm⟩, hys, hyok, hl4.trans (hl5.trans (hl7.trans hl8)), hsm, hsr⟩
    · subst eB
      refine ops_L (L' := ownS rStr 1 16 9 H3 (.slice d1 (clipM m).Work.Take.length e1) (clipM m).Work.Take :: ownS rStr 1 16 9 H3 (.slice d2 (clipM m).Work.Drop.length e2) (clipM m).Work.Drop :: ownS rMsg0 19 216 43 H3 v1 (hearOut s (clipM m)) :: ownS rRecV 9 120 53 H3 v2 ys :: bigL (ownV H3) ys :: pRaw p s' :: ownS rStr 1 16 9 H3 (sl s1 (clipM m).Work.Take) (clipM m).Work.Take :: ownS rStr 1 16 9 H3 (sl s2 (clipM m).Work.Drop) (clipM m).Work.Drop :: row p10 43 (cvM s1 s2 s3 s4 (clipM m)) :: oP p8 x qb1 qc1 qb2 qc2 qb3 qc3 :: oM p5 m b5 c5 b6 c6 b7 c7 b8 c8 :: R) ?_ ?_
      · refine Sub.trans ?_ (Sub.trans (sub_flat H6 H3) (Sub.cons (Sub.trans (sub_flat H6 H3) (Sub.cons (Sub.trans (sub_flat H6 H3) (Sub.cons (Sub.trans (sub_flat H6 H3) (Sub.cons (sub_head (A := bigL (ownV H6) ys) (bigL_weak fun _ => ownV_flat))))))))))
        exact tsA
      refine ops_freeze (.slice d1 (clipM m).Work.Take.length e1) fun H9 hl9 hf1 => ?_
      refine ops_freeze (.slice d2 (clipM m).Work.Drop.length e2) fun H10 hl10 hf2 => ?_
      have hwr := hW _ (hWR5.mono (hl9.trans hl10)) ⟨_, _, rfl, f7, hf1.mono hl10, hf2⟩
      have hinv := I0.hear (cs := (clipM m).Work.cv (.slice d1 (clipM m).Work.Take.length e1) (.slice d2 (clipM m).Work.Drop.length e2)) hok1
      rw [← hS] at hinv
      refine ops_freeze v1 fun H7 hl7 hsm => ?_
      refine ops_freeze v2 fun H8 hl8 hsr => ?_
      have hsm := hsm.mono hl8
      obtain ⟨ba, ca, rfl, _, _⟩ := hsm.1.shape
      obtain ⟨bb, cb, rfl, _, _⟩ := hsr.1.shape
      refine ops_L (L' := partO H8 p s' :: bigL (ownV H3) ys :: ownS rStr 1 16 9 H3 (sl s1 (clipM m).Work.Take) (clipM m).Work.Take :: ownS rStr 1 16 9 H3 (sl s2 (clipM m).Work.Drop) (clipM m).Work.Drop :: row p10 43 (cvM s1 s2 s3 s4 (clipM m)) :: oP p8 x qb1 qc1 qb2 qc2 qb3 qc3 :: oM p5 m b5 c5 b6 c6 b7 c7 b8 c8 :: R) ?_ ?_
      · refine Sub.trans ?_ (Sub.trans (sub_head (A := pRaw p s') (raw_part hwr)) (part_up (hl7.trans hl8)))
        exact tsA
      refine walk ?_
      exact out_to hK (s', (ba, ca), (bb, cb), ys, H8) ⟨hinv, ⟨_, hS⟩, hys, hyok, hl4.trans (hl5.trans (hl9.trans (hl10.trans (hl7.trans hl8)))), hsm, hsr⟩
  simp only at hI' hs' hys hyok hlA hsm hsr
  dsimp only
  have e1 := hR.r.held I0.t
  have e2 := hR.r.prep I0.t
  have e3 := hR.dones I0
  have hml : x.T.Held.length ≤ 40 * 60 := by rw [← e1]; simpa [holdsL, sortT_len] using I0.t.hn
  have hmp : x.T.Prep.length ≤ 60 := by rw [← e2, prepL_len]; exact I0.t.wn
  have hmd : x.Done.length ≤ 60 := by rw [← e3, List.length_map, doneL_len]; exact I0.dn
  have h80 : ∀ q ∈ x.T.Prep, q.Work.ks.length ≤ 80 := fun q hq => (I0.t.ww _ _ (hR.r.recs hq)).1.1.ks_len
  refine walk ?_
  refine ex_any 3 [oP p8 x qb1 qc1 qb2 qc2 qb3 qc3, oM p5 m b5 c5 b6 c6 b7 c7 b8 c8] ?_
  refine stepY 0 ?_; refine stepY 1 ?_
  refine gny_call 2 rfl rfl rfl (pOwn_spec (RdOk.mono (R := rMessage) (hl1.trans (hl2.trans hlA)) hm0)) fun r5 H5 B hl5 ⟨cs5, er, hcs5, eB⟩ => ?_
  subst er eB
  refine ⟨(by (repeat (first | exact Sub.refl _ | exact Sub.nil _ | (apply sub_pick; (repeat (first | exact Has.here | apply Has.there)); skip) | apply Sub.drop))), ?_⟩
  refine any_stage 11 [] ?_
  refine gny_call 3 rfl rfl rfl (rHear_spec (m := x) (g := clipM m) (n := 60) (RdOk.mono (R := rPart) (hl2.trans (hlA.trans hl5)) hc00) hcs5 hok1 (by omega) hml hmp h80 hmd) fun r6 H6 B hl6 ⟨cs6, x', w1, w2, out, rec, er, hcs6, hw1, hw2, hRH, eB⟩ => ?_
  subst er eB
  refine ⟨(by (repeat (first | exact Sub.refl _ | exact Sub.nil _ | (apply sub_pick; (repeat (first | exact Has.here | apply Has.there)); skip) | apply Sub.drop))), ?_⟩
  obtain ⟨eo, er, hrel⟩ := hR.hear I0 hRH
  have hrel := hrel cs
  rw [← hs'] at hrel
  subst eo er
  have hcs60 := hcs6
  obtain ⟨q1, q2, q3, rfl, hqs, hq1', hq2', hq3'⟩ := hcs6
  obtain ⟨zb1, zc1, rfl, _, _⟩ := hq1'.1.shape
  obtain ⟨zb2, zc2, rfl, _, _⟩ := hq2'.1.shape
  obtain ⟨zb3, zc3, rfl, _, _⟩ := hq3'.1.shape
  obtain ⟨wa, wca, rfl, _, _⟩ := hw1.1.shape
  obtain ⟨wb, wcb, rfl, _, _⟩ := hw2.1.shape
  refine stepY 4 ?_
  refine gny_ext 5 rfl rfl rfl rfl ?_
  refine gny_ext 6 rfl rfl rfl rfl ?_
  refine gny_ext 7 rfl rfl rfl rfl ?_
  refine any_sta 8 rfl rfl rfl rfl (by simp) rfl ⟨(by (repeat (first | exact Sub.refl _ | exact Sub.nil _ | (apply sub_pick; (repeat (first | exact Has.here | apply Has.there)); skip) | apply Sub.drop))), ?_⟩
  refine stepY 9 ?_; refine stepY 10 ?_
  refine any_rest rfl ?_
  refine walk ?_
  refine ops_L (L' := partO H6 p s' :: bigL (ownV H3) ys :: ownS rStr 1 16 9 H3 (sl s1 (clipM m).Work.Take) (clipM m).Work.Take :: ownS rStr 1 16 9 H3 (sl s2 (clipM m).Work.Drop) (clipM m).Work.Drop :: row p10 43 (cvM s1 s2 s3 s4 (clipM m)) :: oP p8 x' zb1 zc1 zb2 zc2 zb3 zc3 :: R) ?_ ?_
  · refine Sub.trans ?_ (part_up (H := HA) (hl5.trans hl6))
    exact tsA
  refine ops_call rfl rfl (spoil_spec (W0 := W0) (HS1 := H3) (HS2 := H3) (rob := m.Work.Robot) (d1 := s1.1) (e1 := s1.2) (d2 := s2.1) (e2 := s2.2) (t := (clipM m).Work.Take) (dd := (clipM m).Work.Drop)) fun r7 H7 B hl7 ⟨eB, eH⟩ => ?_
  subst eB eH
  have hyl : ys.length ≤ 1 := by
    have := hearRec_len (s := s) (m := clipM m)
    rw [← hys, List.length_map] at this
    exact this
  have hsm7 := hsm.mono (hl5.trans hl6)
  have hsr7 := hsr.mono (hl5.trans hl6)
  generalize hoe : hearOut s (clipM m) = os at *
  refine walk ?_
  refine ex_loop (σ := Nat) (fun k => k ≤ os.length) (fun k => [(7, .pointer (some ⟨p, 0, none⟩)), (8, .pointer (some ⟨p8, 0, none⟩)), (11, .slice ba os.length ca), (12, .slice bb ys.length cb), (13, .slice wa os.length wca), (14, .slice wb (hearRec s (clipM m)).length wcb), (51, I os.length), (52, I k)]) (fun _ => H7) (fun _ => partO H7 p s' :: bigL (ownV H3) ys :: oP p8 x' zb1 zc1 zb2 zc2 zb3 zc3 :: R) (fun k => os.length - k) 0 (Nat.zero_le _) fun k hk0 K hL => ?_
  refine walk ?_
  refine ex_if rfl (fun hk => ?_) (fun hk => ?_)
  · have hk1 : k < os.length := by omega
    refine walk ?_
    refine ops_ixp rfl rfl hsm7.1 hk1 fun b o cc hr hc => ?_
    generalize os[k] = q at hr hc
    obtain ⟨rfl, w1', w2', w3', w4', ew, _, _, _, _, _, _, _, z1, z2, _⟩ := hc
    have ew1 : nilS = w1' := by have := congrArg (fun l : List Value => l[7]?) ew; simpa [Message.cv] using this
    have ew2 : nilS = w2' := by have := congrArg (fun l : List Value => l[8]?) ew; simpa [Message.cv] using this
    subst ew1 ew2
    have ht := slb_nil z1
    have hd := slb_nil z2
    have hr6 : HRow H7 b (o + 6) [I q.Work.Robot, nilS, nilS] := HRow.take (k := 3) (HRow.drop (k := 6) hr)
    refine walk ?_
    refine ops_ldNH rfl rfl hr6 rfl ?_
    refine ops_L (L' := ownS rStr 1 16 9 H7 (.slice none ([] : List ByteArray).length 0) [] :: ownS rStr 1 16 9 H7 (.slice none ([] : List ByteArray).length 0) [] :: partO H7 p s' :: bigL (ownV H3) ys :: oP p8 x' zb1 zc1 zb2 zc2 zb3 zc3 :: R) ?_ ?_
    · refine Sub.trans ?_ (Sub.trans ownS_nil ownS_nil)
      exact tsA
    refine ops_call rfl rfl (spoil_spec (W0 := W0) (HS1 := H7) (HS2 := H7) (rob := q.Work.Robot) (d1 := none) (e1 := 0) (d2 := none) (e2 := 0) (t := []) (dd := [])) fun r9 H9 B hl9 ⟨eB, eH⟩ => ?_
    subst eB eH
    refine walk ?_
    exact out_next hL (k + 1) (by omega)
  clear hL
  refine walk ?_
  refine ops_call rfl rfl (sameAll_spec (slr_weak (R := rMsg0) (R' := rMessage) (fun x _ c h => RdOk.mono (R := rMessage) (empty_le _) h.2) hsm7.1) hw1.1) fun r9 HB B hl9 ⟨er, eB, eH⟩ => ?_
  subst er eB eH
  refine walk ?_
  refine ops_lend (A := bigL (ownV H3) ys) (by repeat (first | exact Has.here | apply Has.there)) fun D hD hdj hle1 hle2 => ?_
  have hrr : SlR rRec 9 _ (.slice bb ys.length cb) (ys.map (·.q)) := slr_map (R := rRecV) (R' := rRec) (f := (·.q)) (fun y hy c hc => by
    obtain rfl : c = y.cv := hc
    obtain ⟨g1, g2⟩ := bigL_reads hD hle2 y hy
    exact hyok y hy _ g1 g2) (hsr7.mono hle1).1
  rw [hys] at hrr
  refine ops_call rfl rfl (sameRecs_spec hrr (hw2.mono hle1).1) fun r9 H9 B hl9 ⟨er, eB, eH⟩ => ?_
  subst er eB eH
  refine ops_back hD hdj (.refl _) ?_
  refine walk ?_
  refine ex_loop (σ := Nat) (fun j => j ≤ ys.length) (fun j => [(7, .pointer (some ⟨p, 0, none⟩)), (8, .pointer (some ⟨p8, 0, none⟩)), (12, .slice bb ys.length cb), (16, .bool true), (71, I ys.length), (72, I j)]) (fun _ => HB) (fun j => bigL (ownV H3) (ys.drop j) :: partO HB p s' :: oP p8 x' zb1 zc1 zb2 zc2 zb3 zc3 :: R) (fun j => ys.length - j) 0 (Nat.zero_le _) fun j hj0 K hL => ?_
  refine walk ?_
  refine ex_if rfl (fun hj => ?_) (fun hj => ?_)
  · have hj1 : j < ys.length := by omega
    have hdr := List.drop_eq_getElem_cons hj1
    refine walk ?_
    refine ops_ixp rfl rfl hsr7.1 hj1 fun b o cc hr hc => ?_
    rw [hdr]
    generalize ys[j] = y at hr hc ⊢
    obtain rfl : cc = y.cv := hc
    obtain ⟨⟨qk, ⟨y1, y2, y3⟩, ⟨yr, yt, yd⟩, qy, qp⟩, d1, e1', d2, e2'⟩ := y
    have hr6 : HRow HB b (o + 4) [I yr, .slice d1 yt.length e1', .slice d2 yd.length e2'] := HRow.take (k := 3) (HRow.drop (k := 4) hr)
    refine walk ?_
    refine ops_ldNH rfl rfl hr6 rfl ?_
    refine ops_L (L' := ownS rStr 1 16 9 H3 (.slice d1 yt.length e1') yt :: ownS rStr 1 16 9 H3 (.slice d2 yd.length e2') yd :: bigL (ownV H3) (ys.drop (j + 1)) :: partO HB p s' :: oP p8 x' zb1 zc1 zb2 zc2 zb3 zc3 :: R) ?_ ?_
    · refine Sub.trans ?_ (Sub.trans (bigL_out (l1 := []) (x := (⟨⟨qk, ⟨y1, y2, y3⟩, ⟨yr, yt, yd⟩, qy, qp⟩, d1, e1', d2, e2'⟩ : RecV)) (l2 := ys.drop (j + 1))) ownV_open)
      exact tsA
    refine ops_call rfl rfl (spoil_spec (W0 := W0) (HS1 := H3) (HS2 := H3) (rob := yr) (d1 := d1) (e1 := e1') (d2 := d2) (e2 := e2') (t := yt) (dd := yd)) fun r9 HC B hl9 ⟨eB, eH⟩ => ?_
    subst eB eH
    refine walk ?_
    exact out_next hL (j + 1) (by omega)
  clear hL
  refine walk ?_
  refine ops_call rfl rfl (ptells_spec (W0 := W0) (H := HB) (p := p) (s := s') (m := x') (n := 61) hI' (by omega) hrel hcs60) fun r9 H9 B hl9 ⟨er, eB⟩ => ?_
  subst er eB
  refine walk ?_
  refine fin0 ?_
  exact ⟨rfl, rfl⟩
end Go.Proofs.YtjgjcakeimkkdaaGreatDoor
