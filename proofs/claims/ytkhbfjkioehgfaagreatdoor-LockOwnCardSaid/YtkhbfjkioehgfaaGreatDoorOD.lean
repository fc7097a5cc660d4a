/- LockOwn: what is handed in isn't kept, what is answered isn't shared. -/
import Derived.Test.YtkhbfjkioehgfaaGreatDoorOC
set_option linter.unusedVariables false
set_option linter.unusedSimpArgs false
namespace Go.Proofs.YtkhbfjkioehgfaaGreatDoor
open Go Go.Sx Go.Proofs
theorem sub_head {A B : HProp} {L : List HProp} (f : ∀ x, A x → B x) : Sub (A :: L) (B :: L) := fun h ⟨h1, h2, a, r⟩ => ⟨h1, h2, f _ a, r⟩
theorem ownV_open {H : Heap} {v : RecV} {L : List HProp} : Sub (ownV H v :: L) (ownS rStr 1 16 9 H (.slice v.d1 v.q.Work.Take.length v.e1) v.q.Work.Take :: ownS rStr 1 16 9 H (.slice v.d2 v.q.Work.Drop.length v.e2) v.q.Work.Drop :: L) :=
  Sub.trans (sub_open (B := [_, _]) fun _ h => h) (Sub.refl _)
theorem prepT_works {s : TS} {x : Txn} {w : Work} {cs : List Value} {H : Heap} (h : WR H s) (hw : rWork H cs w) : WR H (prepT s x w cs) := fun q hq => by
  have : ∀ {l : List (K3 × CW)}, (∀ q ∈ l, rWork H q.2.1 q.2.2) → ∀ q ∈ mset x.k (cs, w) l, rWork H q.2.1 q.2.2 := by
    intro l
    induction l with
    | nil => intro _ q hq; simp only [mset, List.mem_singleton] at hq; subst hq; exact hw
    | cons a l ih =>
      obtain ⟨ak, av⟩ := a
      intro hl q hq
      have hl2 : ∀ q ∈ l, rWork H q.2.1 q.2.2 := fun q hq => hl q (List.mem_cons_of_mem _ hq)
      unfold mset at hq
      split at hq
      · rcases List.mem_cons.1 hq with rfl | hq
        · exact hw
        · exact hl2 q hq
      · rcases List.mem_cons.1 hq with rfl | hq
        · exact hl _ (List.mem_cons_self ..)
        · exact ih hl2 q hq
  exact this h q hq
set_option maxHeartbeats 32000000 in
set_option maxRecDepth 20000 in
theorem lockOwn_spec {W0 : World} {H : Heap} {v : Value} {cx cw : List Value} {script : List Op} {x : Txn} {w : Work} (hP : PkH H) (h0 : SlB rOp 10 120 H v script) (hx : rTxn H cx x) (hw : rWork H cw w) :
    Ct Tryz.prog 7 #[v, .agg cx.toArray, .agg cw.toArray] W0 H [] (fun r H' B => r = .bool true ∧ B = []) := by
  refine Ct.go (vs := [v, .agg cx.toArray, .agg cw.toArray]) fun R => ?_
  obtain ⟨rfl, hx⟩ := hx
  obtain ⟨x1, x2, x3⟩ := x
  dsimp only at hx
  have hw0 := hw
  obtain ⟨s1, s2, rfl, hrob, hs1, hs2⟩ := hw
  obtain ⟨b1, c1, rfl, hc1, hd1⟩ := hs1.1.shape
  obtain ⟨b2, c2, rfl, hc2, hd2⟩ := hs2.1.shape
  have hcw := clip_ok hw0
  have hc80 := hcw.ks_len
  have ht40 := hcw.take
  have hd40 := hcw.drop
  have hc16 : (clipW w).ks.length * 16 ≤ cap47 := by simp only [cap47]; omega
  refine walk ?_
  refine ops_box rfl rfl fun p4 _ => ?_
  refine ops_box rfl rfl fun p5 _ => ?_
  refine walk ?_
  refine ops_call rfl rfl (built_spec hP h0.1) fun r1 H1 B hl1 ⟨p, s, m, c, er, hc, hI, hR, eB⟩ => ?_
  subst er eB
  obtain ⟨q1, q2, rfl, hq1, hq2⟩ := hc
  obtain ⟨qb1, qc1, rfl, _, _⟩ := hq1.1.shape
  obtain ⟨qb2, qc2, rfl, _, _⟩ := hq2.1.shape
  refine walk ?_
  refine ops_alloc rfl fun p8 _ => ?_
  refine walk ?_
  refine ops_call (vs := []) rfl rfl awake14_spec fun r2 H2 B hl2 ⟨er, eB⟩ => ?_
  subst er eB
  have hw2 := RdOk.mono (R := rWork) (hl1.trans hl2) hw0
  have hT2 : rTable H2 [.slice qb1 m.Held.length qc1, .slice qb2 m.Prep.length qc2] m := RdOk.mono (R := rTable) hl2 ⟨_, _, rfl, hq1, hq2⟩
  refine ops_know (A := tabO H1 p s) (by repeat (first | exact Has.here | apply Has.there)) (fun h ht => tab_know ht) fun hWR => ?_
  have hWR2 := hWR.mono hl2
  refine walk ?_
  refine ops_call rfl rfl (lawOwnO_spec hw2) fun r3 H3 B hl3 ⟨d1, e1, d2, e2, er, eB, eH⟩ => ?_
  subst er eB eH
  refine walk ?_
  refine ops_alloc rfl fun p10 _ => ?_
  refine walk ?_
  refine ops_cut0 (σ := TS × Int × Heap) (fun u => Inv 61 u.1 ∧ u.2.1 = prepE s ⟨x1, x2, x3⟩ (clipW w) ∧ (∃ cs, u.1 = if prepE s ⟨x1, x2, x3⟩ (clipW w) = 0 then prepT s ⟨x1, x2, x3⟩ (clipW w) cs else s) ∧ H3.le u.2.2)
    (fun u => [(4, .pointer (some ⟨p4, 0, none⟩)), (5, .pointer (some ⟨p5, 0, none⟩)), (7, .pointer (some ⟨p, 0, none⟩)), (8, .pointer (some ⟨p8, 0, none⟩)), (10, .pointer (some ⟨p10, 0, none⟩)), (12, I u.2.1)]) (fun u => u.2.2) (fun u => tabO u.2.2 p u.1 :: ownS rStr 1 16 9 H3 (.slice d1 (clipW w).Take.length e1) (clipW w).Take :: ownS rStr 1 16 9 H3 (.slice d2 (clipW w).Drop.length e2) (clipW w).Drop :: row p10 30 [I w.Robot, .slice d1 (clipW w).Take.length e1, .slice d2 (clipW w).Drop.length e2] :: row p8 55 [.slice qb1 m.Held.length qc1, .slice qb2 m.Prep.length qc2] :: row p5 30 [I w.Robot, .slice b1 w.Take.length c1, .slice b2 w.Drop.length c2] :: row p4 27 [I x1, I x2, I x3] :: R) (fun K hK => ?_) fun ⟨s', e, HA⟩ ⟨hI', he, ⟨cs, hs'⟩, hlA⟩ => ?_
  · refine ops_L (L' := tRaw p s :: ownS rStr 1 16 9 H3 (.slice d1 (clipW w).Take.length e1) (clipW w).Take :: ownS rStr 1 16 9 H3 (.slice d2 (clipW w).Drop.length e2) (clipW w).Drop :: row p10 30 [I w.Robot, .slice d1 (clipW w).Take.length e1, .slice d2 (clipW w).Drop.length e2] :: row p8 55 [.slice qb1 m.Held.length qc1, .slice qb2 m.Prep.length qc2] :: row p5 30 [I w.Robot, .slice b1 w.Take.length c1, .slice b2 w.Drop.length c2] :: row p4 27 [I x1, I x2, I x3] :: R) ?_ ?_
    · refine Sub.trans ?_ (sub_head (A := tabO H1 p s) tab_raw)
      (repeat (first | exact Sub.refl _ | exact Sub.nil _ | (apply sub_pick; (repeat (first | exact Has.here | apply Has.there)); skip) | apply Sub.drop))
    refine ops_lendS (.slice d1 (clipW w).Take.length e1) fun D1 hD1 hdj1 hle1 hz1 => ?_
    refine ops_lendS (.slice d2 (clipW w).Drop.length e2) fun D2 hD2 hdj2 hle2 hz2 => ?_
    refine ops_call rfl rfl (prepareO_spec (W0 := W0) (p := p) (s := s) (x := ⟨x1, x2, x3⟩) (w := clipW w) (cw := [I (clipW w).Robot, .slice d1 (clipW w).Take.length e1, .slice d2 (clipW w).Drop.length e2]) hx ⟨_, _, rfl, hcw.rob, hz1.mono hle2, hz2⟩ hc16 (fun q hq => ⟨_, hWR q hq⟩)) fun r4 H4 B hl4 ⟨er, hB⟩ => ?_
    subst er
    refine ops_back hD2 hdj2 hl4 ?_
    refine ops_back hD1 hdj1 (.refl _) ?_
    rcases hB with ⟨hne, eB⟩ | ⟨hz, f1, g1, f2, g2, eB⟩
    · subst eB
      refine ops_L (L' := tabO H3 p s :: ownS rStr 1 16 9 H3 (.slice d1 (clipW w).Take.length e1) (clipW w).Take :: ownS rStr 1 16 9 H3 (.slice d2 (clipW w).Drop.length e2) (clipW w).Drop :: row p10 30 [I w.Robot, .slice d1 (clipW w).Take.length e1, .slice d2 (clipW w).Drop.length e2] :: row p8 55 [.slice qb1 m.Held.length qc1, .slice qb2 m.Prep.length qc2] :: row p5 30 [I w.Robot, .slice b1 w.Take.length c1, .slice b2 w.Drop.length c2] :: row p4 27 [I x1, I x2, I x3] :: R) ?_ ?_
      · refine Sub.trans ?_ (sub_head (A := tRaw p s) (raw_tab hWR2))
        (repeat (first | exact Sub.refl _ | exact Sub.nil _ | (apply sub_pick; (repeat (first | exact Has.here | apply Has.there)); skip) | apply Sub.drop))
      refine walk ?_
      exact out_to hK (s, _, H3) ⟨hI.more (by omega), rfl, ⟨[], by rw [if_neg hne]⟩, .refl _⟩
    · subst eB
      refine ops_L (L' := ownS rStr 1 16 9 H3 (.slice f1 (clipW w).Take.length g1) (clipW w).Take :: ownS rStr 1 16 9 H3 (.slice f2 (clipW w).Drop.length g2) (clipW w).Drop :: tRaw p (prepT s ⟨x1, x2, x3⟩ (clipW w) ((clipW w).cv (.slice f1 (clipW w).Take.length g1) (.slice f2 (clipW w).Drop.length g2))) :: ownS rStr 1 16 9 H3 (.slice d1 (clipW w).Take.length e1) (clipW w).Take :: ownS rStr 1 16 9 H3 (.slice d2 (clipW w).Drop.length e2) (clipW w).Drop :: row p10 30 [I w.Robot, .slice d1 (clipW w).Take.length e1, .slice d2 (clipW w).Drop.length e2] :: row p8 55 [.slice qb1 m.Held.length qc1, .slice qb2 m.Prep.length qc2] :: row p5 30 [I w.Robot, .slice b1 w.Take.length c1, .slice b2 w.Drop.length c2] :: row p4 27 [I x1, I x2, I x3] :: R) ?_ ?_
      · refine Sub.trans ?_ (Sub.trans (sub_flat H4 H3) (Sub.cons (sub_flat H4 H3)))
        (repeat (first | exact Sub.refl _ | exact Sub.nil _ | (apply sub_pick; (repeat (first | exact Has.here | apply Has.there)); skip) | apply Sub.drop))
      refine ops_freeze (.slice f1 (clipW w).Take.length g1) fun H5 hl5 hf1 => ?_
      refine ops_freeze (.slice f2 (clipW w).Drop.length g2) fun H6 hl6 hf2 => ?_
      have hWR6 := prepT_works (x := ⟨x1, x2, x3⟩) (w := clipW w) (cs := (clipW w).cv (.slice f1 (clipW w).Take.length g1) (.slice f2 (clipW w).Drop.length g2)) (hWR2.mono (hl5.trans hl6)) ⟨_, _, rfl, hcw.rob, hf1.mono hl6, hf2⟩
      have hinv := hI.prep (cs := (clipW w).cv (.slice f1 (clipW w).Take.length g1) (.slice f2 (clipW w).Drop.length g2)) hcw (show okX (Txn.k ⟨x1, x2, x3⟩) from hx) hz
      generalize hs'e : prepT s ⟨x1, x2, x3⟩ (clipW w) ((clipW w).cv (.slice f1 (clipW w).Take.length g1) (.slice f2 (clipW w).Drop.length g2)) = s' at hWR6 hinv ⊢
      refine ops_L (L' := tabO H6 p s' :: ownS rStr 1 16 9 H3 (.slice d1 (clipW w).Take.length e1) (clipW w).Take :: ownS rStr 1 16 9 H3 (.slice d2 (clipW w).Drop.length e2) (clipW w).Drop :: row p10 30 [I w.Robot, .slice d1 (clipW w).Take.length e1, .slice d2 (clipW w).Drop.length e2] :: row p8 55 [.slice qb1 m.Held.length qc1, .slice qb2 m.Prep.length qc2] :: row p5 30 [I w.Robot, .slice b1 w.Take.length c1, .slice b2 w.Drop.length c2] :: row p4 27 [I x1, I x2, I x3] :: R) ?_ ?_
      · refine Sub.trans ?_ (sub_head (A := tRaw p s') (raw_tab hWR6))
        (repeat (first | exact Sub.refl _ | exact Sub.nil _ | (apply sub_pick; (repeat (first | exact Has.here | apply Has.there)); skip) | apply Sub.drop))
      refine walk ?_
      exact out_to hK (s', _, H6) ⟨hinv, rfl, ⟨_, by rw [if_pos hz]; exact hs'e.symm⟩, hl5.trans hl6⟩
  simp only at hI' he hs' hlA
  dsimp only
  refine walk ?_
  refine ex_any 4 [row p8 55 [.slice qb1 m.Held.length qc1, .slice qb2 m.Prep.length qc2], row p4 27 [I x1, I x2, I x3], row p5 30 [I w.Robot, .slice b1 w.Take.length c1, .slice b2 w.Drop.length c2]] ?_
  (first | refine gny_p 0 rfl rfl rfl ?_ | refine gny_ld 0 rfl rfl rfl rfl ?_ | refine gny_ldH 0 rfl rfl rfl ‹HRow _ _ 0 _› rfl ?_ | refine gny_T 0 rfl rfl rfl ?_ | refine gny_F 0 rfl rfl rfl ?_ | refine gny_B 0 rfl rfl rfl ?_ | refine gny_skip 0 rfl rfl ?_ | refine gny_sp 0 rfl rfl rfl ?_ | refine gny_sB 0 rfl rfl rfl ?_ | refine gny_sld 0 rfl rfl rfl rfl ?_ | refine gny_sldH 0 rfl rfl rfl ‹HRow _ _ 0 _› rfl ?_ | refine gny_ldN 0 rfl rfl rfl rfl ?_ | refine gny_bld 0 rfl rfl rfl ?_); (first | refine gny_p 1 rfl rfl rfl ?_ | refine gny_ld 1 rfl rfl rfl rfl ?_ | refine gny_ldH 1 rfl rfl rfl ‹HRow _ _ 0 _› rfl ?_ | refine gny_T 1 rfl rfl rfl ?_ | refine gny_F 1 rfl rfl rfl ?_ | refine gny_B 1 rfl rfl rfl ?_ | refine gny_skip 1 rfl rfl ?_ | refine gny_sp 1 rfl rfl rfl ?_ | refine gny_sB 1 rfl rfl rfl ?_ | refine gny_sld 1 rfl rfl rfl rfl ?_ | refine gny_sldH 1 rfl rfl rfl ‹HRow _ _ 0 _› rfl ?_ | refine gny_ldN 1 rfl rfl rfl rfl ?_ | refine gny_bld 1 rfl rfl rfl ?_); (first | refine gny_p 2 rfl rfl rfl ?_ | refine gny_ld 2 rfl rfl rfl rfl ?_ | refine gny_ldH 2 rfl rfl rfl ‹HRow _ _ 0 _› rfl ?_ | refine gny_T 2 rfl rfl rfl ?_ | refine gny_F 2 rfl rfl rfl ?_ | refine gny_B 2 rfl rfl rfl ?_ | refine gny_skip 2 rfl rfl ?_ | refine gny_sp 2 rfl rfl rfl ?_ | refine gny_sB 2 rfl rfl rfl ?_ | refine gny_sld 2 rfl rfl rfl rfl ?_ | refine gny_sldH 2 rfl rfl rfl ‹HRow _ _ 0 _› rfl ?_ | refine gny_ldN 2 rfl rfl rfl rfl ?_ | refine gny_bld 2 rfl rfl rfl ?_)
  refine gny_call 3 rfl rfl rfl (lawOwn_spec (RdOk.mono (R := rWork) hlA hw2)) fun r5 H5 B hl5 ⟨cs5, er, hcs5, eB⟩ => ?_
  subst er eB
  refine ⟨(by (repeat (first | exact Sub.refl _ | exact Sub.nil _ | (apply sub_pick; (repeat (first | exact Has.here | apply Has.there)); skip) | apply Sub.drop))), ?_⟩
  have h80 : ∀ q ∈ m.Prep, q.Work.ks.length ≤ 80 := fun q hq => (hI.ww _ _ (hR.recs hq)).1.1.ks_len
  have hpl : m.Prep.length ≤ 1000 := by
    rw [← hR.prep hI, prepL_len]
    have := hI.wn
    omega
  refine any_stage 9 [] ?_
  refine gny_call 4 rfl rfl rfl (rPrepare_spec (x := ⟨x1, x2, x3⟩) (w := clipW w) (cw := cs5) (RdOk.mono (R := rTable) (hlA.trans hl5) hT2) hx hcs5 hc80 h80 hpl) fun r6 H6 B hl6 ⟨cs6, m', ec, er, hcs6, hrp, eB⟩ => ?_
  subst er eB
  refine ⟨(by (repeat (first | exact Sub.refl _ | exact Sub.nil _ | (apply sub_pick; (repeat (first | exact Has.here | apply Has.there)); skip) | apply Sub.drop))), ?_⟩
  obtain ⟨he2, hrel⟩ := hR.prepare hI hrp
  have hR' := hrel cs
  rw [← hs'] at hR'
  obtain ⟨z1, z2, rfl, hz1, hz2⟩ := hcs6
  obtain ⟨zb1, zc1, rfl, _, _⟩ := hz1.1.shape
  obtain ⟨zb2, zc2, rfl, _, _⟩ := hz2.1.shape
  (first | refine gny_p 5 rfl rfl rfl ?_ | refine gny_ld 5 rfl rfl rfl rfl ?_ | refine gny_ldH 5 rfl rfl rfl ‹HRow _ _ 0 _› rfl ?_ | refine gny_T 5 rfl rfl rfl ?_ | refine gny_F 5 rfl rfl rfl ?_ | refine gny_B 5 rfl rfl rfl ?_ | refine gny_skip 5 rfl rfl ?_ | refine gny_sp 5 rfl rfl rfl ?_ | refine gny_sB 5 rfl rfl rfl ?_ | refine gny_sld 5 rfl rfl rfl rfl ?_ | refine gny_sldH 5 rfl rfl rfl ‹HRow _ _ 0 _› rfl ?_ | refine gny_ldN 5 rfl rfl rfl rfl ?_ | refine gny_bld 5 rfl rfl rfl ?_)
  refine gny_ext 6 rfl rfl rfl rfl ?_
  refine gny_ext 7 rfl rfl rfl rfl ?_
  refine any_sta 8 rfl rfl rfl rfl (by simp) rfl ⟨(by (repeat (first | exact Sub.refl _ | exact Sub.nil _ | (apply sub_pick; (repeat (first | exact Has.here | apply Has.there)); skip) | apply Sub.drop))), ?_⟩
  refine any_rest rfl ?_
  rw [← he] at he2
  subst he2
  have hlB : HA.le H6 := hl5.trans hl6
  refine ops_L (L' := tabO H6 p s' :: ownS rStr 1 16 9 H3 (.slice d1 (clipW w).Take.length e1) (clipW w).Take :: ownS rStr 1 16 9 H3 (.slice d2 (clipW w).Drop.length e2) (clipW w).Drop :: row p10 30 [I w.Robot, .slice d1 (clipW w).Take.length e1, .slice d2 (clipW w).Drop.length e2] :: row p8 55 [.slice zb1 m'.Held.length zc1, .slice zb2 m'.Prep.length zc2] :: R) ?_ ?_
  · refine Sub.trans ?_ (tab_up hlB)
    (repeat (first | exact Sub.refl _ | exact Sub.nil _ | (apply sub_pick; (repeat (first | exact Has.here | apply Has.there)); skip) | apply Sub.drop))
  have hq63 : (⟨#[63]⟩ : ByteArray).size ≤ cap47 := by decide
  have hq33 : (⟨#[33]⟩ : ByteArray).size ≤ cap47 := by decide
  refine walk ?_
  refine ex_loop (σ := Nat × List ByteArray) (fun u => u.1 ≤ (clipW w).Take.length ∧ u.2.length = (clipW w).Take.length) (fun u => [(7, .pointer (some ⟨p, 0, none⟩)), (8, .pointer (some ⟨p8, 0, none⟩)), (10, .pointer (some ⟨p10, 0, none⟩)), (52, I (clipW w).Take.length), (53, I u.1)]) (fun _ => H6) (fun u => ownS rStr 1 16 9 H3 (.slice d1 (clipW w).Take.length e1) u.2 :: tabO H6 p s' :: ownS rStr 1 16 9 H3 (.slice d2 (clipW w).Drop.length e2) (clipW w).Drop :: row p10 30 [I w.Robot, .slice d1 (clipW w).Take.length e1, .slice d2 (clipW w).Drop.length e2] :: row p8 55 [.slice zb1 m'.Held.length zc1, .slice zb2 m'.Prep.length zc2] :: R) (fun u => (clipW w).Take.length - u.1) (0, (clipW w).Take) ⟨Nat.zero_le _, rfl⟩ fun ⟨i, ys⟩ ⟨hi0, hyl⟩ K hL => ?_
  simp only at hi0 hyl
  dsimp only
  refine walk ?_
  refine ex_if rfl (fun hi => ?_) (fun hi => ?_)
  · have hi1 : i < ys.length := by omega
    refine walk ?_
    refine ops_stS (y' := (⟨#[63]⟩ : ByteArray)) rfl rfl rfl ⟨rfl, hq63⟩ hi1 ?_
    refine walk ?_
    exact out_next hL (i + 1, ys.set i ⟨#[63]⟩) ⟨by simp only; omega, by simp only [List.length_set]; exact hyl⟩
  clear hL
  refine walk ?_
  refine ex_loop (σ := Nat × List ByteArray) (fun u => u.1 ≤ (clipW w).Drop.length ∧ u.2.length = (clipW w).Drop.length) (fun u => [(7, .pointer (some ⟨p, 0, none⟩)), (8, .pointer (some ⟨p8, 0, none⟩)), (10, .pointer (some ⟨p10, 0, none⟩)), (63, I (clipW w).Drop.length), (64, I u.1)]) (fun _ => H6) (fun u => ownS rStr 1 16 9 H3 (.slice d2 (clipW w).Drop.length e2) u.2 :: tabO H6 p s' :: row p10 30 [I w.Robot, .slice d1 (clipW w).Take.length e1, .slice d2 (clipW w).Drop.length e2] :: row p8 55 [.slice zb1 m'.Held.length zc1, .slice zb2 m'.Prep.length zc2] :: R) (fun u => (clipW w).Drop.length - u.1) (0, (clipW w).Drop) ⟨Nat.zero_le _, rfl⟩ fun ⟨i, ys⟩ ⟨hi0, hyl⟩ K hL => ?_
  simp only at hi0 hyl
  dsimp only
  refine walk ?_
  refine ex_if rfl (fun hi => ?_) (fun hi => ?_)
  · have hi1 : i < ys.length := by omega
    refine walk ?_
    refine ops_stS (y' := (⟨#[63]⟩ : ByteArray)) rfl rfl rfl ⟨rfl, hq63⟩ hi1 ?_
    refine walk ?_
    exact out_next hL (i + 1, ys.set i ⟨#[63]⟩) ⟨by simp only; omega, by simp only [List.length_set]; exact hyl⟩
  clear hL
  have hok := hI'.ok (by omega)
  refine walk ?_
  refine ops_call rfl rfl (preparedO_spec (W0 := W0) (H := H6) (p := p) hok) fun r7 H7 B hl7 ⟨xs, eB⟩ => ?_
  subst eB
  refine ops_shape r7 fun xb xc e hxc hxd _ => ?_
  subst e
  refine walk ?_
  refine ex_loop (σ := Nat) (fun j => j ≤ xs.length) (fun j => [(7, .pointer (some ⟨p, 0, none⟩)), (8, .pointer (some ⟨p8, 0, none⟩)), (73, .slice xb xs.length xc), (74, I xs.length), (75, I j)]) (fun _ => H7) (fun j => ownS rRecV 9 120 47 H7 (.slice xb xs.length xc) xs :: bigL (ownV H7) (xs.drop j) :: tabO H7 p s' :: row p8 55 [.slice zb1 m'.Held.length zc1, .slice zb2 m'.Prep.length zc2] :: R) (fun j => xs.length - j) 0 (Nat.zero_le _) fun j hj0 K hL => ?_
  refine walk ?_
  refine ex_if rfl (fun hj => ?_) (fun hj => ?_)
  · have hj1 : j < xs.length := by omega
    have hdr := List.drop_eq_getElem_cons hj1
    refine walk ?_
    refine ops_ixo rfl rfl rfl hj1 fun c hc => ?_
    rw [hdr]
    obtain ⟨y, hy⟩ : ∃ y, xs[j] = y := ⟨_, rfl⟩
    rw [hy] at hc ⊢
    obtain ⟨⟨qk, ⟨y1, y2, y3⟩, ⟨yr, yt, yd⟩, qy, qp⟩, f1, g1, f2, g2⟩ := y
    change c = [I qk, I y1, I y2, I y3, I yr, .slice f1 yt.length g1, .slice f2 yd.length g2, .bool qy, nilS] at hc
    subst hc
    refine ops_alloc rfl fun p16 _ => ?_
    refine ops_L (L' := ownS rStr 1 16 9 H7 (.slice f1 yt.length g1) yt :: ownS rStr 1 16 9 H7 (.slice f2 yd.length g2) yd :: bigL (ownV H7) (xs.drop (j + 1)) :: row p16 47 [I 0, I 0, I 0, I 0, I 0, nilS, nilS, .bool false, nilS] :: ownS rRecV 9 120 47 H7 (.slice xb xs.length xc) xs :: tabO H7 p s' :: row p8 55 [.slice zb1 m'.Held.length zc1, .slice zb2 m'.Prep.length zc2] :: R) ?_ ?_
    · refine Sub.trans ?_ (Sub.trans (bigL_out (l1 := []) (x := (⟨⟨qk, ⟨y1, y2, y3⟩, ⟨yr, yt, yd⟩, qy, qp⟩, f1, g1, f2, g2⟩ : RecV)) (l2 := xs.drop (j + 1))) ownV_open)
      (repeat (first | exact Sub.refl _ | exact Sub.nil _ | (apply sub_pick; (repeat (first | exact Has.here | apply Has.there)); skip) | apply Sub.drop))
    refine ops_shape (.slice f1 yt.length g1) fun _ _ e1' hf1 hg1 _ => ?_
    cases e1'
    refine ops_shape (.slice f2 yd.length g2) fun _ _ e2' hf2 hg2 _ => ?_
    cases e2'
    refine walk ?_
    refine ex_loop (σ := Nat × List ByteArray) (fun u => u.1 ≤ yt.length ∧ u.2.length = yt.length) (fun u => [(7, .pointer (some ⟨p, 0, none⟩)), (8, .pointer (some ⟨p8, 0, none⟩)), (73, .slice xb xs.length xc), (74, I xs.length), (75, I j), (16, .pointer (some ⟨p16, 0, none⟩)), (82, I yt.length), (83, I u.1)]) (fun _ => H7) (fun u => ownS rStr 1 16 9 H7 (.slice f1 yt.length g1) u.2 :: ownS rStr 1 16 9 H7 (.slice f2 yd.length g2) yd :: bigL (ownV H7) (xs.drop (j + 1)) :: row p16 47 [I qk, I y1, I y2, I y3, I yr, .slice f1 yt.length g1, .slice f2 yd.length g2, .bool qy, nilS] :: ownS rRecV 9 120 47 H7 (.slice xb xs.length xc) xs :: tabO H7 p s' :: row p8 55 [.slice zb1 m'.Held.length zc1, .slice zb2 m'.Prep.length zc2] :: R) (fun u => yt.length - u.1) (0, yt) ⟨Nat.zero_le _, rfl⟩ fun ⟨i, ys⟩ ⟨hi0, hyl⟩ K2 hL2 => ?_
    simp only at hi0 hyl
    dsimp only
    refine walk ?_
    refine ex_if rfl (fun hi => ?_) (fun hi => ?_)
    · have hi1 : i < ys.length := by omega
      refine walk ?_
      refine ops_stS (y' := (⟨#[33]⟩ : ByteArray)) rfl rfl rfl ⟨rfl, hq33⟩ hi1 ?_
      refine walk ?_
      exact out_next hL2 (i + 1, ys.set i ⟨#[33]⟩) ⟨by simp only; omega, by simp only [List.length_set]; exact hyl⟩
    clear hL2
    refine walk ?_
    refine ex_loop (σ := Nat × List ByteArray) (fun u => u.1 ≤ yd.length ∧ u.2.length = yd.length) (fun u => [(7, .pointer (some ⟨p, 0, none⟩)), (8, .pointer (some ⟨p8, 0, none⟩)), (73, .slice xb xs.length xc), (74, I xs.length), (75, I j), (16, .pointer (some ⟨p16, 0, none⟩)), (95, I yd.length), (96, I u.1)]) (fun _ => H7) (fun u => ownS rStr 1 16 9 H7 (.slice f2 yd.length g2) u.2 :: bigL (ownV H7) (xs.drop (j + 1)) :: row p16 47 [I qk, I y1, I y2, I y3, I yr, .slice f1 yt.length g1, .slice f2 yd.length g2, .bool qy, nilS] :: ownS rRecV 9 120 47 H7 (.slice xb xs.length xc) xs :: tabO H7 p s' :: row p8 55 [.slice zb1 m'.Held.length zc1, .slice zb2 m'.Prep.length zc2] :: R) (fun u => yd.length - u.1) (0, yd) ⟨Nat.zero_le _, rfl⟩ fun ⟨i, ys⟩ ⟨hi0, hyl⟩ K2 hL2 => ?_
    simp only at hi0 hyl
    dsimp only
    refine walk ?_
    refine ex_if rfl (fun hi => ?_) (fun hi => ?_)
    · have hi1 : i < ys.length := by omega
      refine walk ?_
      refine ops_stS (y' := (⟨#[33]⟩ : ByteArray)) rfl rfl rfl ⟨rfl, hq33⟩ hi1 ?_
      refine walk ?_
      exact out_next hL2 (i + 1, ys.set i ⟨#[33]⟩) ⟨by simp only; omega, by simp only [List.length_set]; exact hyl⟩
    clear hL2
    refine walk ?_
    exact out_next hL (j + 1) (by omega)
  clear hL
  refine walk ?_
  refine ops_call rfl rfl (holds_spec (W0 := W0) (H := H7) (p := p) hok) fun r8 H8 B hl8 eB => ?_
  subst eB
  generalize holdsL s' = hs
  refine ops_shape r8 fun hb hcp e hxc2 hxd2 _ => ?_
  subst e
  refine walk ?_
  refine ex_loop (σ := Nat × List Hold) (fun u => u.1 ≤ hs.length ∧ u.2.length = hs.length) (fun u => [(7, .pointer (some ⟨p, 0, none⟩)), (8, .pointer (some ⟨p8, 0, none⟩)), (19, .slice hb hs.length hcp), (109, I hs.length), (110, I u.1)]) (fun _ => H8) (fun u => ownS rHold 2 24 43 H8 (.slice hb hs.length hcp) u.2 :: tabO H8 p s' :: row p8 55 [.slice zb1 m'.Held.length zc1, .slice zb2 m'.Prep.length zc2] :: R) (fun u => hs.length - u.1) (0, hs) ⟨Nat.zero_le _, rfl⟩ fun ⟨i, ys⟩ ⟨hi0, hyl⟩ K hL => ?_
  simp only at hi0 hyl
  dsimp only
  refine walk ?_
  refine ex_if rfl (fun hi => ?_) (fun hi => ?_)
  · have hi1 : i < ys.length := by omega
    refine walk ?_
    refine ops_stS (y' := zHold) rfl rfl rfl zHold_reads hi1 ?_
    refine walk ?_
    exact out_next hL (i + 1, ys.set i zHold) ⟨by simp only; omega, by simp only [List.length_set]; exact hyl⟩
  clear hL
  refine walk ?_
  refine ops_call rfl rfl (tells_spec (W0 := W0) (H := H8) (p := p) (s := s') (m := m') (n := 61) hI' (by omega) hR' ⟨_, _, rfl, hz1.mono (hl7.trans hl8), hz2.mono (hl7.trans hl8)⟩) fun r9 H9 B hl9 ⟨er, eB⟩ => ?_
  subst er eB
  refine walk ?_
  refine fin0 ?_
  exact ⟨rfl, rfl⟩
end Go.Proofs.YtkhbfjkioehgfaaGreatDoor
