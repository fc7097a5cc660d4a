/- PartTwice, walked. -/
import Derived.Test.YtjgjcakeimkkdaaGreatDoorM13
import Derived.Test.YtjgjcakeimkkdaaGreatDoorE43
set_option linter.unusedVariables false
set_option linter.unusedSimpArgs false
namespace Go.Proofs.YtjgjcakeimkkdaaGreatDoor
open Go Go.Sx Go.Proofs
set_option maxHeartbeats 16000000 in
set_option maxRecDepth 20000 in
theorem partTwice_spec {W0 : World} {H : Heap} {v : Value} {sh : Int} {script : List Op} (hP : PkH H) (hsh : fits sh) (h0 : SlB rOp 21 232 H v script) :
    Ct Tryz.prog 3 #[I sh, v] W0 H [] (fun r H' B => r = .bool true ∧ B = []) := by
  refine Ct.go (vs := [I sh, v]) fun R => ?_
  obtain ⟨b0, c0, rfl, hc0, hd0⟩ := h0.1.shape
  refine walk ?_
  refine ops_call rfl rfl (pnew_spec hsh) fun r1 H1 B hl1 ⟨p, er, eB, eH⟩ => ?_
  subst er eB eH
  refine walk ?_
  refine ops_call (vs := []) rfl rfl (pawake_spec (hP.mono hl1)) fun r2 H2 B hl2 ⟨er, eB⟩ => ?_
  subst er eB
  refine walk ?_
  have hcap : (1000 : Nat) * 24 ≤ cap47 := by decide
  refine ex_L (L' := partO H2 p ⟨sh, ⟨[], [], []⟩, []⟩ :: R) ?_ ?_
  · refine Sub.trans ?_ (part_up hl2)
    (repeat (first | exact Sub.refl _ | exact Sub.nil _ | (apply sub_pick; (repeat (first | exact Has.here | apply Has.there)); skip) | apply Sub.drop))
  refine ex_loop (σ := Nat × PS × List Txn × (Option Addr × Nat) × Heap) (fun u => (u.1 ≤ script.length ∧ u.1 ≤ 60) ∧ H2.le u.2.2.2.2 ∧ PInv u.1 u.2.1 ∧ Told u.2.1 u.2.2.1) (fun u => [(0, I sh), (1, .slice b0 script.length c0), (5, .pointer (some ⟨p, 0, none⟩)), (6, .slice u.2.2.2.1.1 u.2.2.1.length u.2.2.2.1.2), (7, I u.1)]) (fun u => u.2.2.2.2)
    (fun u => partO u.2.2.2.2 p u.2.1 :: ownS rTxn 3 24 29 u.2.2.2.2 (.slice u.2.2.2.1.1 u.2.2.1.length u.2.2.2.1.2) u.2.2.1 :: R) (fun u => script.length - u.1) (0, ⟨sh, ⟨[], [], []⟩, []⟩, [], (none, 0), H2) ⟨⟨Nat.zero_le _, by omega⟩, .refl _, pinv0 hsh, told0⟩ (hs0 := ?_) fun ⟨k, s, l, ⟨d, e⟩, HK⟩ ⟨⟨hk0, hk60⟩, hlK, hI, hT⟩ K hL => ?_
  rotate_left
  · show Sub _ (_ :: ownS rTxn 3 24 29 H2 (.slice none 0 0) [] :: _)
    refine Sub.trans ?_ (Sub.cons ownS_nil)
    (repeat (first | exact Sub.refl _ | exact Sub.nil _ | (apply sub_pick; (repeat (first | exact Has.here | apply Has.there)); skip) | apply Sub.drop))
  simp only at hk0 hk60 hlK hI hT
  dsimp only
  have hll : l.length ≤ k := by rw [hT.len]; exact hI.dn
  refine walkG ?_
  refine ex_if rfl (fun hk => ?_) (fun hk => ?_)
  · have hk1 : k < script.length := by omega
    refine walk ?_
    refine ops_ixp rfl rfl (h0.1.mono (hl1.trans (hl2.trans hlK))) hk1 fun b o cc hr hc => ?_
    obtain ⟨u1, u2, u3, u4, rfl, g⟩ := hc
    refine walk ?_
    refine ex_if rfl (fun hq => ?_) (fun hq => ?_)
    · refine walk ?_
      exact out_next hL (k + 1, s, l, (d, e), HK) ⟨⟨by simp only; omega, by simp only; omega⟩, hlK, hI.more (Nat.le_succ k), hT⟩
    refine walk ?_
    refine ops_ixp rfl rfl (h0.1.mono (hl1.trans (hl2.trans hlK))) hk1 fun b2 o2 cc2 hr2 hc2 => ?_
    generalize script[k] = o3 at hr2 hc2
    obtain ⟨ok, om, on⟩ := o3
    obtain ⟨t1, t2, t3, t4, rfl, fok, f1, f2, f3, f4, f5, f6, f7, h1, h2, f8, f9, f10, f11, h3, f12, f13, f14, h4, fon⟩ := hc2
    dsimp only at fok f1 f2 f3 f4 f5 f6 f7 h1 h2 f8 f9 f10 f11 h3 f12 f13 f14 h4 fon
    have hml0 : rMessage HK [I om.From, I om.To, I om.Kind, I om.Txn.Node, I om.Txn.Life, I om.Txn.Count, I om.Work.Robot, t1, t2, .bool om.Yes, I om.ID, I om.Call.Verb, I om.Call.Epoch, I om.Call.Route.Start, t3, I om.Reply.Code, I om.Reply.Epoch, I om.Reply.Route.Start, t4] om := ⟨_, _, _, _, rfl, f1, f2, f3, f4, f5, f6, f7, h1, h2, f8, f9, f10, f11, h3, f12, f13, f14, h4⟩
    have hrm : HRow HK b2 (o2 + 1) [I om.From, I om.To, I om.Kind, I om.Txn.Node, I om.Txn.Life, I om.Txn.Count, I om.Work.Robot, t1, t2, .bool om.Yes, I om.ID, I om.Call.Verb, I om.Call.Epoch, I om.Call.Route.Start, t3, I om.Reply.Code, I om.Reply.Epoch, I om.Reply.Route.Start, t4] := HRow.take (k := 19) (HRow.drop (k := 1) hr2)
    refine walk ?_
    refine ops_ldNH rfl rfl hrm rfl ?_
    refine ops_call rfl rfl (pOwn_spec (m := om) hml0) fun r1 H3 B hl3 ⟨cs1, er, hcs1, eB⟩ => ?_
    subst er eB
    have hok1 := clipM_ok hml0
    refine ops_L (L' := partO H3 p s :: ownS rTxn 3 24 29 HK (.slice d l.length e) l :: R) ?_ ?_
    · refine Sub.trans ?_ (part_up hl3)
      (repeat (first | exact Sub.refl _ | exact Sub.nil _ | (apply sub_pick; (repeat (first | exact Has.here | apply Has.there)); skip) | apply Sub.drop))
    refine ops_call rfl rfl (hear_spec (W0 := W0) (H := H3) (p := p) (n := k) (s := s) (m := clipM om) (hP.mono (hl1.trans (hl2.trans (hlK.trans hl3)))) hI (by omega) hok1 hcs1) fun r2 H4 B hl4 ⟨v1, v2, cs2, er, eB⟩ => ?_
    subst er eB
    have hinv := hI.hear (cs := cs2) hok1
    obtain ⟨hT2, hnew⟩ := hT.hear (cs := cs2) (m := clipM om) hI
    have hrl := hearRec_len (s := s) (m := clipM om)
    generalize hearS s (clipM om) cs2 = s2 at hinv hT2 ⊢
    refine ops_freeze v2 fun H5 hl5 hsr => ?_
    generalize hearRec s (clipM om) = recs at *
    obtain ⟨rb, rc, rfl, _, _⟩ := hsr.1.shape
    refine ops_L (L' := partO H5 p s2 :: ownS rTxn 3 24 29 H5 (.slice d l.length e) l :: R) ?_ ?_
    · refine Sub.trans (B := partO H4 p s2 :: ownS rTxn 3 24 29 HK (.slice d l.length e) l :: R) (by (repeat (first | exact Sub.refl _ | exact Sub.nil _ | (apply sub_pick; (repeat (first | exact Has.here | apply Has.there)); skip) | apply Sub.drop))) ?_
      refine (part_up hl5).trans (Sub.cons (ownS_up (hl3.trans (hl4.trans hl5))))
    refine walk ?_
    refine ex_loop (σ := Nat × List Txn × Option Addr × Nat) (fun u => u.1 ≤ recs.length ∧ u.2.1 = l ++ yesL (recs.take u.1)) (fun u => [(0, I sh), (1, .slice b0 script.length c0), (5, .pointer (some ⟨p, 0, none⟩)), (6, .slice u.2.2.1 u.2.1.length u.2.2.2), (7, I k), (52, .slice rb recs.length rc), (53, I recs.length), (54, I u.1)]) (fun _ => H5)
      (fun u => partO H5 p s2 :: ownS rTxn 3 24 29 H5 (.slice u.2.2.1 u.2.1.length u.2.2.2) u.2.1 :: R) (fun u => recs.length - u.1) (0, l, d, e) ⟨Nat.zero_le _, by simp [yesL]⟩ fun ⟨j, l', d', e'⟩ ⟨hj0, hl'⟩ K2 hL2 => ?_
    simp only at hj0 hl'
    dsimp only
    refine walk ?_
    refine ex_if rfl (fun hj => ?_) (fun hj => ?_)
    · have hj1 : j < recs.length := by omega
      have hj2 : j = 0 := by omega
      have htk := List.take_succ_eq_append_getElem hj1
      have hl2' : l' = l := by rw [hl', hj2]; simp [yesL]
      subst hl2'
      have hyj : yesL (recs.take (j + 1)) = yesL [recs[j]] := by rw [htk]; subst hj2; simp
      have hyall : yesL recs = yesL (recs.take (j + 1)) := by rw [List.take_of_length_le (by omega)]
      refine walk ?_
      refine ops_ixp rfl rfl hsr.1 hj1 fun b3 o3 cc3 hr3 hc3 => ?_
      generalize recs[j] = q at hr3 hc3 hyj
      obtain ⟨qk, ⟨qa, qb, qc⟩, ⟨qr, qt, qd⟩, qy, qp⟩ := q
      obtain ⟨w1, w2, w3, rfl, g1, g2, g3, g4, g5, g6, g7, g8⟩ := hc3
      dsimp only at g1 g2 g3 g4 g5 g6 g7 g8
      obtain ⟨sb1, sc1, rfl, _, _⟩ := g6.1.shape
      obtain ⟨sb2, sc2, rfl, _, _⟩ := g7.1.shape
      obtain ⟨sb3, sc3, rfl, _, _⟩ := g8.1.shape
      change HRow H5 b3 o3 [I qk, I qa, I qb, I qc, I qr, .slice sb1 qt.length sc1, .slice sb2 qd.length sc2, .bool qy, .slice sb3 qp.length sc3] at hr3
      refine ops_ldNH rfl rfl hr3 rfl ?_
      refine ops_alloc rfl fun p11 _ => ?_
      by_cases hk3 : qk = 3
      rotate_left
      · have hye : yesL [(⟨qk, ⟨qa, qb, qc⟩, ⟨qr, qt, qd⟩, qy, qp⟩ : Rec)] = [] := by simp [yesL, hk3]
        refine walk ?_
        exact out_next hL2 (j + 1, l', d', e') ⟨by simp only; omega, by simp only; rw [hyj, hye, List.append_nil]⟩
      cases qy with
      | false =>
        have hye : yesL [(⟨qk, ⟨qa, qb, qc⟩, ⟨qr, qt, qd⟩, false, qp⟩ : Rec)] = [] := by simp [yesL]
        refine walk ?_
        exact out_next hL2 (j + 1, l', d', e') ⟨by simp only; omega, by simp only; rw [hyj, hye, List.append_nil]⟩
      | true =>
      have hye : yesL [(⟨qk, ⟨qa, qb, qc⟩, ⟨qr, qt, qd⟩, true, qp⟩ : Rec)] = [⟨qa, qb, qc⟩] := by simp [yesL, hk3]
      have hnot : (⟨qa, qb, qc⟩ : Txn) ∉ l' := hnew _ (by rw [hyall, hyj, hye]; simp)
      refine walk ?_
      refine ex_loop (σ := Nat) (fun i => i ≤ l'.length) (fun i => [(0, I sh), (1, .slice b0 script.length c0), (5, .pointer (some ⟨p, 0, none⟩)), (6, .slice d' l'.length e'), (7, I k), (11, .pointer (some ⟨p11, 0, none⟩)), (52, .slice rb recs.length rc), (53, I recs.length), (54, I j), (66, .slice d' l'.length e'), (67, I l'.length), (68, I i)]) (fun _ => H5)
        (fun _ => row p11 53 [I qk, I qa, I qb, I qc, I qr, .slice sb1 qt.length sc1, .slice sb2 qd.length sc2, .bool true, .slice sb3 qp.length sc3] :: partO H5 p s2 :: ownS rTxn 3 24 29 H5 (.slice d' l'.length e') l' :: R) (fun i => l'.length - i) 0 (Nat.zero_le _) fun i hi0 K3 hL3 => ?_
      refine walk ?_
      refine ex_if rfl (fun hi => ?_) (fun hi => ?_)
      · have hi1 : i < l'.length := by omega
        refine walk ?_
        refine ops_ixo rfl rfl rfl hi1 fun c hc => ?_
        obtain ⟨ya, yb, yc, hy⟩ : ∃ ya yb yc, l'[i] = ⟨ya, yb, yc⟩ := ⟨_, _, _, rfl⟩
        rw [hy] at hc
        obtain ⟨rfl, _⟩ := hc
        refine walk ?_
        refine ops_alloc rfl fun p13 _ => ?_
        refine walk ?_
        refine ex_if rfl (fun hq => ?_) (fun hq => ?_)
        · exact absurd (by rw [← (show (⟨ya, yb, yc⟩ : Txn) = ⟨qa, qb, qc⟩ from hq), ← hy]; exact List.getElem_mem hi1) hnot
        refine walk ?_
        exact out_next hL3 (i + 1) (by omega)
      · clear hL3
        refine walk ?_
        refine ops_app1 (y := (⟨qa, qb, qc⟩ : Txn)) rfl rfl rfl ⟨rfl, g2, g3, g4⟩ (by simp only [cap47] at hcap ⊢; omega) fun d3 e3 => ?_
        rw [show l'.length + 1 = (l' ++ [(⟨qa, qb, qc⟩ : Txn)]).length by simp]
        refine walk ?_
        exact out_next hL2 (j + 1, l' ++ [⟨qa, qb, qc⟩], d3, e3) ⟨by simp only; omega, by simp only; rw [hyj, hye]⟩
    · clear hL2
      obtain rfl : j = recs.length := by omega
      rw [List.take_length] at hl'
      subst hl'
      refine walk ?_
      exact out_next hL (k + 1, s2, l ++ yesL recs, (d', e'), H5) ⟨⟨by simp only; omega, by simp only; omega⟩, hlK.trans (hl3.trans (hl4.trans hl5)), hinv, hT2⟩
  · clear hL
    refine walk ?_
    refine ops_call rfl rfl (done_spec (W0 := W0) (H := HK) (p := p) hI (by omega)) fun r3 H3 B hl3 eB => ?_
    subst eB
    refine ops_shape r3 fun bd cd ed _ _ _ => ?_
    subst ed
    have hdl : (doneL s).length = l.length := by rw [doneL_len]; exact hT.len.symm
    have hbad : ¬ ¬ (((doneL s).length : Int) = (l.length : Int)) := by rw [hdl]; exact fun h => h rfl
    refine walk ?_
    refine ex_if rfl (fun hp => ?_) (fun hp => ?_)
    rotate_left
    · refine walk ?_
      refine fin0 ?_
      exact ⟨rfl, rfl⟩
    have hdl0 : 0 < (doneL s).length := by omega
    have hdn : (doneL s).length ≤ 60 := by have := hI.dn; rw [doneL_len]; omega
    have hok := hI.t.ok (by omega)
    have hks : ∀ q ∈ prepL s.t, q.Work.ks.length * 16 ≤ cap47 := fun q hq => by
      have := (hI.t.ww _ _ (hI.t.recs hq)).1.1.ks_len
      simp only [cap47]; omega
    have hpl : (prepL s.t).length ≤ 1000000 := by have := hI.t.wn; rw [prepL_len]; omega
    have hrel : Rel s.t ⟨holdsL s.t, prepL s.t⟩ := ⟨holdsL_spec hI.t.hd, prepL_spec hI.t.wd⟩
    have hlok : ∀ s' a', LoadP (holdF (holdsL s.t)) (loadH [] 0 (holdsL s.t)).2 (prepL s.t) s' a' → lastE a' (prepL s.t) = 0 ∧ TsOk s' ∧ (s'.works.map (·.1)).Nodup := fun s' a' hLP => by
      obtain ⟨g1, g2, g3⟩ := load_own hI.t hrel hLP
      exact ⟨g1, g2.ok (by omega), g2.wd⟩
    have hno : ∀ s' a', LoadP (holdF (holdsL s.t)) (loadH [] 0 (holdsL s.t)).2 (prepL s.t) s' a' → loadD s' [] (doneL s ++ [(doneL s)[0]]) = none := fun s' a' hLP =>
      loadD_twice hI (fun k => PSpec.ext (load_own hI.t hrel hLP).2.2.p hrel.p k) hdl0
    refine ex_rowS (.slice bd (doneL s).length cd) hdl0 fun b1 cap1 cs1 sp1 e1 z1 z2 z3 z4 hRL hsm1 => ?_
    obtain ⟨c1, rr1, hcr, hcc⟩ := hRL.get hdl0
    have hcl : c1.length = 4 := RdOk.len hcc
    injection e1 with e1a e1b e1c
    subst e1a e1c
    refine ex_open (A := partO H3 p s) (σ := Nat × Nat) (B := fun a => [pRow p a.1 (PS.sh s) a.2, tabO H3 a.1 (PS.t s), dMap H3 a.2 s]) (p := fun _ => True) (by repeat (first | exact Has.here | apply Has.there)) (fun h ⟨tp, db, hbig⟩ => ⟨(tp, db), trivial, hbig⟩) fun ⟨tp, db⟩ _ => ?_
    dsimp only
    refine walk ?_
    refine ex_any0 0 17 16 22 [row b1 66 (cs1 ++ sp1), pRow p tp s.sh db] rfl rfl ?_
    refine stepY 1 ?_; refine stepY 2 ?_; refine stepY 3 ?_; refine stepY 4 ?_; refine stepY 6 ?_; refine stepY 7 ?_; refine stepY 8 ?_; refine stepY 9 ?_; refine stepY 11 ?_; refine stepY 12 ?_
    refine gny_ixB 13 rfl rfl rfl hdl0 ?_
    refine gny_ldA 14 rfl rfl rfl (at_of_drop hcr) hcl ?_
    refine any_2 5 15 (at_call 5 rfl rfl (holds_spec (W0 := W0) (H := H3) (p := tp) hok) fun r4 H4 B hl4 eB => ?g5) (at_bs1 15 rfl rfl hcl fun b5 => ?g15)
    case g15 =>
      refine ⟨(by (repeat (first | exact Sub.refl _ | exact Sub.nil _ | (apply sub_pick; (repeat (first | exact Has.here | apply Has.there)); skip) | apply Sub.drop))), ?_⟩
      refine gny_call 5 rfl rfl rfl (holds_spec (W0 := W0) (H := H3) (p := tp) hok) fun r4 H4 B hl4 eB => ?_
      subst eB
      refine ⟨(by (repeat (first | exact Sub.refl _ | exact Sub.nil _ | (apply sub_pick; (repeat (first | exact Has.here | apply Has.there)); skip) | apply Sub.drop))), ?_⟩
      refine any_freeze r4 fun H5 hl5 hsh => ?_
      refine any_L (L' := tabO H5 tp s.t :: pRow p tp s.sh db :: dMap H3 db s :: row b1 66 (cs1 ++ sp1) :: row b5 66 c1 :: ownS rTxn 3 24 29 HK (.slice d l.length e) l :: R) ?_ ?_
      · refine Sub.trans ?_ (tab_up hl5)
        (repeat (first | exact Sub.refl _ | exact Sub.nil _ | (apply sub_pick; (repeat (first | exact Has.here | apply Has.there)); skip) | apply Sub.drop))
      refine gny_call 10 rfl rfl rfl (prepared_spec (W0 := W0) (H := H5) (p := tp) hok) fun r6 H6 B hl6 eB => ?_
      subst eB
      refine ⟨(by (repeat (first | exact Sub.refl _ | exact Sub.nil _ | (apply sub_pick; (repeat (first | exact Has.here | apply Has.there)); skip) | apply Sub.drop))), ?_⟩
      refine any_freeze r6 fun H7 hl7 hsp => ?_
      refine any_stage 19 [] ?_
      refine any_shutS (b := b1) (T := 66) z1 z2 z3 z4 hRL hsm1 ?_
      refine gny_w 16 rfl rfl (op_appRS (y := (doneL s)[0]) rfl (RdOk.mono (R := rPartDone) (hl4.trans (hl5.trans (hl6.trans hl7))) hcc) (by simp only [cap47]; omega) fun base cap => ⟨.refl _, .nil _, ?_⟩)
      refine any_freeze (.slice base ((doneL s).length + 1) cap) fun H8 hl8 hsd => ?_
      refine gny_call 17 rfl rfl rfl (pload_spec (W0 := W0) (H := H8) (sh := sh) (hsh.mono (hl6.trans (hl7.trans hl8))) (hsp.mono hl8) hsd hpl hks hlok) fun r9 H9 B hl9 ⟨s', a', p', hLP, hQ⟩ => ?_
      refine ⟨.nil _, ?_⟩
      obtain ⟨_, er, eB⟩ | ⟨d9, hd9, _, _⟩ := hQ
      rotate_left
      · rw [hno s' a' hLP] at hd9
        cases hd9
      subst er eB
      refine stepY 18 ?_
      refine any_stage 22 [] ?_
      refine gny_ext 19 rfl rfl rfl rfl ?_
      refine gny_ext 20 rfl rfl rfl rfl ?_
      refine stepY 21 ?_
      refine any_rest rfl ?_
      refine walk ?_
      refine fin0 ?_
      exact ⟨rfl, rfl⟩
    case g5 =>
      subst eB
      refine ⟨(by (repeat (first | exact Sub.refl _ | exact Sub.nil _ | (apply sub_pick; (repeat (first | exact Has.here | apply Has.there)); skip) | apply Sub.drop))), ?_⟩
      refine any_freeze r4 fun H5 hl5 hsh => ?_
      refine any_L (L' := tabO H5 tp s.t :: pRow p tp s.sh db :: dMap H3 db s :: row b1 66 (cs1 ++ sp1) :: ownS rTxn 3 24 29 HK (.slice d l.length e) l :: R) ?_ ?_
      · refine Sub.trans ?_ (tab_up hl5)
        (repeat (first | exact Sub.refl _ | exact Sub.nil _ | (apply sub_pick; (repeat (first | exact Has.here | apply Has.there)); skip) | apply Sub.drop))
      refine any_2 10 15 (at_call 10 rfl rfl (prepared_spec (W0 := W0) (H := H5) (p := tp) hok) fun r6 H6 B hl6 eB => ?g10) (at_bs1 15 rfl rfl hcl fun b5 => ?g15)
      case g15 =>
        refine ⟨(by (repeat (first | exact Sub.refl _ | exact Sub.nil _ | (apply sub_pick; (repeat (first | exact Has.here | apply Has.there)); skip) | apply Sub.drop))), ?_⟩
        refine gny_call 10 rfl rfl rfl (prepared_spec (W0 := W0) (H := H5) (p := tp) hok) fun r6 H6 B hl6 eB => ?_
        subst eB
        refine ⟨(by (repeat (first | exact Sub.refl _ | exact Sub.nil _ | (apply sub_pick; (repeat (first | exact Has.here | apply Has.there)); skip) | apply Sub.drop))), ?_⟩
        refine any_freeze r6 fun H7 hl7 hsp => ?_
        refine any_stage 19 [] ?_
        refine any_shutS (b := b1) (T := 66) z1 z2 z3 z4 hRL hsm1 ?_
        refine gny_w 16 rfl rfl (op_appRS (y := (doneL s)[0]) rfl (RdOk.mono (R := rPartDone) (hl4.trans (hl5.trans (hl6.trans hl7))) hcc) (by simp only [cap47]; omega) fun base cap => ⟨.refl _, .nil _, ?_⟩)
        refine any_freeze (.slice base ((doneL s).length + 1) cap) fun H8 hl8 hsd => ?_
        refine gny_call 17 rfl rfl rfl (pload_spec (W0 := W0) (H := H8) (sh := sh) (hsh.mono (hl6.trans (hl7.trans hl8))) (hsp.mono hl8) hsd hpl hks hlok) fun r9 H9 B hl9 ⟨s', a', p', hLP, hQ⟩ => ?_
        refine ⟨.nil _, ?_⟩
        obtain ⟨_, er, eB⟩ | ⟨d9, hd9, _, _⟩ := hQ
        rotate_left
        · rw [hno s' a' hLP] at hd9
          cases hd9
        subst er eB
        refine stepY 18 ?_
        refine any_stage 22 [] ?_
        refine gny_ext 19 rfl rfl rfl rfl ?_
        refine gny_ext 20 rfl rfl rfl rfl ?_
        refine stepY 21 ?_
        refine any_rest rfl ?_
        refine walk ?_
        refine fin0 ?_
        exact ⟨rfl, rfl⟩
      case g10 =>
        subst eB
        refine ⟨(by (repeat (first | exact Sub.refl _ | exact Sub.nil _ | (apply sub_pick; (repeat (first | exact Has.here | apply Has.there)); skip) | apply Sub.drop))), ?_⟩
        refine any_freeze r6 fun H7 hl7 hsp => ?_
        refine any_1 15 (at_bs1 15 rfl rfl hcl fun b5 => ?_)
        refine ⟨(by (repeat (first | exact Sub.refl _ | exact Sub.nil _ | (apply sub_pick; (repeat (first | exact Has.here | apply Has.there)); skip) | apply Sub.drop))), ?_⟩
        refine any_stage 19 [] ?_
        refine any_shutS (b := b1) (T := 66) z1 z2 z3 z4 hRL hsm1 ?_
        refine gny_w 16 rfl rfl (op_appRS (y := (doneL s)[0]) rfl (RdOk.mono (R := rPartDone) (hl4.trans (hl5.trans (hl6.trans hl7))) hcc) (by simp only [cap47]; omega) fun base cap => ⟨.refl _, .nil _, ?_⟩)
        refine any_freeze (.slice base ((doneL s).length + 1) cap) fun H8 hl8 hsd => ?_
        refine gny_call 17 rfl rfl rfl (pload_spec (W0 := W0) (H := H8) (sh := sh) (hsh.mono (hl6.trans (hl7.trans hl8))) (hsp.mono hl8) hsd hpl hks hlok) fun r9 H9 B hl9 ⟨s', a', p', hLP, hQ⟩ => ?_
        refine ⟨.nil _, ?_⟩
        obtain ⟨_, er, eB⟩ | ⟨d9, hd9, _, _⟩ := hQ
        rotate_left
        · rw [hno s' a' hLP] at hd9
          cases hd9
        subst er eB
        refine stepY 18 ?_
        refine any_stage 22 [] ?_
        refine gny_ext 19 rfl rfl rfl rfl ?_
        refine gny_ext 20 rfl rfl rfl rfl ?_
        refine stepY 21 ?_
        refine any_rest rfl ?_
        refine walk ?_
        refine fin0 ?_
        exact ⟨rfl, rfl⟩
end Go.Proofs.YtjgjcakeimkkdaaGreatDoor
