/- The law's play: one move of both. -/
import Derived.Test.YthoafjeampbkeaaCUL
set_option linter.unusedVariables false
set_option linter.unusedSimpArgs false
namespace Go.Proofs.Ythoafjeampbkeaa
open Go Go.Sx Go.Proofs
theorem ex_cut0 {P : Program} {n : Nat} {W0 : World} {Q : Exit → Act → World → Prop} {F : Slots} {H : Heap} {L : List HProp} {k : List Fr} {x y : Code} {σ : Type} (I : σ → Prop) (mF : σ → Slots) (mH : σ → Heap) (mL : σ → List HProp)
    (h : ∀ K : Act → World → Prop, (∀ s, I s → Sat n W0 (mF s) (mH s) (mL s) K) → Ex P n W0 Q F H L x (.cut K :: k)) (h2 : ∀ s, I s → Ex P n W0 Q (mF s) (mH s) (mL s) y k) : Ex P n W0 Q F H L x (.seq y :: k) :=
  ⟨(h (y.wp P (Kx P Q k)) fun s hs => (h2 s hs).run).run⟩
/-- what is lent in an older form -/
theorem ct_up {P : Program} {f : FuncId} {vs : Array Value} {W0 : World} {H : Heap} {A A' : HProp} {A2 : List HProp} {Post : Value → Heap → List HProp → Prop} (h : Ct P f vs W0 H (A' :: A2) Post) (hu : ∀ h, A h → A' h) : Ct P f vs W0 H (A :: A2) Post :=
  Ct.open (σ := Unit) (B := fun _ => [A']) (fun h ha => ⟨(), big_one (hu h ha)⟩) fun _ => h
abbrev CA (b : Option Addr × Nat) (m : Coord) : List Value := m.cv (.slice b.1 m.Txns.length b.2)
abbrev OA (b1 b2 b3 b4 b5 : Option Addr × Nat) (o : Op) : List Value := o.cv (.slice b1.1 o.M.Work.Take.length b1.2) (.slice b2.1 o.M.Work.Drop.length b2.2) (.slice b3.1 o.M.Call.Route.Cells.length b3.2) (.slice b4.1 o.M.Reply.Route.Cells.length b4.2) (.slice b5.1 o.Works.length b5.2)
theorem CA_of {H : Heap} {c : List Value} {m : Coord} (h : rCoord H c m) : ∃ b, c = CA b m := by
  obtain ⟨s, rfl, _, _, _, hs⟩ := h
  obtain ⟨b, c, rfl, _, _⟩ := hs.1.shape
  exact ⟨(b, c), rfl⟩
theorem hear_node {s : CS} {m : Message} : (cHear s m).s.node = s.node := by
  unfold cHear
  repeat' split
  all_goals rfl
theorem beg_node {s s' : CS} {now : Int} {l : List Work} {x : Txn} {out : List Message} {e : Int} (h : BegA s now l x out e s') : s'.node = s.node := by
  obtain ⟨ws, _, ⟨_, _, _, _, rfl⟩ | ⟨h, _, _, _, rfl⟩⟩ := h
  · rfl
  · unfold beginS; rw [if_neg h]
theorem cap7 {k : Nat} {s : CS} {m : Coord} (h : PI k s m) : ∀ key t, mget key s.ts = some t → t.parts.length * 8 ≤ cap47 := fun key t hg => by have := h.pl key t hg; simp only [cap47]; omega
theorem cap8 {k : Nat} {s : CS} {m : Coord} (h : PI k s m) : ∀ key t, mget key s.ts = some t → t.parts.length ≤ 1000000 := fun key t hg => by have := h.pl key t hg; omega
set_option maxHeartbeats 16000000 in
set_option maxRecDepth 20000 in
theorem play_spec {W0 : World} {H : Heap} {p k : Nat} {s : CS} {m : Coord} {mv : Op} {c cmv : List Value} (h : PI k s m) (hk : k ≤ 100) (h0 : rCoord H c m) (hm : rOp H cmv mv) :
    Ct Try.prog 24 #[.pointer (some ⟨p, 0, none⟩), .agg c.toArray, .agg cmv.toArray] W0 H [coordO H p s] (fun r H' B => ∃ p' s' m' c', r = .tuple #[.pointer (some ⟨p', 0, none⟩), .agg c'.toArray, .bool true] ∧ rCoord H' c' m' ∧ PI (k + 1) s' m' ∧ s'.node = s.node ∧ B = [coordO H' p' s']) := by
  refine Ct.go (vs := [.pointer (some ⟨p, 0, none⟩), .agg c.toArray, .agg cmv.toArray]) fun R => ?_
  have h00 := h0
  obtain ⟨⟨b1, c1⟩, rfl⟩ := CA_of h0
  obtain ⟨t1, t2, t3, t4, t5, rfl, k0, k1, k2, k3, k4, k5, k6, k7, j1, j2, k8, k9, k10, k11, j3, k12, k13, k14, j4, j5, k15⟩ := id hm
  obtain ⟨mb1, mc1, rfl, _, _⟩ := j1.1.shape
  obtain ⟨mb2, mc2, rfl, _, _⟩ := j2.1.shape
  obtain ⟨mb3, mc3, rfl, _, _⟩ := j3.1.shape
  obtain ⟨mb4, mc4, rfl, _, _⟩ := j4.1.shape
  obtain ⟨mb5, mc5, rfl, _, _⟩ := j5.1.shape
  have hmm : rMessage H [I mv.M.From, I mv.M.To, I mv.M.Kind, I mv.M.Txn.Node, I mv.M.Txn.Life, I mv.M.Txn.Count, I mv.M.Work.Robot, .slice mb1 mv.M.Work.Take.length mc1, .slice mb2 mv.M.Work.Drop.length mc2, .bool mv.M.Yes, I mv.M.ID, I mv.M.Call.Verb, I mv.M.Call.Epoch, I mv.M.Call.Route.Start, .slice mb3 mv.M.Call.Route.Cells.length mc3, I mv.M.Reply.Code, I mv.M.Reply.Epoch, I mv.M.Reply.Route.Start, .slice mb4 mv.M.Reply.Route.Cells.length mc4] mv.M := ⟨_, _, _, _, rfl, k1, k2, k3, k4, k5, k6, k7, j1, j2, k8, k9, k10, k11, j3, k12, k13, k14, j4⟩
  refine walk ?_
  refine ops_box rfl rfl fun p4 _ => ?_
  refine ops_box rfl rfl fun p5 _ => ?_
  refine walk ?_
  refine ops_alloc rfl fun p7 _ => ?_
  refine walk ?_
  refine ex_cutb (σ := Nat × CS × Coord × (Option Addr × Nat) × Heap) (fun u => (PI (k + 1) u.2.1 u.2.2.1 ∧ u.2.1.node = s.node) ∧ rCoord u.2.2.2.2 (CA u.2.2.2.1 u.2.2.1) u.2.2.1 ∧ H.le u.2.2.2.2) (fun u => [(0, .pointer (some ⟨u.1, 0, none⟩)), (4, .pointer (some ⟨p4, 0, none⟩)), (7, .pointer (some ⟨p7, 0, none⟩)), (9, .bool true)]) (fun u => u.2.2.2.2) (fun u => coordO u.2.2.2.2 u.1 u.2.1 :: row p4 35 (CA u.2.2.2.1 u.2.2.1) :: row p7 35 [I 0, I 0, I 0, nilS] :: R) (fun K hK => ?_) (fun ⟨q, s', m', ⟨ba, ca⟩, H'⟩ ⟨⟨hpi, hnn⟩, hrc, hlH⟩ => ?_)
  rotate_left
  · simp only at hpi hnn hrc hlH
    dsimp only
    obtain ⟨z1, z2, z3, z4, z5⟩ := id hrc
    refine walk ?_
    refine ex_any 10 [row p4 35 (CA (ba, ca) m')] ?_
    refine stepY 0 ?_; refine stepY 1 ?_; refine stepY 2 ?_; refine stepY 3 ?_; refine stepY 4 ?_; refine stepY 5 ?_
    refine gny_call 6 rfl rfl rfl (ctells_spec (W0 := W0) (H := H') (p := q) (n := k + 1) (s := s') (m := m') (c := CA (ba, ca) m') hpi.I (by omega) (fun key t hg => (by have := hpi.pl key t hg; simp only [cap47]; omega)) hpi.r hrc) fun r6 H6 B hl6 ⟨er, eB⟩ => ?_
    subst er eB
    refine ⟨(by (repeat (first | exact Sub.refl _ | exact Sub.nil _ | (apply sub_pick; (repeat (first | exact Has.here | apply Has.there)); skip) | apply Sub.drop))), ?_⟩
    refine stepY 7 ?_; refine stepY 8 ?_
    refine any_sta 9 rfl rfl rfl rfl (by simp) rfl ⟨(by (repeat (first | exact Sub.refl _ | exact Sub.nil _ | (apply sub_pick; (repeat (first | exact Has.here | apply Has.there)); skip) | apply Sub.drop))), ?_⟩
    refine any_rest rfl ?_
    refine walk ?_
    refine finB [coordO H6 q s'] ?_
    exact ⟨q, s', m', CA (ba, ca) m', rfl, RdOk.mono (R := rCoord) hl6 hrc, hpi, hnn, rfl⟩
  refine ex_if rfl (fun hq1 => ?_) (fun hq1 => ?_)
  · refine walk ?_
    refine ex_cut0 (σ := Txn × List Message × Int × CS × Value × Nat × Heap) (fun u => BegA s mv.Now (ownC mv.Works) u.1 u.2.1 u.2.2.1 u.2.2.2.1 ∧ SlB rMessage 19 216 u.2.2.2.2.2.2 u.2.2.2.2.1 u.2.1 ∧ H.le u.2.2.2.2.2.2) (fun u => [(0, .pointer (some ⟨p, 0, none⟩)), (4, .pointer (some ⟨p4, 0, none⟩)), (5, .pointer (some ⟨p5, 0, none⟩)), (7, .pointer (some ⟨p7, 0, none⟩)), (10, .pointer (some ⟨u.2.2.2.2.2.1, 0, none⟩)), (11, u.2.2.2.2.1), (12, I u.2.2.1)]) (fun u => u.2.2.2.2.2.2) (fun u => coordO u.2.2.2.2.2.2 p u.2.2.2.1 :: row p4 35 (CA (b1, c1) m) :: row p5 68 (OA (mb1, mc1) (mb2, mc2) (mb3, mc3) (mb4, mc4) (mb5, mc5) mv) :: row u.2.2.2.2.2.1 28 (Txn.cv u.1) :: row p7 35 [I 0, I 0, I 0, nilS] :: R) (fun K1 hK1 => ?_) (fun ⟨x, out, e, s2, v1, p10, H1⟩ ⟨hbeg, hout, hlx⟩ => ?_)
    · refine ex_any 14 [row p5 68 (OA (mb1, mc1) (mb2, mc2) (mb3, mc3) (mb4, mc4) (mb5, mc5) mv)] ?_
      refine stepY 0 ?_; refine stepY 1 ?_; refine stepY 2 ?_; refine stepY 4 ?_; refine stepY 5 ?_
      refine any_2 3 11 (at_call 3 rfl rfl (ownC_spec (W0 := W0) (H := H) j5) fun r1 H1 B hl1 eB => ?_) (at_w 11 rfl (op_alloc fun b11 _ => ⟨(by first | exact Go.Sx.Heap.le.refl _ | exact hlx | exact hlx.trans hly | exact hly | exact hly.trans hlx | exact hl5 | exact hl5.trans hl6), (by (repeat (first | exact Sub.refl _ | exact Sub.nil _ | (apply sub_pick; (repeat (first | exact Has.here | apply Has.there)); skip) | apply Sub.drop))), ?_⟩))
      · skip
        subst eB
        refine ⟨(by (repeat (first | exact Sub.refl _ | exact Sub.nil _ | (apply sub_pick; (repeat (first | exact Has.here | apply Has.there)); skip) | apply Sub.drop))), ?_⟩
        refine any_freeze r1 fun H2 hl2 hs2 => ?_
        have hlx := hl1.trans hl2
        refine any_2 6 11 (at_call 6 rfl rfl (ct_up (begin2_spec (W0 := W0) (H := H2) (p := p) (n := k) (s := s) h.I (by omega) k15 hs2 (Nat.le_trans ownC_len (by omega))) (fun _ hc => coord_mono hlx hc)) fun r3 H3 B hl3 ⟨x, v1, e, out, s2, er, hbeg, eB⟩ => ?_) (at_w 11 rfl (op_alloc fun b11 _ => ⟨(by first | exact Go.Sx.Heap.le.refl _ | exact hlx | exact hlx.trans hly | exact hly | exact hly.trans hlx | exact hl5 | exact hl5.trans hl6), (by (repeat (first | exact Sub.refl _ | exact Sub.nil _ | (apply sub_pick; (repeat (first | exact Has.here | apply Has.there)); skip) | apply Sub.drop))), ?_⟩))
        · skip
          subst er eB
          refine ⟨(by (repeat (first | exact Sub.refl _ | exact Sub.nil _ | (apply sub_pick; (repeat (first | exact Has.here | apply Has.there)); skip) | apply Sub.drop))), ?_⟩
          refine any_freeze v1 fun H4 hl4 hs4 => ?_
          have hly := hl3.trans hl4
          refine stepY 7 ?_
          refine gny_ext 8 rfl rfl rfl rfl ?_
          refine gny_ext 9 rfl rfl rfl rfl ?_
          refine gny_ext 10 rfl rfl rfl rfl ?_
          refine any_1 11 (at_w 11 rfl (op_alloc fun b11 _ => ⟨(by first | exact Go.Sx.Heap.le.refl _ | exact hlx | exact hlx.trans hly | exact hly | exact hly.trans hlx | exact hl5 | exact hl5.trans hl6), (by (repeat (first | exact Sub.refl _ | exact Sub.nil _ | (apply sub_pick; (repeat (first | exact Has.here | apply Has.there)); skip) | apply Sub.drop))), ?_⟩))
          refine any_sta 12 rfl rfl rfl rfl (by simp) rfl ⟨(by (repeat (first | exact Sub.refl _ | exact Sub.nil _ | (apply sub_pick; (repeat (first | exact Has.here | apply Has.there)); skip) | apply Sub.drop))), ?_⟩
          refine stepY 13 ?_
          refine any_rest rfl ?_
          refine walk ?_
          refine out_to hK1 (x, out, e, s2, v1, b11, H4) ⟨hbeg, hs4, hlx.trans hly⟩ (hs := ?_)
          refine Sub.trans ?_ (coord_up hl4)
          (repeat (first | exact Sub.refl _ | exact Sub.nil _ | (apply sub_pick; (repeat (first | exact Has.here | apply Has.there)); skip) | apply Sub.drop))
        · skip
          refine any_1 6 (at_call 6 rfl rfl (ct_up (begin2_spec (W0 := W0) (H := H2) (p := p) (n := k) (s := s) h.I (by omega) k15 hs2 (Nat.le_trans ownC_len (by omega))) (fun _ hc => coord_mono hlx hc)) fun r3 H3 B hl3 ⟨x, v1, e, out, s2, er, hbeg, eB⟩ => ?_)
          subst er eB
          refine ⟨(by (repeat (first | exact Sub.refl _ | exact Sub.nil _ | (apply sub_pick; (repeat (first | exact Has.here | apply Has.there)); skip) | apply Sub.drop))), ?_⟩
          refine any_freeze v1 fun H4 hl4 hs4 => ?_
          have hly := hl3.trans hl4
          refine stepY 7 ?_
          refine gny_ext 8 rfl rfl rfl rfl ?_
          refine gny_ext 9 rfl rfl rfl rfl ?_
          refine gny_ext 10 rfl rfl rfl rfl ?_
          refine any_sta 12 rfl rfl rfl rfl (by simp) rfl ⟨(by (repeat (first | exact Sub.refl _ | exact Sub.nil _ | (apply sub_pick; (repeat (first | exact Has.here | apply Has.there)); skip) | apply Sub.drop))), ?_⟩
          refine stepY 13 ?_
          refine any_rest rfl ?_
          refine walk ?_
          refine out_to hK1 (x, out, e, s2, v1, b11, H4) ⟨hbeg, hs4, hlx.trans hly⟩ (hs := ?_)
          refine Sub.trans ?_ (coord_up hl4)
          (repeat (first | exact Sub.refl _ | exact Sub.nil _ | (apply sub_pick; (repeat (first | exact Has.here | apply Has.there)); skip) | apply Sub.drop))
      · skip
        refine any_1 3 (at_call 3 rfl rfl (ownC_spec (W0 := W0) (H := H) j5) fun r1 H1 B hl1 eB => ?_)
        subst eB
        refine ⟨(by (repeat (first | exact Sub.refl _ | exact Sub.nil _ | (apply sub_pick; (repeat (first | exact Has.here | apply Has.there)); skip) | apply Sub.drop))), ?_⟩
        refine any_freeze r1 fun H2 hl2 hs2 => ?_
        have hlx := hl1.trans hl2
        refine any_1 6 (at_call 6 rfl rfl (ct_up (begin2_spec (W0 := W0) (H := H2) (p := p) (n := k) (s := s) h.I (by omega) k15 hs2 (Nat.le_trans ownC_len (by omega))) (fun _ hc => coord_mono hlx hc)) fun r3 H3 B hl3 ⟨x, v1, e, out, s2, er, hbeg, eB⟩ => ?_)
        subst er eB
        refine ⟨(by (repeat (first | exact Sub.refl _ | exact Sub.nil _ | (apply sub_pick; (repeat (first | exact Has.here | apply Has.there)); skip) | apply Sub.drop))), ?_⟩
        refine any_freeze v1 fun H4 hl4 hs4 => ?_
        have hly := hl3.trans hl4
        refine stepY 7 ?_
        refine gny_ext 8 rfl rfl rfl rfl ?_
        refine gny_ext 9 rfl rfl rfl rfl ?_
        refine gny_ext 10 rfl rfl rfl rfl ?_
        refine any_sta 12 rfl rfl rfl rfl (by simp) rfl ⟨(by (repeat (first | exact Sub.refl _ | exact Sub.nil _ | (apply sub_pick; (repeat (first | exact Has.here | apply Has.there)); skip) | apply Sub.drop))), ?_⟩
        refine stepY 13 ?_
        refine any_rest rfl ?_
        refine walk ?_
        refine out_to hK1 (x, out, e, s2, v1, b11, H4) ⟨hbeg, hs4, hlx.trans hly⟩ (hs := ?_)
        refine Sub.trans ?_ (coord_up hl4)
        (repeat (first | exact Sub.refl _ | exact Sub.nil _ | (apply sub_pick; (repeat (first | exact Has.here | apply Has.there)); skip) | apply Sub.drop))
    simp only at hbeg hout hlx
    dsimp only
    refine ex_cut (σ := Txn × List Message × Int × Coord × (Option Addr × Nat) × Value × Nat × Nat × Heap) (fun u => RBegA m mv.Now (ownC mv.Works) u.1 u.2.1 u.2.2.1 u.2.2.2.1 ∧ SlB rMessage 19 216 u.2.2.2.2.2.2.2.2 u.2.2.2.2.2.1 u.2.1 ∧ rCoord u.2.2.2.2.2.2.2.2 (CA u.2.2.2.2.1 u.2.2.2.1) u.2.2.2.1 ∧ H1.le u.2.2.2.2.2.2.2.2) (fun u => [(0, .pointer (some ⟨p, 0, none⟩)), (4, .pointer (some ⟨p4, 0, none⟩)), (7, .pointer (some ⟨p7, 0, none⟩)), (10, .pointer (some ⟨p10, 0, none⟩)), (11, v1), (12, I e), (13, .pointer (some ⟨u.2.2.2.2.2.2.1, 0, none⟩)), (14, .pointer (some ⟨u.2.2.2.2.2.2.2.1, 0, none⟩)), (15, u.2.2.2.2.2.1), (16, I u.2.2.1)]) (fun u => u.2.2.2.2.2.2.2.2) (fun u => coordO u.2.2.2.2.2.2.2.2 p s2 :: row p4 35 (CA (b1, c1) m) :: row p10 28 (Txn.cv x) :: row u.2.2.2.2.2.2.1 35 (CA u.2.2.2.2.1 u.2.2.2.1) :: row u.2.2.2.2.2.2.2.1 28 (Txn.cv u.1) :: row p7 35 [I 0, I 0, I 0, nilS] :: R) (fun K2 hK2 => ?_) (fun ⟨y, want, code, m2, ⟨bd, cd⟩, v2, p13, p14, H5⟩ ⟨hbeg2, hwant, hrc2, hl5⟩ => ?_)
    · refine walk ?_
      refine ex_any 17 [row p4 35 (CA (b1, c1) m), row p5 68 (OA (mb1, mc1) (mb2, mc2) (mb3, mc3) (mb4, mc4) (mb5, mc5) mv)] ?_
      refine stepY 0 ?_; refine stepY 1 ?_; refine stepY 2 ?_; refine stepY 4 ?_; refine stepY 5 ?_
      refine any_3 3 12 13 (at_call 3 rfl rfl (ownC_spec (W0 := W0) (H := H1) (j5.mono hlx)) fun r1 H2 B hl2 eB => ?_) (at_w 12 rfl (op_alloc fun b12 _ => ⟨(by first | exact Go.Sx.Heap.le.refl _ | exact hlx | exact hlx.trans hly | exact hly | exact hly.trans hlx | exact hl5 | exact hl5.trans hl6), (by (repeat (first | exact Sub.refl _ | exact Sub.nil _ | (apply sub_pick; (repeat (first | exact Has.here | apply Has.there)); skip) | apply Sub.drop))), ?_⟩)) (at_w 13 rfl (op_alloc fun b13 _ => ⟨(by first | exact Go.Sx.Heap.le.refl _ | exact hlx | exact hlx.trans hly | exact hly | exact hly.trans hlx | exact hl5 | exact hl5.trans hl6), (by (repeat (first | exact Sub.refl _ | exact Sub.nil _ | (apply sub_pick; (repeat (first | exact Has.here | apply Has.there)); skip) | apply Sub.drop))), ?_⟩))
      · skip
        subst eB
        refine ⟨(by (repeat (first | exact Sub.refl _ | exact Sub.nil _ | (apply sub_pick; (repeat (first | exact Has.here | apply Has.there)); skip) | apply Sub.drop))), ?_⟩
        refine any_freeze r1 fun H3 hl3 hs3 => ?_
        have hly := hl2.trans hl3
        refine any_3 6 12 13 (at_call 6 rfl rfl (rBegin2_spec (W0 := W0) (H := H3) (m := m) (RdOk.mono (R := rCoord) (hlx.trans hly) h00) hs3 (Nat.le_trans ownC_len (by omega)) k15 (by have := h.ct; unfold fits; omega) (by have := h.len; omega)) fun r4 H4 B hl4 ⟨c2, y, v2, code, want, m2, er, hbeg2, hrc2, eB⟩ => ?_) (at_w 12 rfl (op_alloc fun b12 _ => ⟨(by first | exact Go.Sx.Heap.le.refl _ | exact hlx | exact hlx.trans hly | exact hly | exact hly.trans hlx | exact hl5 | exact hl5.trans hl6), (by (repeat (first | exact Sub.refl _ | exact Sub.nil _ | (apply sub_pick; (repeat (first | exact Has.here | apply Has.there)); skip) | apply Sub.drop))), ?_⟩)) (at_w 13 rfl (op_alloc fun b13 _ => ⟨(by first | exact Go.Sx.Heap.le.refl _ | exact hlx | exact hlx.trans hly | exact hly | exact hly.trans hlx | exact hl5 | exact hl5.trans hl6), (by (repeat (first | exact Sub.refl _ | exact Sub.nil _ | (apply sub_pick; (repeat (first | exact Has.here | apply Has.there)); skip) | apply Sub.drop))), ?_⟩))
        · skip
          subst er eB
          refine ⟨(by (repeat (first | exact Sub.refl _ | exact Sub.nil _ | (apply sub_pick; (repeat (first | exact Has.here | apply Has.there)); skip) | apply Sub.drop))), ?_⟩
          refine any_freeze v2 fun H5 hl5 hs5 => ?_
          obtain ⟨⟨bd, cd⟩, rfl⟩ := CA_of hrc2
          have hlx := hl4.trans hl5
          refine stepY 7 ?_
          refine gny_ext 8 rfl rfl rfl rfl ?_
          refine gny_ext 9 rfl rfl rfl rfl ?_
          refine gny_ext 10 rfl rfl rfl rfl ?_
          refine gny_ext 11 rfl rfl rfl rfl ?_
          refine any_2 12 13 (at_w 12 rfl (op_alloc fun b12 _ => ⟨(by first | exact Go.Sx.Heap.le.refl _ | exact hlx | exact hlx.trans hly | exact hly | exact hly.trans hlx | exact hl5 | exact hl5.trans hl6), (by (repeat (first | exact Sub.refl _ | exact Sub.nil _ | (apply sub_pick; (repeat (first | exact Has.here | apply Has.there)); skip) | apply Sub.drop))), ?_⟩)) (at_w 13 rfl (op_alloc fun b13 _ => ⟨(by first | exact Go.Sx.Heap.le.refl _ | exact hlx | exact hlx.trans hly | exact hly | exact hly.trans hlx | exact hl5 | exact hl5.trans hl6), (by (repeat (first | exact Sub.refl _ | exact Sub.nil _ | (apply sub_pick; (repeat (first | exact Has.here | apply Has.there)); skip) | apply Sub.drop))), ?_⟩))
          · skip
            refine any_1 13 (at_w 13 rfl (op_alloc fun b13 _ => ⟨(by first | exact Go.Sx.Heap.le.refl _ | exact hlx | exact hlx.trans hly | exact hly | exact hly.trans hlx | exact hl5 | exact hl5.trans hl6), (by (repeat (first | exact Sub.refl _ | exact Sub.nil _ | (apply sub_pick; (repeat (first | exact Has.here | apply Has.there)); skip) | apply Sub.drop))), ?_⟩))
            refine any_sta 14 rfl rfl rfl rfl (by simp) rfl ⟨(by (repeat (first | exact Sub.refl _ | exact Sub.nil _ | (apply sub_pick; (repeat (first | exact Has.here | apply Has.there)); skip) | apply Sub.drop))), ?_⟩
            refine any_sta 15 rfl rfl rfl rfl (by simp) rfl ⟨(by (repeat (first | exact Sub.refl _ | exact Sub.nil _ | (apply sub_pick; (repeat (first | exact Has.here | apply Has.there)); skip) | apply Sub.drop))), ?_⟩
            refine stepY 16 ?_
            refine any_rest rfl ?_
            refine walk ?_
            refine out_to hK2 (y, want, code, m2, (bd, cd), v2, b12, b13, H5) ⟨hbeg2, hs5, RdOk.mono (R := rCoord) hl5 hrc2, hly.trans hlx⟩ (hs := ?_)
            refine Sub.trans ?_ (coord_up (hly.trans hlx))
            (repeat (first | exact Sub.refl _ | exact Sub.nil _ | (apply sub_pick; (repeat (first | exact Has.here | apply Has.there)); skip) | apply Sub.drop))
          · skip
            refine any_1 12 (at_w 12 rfl (op_alloc fun b12 _ => ⟨(by first | exact Go.Sx.Heap.le.refl _ | exact hlx | exact hlx.trans hly | exact hly | exact hly.trans hlx | exact hl5 | exact hl5.trans hl6), (by (repeat (first | exact Sub.refl _ | exact Sub.nil _ | (apply sub_pick; (repeat (first | exact Has.here | apply Has.there)); skip) | apply Sub.drop))), ?_⟩))
            refine any_sta 14 rfl rfl rfl rfl (by simp) rfl ⟨(by (repeat (first | exact Sub.refl _ | exact Sub.nil _ | (apply sub_pick; (repeat (first | exact Has.here | apply Has.there)); skip) | apply Sub.drop))), ?_⟩
            refine any_sta 15 rfl rfl rfl rfl (by simp) rfl ⟨(by (repeat (first | exact Sub.refl _ | exact Sub.nil _ | (apply sub_pick; (repeat (first | exact Has.here | apply Has.there)); skip) | apply Sub.drop))), ?_⟩
            refine stepY 16 ?_
            refine any_rest rfl ?_
            refine walk ?_
            refine out_to hK2 (y, want, code, m2, (bd, cd), v2, b12, b13, H5) ⟨hbeg2, hs5, RdOk.mono (R := rCoord) hl5 hrc2, hly.trans hlx⟩ (hs := ?_)
            refine Sub.trans ?_ (coord_up (hly.trans hlx))
            (repeat (first | exact Sub.refl _ | exact Sub.nil _ | (apply sub_pick; (repeat (first | exact Has.here | apply Has.there)); skip) | apply Sub.drop))
        · skip
          refine any_2 6 13 (at_call 6 rfl rfl (rBegin2_spec (W0 := W0) (H := H3) (m := m) (RdOk.mono (R := rCoord) (hlx.trans hly) h00) hs3 (Nat.le_trans ownC_len (by omega)) k15 (by have := h.ct; unfold fits; omega) (by have := h.len; omega)) fun r4 H4 B hl4 ⟨c2, y, v2, code, want, m2, er, hbeg2, hrc2, eB⟩ => ?_) (at_w 13 rfl (op_alloc fun b13 _ => ⟨(by first | exact Go.Sx.Heap.le.refl _ | exact hlx | exact hlx.trans hly | exact hly | exact hly.trans hlx | exact hl5 | exact hl5.trans hl6), (by (repeat (first | exact Sub.refl _ | exact Sub.nil _ | (apply sub_pick; (repeat (first | exact Has.here | apply Has.there)); skip) | apply Sub.drop))), ?_⟩))
          · skip
            subst er eB
            refine ⟨(by (repeat (first | exact Sub.refl _ | exact Sub.nil _ | (apply sub_pick; (repeat (first | exact Has.here | apply Has.there)); skip) | apply Sub.drop))), ?_⟩
            refine any_freeze v2 fun H5 hl5 hs5 => ?_
            obtain ⟨⟨bd, cd⟩, rfl⟩ := CA_of hrc2
            have hlx := hl4.trans hl5
            refine stepY 7 ?_
            refine gny_ext 8 rfl rfl rfl rfl ?_
            refine gny_ext 9 rfl rfl rfl rfl ?_
            refine gny_ext 10 rfl rfl rfl rfl ?_
            refine gny_ext 11 rfl rfl rfl rfl ?_
            refine any_1 13 (at_w 13 rfl (op_alloc fun b13 _ => ⟨(by first | exact Go.Sx.Heap.le.refl _ | exact hlx | exact hlx.trans hly | exact hly | exact hly.trans hlx | exact hl5 | exact hl5.trans hl6), (by (repeat (first | exact Sub.refl _ | exact Sub.nil _ | (apply sub_pick; (repeat (first | exact Has.here | apply Has.there)); skip) | apply Sub.drop))), ?_⟩))
            refine any_sta 14 rfl rfl rfl rfl (by simp) rfl ⟨(by (repeat (first | exact Sub.refl _ | exact Sub.nil _ | (apply sub_pick; (repeat (first | exact Has.here | apply Has.there)); skip) | apply Sub.drop))), ?_⟩
            refine any_sta 15 rfl rfl rfl rfl (by simp) rfl ⟨(by (repeat (first | exact Sub.refl _ | exact Sub.nil _ | (apply sub_pick; (repeat (first | exact Has.here | apply Has.there)); skip) | apply Sub.drop))), ?_⟩
            refine stepY 16 ?_
            refine any_rest rfl ?_
            refine walk ?_
            refine out_to hK2 (y, want, code, m2, (bd, cd), v2, b12, b13, H5) ⟨hbeg2, hs5, RdOk.mono (R := rCoord) hl5 hrc2, hly.trans hlx⟩ (hs := ?_)
            refine Sub.trans ?_ (coord_up (hly.trans hlx))
            (repeat (first | exact Sub.refl _ | exact Sub.nil _ | (apply sub_pick; (repeat (first | exact Has.here | apply Has.there)); skip) | apply Sub.drop))
          · skip
            refine any_1 6 (at_call 6 rfl rfl (rBegin2_spec (W0 := W0) (H := H3) (m := m) (RdOk.mono (R := rCoord) (hlx.trans hly) h00) hs3 (Nat.le_trans ownC_len (by omega)) k15 (by have := h.ct; unfold fits; omega) (by have := h.len; omega)) fun r4 H4 B hl4 ⟨c2, y, v2, code, want, m2, er, hbeg2, hrc2, eB⟩ => ?_)
            subst er eB
            refine ⟨(by (repeat (first | exact Sub.refl _ | exact Sub.nil _ | (apply sub_pick; (repeat (first | exact Has.here | apply Has.there)); skip) | apply Sub.drop))), ?_⟩
            refine any_freeze v2 fun H5 hl5 hs5 => ?_
            obtain ⟨⟨bd, cd⟩, rfl⟩ := CA_of hrc2
            have hlx := hl4.trans hl5
            refine stepY 7 ?_
            refine gny_ext 8 rfl rfl rfl rfl ?_
            refine gny_ext 9 rfl rfl rfl rfl ?_
            refine gny_ext 10 rfl rfl rfl rfl ?_
            refine gny_ext 11 rfl rfl rfl rfl ?_
            refine any_sta 14 rfl rfl rfl rfl (by simp) rfl ⟨(by (repeat (first | exact Sub.refl _ | exact Sub.nil _ | (apply sub_pick; (repeat (first | exact Has.here | apply Has.there)); skip) | apply Sub.drop))), ?_⟩
            refine any_sta 15 rfl rfl rfl rfl (by simp) rfl ⟨(by (repeat (first | exact Sub.refl _ | exact Sub.nil _ | (apply sub_pick; (repeat (first | exact Has.here | apply Has.there)); skip) | apply Sub.drop))), ?_⟩
            refine stepY 16 ?_
            refine any_rest rfl ?_
            refine walk ?_
            refine out_to hK2 (y, want, code, m2, (bd, cd), v2, b12, b13, H5) ⟨hbeg2, hs5, RdOk.mono (R := rCoord) hl5 hrc2, hly.trans hlx⟩ (hs := ?_)
            refine Sub.trans ?_ (coord_up (hly.trans hlx))
            (repeat (first | exact Sub.refl _ | exact Sub.nil _ | (apply sub_pick; (repeat (first | exact Has.here | apply Has.there)); skip) | apply Sub.drop))
        · skip
          refine any_2 6 12 (at_call 6 rfl rfl (rBegin2_spec (W0 := W0) (H := H3) (m := m) (RdOk.mono (R := rCoord) (hlx.trans hly) h00) hs3 (Nat.le_trans ownC_len (by omega)) k15 (by have := h.ct; unfold fits; omega) (by have := h.len; omega)) fun r4 H4 B hl4 ⟨c2, y, v2, code, want, m2, er, hbeg2, hrc2, eB⟩ => ?_) (at_w 12 rfl (op_alloc fun b12 _ => ⟨(by first | exact Go.Sx.Heap.le.refl _ | exact hlx | exact hlx.trans hly | exact hly | exact hly.trans hlx | exact hl5 | exact hl5.trans hl6), (by (repeat (first | exact Sub.refl _ | exact Sub.nil _ | (apply sub_pick; (repeat (first | exact Has.here | apply Has.there)); skip) | apply Sub.drop))), ?_⟩))
          · skip
            subst er eB
            refine ⟨(by (repeat (first | exact Sub.refl _ | exact Sub.nil _ | (apply sub_pick; (repeat (first | exact Has.here | apply Has.there)); skip) | apply Sub.drop))), ?_⟩
            refine any_freeze v2 fun H5 hl5 hs5 => ?_
            obtain ⟨⟨bd, cd⟩, rfl⟩ := CA_of hrc2
            have hlx := hl4.trans hl5
            refine stepY 7 ?_
            refine gny_ext 8 rfl rfl rfl rfl ?_
            refine gny_ext 9 rfl rfl rfl rfl ?_
            refine gny_ext 10 rfl rfl rfl rfl ?_
            refine gny_ext 11 rfl rfl rfl rfl ?_
            refine any_1 12 (at_w 12 rfl (op_alloc fun b12 _ => ⟨(by first | exact Go.Sx.Heap.le.refl _ | exact hlx | exact hlx.trans hly | exact hly | exact hly.trans hlx | exact hl5 | exact hl5.trans hl6), (by (repeat (first | exact Sub.refl _ | exact Sub.nil _ | (apply sub_pick; (repeat (first | exact Has.here | apply Has.there)); skip) | apply Sub.drop))), ?_⟩))
            refine any_sta 14 rfl rfl rfl rfl (by simp) rfl ⟨(by (repeat (first | exact Sub.refl _ | exact Sub.nil _ | (apply sub_pick; (repeat (first | exact Has.here | apply Has.there)); skip) | apply Sub.drop))), ?_⟩
            refine any_sta 15 rfl rfl rfl rfl (by simp) rfl ⟨(by (repeat (first | exact Sub.refl _ | exact Sub.nil _ | (apply sub_pick; (repeat (first | exact Has.here | apply Has.there)); skip) | apply Sub.drop))), ?_⟩
            refine stepY 16 ?_
            refine any_rest rfl ?_
            refine walk ?_
            refine out_to hK2 (y, want, code, m2, (bd, cd), v2, b12, b13, H5) ⟨hbeg2, hs5, RdOk.mono (R := rCoord) hl5 hrc2, hly.trans hlx⟩ (hs := ?_)
            refine Sub.trans ?_ (coord_up (hly.trans hlx))
            (repeat (first | exact Sub.refl _ | exact Sub.nil _ | (apply sub_pick; (repeat (first | exact Has.here | apply Has.there)); skip) | apply Sub.drop))
          · skip
            refine any_1 6 (at_call 6 rfl rfl (rBegin2_spec (W0 := W0) (H := H3) (m := m) (RdOk.mono (R := rCoord) (hlx.trans hly) h00) hs3 (Nat.le_trans ownC_len (by omega)) k15 (by have := h.ct; unfold fits; omega) (by have := h.len; omega)) fun r4 H4 B hl4 ⟨c2, y, v2, code, want, m2, er, hbeg2, hrc2, eB⟩ => ?_)
            subst er eB
            refine ⟨(by (repeat (first | exact Sub.refl _ | exact Sub.nil _ | (apply sub_pick; (repeat (first | exact Has.here | apply Has.there)); skip) | apply Sub.drop))), ?_⟩
            refine any_freeze v2 fun H5 hl5 hs5 => ?_
            obtain ⟨⟨bd, cd⟩, rfl⟩ := CA_of hrc2
            have hlx := hl4.trans hl5
            refine stepY 7 ?_
            refine gny_ext 8 rfl rfl rfl rfl ?_
            refine gny_ext 9 rfl rfl rfl rfl ?_
            refine gny_ext 10 rfl rfl rfl rfl ?_
            refine gny_ext 11 rfl rfl rfl rfl ?_
            refine any_sta 14 rfl rfl rfl rfl (by simp) rfl ⟨(by (repeat (first | exact Sub.refl _ | exact Sub.nil _ | (apply sub_pick; (repeat (first | exact Has.here | apply Has.there)); skip) | apply Sub.drop))), ?_⟩
            refine any_sta 15 rfl rfl rfl rfl (by simp) rfl ⟨(by (repeat (first | exact Sub.refl _ | exact Sub.nil _ | (apply sub_pick; (repeat (first | exact Has.here | apply Has.there)); skip) | apply Sub.drop))), ?_⟩
            refine stepY 16 ?_
            refine any_rest rfl ?_
            refine walk ?_
            refine out_to hK2 (y, want, code, m2, (bd, cd), v2, b12, b13, H5) ⟨hbeg2, hs5, RdOk.mono (R := rCoord) hl5 hrc2, hly.trans hlx⟩ (hs := ?_)
            refine Sub.trans ?_ (coord_up (hly.trans hlx))
            (repeat (first | exact Sub.refl _ | exact Sub.nil _ | (apply sub_pick; (repeat (first | exact Has.here | apply Has.there)); skip) | apply Sub.drop))
      · skip
        refine any_2 3 13 (at_call 3 rfl rfl (ownC_spec (W0 := W0) (H := H1) (j5.mono hlx)) fun r1 H2 B hl2 eB => ?_) (at_w 13 rfl (op_alloc fun b13 _ => ⟨(by first | exact Go.Sx.Heap.le.refl _ | exact hlx | exact hlx.trans hly | exact hly | exact hly.trans hlx | exact hl5 | exact hl5.trans hl6), (by (repeat (first | exact Sub.refl _ | exact Sub.nil _ | (apply sub_pick; (repeat (first | exact Has.here | apply Has.there)); skip) | apply Sub.drop))), ?_⟩))
        · skip
          subst eB
          refine ⟨(by (repeat (first | exact Sub.refl _ | exact Sub.nil _ | (apply sub_pick; (repeat (first | exact Has.here | apply Has.there)); skip) | apply Sub.drop))), ?_⟩
          refine any_freeze r1 fun H3 hl3 hs3 => ?_
          have hly := hl2.trans hl3
          refine any_2 6 13 (at_call 6 rfl rfl (rBegin2_spec (W0 := W0) (H := H3) (m := m) (RdOk.mono (R := rCoord) (hlx.trans hly) h00) hs3 (Nat.le_trans ownC_len (by omega)) k15 (by have := h.ct; unfold fits; omega) (by have := h.len; omega)) fun r4 H4 B hl4 ⟨c2, y, v2, code, want, m2, er, hbeg2, hrc2, eB⟩ => ?_) (at_w 13 rfl (op_alloc fun b13 _ => ⟨(by first | exact Go.Sx.Heap.le.refl _ | exact hlx | exact hlx.trans hly | exact hly | exact hly.trans hlx | exact hl5 | exact hl5.trans hl6), (by (repeat (first | exact Sub.refl _ | exact Sub.nil _ | (apply sub_pick; (repeat (first | exact Has.here | apply Has.there)); skip) | apply Sub.drop))), ?_⟩))
          · skip
            subst er eB
            refine ⟨(by (repeat (first | exact Sub.refl _ | exact Sub.nil _ | (apply sub_pick; (repeat (first | exact Has.here | apply Has.there)); skip) | apply Sub.drop))), ?_⟩
            refine any_freeze v2 fun H5 hl5 hs5 => ?_
            obtain ⟨⟨bd, cd⟩, rfl⟩ := CA_of hrc2
            have hlx := hl4.trans hl5
            refine stepY 7 ?_
            refine gny_ext 8 rfl rfl rfl rfl ?_
            refine gny_ext 9 rfl rfl rfl rfl ?_
            refine gny_ext 10 rfl rfl rfl rfl ?_
            refine gny_ext 11 rfl rfl rfl rfl ?_
            refine any_1 13 (at_w 13 rfl (op_alloc fun b13 _ => ⟨(by first | exact Go.Sx.Heap.le.refl _ | exact hlx | exact hlx.trans hly | exact hly | exact hly.trans hlx | exact hl5 | exact hl5.trans hl6), (by (repeat (first | exact Sub.refl _ | exact Sub.nil _ | (apply sub_pick; (repeat (first | exact Has.here | apply Has.there)); skip) | apply Sub.drop))), ?_⟩))
            refine any_sta 14 rfl rfl rfl rfl (by simp) rfl ⟨(by (repeat (first | exact Sub.refl _ | exact Sub.nil _ | (apply sub_pick; (repeat (first | exact Has.here | apply Has.there)); skip) | apply Sub.drop))), ?_⟩
            refine any_sta 15 rfl rfl rfl rfl (by simp) rfl ⟨(by (repeat (first | exact Sub.refl _ | exact Sub.nil _ | (apply sub_pick; (repeat (first | exact Has.here | apply Has.there)); skip) | apply Sub.drop))), ?_⟩
            refine stepY 16 ?_
            refine any_rest rfl ?_
            refine walk ?_
            refine out_to hK2 (y, want, code, m2, (bd, cd), v2, b12, b13, H5) ⟨hbeg2, hs5, RdOk.mono (R := rCoord) hl5 hrc2, hly.trans hlx⟩ (hs := ?_)
            refine Sub.trans ?_ (coord_up (hly.trans hlx))
            (repeat (first | exact Sub.refl _ | exact Sub.nil _ | (apply sub_pick; (repeat (first | exact Has.here | apply Has.there)); skip) | apply Sub.drop))
          · skip
            refine any_1 6 (at_call 6 rfl rfl (rBegin2_spec (W0 := W0) (H := H3) (m := m) (RdOk.mono (R := rCoord) (hlx.trans hly) h00) hs3 (Nat.le_trans ownC_len (by omega)) k15 (by have := h.ct; unfold fits; omega) (by have := h.len; omega)) fun r4 H4 B hl4 ⟨c2, y, v2, code, want, m2, er, hbeg2, hrc2, eB⟩ => ?_)
            subst er eB
            refine ⟨(by (repeat (first | exact Sub.refl _ | exact Sub.nil _ | (apply sub_pick; (repeat (first | exact Has.here | apply Has.there)); skip) | apply Sub.drop))), ?_⟩
            refine any_freeze v2 fun H5 hl5 hs5 => ?_
            obtain ⟨⟨bd, cd⟩, rfl⟩ := CA_of hrc2
            have hlx := hl4.trans hl5
            refine stepY 7 ?_
            refine gny_ext 8 rfl rfl rfl rfl ?_
            refine gny_ext 9 rfl rfl rfl rfl ?_
            refine gny_ext 10 rfl rfl rfl rfl ?_
            refine gny_ext 11 rfl rfl rfl rfl ?_
            refine any_sta 14 rfl rfl rfl rfl (by simp) rfl ⟨(by (repeat (first | exact Sub.refl _ | exact Sub.nil _ | (apply sub_pick; (repeat (first | exact Has.here | apply Has.there)); skip) | apply Sub.drop))), ?_⟩
            refine any_sta 15 rfl rfl rfl rfl (by simp) rfl ⟨(by (repeat (first | exact Sub.refl _ | exact Sub.nil _ | (apply sub_pick; (repeat (first | exact Has.here | apply Has.there)); skip) | apply Sub.drop))), ?_⟩
            refine stepY 16 ?_
            refine any_rest rfl ?_
            refine walk ?_
            refine out_to hK2 (y, want, code, m2, (bd, cd), v2, b12, b13, H5) ⟨hbeg2, hs5, RdOk.mono (R := rCoord) hl5 hrc2, hly.trans hlx⟩ (hs := ?_)
            refine Sub.trans ?_ (coord_up (hly.trans hlx))
            (repeat (first | exact Sub.refl _ | exact Sub.nil _ | (apply sub_pick; (repeat (first | exact Has.here | apply Has.there)); skip) | apply Sub.drop))
        · skip
          refine any_1 3 (at_call 3 rfl rfl (ownC_spec (W0 := W0) (H := H1) (j5.mono hlx)) fun r1 H2 B hl2 eB => ?_)
          subst eB
          refine ⟨(by (repeat (first | exact Sub.refl _ | exact Sub.nil _ | (apply sub_pick; (repeat (first | exact Has.here | apply Has.there)); skip) | apply Sub.drop))), ?_⟩
          refine any_freeze r1 fun H3 hl3 hs3 => ?_
          have hly := hl2.trans hl3
          refine any_1 6 (at_call 6 rfl rfl (rBegin2_spec (W0 := W0) (H := H3) (m := m) (RdOk.mono (R := rCoord) (hlx.trans hly) h00) hs3 (Nat.le_trans ownC_len (by omega)) k15 (by have := h.ct; unfold fits; omega) (by have := h.len; omega)) fun r4 H4 B hl4 ⟨c2, y, v2, code, want, m2, er, hbeg2, hrc2, eB⟩ => ?_)
          subst er eB
          refine ⟨(by (repeat (first | exact Sub.refl _ | exact Sub.nil _ | (apply sub_pick; (repeat (first | exact Has.here | apply Has.there)); skip) | apply Sub.drop))), ?_⟩
          refine any_freeze v2 fun H5 hl5 hs5 => ?_
          obtain ⟨⟨bd, cd⟩, rfl⟩ := CA_of hrc2
          have hlx := hl4.trans hl5
          refine stepY 7 ?_
          refine gny_ext 8 rfl rfl rfl rfl ?_
          refine gny_ext 9 rfl rfl rfl rfl ?_
          refine gny_ext 10 rfl rfl rfl rfl ?_
          refine gny_ext 11 rfl rfl rfl rfl ?_
          refine any_sta 14 rfl rfl rfl rfl (by simp) rfl ⟨(by (repeat (first | exact Sub.refl _ | exact Sub.nil _ | (apply sub_pick; (repeat (first | exact Has.here | apply Has.there)); skip) | apply Sub.drop))), ?_⟩
          refine any_sta 15 rfl rfl rfl rfl (by simp) rfl ⟨(by (repeat (first | exact Sub.refl _ | exact Sub.nil _ | (apply sub_pick; (repeat (first | exact Has.here | apply Has.there)); skip) | apply Sub.drop))), ?_⟩
          refine stepY 16 ?_
          refine any_rest rfl ?_
          refine walk ?_
          refine out_to hK2 (y, want, code, m2, (bd, cd), v2, b12, b13, H5) ⟨hbeg2, hs5, RdOk.mono (R := rCoord) hl5 hrc2, hly.trans hlx⟩ (hs := ?_)
          refine Sub.trans ?_ (coord_up (hly.trans hlx))
          (repeat (first | exact Sub.refl _ | exact Sub.nil _ | (apply sub_pick; (repeat (first | exact Has.here | apply Has.there)); skip) | apply Sub.drop))
      · skip
        refine any_2 3 12 (at_call 3 rfl rfl (ownC_spec (W0 := W0) (H := H1) (j5.mono hlx)) fun r1 H2 B hl2 eB => ?_) (at_w 12 rfl (op_alloc fun b12 _ => ⟨(by first | exact Go.Sx.Heap.le.refl _ | exact hlx | exact hlx.trans hly | exact hly | exact hly.trans hlx | exact hl5 | exact hl5.trans hl6), (by (repeat (first | exact Sub.refl _ | exact Sub.nil _ | (apply sub_pick; (repeat (first | exact Has.here | apply Has.there)); skip) | apply Sub.drop))), ?_⟩))
        · skip
          subst eB
          refine ⟨(by (repeat (first | exact Sub.refl _ | exact Sub.nil _ | (apply sub_pick; (repeat (first | exact Has.here | apply Has.there)); skip) | apply Sub.drop))), ?_⟩
          refine any_freeze r1 fun H3 hl3 hs3 => ?_
          have hly := hl2.trans hl3
          refine any_2 6 12 (at_call 6 rfl rfl (rBegin2_spec (W0 := W0) (H := H3) (m := m) (RdOk.mono (R := rCoord) (hlx.trans hly) h00) hs3 (Nat.le_trans ownC_len (by omega)) k15 (by have := h.ct; unfold fits; omega) (by have := h.len; omega)) fun r4 H4 B hl4 ⟨c2, y, v2, code, want, m2, er, hbeg2, hrc2, eB⟩ => ?_) (at_w 12 rfl (op_alloc fun b12 _ => ⟨(by first | exact Go.Sx.Heap.le.refl _ | exact hlx | exact hlx.trans hly | exact hly | exact hly.trans hlx | exact hl5 | exact hl5.trans hl6), (by (repeat (first | exact Sub.refl _ | exact Sub.nil _ | (apply sub_pick; (repeat (first | exact Has.here | apply Has.there)); skip) | apply Sub.drop))), ?_⟩))
          · skip
            subst er eB
            refine ⟨(by (repeat (first | exact Sub.refl _ | exact Sub.nil _ | (apply sub_pick; (repeat (first | exact Has.here | apply Has.there)); skip) | apply Sub.drop))), ?_⟩
            refine any_freeze v2 fun H5 hl5 hs5 => ?_
            obtain ⟨⟨bd, cd⟩, rfl⟩ := CA_of hrc2
            have hlx := hl4.trans hl5
            refine stepY 7 ?_
            refine gny_ext 8 rfl rfl rfl rfl ?_
            refine gny_ext 9 rfl rfl rfl rfl ?_
            refine gny_ext 10 rfl rfl rfl rfl ?_
            refine gny_ext 11 rfl rfl rfl rfl ?_
            refine any_1 12 (at_w 12 rfl (op_alloc fun b12 _ => ⟨(by first | exact Go.Sx.Heap.le.refl _ | exact hlx | exact hlx.trans hly | exact hly | exact hly.trans hlx | exact hl5 | exact hl5.trans hl6), (by (repeat (first | exact Sub.refl _ | exact Sub.nil _ | (apply sub_pick; (repeat (first | exact Has.here | apply Has.there)); skip) | apply Sub.drop))), ?_⟩))
            refine any_sta 14 rfl rfl rfl rfl (by simp) rfl ⟨(by (repeat (first | exact Sub.refl _ | exact Sub.nil _ | (apply sub_pick; (repeat (first | exact Has.here | apply Has.there)); skip) | apply Sub.drop))), ?_⟩
            refine any_sta 15 rfl rfl rfl rfl (by simp) rfl ⟨(by (repeat (first | exact Sub.refl _ | exact Sub.nil _ | (apply sub_pick; (repeat (first | exact Has.here | apply Has.there)); skip) | apply Sub.drop))), ?_⟩
            refine stepY 16 ?_
            refine any_rest rfl ?_
            refine walk ?_
            refine out_to hK2 (y, want, code, m2, (bd, cd), v2, b12, b13, H5) ⟨hbeg2, hs5, RdOk.mono (R := rCoord) hl5 hrc2, hly.trans hlx⟩ (hs := ?_)
            refine Sub.trans ?_ (coord_up (hly.trans hlx))
            (repeat (first | exact Sub.refl _ | exact Sub.nil _ | (apply sub_pick; (repeat (first | exact Has.here | apply Has.there)); skip) | apply Sub.drop))
          · skip
            refine any_1 6 (at_call 6 rfl rfl (rBegin2_spec (W0 := W0) (H := H3) (m := m) (RdOk.mono (R := rCoord) (hlx.trans hly) h00) hs3 (Nat.le_trans ownC_len (by omega)) k15 (by have := h.ct; unfold fits; omega) (by have := h.len; omega)) fun r4 H4 B hl4 ⟨c2, y, v2, code, want, m2, er, hbeg2, hrc2, eB⟩ => ?_)
            subst er eB
            refine ⟨(by (repeat (first | exact Sub.refl _ | exact Sub.nil _ | (apply sub_pick; (repeat (first | exact Has.here | apply Has.there)); skip) | apply Sub.drop))), ?_⟩
            refine any_freeze v2 fun H5 hl5 hs5 => ?_
            obtain ⟨⟨bd, cd⟩, rfl⟩ := CA_of hrc2
            have hlx := hl4.trans hl5
            refine stepY 7 ?_
            refine gny_ext 8 rfl rfl rfl rfl ?_
            refine gny_ext 9 rfl rfl rfl rfl ?_
            refine gny_ext 10 rfl rfl rfl rfl ?_
            refine gny_ext 11 rfl rfl rfl rfl ?_
            refine any_sta 14 rfl rfl rfl rfl (by simp) rfl ⟨(by (repeat (first | exact Sub.refl _ | exact Sub.nil _ | (apply sub_pick; (repeat (first | exact Has.here | apply Has.there)); skip) | apply Sub.drop))), ?_⟩
            refine any_sta 15 rfl rfl rfl rfl (by simp) rfl ⟨(by (repeat (first | exact Sub.refl _ | exact Sub.nil _ | (apply sub_pick; (repeat (first | exact Has.here | apply Has.there)); skip) | apply Sub.drop))), ?_⟩
            refine stepY 16 ?_
            refine any_rest rfl ?_
            refine walk ?_
            refine out_to hK2 (y, want, code, m2, (bd, cd), v2, b12, b13, H5) ⟨hbeg2, hs5, RdOk.mono (R := rCoord) hl5 hrc2, hly.trans hlx⟩ (hs := ?_)
            refine Sub.trans ?_ (coord_up (hly.trans hlx))
            (repeat (first | exact Sub.refl _ | exact Sub.nil _ | (apply sub_pick; (repeat (first | exact Has.here | apply Has.there)); skip) | apply Sub.drop))
        · skip
          refine any_1 3 (at_call 3 rfl rfl (ownC_spec (W0 := W0) (H := H1) (j5.mono hlx)) fun r1 H2 B hl2 eB => ?_)
          subst eB
          refine ⟨(by (repeat (first | exact Sub.refl _ | exact Sub.nil _ | (apply sub_pick; (repeat (first | exact Has.here | apply Has.there)); skip) | apply Sub.drop))), ?_⟩
          refine any_freeze r1 fun H3 hl3 hs3 => ?_
          have hly := hl2.trans hl3
          refine any_1 6 (at_call 6 rfl rfl (rBegin2_spec (W0 := W0) (H := H3) (m := m) (RdOk.mono (R := rCoord) (hlx.trans hly) h00) hs3 (Nat.le_trans ownC_len (by omega)) k15 (by have := h.ct; unfold fits; omega) (by have := h.len; omega)) fun r4 H4 B hl4 ⟨c2, y, v2, code, want, m2, er, hbeg2, hrc2, eB⟩ => ?_)
          subst er eB
          refine ⟨(by (repeat (first | exact Sub.refl _ | exact Sub.nil _ | (apply sub_pick; (repeat (first | exact Has.here | apply Has.there)); skip) | apply Sub.drop))), ?_⟩
          refine any_freeze v2 fun H5 hl5 hs5 => ?_
          obtain ⟨⟨bd, cd⟩, rfl⟩ := CA_of hrc2
          have hlx := hl4.trans hl5
          refine stepY 7 ?_
          refine gny_ext 8 rfl rfl rfl rfl ?_
          refine gny_ext 9 rfl rfl rfl rfl ?_
          refine gny_ext 10 rfl rfl rfl rfl ?_
          refine gny_ext 11 rfl rfl rfl rfl ?_
          refine any_sta 14 rfl rfl rfl rfl (by simp) rfl ⟨(by (repeat (first | exact Sub.refl _ | exact Sub.nil _ | (apply sub_pick; (repeat (first | exact Has.here | apply Has.there)); skip) | apply Sub.drop))), ?_⟩
          refine any_sta 15 rfl rfl rfl rfl (by simp) rfl ⟨(by (repeat (first | exact Sub.refl _ | exact Sub.nil _ | (apply sub_pick; (repeat (first | exact Has.here | apply Has.there)); skip) | apply Sub.drop))), ?_⟩
          refine stepY 16 ?_
          refine any_rest rfl ?_
          refine walk ?_
          refine out_to hK2 (y, want, code, m2, (bd, cd), v2, b12, b13, H5) ⟨hbeg2, hs5, RdOk.mono (R := rCoord) hl5 hrc2, hly.trans hlx⟩ (hs := ?_)
          refine Sub.trans ?_ (coord_up (hly.trans hlx))
          (repeat (first | exact Sub.refl _ | exact Sub.nil _ | (apply sub_pick; (repeat (first | exact Has.here | apply Has.there)); skip) | apply Sub.drop))
    simp only at hbeg2 hwant hrc2 hl5
    dsimp only
    obtain ⟨rfl, rfl, rfl, hpi⟩ := h.begin (by omega) ownC_len k15 hbeg hbeg2
    have hxx : ¬ ¬ x = x := fun hh => hh rfl
    obtain ⟨x1, x2, x3⟩ := x
    refine walk ?_
    dsimp only
    rw [decide_eq_true (p := (⟨x1, x2, x3⟩ : Txn) = ⟨x1, x2, x3⟩) rfl]
    refine walk ?_
    refine ops_pcall rfl rfl (sameAll_spec (hout.mono hl5).1 hwant.1) ?_
    refine walk ?_
    refine out_to hK (p, s2, m2, (bd, cd), H5) ⟨⟨hpi, beg_node hbeg⟩, hrc2, hlx.trans hl5⟩ (hs := ?_)
    (repeat (first | exact Sub.refl _ | exact Sub.nil _ | (apply sub_pick; (repeat (first | exact Has.here | apply Has.there)); skip) | apply Sub.drop))
  refine walk ?_
  refine ex_if rfl (fun hq2 => ?_) (fun hq2 => ?_)
  · refine walk ?_
    refine ops_call rfl rfl (step_spec (W0 := W0) (H := H) (p := p) (n := k) (s := s) h.I (by omega) k15 (cap8 h)) fun r1 H1 B hl1 ⟨v1, v2, er, eB⟩ => ?_
    subst er eB
    refine ops_freeze v1 fun H2 hl2 hs1 => ?_
    refine ops_freeze v2 fun H3 hl3 hs2 => ?_
    have hlx := hl1.trans (hl2.trans hl3)
    refine walk ?_
    refine ops_call rfl rfl (rStepC_spec (W0 := W0) (H := H3) (m := m) (now := mv.Now) (RdOk.mono (R := rCoord) hlx h00) k15 h.txs (by have := h.len; omega)) fun r4 H4 B hl4 ⟨c2, v3, v4, er, hrc2, eB⟩ => ?_
    subst er eB
    obtain ⟨g1, g2, hpi⟩ := h.step (now := mv.Now)
    rw [g1, g2]
    refine ops_freeze v3 fun H5 hl5 hs3 => ?_
    refine ops_freeze v4 fun H6 hl6 hs4 => ?_
    obtain ⟨⟨bd, cd⟩, rfl⟩ := CA_of hrc2
    refine walk ?_
    refine ops_alloc rfl fun p19 _ => ?_
    refine walk ?_
    refine ops_pcall rfl rfl (sameAll_spec ((hs1.mono (hl3.trans (hl4.trans (hl5.trans hl6)))).1) (hs3.mono hl6).1) ?_
    refine walk ?_
    refine ops_pcall rfl rfl (outcomes_spec ((hs2.mono (hl4.trans (hl5.trans hl6))).1) hs4.1) ?_
    refine walk ?_
    refine out_to hK (p, stepS s mv.Now, { m with Txns := cutsR mv.Now m.Txns m.Txns }, (bd, cd), H6) ⟨⟨hpi, rfl⟩, RdOk.mono (R := rCoord) (hl5.trans hl6) hrc2, hlx.trans (hl4.trans (hl5.trans hl6))⟩ (hs := ?_)
    refine Sub.trans ?_ (coord_up (hl2.trans (hl3.trans (hl4.trans (hl5.trans hl6)))))
    (repeat (first | exact Sub.refl _ | exact Sub.nil _ | (apply sub_pick; (repeat (first | exact Has.here | apply Has.there)); skip) | apply Sub.drop))
  refine walk ?_
  refine ex_if rfl (fun hq3 => ?_) (fun hq3 => ?_)
  · have hlf : fits (m.Life + 1) := by rw [h.r.life]; have := h.lf; unfold fits; omega
    have hlf' : fits (s.life + 1) := by rw [← h.r.life]; exact hlf
    have hfb : -9223372036854775808 ≤ m.Life + 1 ∧ m.Life + 1 ≤ 9223372036854775807 := by unfold fits at hlf; omega
    have hnd := h.r.node
    have hli := h.r.life
    obtain ⟨ho, hok, hnod, hpi⟩ := h.load (by omega)
    refine walk ?_
    refine ex_any 12 [row p4 35 (CA (b1, c1) m)] ?_
    refine stepY 0 ?_; refine stepY 1 ?_; refine stepY 2 ?_; refine stepY 3 ?_; refine stepY 4 ?_; refine stepY 5 ?_
    refine gny_call 6 rfl rfl rfl (open_spec (W0 := W0) (H := H) (p := p) (n := k) (s := s) h.I (by omega) (cap7 h)) fun r1 H1 B hl1 eB => ?_
    subst eB
    refine ⟨(by (repeat (first | exact Sub.refl _ | exact Sub.nil _ | (apply sub_pick; (repeat (first | exact Has.here | apply Has.there)); skip) | apply Sub.drop))), ?_⟩
    refine any_freeze r1 fun H2 hl2 hs1 => ?_
    refine gny_call 7 rfl rfl rfl (cload_spec (W0 := W0) (H := H2) (node := m.Node) (life := m.Life + 1) (by rw [hnd]; exact h.I.fn) hlf hs1 (Nat.le_trans openL_len (Nat.le_trans h.I.ln (by omega)))) fun r3 H3 B hl3 hq => ?_
    rcases hq with ⟨⟨q, hq, hbad⟩, _⟩ | ⟨_, hbad, _⟩ | ⟨_, _, p2, er, eB⟩
    · exact absurd (by rw [hnd, hli]; exact hok q hq) hbad
    · exact absurd hnod hbad
    subst er eB
    have hlx := hl1.trans (hl2.trans hl3)
    refine ⟨(by (repeat (first | exact Sub.refl _ | exact Sub.nil _ | (apply sub_pick; (repeat (first | exact Has.here | apply Has.there)); skip) | apply Sub.drop))), ?_⟩
    refine stepY 8 ?_
    refine gny_ext 9 rfl rfl rfl rfl ?_
    refine gny_ext 10 rfl rfl rfl rfl ?_
    refine stepY 11 ?_
    refine any_rest rfl ?_
    refine walk ?_
    refine ex_cut0 (σ := (Option Addr × Nat) × Nat × Heap) (fun u => rCoord u.2.2 (CA u.1 ⟨s.node, s.life + 1, 0, loadRs (openL s)⟩) ⟨s.node, s.life + 1, 0, loadRs (openL s)⟩ ∧ H3.le u.2.2) (fun u => [(0, .pointer (some ⟨p, 0, none⟩)), (4, .pointer (some ⟨p4, 0, none⟩)), (7, .pointer (some ⟨p7, 0, none⟩)), (9, .bool true), (22, .pointer (some ⟨p2, 0, none⟩)), (23, I 0), (24, .pointer (some ⟨u.2.1, 0, none⟩)), (25, I 0)]) (fun u => u.2.2) (fun u => coordO u.2.2 p2 ⟨s.node, s.life + 1, 0, loadTs (openL s) []⟩ :: row p4 35 (CA (b1, c1) m) :: row u.2.1 35 (CA u.1 ⟨s.node, s.life + 1, 0, loadRs (openL s)⟩) :: row p7 35 [I 0, I 0, I 0, nilS] :: R) (fun K2 hK2 => ?_) (fun ⟨⟨bd, cd⟩, p24, H5⟩ ⟨hrc2, hl5⟩ => ?_)
    · refine walk ?_
      refine ex_any 13 [row p4 35 (CA (b1, c1) m)] ?_
      refine stepY 0 ?_; refine stepY 1 ?_; refine stepY 2 ?_; refine stepY 3 ?_; refine stepY 4 ?_; refine stepY 5 ?_
      refine any_2 6 11 (at_call 6 rfl rfl (rOpenC_spec (W0 := W0) (H := H3) (m := m) (RdOk.mono (R := rCoord) hlx h00) (by have := h.len; omega)) fun r4 H4 B hl4 ⟨eB, eH⟩ => ?_) (at_w 11 rfl (op_alloc fun b11 _ => ⟨(by first | exact Go.Sx.Heap.le.refl _ | exact hlx | exact hlx.trans hly | exact hly | exact hly.trans hlx | exact hl5 | exact hl5.trans hl6), (by (repeat (first | exact Sub.refl _ | exact Sub.nil _ | (apply sub_pick; (repeat (first | exact Has.here | apply Has.there)); skip) | apply Sub.drop))), ?_⟩))
      · skip
        subst eB eH
        refine ⟨(by (repeat (first | exact Sub.refl _ | exact Sub.nil _ | (apply sub_pick; (repeat (first | exact Has.here | apply Has.there)); skip) | apply Sub.drop))), ?_⟩
        refine any_freeze r4 fun H5 hl5 hs5 => ?_
        rw [ho] at hs5
        refine any_2 7 11 (at_call 7 rfl rfl (rLoadC_spec (W0 := W0) (H := H5) (node := m.Node) (life := m.Life + 1) (by rw [hnd]; exact h.I.fn) hlf hs5 (Nat.le_trans openL_len (Nat.le_trans h.I.ln (by omega)))) fun r6 H6 B hl6 ⟨eB, hR⟩ => ?_) (at_w 11 rfl (op_alloc fun b11 _ => ⟨(by first | exact Go.Sx.Heap.le.refl _ | exact hlx | exact hlx.trans hly | exact hly | exact hly.trans hlx | exact hl5 | exact hl5.trans hl6), (by (repeat (first | exact Sub.refl _ | exact Sub.nil _ | (apply sub_pick; (repeat (first | exact Has.here | apply Has.there)); skip) | apply Sub.drop))), ?_⟩))
        · skip
          subst eB
          rcases hR with ⟨⟨q, hq, hbad⟩, _⟩ | ⟨_, hbad, _⟩ | ⟨_, _, c2, er, hrc2⟩
          · exact absurd (by rw [hnd, hli]; exact hok q hq) hbad
          · exact absurd hnod hbad
          subst er
          refine ⟨(by (repeat (first | exact Sub.refl _ | exact Sub.nil _ | (apply sub_pick; (repeat (first | exact Has.here | apply Has.there)); skip) | apply Sub.drop))), ?_⟩
          rw [hnd, hli] at hrc2
          obtain ⟨⟨bd, cd⟩, rfl⟩ := CA_of hrc2
          refine stepY 8 ?_
          refine gny_ext 9 rfl rfl rfl rfl ?_
          refine gny_ext 10 rfl rfl rfl rfl ?_
          refine any_1 11 (at_w 11 rfl (op_alloc fun b11 _ => ⟨(by first | exact Go.Sx.Heap.le.refl _ | exact hlx | exact hlx.trans hly | exact hly | exact hly.trans hlx | exact hl5 | exact hl5.trans hl6), (by (repeat (first | exact Sub.refl _ | exact Sub.nil _ | (apply sub_pick; (repeat (first | exact Has.here | apply Has.there)); skip) | apply Sub.drop))), ?_⟩))
          refine any_sta 12 rfl rfl rfl rfl (by simp) rfl ⟨(by (repeat (first | exact Sub.refl _ | exact Sub.nil _ | (apply sub_pick; (repeat (first | exact Has.here | apply Has.there)); skip) | apply Sub.drop))), ?_⟩
          refine any_rest rfl ?_
          refine walk ?_
          refine out_to hK2 ((bd, cd), b11, H6) ⟨hrc2, hl5.trans hl6⟩ (hs := ?_)
          rw [hnd, hli]
          refine Sub.trans ?_ (coord_up (hl5.trans hl6))
          (repeat (first | exact Sub.refl _ | exact Sub.nil _ | (apply sub_pick; (repeat (first | exact Has.here | apply Has.there)); skip) | apply Sub.drop))
        · skip
          refine any_1 7 (at_call 7 rfl rfl (rLoadC_spec (W0 := W0) (H := H5) (node := m.Node) (life := m.Life + 1) (by rw [hnd]; exact h.I.fn) hlf hs5 (Nat.le_trans openL_len (Nat.le_trans h.I.ln (by omega)))) fun r6 H6 B hl6 ⟨eB, hR⟩ => ?_)
          subst eB
          rcases hR with ⟨⟨q, hq, hbad⟩, _⟩ | ⟨_, hbad, _⟩ | ⟨_, _, c2, er, hrc2⟩
          · exact absurd (by rw [hnd, hli]; exact hok q hq) hbad
          · exact absurd hnod hbad
          subst er
          refine ⟨(by (repeat (first | exact Sub.refl _ | exact Sub.nil _ | (apply sub_pick; (repeat (first | exact Has.here | apply Has.there)); skip) | apply Sub.drop))), ?_⟩
          rw [hnd, hli] at hrc2
          obtain ⟨⟨bd, cd⟩, rfl⟩ := CA_of hrc2
          refine stepY 8 ?_
          refine gny_ext 9 rfl rfl rfl rfl ?_
          refine gny_ext 10 rfl rfl rfl rfl ?_
          refine any_sta 12 rfl rfl rfl rfl (by simp) rfl ⟨(by (repeat (first | exact Sub.refl _ | exact Sub.nil _ | (apply sub_pick; (repeat (first | exact Has.here | apply Has.there)); skip) | apply Sub.drop))), ?_⟩
          refine any_rest rfl ?_
          refine walk ?_
          refine out_to hK2 ((bd, cd), b11, H6) ⟨hrc2, hl5.trans hl6⟩ (hs := ?_)
          rw [hnd, hli]
          refine Sub.trans ?_ (coord_up (hl5.trans hl6))
          (repeat (first | exact Sub.refl _ | exact Sub.nil _ | (apply sub_pick; (repeat (first | exact Has.here | apply Has.there)); skip) | apply Sub.drop))
      · skip
        refine any_1 6 (at_call 6 rfl rfl (rOpenC_spec (W0 := W0) (H := H3) (m := m) (RdOk.mono (R := rCoord) hlx h00) (by have := h.len; omega)) fun r4 H4 B hl4 ⟨eB, eH⟩ => ?_)
        subst eB eH
        refine ⟨(by (repeat (first | exact Sub.refl _ | exact Sub.nil _ | (apply sub_pick; (repeat (first | exact Has.here | apply Has.there)); skip) | apply Sub.drop))), ?_⟩
        refine any_freeze r4 fun H5 hl5 hs5 => ?_
        rw [ho] at hs5
        refine any_1 7 (at_call 7 rfl rfl (rLoadC_spec (W0 := W0) (H := H5) (node := m.Node) (life := m.Life + 1) (by rw [hnd]; exact h.I.fn) hlf hs5 (Nat.le_trans openL_len (Nat.le_trans h.I.ln (by omega)))) fun r6 H6 B hl6 ⟨eB, hR⟩ => ?_)
        subst eB
        rcases hR with ⟨⟨q, hq, hbad⟩, _⟩ | ⟨_, hbad, _⟩ | ⟨_, _, c2, er, hrc2⟩
        · exact absurd (by rw [hnd, hli]; exact hok q hq) hbad
        · exact absurd hnod hbad
        subst er
        refine ⟨(by (repeat (first | exact Sub.refl _ | exact Sub.nil _ | (apply sub_pick; (repeat (first | exact Has.here | apply Has.there)); skip) | apply Sub.drop))), ?_⟩
        rw [hnd, hli] at hrc2
        obtain ⟨⟨bd, cd⟩, rfl⟩ := CA_of hrc2
        refine stepY 8 ?_
        refine gny_ext 9 rfl rfl rfl rfl ?_
        refine gny_ext 10 rfl rfl rfl rfl ?_
        refine any_sta 12 rfl rfl rfl rfl (by simp) rfl ⟨(by (repeat (first | exact Sub.refl _ | exact Sub.nil _ | (apply sub_pick; (repeat (first | exact Has.here | apply Has.there)); skip) | apply Sub.drop))), ?_⟩
        refine any_rest rfl ?_
        refine walk ?_
        refine out_to hK2 ((bd, cd), b11, H6) ⟨hrc2, hl5.trans hl6⟩ (hs := ?_)
        rw [hnd, hli]
        refine Sub.trans ?_ (coord_up (hl5.trans hl6))
        (repeat (first | exact Sub.refl _ | exact Sub.nil _ | (apply sub_pick; (repeat (first | exact Has.here | apply Has.there)); skip) | apply Sub.drop))
    simp only at hrc2 hl5
    dsimp only
    refine walk ?_
    refine ex_any 4 [row p24 35 (CA (bd, cd) ⟨s.node, s.life + 1, 0, loadRs (openL s)⟩)] ?_
    refine stepY 0 ?_; refine stepY 1 ?_; refine stepY 2 ?_
    refine any_sta 3 rfl rfl rfl rfl (by simp) rfl ⟨(by (repeat (first | exact Sub.refl _ | exact Sub.nil _ | (apply sub_pick; (repeat (first | exact Has.here | apply Has.there)); skip) | apply Sub.drop))), ?_⟩
    refine any_rest rfl ?_
    refine walk ?_
    refine out_to hK (p2, ⟨s.node, s.life + 1, 0, loadTs (openL s) []⟩, ⟨s.node, s.life + 1, 0, loadRs (openL s)⟩, (bd, cd), H5) ⟨⟨hpi, rfl⟩, hrc2, hlx.trans hl5⟩ (hs := ?_)
    (repeat (first | exact Sub.refl _ | exact Sub.nil _ | (apply sub_pick; (repeat (first | exact Has.here | apply Has.there)); skip) | apply Sub.drop))
  refine walk ?_
  refine ops_call rfl rfl (refOwnF_spec (W0 := W0) (H := H) (m := mv.M) hmm) fun r1 H1 B hl1 ⟨cs1, er, hcs1, eB⟩ => ?_
  subst er eB
  refine walk ?_
  refine ops_call rfl rfl (ct_up (chear_spec (W0 := W0) (H := H1) (p := p) (n := k) (s := s) (m := mv.M) h.I (by omega) (cap8 h) hcs1) (fun _ hc => coord_mono hl1 hc)) fun r2 H2 B hl2 ⟨v1, v2, v3, er, eB⟩ => ?_
  subst er eB
  refine ops_freeze v1 fun H3 hl3 hs1 => ?_
  refine ops_freeze v2 fun H4 hl4 hs2 => ?_
  refine ops_freeze v3 fun H5 hl5 hs3 => ?_
  have hlx := hl1.trans (hl2.trans (hl3.trans (hl4.trans hl5)))
  refine walk ?_
  refine ops_call rfl rfl (rHearC_spec (W0 := W0) (H := H5) (m := m) (g := mv.M) (RdOk.mono (R := rCoord) hlx h00) (RdOk.mono (R := rMessage) hlx hmm) h.txs h.r.rise (by have := h.len; omega)) fun r6 H6 B hl6 ⟨c2, m2, w1, w2, w3, out, rec, oc, er, hrc2, hw1, hw2, hw3, hR, eB⟩ => ?_
  subst er eB
  obtain ⟨e1, e2, e3, hpi⟩ := h.hear hR
  rw [e1] at hw1
  rw [e2] at hw2
  rw [e3] at hw3
  obtain ⟨⟨bd, cd⟩, rfl⟩ := CA_of hrc2
  refine walk ?_
  refine ops_alloc rfl fun p29 _ => ?_
  refine walk ?_
  refine ops_pcall rfl rfl (sameAll_spec ((hs1.mono (hl4.trans (hl5.trans hl6))).1) hw1.1) ?_
  refine walk ?_
  refine ops_pcall rfl rfl (sameRecs_spec ((hs2.mono (hl5.trans hl6)).1) hw2.1) ?_
  refine walk ?_
  refine ops_pcall rfl rfl (outcomes_spec ((hs3.mono hl6).1) hw3.1) ?_
  refine walk ?_
  refine out_to hK (p, (cHear s mv.M).s, m2, (bd, cd), H6) ⟨⟨hpi, hear_node⟩, hrc2, hlx.trans hl6⟩ (hs := ?_)
  refine Sub.trans ?_ (coord_up (hl3.trans (hl4.trans (hl5.trans hl6))))
  (repeat (first | exact Sub.refl _ | exact Sub.nil _ | (apply sub_pick; (repeat (first | exact Has.here | apply Has.there)); skip) | apply Sub.drop))
end Go.Proofs.Ythoafjeampbkeaa
