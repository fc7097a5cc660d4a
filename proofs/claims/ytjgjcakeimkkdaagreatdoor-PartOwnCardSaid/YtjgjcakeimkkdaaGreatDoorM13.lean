/- Is all that is told the document's? One call. A participant behind a script; the document's example. -/
import Derived.Test.YtjgjcakeimkkdaaGreatDoorM11
import Derived.Test.YtjgjcakeimkkdaaGreatDoorM12
import Derived.Test.YtjgjcakeimkkdaaGreatDoorM10
import Derived.Test.YtjgjcakeimkkdaaGreatDoorM6
import Derived.Test.YtjgjcakeimkkdaaGreatDoorM5
set_option linter.unusedVariables false
set_option linter.unusedSimpArgs false
namespace Go.Proofs.YtjgjcakeimkkdaaGreatDoor
open Go Go.Sx Go.Proofs
set_option maxHeartbeats 8000000 in
set_option maxRecDepth 20000 in
theorem ptells_spec {W0 : World} {H : Heap} {p : Nat} {s : PS} {m : Part} {c : List Value} {n : Nat} (I0 : PInv n s) (hn : n ≤ 500) (r : PRel s m) (h0 : rPart H c m) :
    Ct Tryz.prog 22 #[.pointer (some ⟨p, 0, none⟩), .agg c.toArray] W0 H [partO H p s] (fun v H' B => v = .bool true ∧ B = [partO H' p s]) := by
  refine Ct.go (vs := [.pointer (some ⟨p, 0, none⟩), .agg c.toArray]) fun R => ?_
  obtain ⟨s1, s2, s3, rfl, hsh, hs1, hs2, hs3⟩ := h0
  obtain ⟨b1, c1, rfl, hc1, hd1⟩ := hs1.1.shape
  obtain ⟨b2, c2, rfl, hc2, hd2⟩ := hs2.1.shape
  obtain ⟨b3, c3, rfl, hc3, hd3⟩ := hs3.1.shape
  have hok := I0.t.ok (by omega)
  have e1 := r.r.held I0.t
  have e2 := r.r.prep I0.t
  have e3 := r.dones I0
  have el : (doneL s).length = m.Done.length := by rw [← e3, List.length_map]
  refine walk ?_
  refine ops_box rfl rfl fun p3 _ => ?_
  refine walk ?_
  refine ops_call rfl rfl (done_spec (W0 := W0) (H := H) (p := p) I0 (by omega)) fun r1 H1 B hl1 eB => ?_
  subst eB
  refine ops_freeze r1 fun H2 hl2 hsd => ?_
  obtain ⟨bd, cd, rfl, hcd, hdd⟩ := hsd.1.shape
  have hs3' := hs3.mono (hl1.trans hl2)
  generalize hL : doneL s = L at *
  have hbad : ¬ ¬ ((L.length : Int) = (m.Done.length : Int)) := by rw [el]; exact fun h => h rfl
  refine walk ?_
  refine ex_loop (σ := Nat) (fun k => k ≤ L.length) (fun k => [(0, .pointer (some ⟨p, 0, none⟩)), (3, .pointer (some ⟨p3, 0, none⟩)), (5, .slice bd L.length cd), (16, I L.length), (17, I k)]) (fun _ => H2) (fun _ => partO H1 p s :: row p3 72 [I m.Shard, .slice b1 m.T.Held.length c1, .slice b2 m.T.Prep.length c2, .slice b3 m.Done.length c3] :: R) (fun k => L.length - k) 0 (Nat.zero_le _) fun k hk0 K hL => ?_
  refine walk ?_
  refine ex_if rfl (fun hk => ?_) (fun hk => ?_)
  · have hk1 : k < L.length := by omega
    have hk2 : k < m.Done.length := by omega
    have he : m.Done[k] = toR L[k] := by
      have : ∀ (l : List RD) (h : k < l.length), l = L.map toR → l[k] = toR L[k] := fun l h e => by subst e; simp
      exact this _ hk2 e3.symm
    obtain ⟨⟨ya, yb, yc⟩, yu, hy⟩ : ∃ x u, L[k] = ⟨x, u⟩ := ⟨_, _, rfl⟩
    rw [hy] at he
    refine walk ?_
    refine ops_ixp rfl rfl hsd.1 hk1 fun b o cc hr hc => ?_
    obtain ⟨rfl, hc⟩ := hc
    rw [hy] at hr
    change HRow H2 b o [I ya, I yb, I yc, I yu] at hr
    have hrt : HRow H2 b (o + 0) [I ya, I yb, I yc] := HRow.take (k := 3) hr
    refine walk ?_
    refine ops_ldNH rfl rfl hrt rfl ?_
    refine walk ?_
    refine ops_ixp rfl rfl hs3'.1 hk2 fun bq oq cc2 hr2 hc2 => ?_
    obtain ⟨rfl, hc2⟩ := hc2
    rw [he] at hr2
    change HRow H2 bq oq [I ya, I yb, I yc, I yu] at hr2
    have hrt2 : HRow H2 bq (oq + 0) [I ya, I yb, I yc] := HRow.take (k := 3) hr2
    refine walk ?_
    refine ops_ldNH rfl rfl hrt2 rfl ?_
    have hne : ¬ ¬ (ya = ya ∧ yb = yb ∧ yc = yc) := fun h => h ⟨rfl, rfl, rfl⟩
    refine walk ?_
    refine ops_ixp rfl rfl hsd.1 hk1 fun b5 o5 cc5 hr5 hc5 => ?_
    obtain ⟨rfl, hc5⟩ := hc5
    rw [hy] at hr5
    change HRow H2 b5 o5 [I ya, I yb, I yc, I yu] at hr5
    refine walk ?_
    refine ops_ixp rfl rfl hs3'.1 hk2 fun b6 o6 cc6 hr6 hc6 => ?_
    obtain ⟨rfl, hc6⟩ := hc6
    rw [he] at hr6
    change HRow H2 b6 o6 [I ya, I yb, I yc, I yu] at hr6
    refine walk ?_
    exact out_next hL (k + 1) (by omega)
  · clear hL
    refine walk ?_
    refine ex_open (A := partO H1 p s) (σ := Nat × Nat) (B := fun a => [pRow p a.1 (PS.sh s) a.2, tabO H1 a.1 (PS.t s), dMap H1 a.2 s]) (p := fun _ => True) (by repeat (first | exact Has.here | apply Has.there)) (fun h ⟨tp, db, hbig⟩ => ⟨(tp, db), trivial, hbig⟩) fun ⟨tp, db⟩ _ => ?_
    dsimp only
    refine ex_L (L' := tabO H2 tp s.t :: pRow p tp s.sh db :: dMap H1 db s :: row p3 72 [I m.Shard, .slice b1 m.T.Held.length c1, .slice b2 m.T.Prep.length c2, .slice b3 m.Done.length c3] :: R) ?_ ?_
    · refine Sub.trans ?_ (tab_up hl2)
      (repeat (first | exact Sub.refl _ | exact Sub.nil _ | (apply sub_pick; (repeat (first | exact Has.here | apply Has.there)); skip) | apply Sub.drop))
    refine ex_any 20 [pRow p tp s.sh db, row p3 72 [I m.Shard, .slice b1 m.T.Held.length c1, .slice b2 m.T.Prep.length c2, .slice b3 m.Done.length c3]] ?_
    refine stepY 0 ?_; refine stepY 1 ?_; refine stepY 2 ?_; refine stepY 3 ?_; refine stepY 5 ?_; refine stepY 6 ?_; refine stepY 7 ?_
    refine gny_call 4 rfl rfl rfl (holds_spec (W0 := W0) (H := H2) (p := tp) hok) fun r3 H3 B hl3 eB => ?_
    subst eB
    refine ⟨(by (repeat (first | exact Sub.refl _ | exact Sub.nil _ | (apply sub_pick; (repeat (first | exact Has.here | apply Has.there)); skip) | apply Sub.drop))), ?_⟩
    rw [e1]
    refine any_freeze r3 fun H4 hl4 hsl => ?_
    refine gny_pcall 8 rfl rfl rfl (sameHolds_spec hsl.1 (hs1.mono (hl1.trans (hl2.trans (hl3.trans hl4)))).1) ?_
    refine stepY 9 ?_; refine stepY 10 ?_; refine stepY 11 ?_; refine stepY 12 ?_; refine stepY 13 ?_; refine stepY 15 ?_; refine stepY 16 ?_; refine stepY 17 ?_
    refine any_L (L' := tabO H4 tp s.t :: pRow p tp s.sh db :: dMap H1 db s :: row p3 72 [I m.Shard, .slice b1 m.T.Held.length c1, .slice b2 m.T.Prep.length c2, .slice b3 m.Done.length c3] :: R) ?_ ?_
    · refine Sub.trans ?_ (tab_up hl4)
      (repeat (first | exact Sub.refl _ | exact Sub.nil _ | (apply sub_pick; (repeat (first | exact Has.here | apply Has.there)); skip) | apply Sub.drop))
    refine gny_call 14 rfl rfl rfl (prepared_spec (W0 := W0) (H := H4) (p := tp) hok) fun r5 H5 B hl5 eB => ?_
    subst eB
    refine ⟨(by (repeat (first | exact Sub.refl _ | exact Sub.nil _ | (apply sub_pick; (repeat (first | exact Has.here | apply Has.there)); skip) | apply Sub.drop))), ?_⟩
    rw [e2]
    refine any_freeze r5 fun H6 hl6 hsp => ?_
    refine gny_pcall 18 rfl rfl rfl (sameRecs_spec hsp.1 (hs2.mono (hl1.trans (hl2.trans (hl3.trans (hl4.trans (hl5.trans hl6)))))).1) ?_
    refine stepY 19 ?_
    refine any_rest rfl ?_
    refine walk ?_
    refine finB [partO H6 p s] ?_ (hs := ?_)
    · exact ⟨rfl, rfl⟩
    · refine Sub.trans ?_ (part_shut (H1 := H5) (H2 := H1) (tp := tp) (db := db) hl6 (hl2.trans (hl3.trans (hl4.trans (hl5.trans hl6)))))
      (repeat (first | exact Sub.refl _ | exact Sub.nil _ | (apply sub_pick; (repeat (first | exact Has.here | apply Has.there)); skip) | apply Sub.drop))
end Go.Proofs.YtjgjcakeimkkdaaGreatDoor

set_option linter.unusedVariables false
set_option linter.unusedSimpArgs false
namespace Go.Proofs.YtjgjcakeimkkdaaGreatDoor
open Go Go.Sx Go.Proofs
theorem PInv.asks {n : Nat} {s : PS} (h : PInv n s) : ∀ q ∈ prepL s.t, okX q.Txn.k := fun q hq => (h.t.ww _ _ (h.t.recs hq)).2
theorem hearS_sh {s : PS} {m : Message} {cs : List Value} : (hearS s m cs).sh = s.sh := by
  unfold hearS
  split
  · rfl
  split
  · split
    · rfl
    split
    · rfl
    split <;> rfl
  split
  · split <;> rfl
  · rfl
set_option maxHeartbeats 32000000 in
set_option maxRecDepth 20000 in
theorem pplay_spec {W0 : World} {H : Heap} {p : Nat} {s : PS} {m : Part} {c co : List Value} {o : Op} {n : Nat} (hP : PkH H) (I0 : PInv n s) (hn : n ≤ 300) (r : PRel s m) (h0 : rPart H c m) (ho : rOp H co o) :
    Ct Tryz.prog 40 #[.pointer (some ⟨p, 0, none⟩), .agg c.toArray, .agg co.toArray] W0 H [partO H p s] (fun v H' B => ∃ p' s' m' c', v = .tuple #[.pointer (some ⟨p', 0, none⟩), .agg c'.toArray, .bool true] ∧ rPart H' c' m' ∧ PInv (n + 1) s' ∧ PRel s' m' ∧ s'.sh = s.sh ∧ B = [partO H' p' s']) := by
  refine Ct.go (vs := [.pointer (some ⟨p, 0, none⟩), .agg c.toArray, .agg co.toArray]) fun R => ?_
  have h00 := h0
  obtain ⟨s1, s2, s3, rfl, hsh, hs1, hs2, hs3⟩ := h0
  obtain ⟨b1, c1, rfl, hc1, hd1⟩ := hs1.1.shape
  obtain ⟨b2, c2, rfl, hc2, hd2⟩ := hs2.1.shape
  obtain ⟨b3, c3, rfl, hc3, hd3⟩ := hs3.1.shape
  obtain ⟨ok, om, on⟩ := o
  obtain ⟨t1, t2, t3, t4, rfl, fok, f1, f2, f3, f4, f5, f6, f7, h1, h2, f8, f9, f10, f11, h3, f12, f13, f14, h4, fon⟩ := ho
  dsimp only at fok f1 f2 f3 f4 f5 f6 f7 h1 h2 f8 f9 f10 f11 h3 f12 f13 f14 h4 fon
  obtain ⟨b5, c5, rfl, _, _⟩ := h1.1.shape
  obtain ⟨b6, c6, rfl, _, _⟩ := h2.1.shape
  obtain ⟨b7, c7, rfl, _, _⟩ := h3.1.shape
  obtain ⟨b8, c8, rfl, _, _⟩ := h4.1.shape
  have hok := I0.t.ok (by omega)
  have e1 := r.r.held I0.t
  have e2 := r.r.prep I0.t
  have e3 := r.dones I0
  have hml : m.T.Held.length ≤ 40 * n := by rw [← e1]; simpa [holdsL, sortT_len] using I0.t.hn
  have hmp : m.T.Prep.length ≤ n := by rw [← e2, prepL_len]; exact I0.t.wn
  have hmd : m.Done.length ≤ n := by rw [← e3, List.length_map, doneL_len]; exact I0.dn
  have h80 : ∀ q ∈ m.T.Prep, q.Work.ks.length ≤ 80 := fun q hq => (I0.t.ww _ _ (r.r.recs hq)).1.1.ks_len
  have hml0 : rMessage H [I om.From, I om.To, I om.Kind, I om.Txn.Node, I om.Txn.Life, I om.Txn.Count, I om.Work.Robot, .slice b5 om.Work.Take.length c5, .slice b6 om.Work.Drop.length c6, .bool om.Yes, I om.ID, I om.Call.Verb, I om.Call.Epoch, I om.Call.Route.Start, .slice b7 om.Call.Route.Cells.length c7, I om.Reply.Code, I om.Reply.Epoch, I om.Reply.Route.Start, .slice b8 om.Reply.Route.Cells.length c8] om := ⟨_, _, _, _, rfl, f1, f2, f3, f4, f5, f6, f7, h1, h2, f8, f9, f10, f11, h3, f12, f13, f14, h4⟩
  refine walk ?_
  refine ops_box rfl rfl fun p4 _ => ?_
  refine ops_box rfl rfl fun p5 _ => ?_
  refine walk ?_
  refine ops_alloc rfl fun p7 _ => ?_
  refine walk ?_
  refine ex_if rfl (fun hq1 => ?_) (fun hq1 => ?_)
  · refine walk ?_
    refine ex_any 14 [row p4 72 (m.cv (.slice b1 m.T.Held.length c1) (.slice b2 m.T.Prep.length c2) (.slice b3 m.Done.length c3))] ?_
    refine stepY 0 ?_; refine stepY 1 ?_; refine stepY 2 ?_; refine stepY 4 ?_
    refine gny_call 3 rfl rfl rfl (ask_spec (W0 := W0) (H := H) (p := p) hok I0.sh I0.asks) fun r1 H1 B hl1 eB => ?_
    subst eB
    refine ⟨(by (repeat (first | exact Sub.refl _ | exact Sub.nil _ | (apply sub_pick; (repeat (first | exact Has.here | apply Has.there)); skip) | apply Sub.drop))), ?_⟩
    refine any_freeze r1 fun H2 hl2 hsa => ?_
    refine gny_call 5 rfl rfl rfl (rAsk_spec (RdOk.mono (R := rPart) (hl1.trans hl2) h00) (by omega)) fun r3 H3 B hl3 ⟨eB, eH⟩ => ?_
    subst eB eH
    refine ⟨(by (repeat (first | exact Sub.refl _ | exact Sub.nil _ | (apply sub_pick; (repeat (first | exact Has.here | apply Has.there)); skip) | apply Sub.drop))), ?_⟩
    refine any_freeze r3 fun H4 hl4 hsb => ?_
    rw [r.asks I0] at hsa
    refine gny_pcall 6 rfl rfl rfl (sameAll_spec (hsa.mono hl4).1 hsb.1) ?_
    refine stepY 7 ?_; refine stepY 8 ?_; refine stepY 9 ?_
    refine any_L (L' := partO H4 p s :: row p4 72 (m.cv (.slice b1 m.T.Held.length c1) (.slice b2 m.T.Prep.length c2) (.slice b3 m.Done.length c3)) :: row p7 72 [I 0, nilS, nilS, nilS] :: R) ?_ ?_
    · refine Sub.trans ?_ (part_up (hl2.trans (hl3.trans hl4)))
      (repeat (first | exact Sub.refl _ | exact Sub.nil _ | (apply sub_pick; (repeat (first | exact Has.here | apply Has.there)); skip) | apply Sub.drop))
    refine gny_call 10 rfl rfl rfl (ptells_spec (W0 := W0) (H := H4) (p := p) (s := s) (m := m) (n := n) I0 (by omega) r (RdOk.mono (R := rPart) (hl1.trans (hl2.trans (hl3.trans hl4))) h00)) fun r5 H5 B hl5 ⟨er, eB⟩ => ?_
    subst er eB
    refine ⟨(by (repeat (first | exact Sub.refl _ | exact Sub.nil _ | (apply sub_pick; (repeat (first | exact Has.here | apply Has.there)); skip) | apply Sub.drop))), ?_⟩
    refine stepY 11 ?_; refine stepY 12 ?_
    refine any_sta 13 rfl rfl rfl rfl (by simp) rfl ⟨(by (repeat (first | exact Sub.refl _ | exact Sub.nil _ | (apply sub_pick; (repeat (first | exact Has.here | apply Has.there)); skip) | apply Sub.drop))), ?_⟩
    refine any_rest rfl ?_
    refine walk ?_
    refine finB [partO H5 p s] ?_
    exact ⟨p, s, m, _, rfl, RdOk.mono (R := rPart) (hl1.trans (hl2.trans (hl3.trans (hl4.trans hl5)))) h00, I0.more (Nat.le_succ n), r, rfl, rfl⟩
  refine walk ?_
  refine ex_if rfl (fun hq2 => ?_) (fun hq2 => ?_)
  · refine walk ?_
    refine ops_call rfl rfl (rpExpire_spec (now := on) h00 (by omega) (by omega)) fun r6 H6 B hl6 ⟨cs4, v4, er, hcs4, hv4, eB⟩ => ?_
    subst er eB
    obtain ⟨hexp, hrel⟩ := r.expire I0 (now := on)
    have hinv := (I0.expire (now := on)).more (Nat.le_succ n)
    rw [← hexp] at hv4
    change PRel (expireP s on) (expireR m on) at hrel
    generalize expireR m on = m' at hcs4 hrel
    obtain ⟨vb, vc, rfl, _, _⟩ := hv4.1.shape
    have hcs40 := hcs4
    obtain ⟨q1, q2, q3, rfl, hqs, hq1', hq2', hq3'⟩ := hcs4
    obtain ⟨qb1, qc1, rfl, _, _⟩ := hq1'.1.shape
    obtain ⟨qb2, qc2, rfl, _, _⟩ := hq2'.1.shape
    obtain ⟨qb3, qc3, rfl, _, _⟩ := hq3'.1.shape
    refine walk ?_
    refine ex_any 15 [row p4 72 [I m'.Shard, .slice qb1 m'.T.Held.length qc1, .slice qb2 m'.T.Prep.length qc2, .slice qb3 m'.Done.length qc3], row p5 45 ((⟨ok, om, on⟩ : Op).cv (.slice b5 om.Work.Take.length c5) (.slice b6 om.Work.Drop.length c6) (.slice b7 om.Call.Route.Cells.length c7) (.slice b8 om.Reply.Route.Cells.length c8))] ?_
    refine stepY 0 ?_; refine stepY 1 ?_; refine stepY 2 ?_; refine stepY 3 ?_; refine stepY 4 ?_; refine stepY 6 ?_
    refine any_L (L' := partO H6 p s :: row p4 72 [I m'.Shard, .slice qb1 m'.T.Held.length qc1, .slice qb2 m'.T.Prep.length qc2, .slice qb3 m'.Done.length qc3] :: row p5 45 ((⟨ok, om, on⟩ : Op).cv (.slice b5 om.Work.Take.length c5) (.slice b6 om.Work.Drop.length c6) (.slice b7 om.Call.Route.Cells.length c7) (.slice b8 om.Reply.Route.Cells.length c8)) :: row p7 72 [I 0, nilS, nilS, nilS] :: R) ?_ ?_
    · refine Sub.trans ?_ (part_up hl6)
      (repeat (first | exact Sub.refl _ | exact Sub.nil _ | (apply sub_pick; (repeat (first | exact Has.here | apply Has.there)); skip) | apply Sub.drop))
    refine gny_call 5 rfl rfl rfl (pexpire_spec (W0 := W0) (H := H6) (p := p) (s := s) (now := on) (hP.mono hl6) hok) fun r7 H7 B hl7 eB => ?_
    subst eB
    refine ⟨(by (repeat (first | exact Sub.refl _ | exact Sub.nil _ | (apply sub_pick; (repeat (first | exact Has.here | apply Has.there)); skip) | apply Sub.drop))), ?_⟩
    refine any_freeze r7 fun H8 hl8 hsl => ?_
    refine gny_pcall 7 rfl rfl rfl (texts_spec hsl.1 (hv4.mono (hl7.trans hl8)).1) ?_
    rw [decide_eq_true (p := expireL s.t on = expireL s.t on) rfl]
    refine stepY 8 ?_; refine stepY 9 ?_; refine stepY 10 ?_
    refine any_L (L' := partO H8 p (expireP s on) :: row p4 72 [I m'.Shard, .slice qb1 m'.T.Held.length qc1, .slice qb2 m'.T.Prep.length qc2, .slice qb3 m'.Done.length qc3] :: row p5 45 ((⟨ok, om, on⟩ : Op).cv (.slice b5 om.Work.Take.length c5) (.slice b6 om.Work.Drop.length c6) (.slice b7 om.Call.Route.Cells.length c7) (.slice b8 om.Reply.Route.Cells.length c8)) :: row p7 72 [I 0, nilS, nilS, nilS] :: R) ?_ ?_
    · refine Sub.trans ?_ (part_up hl8)
      (repeat (first | exact Sub.refl _ | exact Sub.nil _ | (apply sub_pick; (repeat (first | exact Has.here | apply Has.there)); skip) | apply Sub.drop))
    refine gny_call 11 rfl rfl rfl (ptells_spec (W0 := W0) (H := H8) (p := p) (s := expireP s on) (m := m') (n := n + 1) hinv (by omega) hrel (RdOk.mono (R := rPart) (hl7.trans hl8) hcs40)) fun r9 H9 B hl9 ⟨er, eB⟩ => ?_
    subst er eB
    refine ⟨(by (repeat (first | exact Sub.refl _ | exact Sub.nil _ | (apply sub_pick; (repeat (first | exact Has.here | apply Has.there)); skip) | apply Sub.drop))), ?_⟩
    refine stepY 12 ?_; refine stepY 13 ?_
    refine any_sta 14 rfl rfl rfl rfl (by simp) rfl ⟨(by (repeat (first | exact Sub.refl _ | exact Sub.nil _ | (apply sub_pick; (repeat (first | exact Has.here | apply Has.there)); skip) | apply Sub.drop))), ?_⟩
    refine any_rest rfl ?_
    refine walk ?_
    refine finB [partO H9 p (expireP s on)] ?_
    exact ⟨p, _, m', _, rfl, RdOk.mono (R := rPart) (hl7.trans (hl8.trans hl9)) hcs40, hinv, hrel, rfl, rfl⟩
  refine walk ?_
  refine ex_if rfl (fun hq3 => ?_) (fun hq3 => ?_)
  · skip
    refine ex_open (A := partO H p s) (σ := Nat × Nat) (B := fun a => [pRow p a.1 (PS.sh s) a.2, tabO H a.1 (PS.t s), dMap H a.2 s]) (p := fun _ => True) (by repeat (first | exact Has.here | apply Has.there)) (fun h ⟨tp, db, hbig⟩ => ⟨(tp, db), trivial, hbig⟩) fun ⟨tp, db⟩ _ => ?_
    dsimp only
    refine walk ?_
    refine ex_any 19 [pRow p tp s.sh db, row p4 72 (m.cv (.slice b1 m.T.Held.length c1) (.slice b2 m.T.Prep.length c2) (.slice b3 m.Done.length c3))] ?_
    refine stepY 0 ?_; refine stepY 1 ?_; refine stepY 2 ?_; refine stepY 3 ?_; refine stepY 4 ?_; refine stepY 5 ?_; refine stepY 7 ?_; refine stepY 8 ?_; refine stepY 9 ?_; refine stepY 10 ?_; refine stepY 12 ?_
    refine gny_call 6 rfl rfl rfl (holds_spec (W0 := W0) (H := H) (p := tp) hok) fun r1 H1 B hl1 eB => ?_
    subst eB
    refine ⟨(by (repeat (first | exact Sub.refl _ | exact Sub.nil _ | (apply sub_pick; (repeat (first | exact Has.here | apply Has.there)); skip) | apply Sub.drop))), ?_⟩
    refine any_freeze r1 fun H2 hl2 hsh2 => ?_
    refine any_L (L' := tabO H2 tp s.t :: pRow p tp s.sh db :: dMap H db s :: row p4 72 (m.cv (.slice b1 m.T.Held.length c1) (.slice b2 m.T.Prep.length c2) (.slice b3 m.Done.length c3)) :: row p7 72 [I 0, nilS, nilS, nilS] :: R) ?_ ?_
    · refine Sub.trans ?_ (tab_up hl2)
      (repeat (first | exact Sub.refl _ | exact Sub.nil _ | (apply sub_pick; (repeat (first | exact Has.here | apply Has.there)); skip) | apply Sub.drop))
    refine gny_call 11 rfl rfl rfl (prepared_spec (W0 := W0) (H := H2) (p := tp) hok) fun r3 H3 B hl3 eB => ?_
    subst eB
    refine ⟨(by (repeat (first | exact Sub.refl _ | exact Sub.nil _ | (apply sub_pick; (repeat (first | exact Has.here | apply Has.there)); skip) | apply Sub.drop))), ?_⟩
    refine any_freeze r3 fun H4 hl4 hsp => ?_
    refine gny_call 13 rfl rfl rfl (doneP_spec (W0 := W0) (H := H4) (p := p) (tp := tp) (db := db) (Ht := H3) (Hd := H) I0 (by omega) hl4 (hl1.trans (hl2.trans (hl3.trans hl4)))) fun r5 H5 B hl5 eB => ?_
    subst eB
    refine ⟨(by (repeat (first | exact Sub.refl _ | exact Sub.nil _ | (apply sub_pick; (repeat (first | exact Has.here | apply Has.there)); skip) | apply Sub.drop))), ?_⟩
    refine any_freeze r5 fun H6 hl6 hsd => ?_
    have hks : ∀ q ∈ prepL s.t, q.Work.ks.length * 16 ≤ cap47 := fun q hq => by
      have := (I0.t.ww _ _ (I0.t.recs hq)).1.1.ks_len
      simp only [cap47]; omega
    refine gny_call 14 rfl rfl rfl (pload_spec (W0 := W0) (H := H6) (sh := m.Shard) (hsh2.mono (hl3.trans (hl4.trans (hl5.trans hl6)))) (hsp.mono (hl5.trans hl6)) hsd (by rw [e2]; omega) hks (fun s' a' hLP => by
      obtain ⟨g1, g2, g3⟩ := load_own I0.t r.r hLP
      exact ⟨g1, g2.ok (by omega), g2.wd⟩)) fun r7 H7 B hl7 ⟨s', a', p', hLP, hQ⟩ => ?_
    obtain ⟨g1, g2, g3⟩ := load_own I0.t r.r hLP
    obtain ⟨d', k1, k2, k3, k4⟩ := loadD_own (n' := n) (t := s') I0 (fun k => g3.p.ext r.r.p k)
    rcases hQ with ⟨hQ, _⟩ | ⟨d2, hd2, er, eB⟩
    · rw [k1] at hQ; cases hQ
    rw [k1] at hd2
    cases hd2
    subst er eB
    have hshe : m.Shard = s.sh := r.sh
    obtain ⟨hI', hR'⟩ := I0.loaded r g2 g3 k2 k3 k4
    refine ⟨(by (repeat (first | exact Sub.refl _ | exact Sub.nil _ | (apply sub_pick; (repeat (first | exact Has.here | apply Has.there)); skip) | apply Sub.drop))), ?_⟩
    refine stepY 15 ?_
    refine gny_ext 16 rfl rfl rfl rfl ?_
    refine gny_ext 17 rfl rfl rfl rfl ?_
    refine stepY 18 ?_
    refine any_rest rfl ?_
    refine ops_L (L' := partO H7 p' ⟨s.sh, s', d'⟩ :: row p4 72 (m.cv (.slice b1 m.T.Held.length c1) (.slice b2 m.T.Prep.length c2) (.slice b3 m.Done.length c3)) :: row p7 72 [I 0, nilS, nilS, nilS] :: R) (by rw [hshe]; (repeat (first | exact Sub.refl _ | exact Sub.nil _ | (apply sub_pick; (repeat (first | exact Has.here | apply Has.there)); skip) | apply Sub.drop))) ?_
    refine walk ?_
    refine ex_any 15 [row p4 72 (m.cv (.slice b1 m.T.Held.length c1) (.slice b2 m.T.Prep.length c2) (.slice b3 m.Done.length c3))] ?_
    refine stepY 0 ?_; refine stepY 1 ?_; refine stepY 2 ?_; refine stepY 3 ?_; refine stepY 4 ?_; refine stepY 5 ?_; refine stepY 6 ?_; refine stepY 7 ?_; refine stepY 8 ?_; refine stepY 9 ?_; refine stepY 10 ?_
    refine gny_call 11 rfl rfl rfl (ptells_spec (W0 := W0) (H := H7) (p := p') (s := ⟨s.sh, s', d'⟩) (m := m) (n := n) hI' (by omega) hR' (RdOk.mono (R := rPart) (hl1.trans (hl2.trans (hl3.trans (hl4.trans (hl5.trans (hl6.trans hl7)))))) h00)) fun r9 H9 B hl9 ⟨er, eB⟩ => ?_
    subst er eB
    refine ⟨(by (repeat (first | exact Sub.refl _ | exact Sub.nil _ | (apply sub_pick; (repeat (first | exact Has.here | apply Has.there)); skip) | apply Sub.drop))), ?_⟩
    refine stepY 12 ?_; refine stepY 13 ?_
    refine any_sta 14 rfl rfl rfl rfl (by simp) rfl ⟨(by (repeat (first | exact Sub.refl _ | exact Sub.nil _ | (apply sub_pick; (repeat (first | exact Has.here | apply Has.there)); skip) | apply Sub.drop))), ?_⟩
    refine any_rest rfl ?_
    refine walk ?_
    refine finB [partO H9 p' ⟨s.sh, s', d'⟩] ?_
    exact ⟨p', _, m, _, rfl, RdOk.mono (R := rPart) (hl1.trans (hl2.trans (hl3.trans (hl4.trans (hl5.trans (hl6.trans (hl7.trans hl9))))))) h00, hI'.more (Nat.le_succ n), hR', rfl, rfl⟩
  refine walk ?_
  refine ops_call rfl rfl (pOwn_spec (m := om) hml0) fun r1 H1 B hl1 ⟨cs1, er, hcs1, eB⟩ => ?_
  subst er eB
  have hok1 := clipM_ok hml0
  refine walk ?_
  refine ops_L (L' := partO H1 p s :: row p4 72 (m.cv (.slice b1 m.T.Held.length c1) (.slice b2 m.T.Prep.length c2) (.slice b3 m.Done.length c3)) :: row p5 45 ((⟨ok, om, on⟩ : Op).cv (.slice b5 om.Work.Take.length c5) (.slice b6 om.Work.Drop.length c6) (.slice b7 om.Call.Route.Cells.length c7) (.slice b8 om.Reply.Route.Cells.length c8)) :: row p7 72 [I 0, nilS, nilS, nilS] :: R) ?_ ?_
  · refine Sub.trans ?_ (part_up hl1)
    (repeat (first | exact Sub.refl _ | exact Sub.nil _ | (apply sub_pick; (repeat (first | exact Has.here | apply Has.there)); skip) | apply Sub.drop))
  refine ops_call rfl rfl (hear_spec (W0 := W0) (H := H1) (p := p) (s := s) (m := clipM om) (hP.mono hl1) I0 (by omega) hok1 hcs1) fun r2 H2 B hl2 ⟨v1, v2, cs2, er, eB⟩ => ?_
  subst er eB
  refine ops_freeze v1 fun H3 hl3 hsm => ?_
  refine ops_freeze v2 fun H4 hl4 hsr => ?_
  have hsm := hsm.mono hl4
  obtain ⟨ba, ca, rfl, _, _⟩ := hsm.1.shape
  obtain ⟨bb, cb, rfl, _, _⟩ := hsr.1.shape
  have hinv := I0.hear (cs := cs2) hok1
  refine walk ?_
  refine ex_any 4 [row p4 72 (m.cv (.slice b1 m.T.Held.length c1) (.slice b2 m.T.Prep.length c2) (.slice b3 m.Done.length c3)), row p5 45 ((⟨ok, om, on⟩ : Op).cv (.slice b5 om.Work.Take.length c5) (.slice b6 om.Work.Drop.length c6) (.slice b7 om.Call.Route.Cells.length c7) (.slice b8 om.Reply.Route.Cells.length c8))] ?_
  refine stepY 0 ?_; refine stepY 1 ?_; refine stepY 2 ?_
  refine gny_call 3 rfl rfl rfl (pOwn_spec (m := om) (RdOk.mono (R := rMessage) (hl1.trans (hl2.trans (hl3.trans hl4))) hml0)) fun r5 H5 B hl5 ⟨cs5, er, hcs5, eB⟩ => ?_
  subst er eB
  refine ⟨(by (repeat (first | exact Sub.refl _ | exact Sub.nil _ | (apply sub_pick; (repeat (first | exact Has.here | apply Has.there)); skip) | apply Sub.drop))), ?_⟩
  refine any_stage 11 [] ?_
  refine gny_call 4 rfl rfl rfl (rHear_spec (m := m) (g := clipM om) (n := n) (RdOk.mono (R := rPart) (hl1.trans (hl2.trans (hl3.trans (hl4.trans hl5)))) h00) hcs5 hok1 (by omega) hml hmp h80 hmd) fun r6 H6 B hl6 ⟨cs6, m', w1, w2, out, rec, er, hcs6, hw1, hw2, hRH, eB⟩ => ?_
  subst er eB
  refine ⟨(by (repeat (first | exact Sub.refl _ | exact Sub.nil _ | (apply sub_pick; (repeat (first | exact Has.here | apply Has.there)); skip) | apply Sub.drop))), ?_⟩
  obtain ⟨eo, er, hrel⟩ := r.hear I0 hRH
  have hrel := hrel cs2
  subst eo er
  obtain ⟨q1, q2, q3, rfl, hqs, hq1', hq2', hq3'⟩ := id hcs6
  obtain ⟨qb1, qc1, rfl, _, _⟩ := hq1'.1.shape
  obtain ⟨qb2, qc2, rfl, _, _⟩ := hq2'.1.shape
  obtain ⟨qb3, qc3, rfl, _, _⟩ := hq3'.1.shape
  obtain ⟨wa, wca, rfl, _, _⟩ := hw1.1.shape
  obtain ⟨wb, wcb, rfl, _, _⟩ := hw2.1.shape
  refine stepY 5 ?_
  refine gny_ext 6 rfl rfl rfl rfl ?_
  refine gny_ext 7 rfl rfl rfl rfl ?_
  refine gny_ext 8 rfl rfl rfl rfl ?_
  refine any_sta 9 rfl rfl rfl rfl (by simp) rfl ⟨(by (repeat (first | exact Sub.refl _ | exact Sub.nil _ | (apply sub_pick; (repeat (first | exact Has.here | apply Has.there)); skip) | apply Sub.drop))), ?_⟩
  refine stepY 10 ?_
  refine any_rest rfl ?_
  refine walk ?_
  refine ex_any 17 [row p4 72 [I m'.Shard, .slice qb1 m'.T.Held.length qc1, .slice qb2 m'.T.Prep.length qc2, .slice qb3 m'.Done.length qc3]] ?_
  refine stepY 0 ?_; refine stepY 1 ?_; refine stepY 2 ?_; refine stepY 3 ?_
  refine gny_pcall 4 rfl rfl rfl (sameAll_spec (hsm.mono (hl5.trans hl6)).1 hw1.1) ?_
  refine stepY 5 ?_; refine stepY 6 ?_; refine stepY 7 ?_
  refine gny_pcall 8 rfl rfl rfl (sameRecs_spec (hsr.mono (hl5.trans hl6)).1 hw2.1) ?_
  refine stepY 9 ?_; refine stepY 10 ?_; refine stepY 11 ?_; refine stepY 12 ?_
  refine any_L (L' := partO H6 p (hearS s (clipM om) cs2) :: row p4 72 [I m'.Shard, .slice qb1 m'.T.Held.length qc1, .slice qb2 m'.T.Prep.length qc2, .slice qb3 m'.Done.length qc3] :: row p7 72 [I 0, nilS, nilS, nilS] :: R) ?_ ?_
  · refine Sub.trans ?_ (part_up (hl3.trans (hl4.trans (hl5.trans hl6))))
    (repeat (first | exact Sub.refl _ | exact Sub.nil _ | (apply sub_pick; (repeat (first | exact Has.here | apply Has.there)); skip) | apply Sub.drop))
  refine gny_call 13 rfl rfl rfl (ptells_spec (W0 := W0) (H := H6) (p := p) (s := hearS s (clipM om) cs2) (m := m') (n := n + 1) hinv (by omega) hrel hcs6) fun r9 H9 B hl9 ⟨er, eB⟩ => ?_
  subst er eB
  refine ⟨(by (repeat (first | exact Sub.refl _ | exact Sub.nil _ | (apply sub_pick; (repeat (first | exact Has.here | apply Has.there)); skip) | apply Sub.drop))), ?_⟩
  refine stepY 14 ?_; refine stepY 15 ?_
  refine any_sta 16 rfl rfl rfl rfl (by simp) rfl ⟨(by (repeat (first | exact Sub.refl _ | exact Sub.nil _ | (apply sub_pick; (repeat (first | exact Has.here | apply Has.there)); skip) | apply Sub.drop))), ?_⟩
  refine any_rest rfl ?_
  refine walk ?_
  refine finB [partO H9 p (hearS s (clipM om) cs2)] ?_
  exact ⟨p, _, m', _, rfl, RdOk.mono (R := rPart) hl9 hcs6, hinv, hrel, hearS_sh, rfl⟩
end Go.Proofs.YtjgjcakeimkkdaaGreatDoor

set_option linter.unusedVariables false
set_option linter.unusedSimpArgs false
namespace Go.Proofs.YtjgjcakeimkkdaaGreatDoor
open Go Go.Sx Go.Proofs
set_option maxHeartbeats 16000000 in
set_option maxRecDepth 20000 in
theorem pbuilt_spec {W0 : World} {H : Heap} {v : Value} {sh : Int} {script : List Op} (hP : PkH H) (hsh : fits sh) (h0 : SlR rOp 21 H v script) :
    Ct Tryz.prog 15 #[I sh, v] W0 H [] (fun r H' B => ∃ p s m c, r = .tuple #[.pointer (some ⟨p, 0, none⟩), .agg c.toArray, .bool true] ∧ rPart H' c m ∧ PInv 60 s ∧ PRel s m ∧ s.sh = sh ∧ B = [partO H' p s]) := by
  refine Ct.go (vs := [I sh, v]) fun R => ?_
  obtain ⟨b0, c0, rfl, hc0, hd0⟩ := h0.shape
  refine walk ?_
  refine ops_alloc rfl fun p5 _ => ?_
  refine walk ?_
  refine ops_call rfl rfl (pnew_spec hsh) fun r1 H1 B hl1 ⟨p, er, eB, eH⟩ => ?_
  subst er eB eH
  refine walk ?_
  refine ops_alloc rfl fun p8 _ => ?_
  refine walk ?_
  refine ex_loop (σ := Nat × Nat × PS × Part × (Option Addr × Nat) × (Option Addr × Nat) × (Option Addr × Nat) × Heap) (fun u => (u.1 ≤ script.length ∧ u.1 ≤ 60) ∧ H1.le u.2.2.2.2.2.2.2 ∧ PInv u.1 u.2.2.1 ∧ PRel u.2.2.1 u.2.2.2.1 ∧ u.2.2.1.sh = sh ∧ SlB rHold 2 24 u.2.2.2.2.2.2.2 (.slice u.2.2.2.2.1.1 u.2.2.2.1.T.Held.length u.2.2.2.2.1.2) u.2.2.2.1.T.Held ∧ SlB rRec 9 120 u.2.2.2.2.2.2.2 (.slice u.2.2.2.2.2.1.1 u.2.2.2.1.T.Prep.length u.2.2.2.2.2.1.2) u.2.2.2.1.T.Prep ∧ SlB rConvoyref15Done 4 32 u.2.2.2.2.2.2.2 (.slice u.2.2.2.2.2.2.1.1 u.2.2.2.1.Done.length u.2.2.2.2.2.2.1.2) u.2.2.2.1.Done)
    (fun u => [(1, .slice b0 script.length c0), (5, .pointer (some ⟨p5, 0, none⟩)), (7, .pointer (some ⟨u.2.1, 0, none⟩)), (8, .pointer (some ⟨p8, 0, none⟩)), (9, .bool true), (10, I u.1)]) (fun u => u.2.2.2.2.2.2.2)
    (fun u => partO u.2.2.2.2.2.2.2 u.2.1 u.2.2.1 :: row p8 72 [I u.2.2.2.1.Shard, .slice u.2.2.2.2.1.1 u.2.2.2.1.T.Held.length u.2.2.2.2.1.2, .slice u.2.2.2.2.2.1.1 u.2.2.2.1.T.Prep.length u.2.2.2.2.2.1.2, .slice u.2.2.2.2.2.2.1.1 u.2.2.2.1.Done.length u.2.2.2.2.2.2.1.2] :: row p5 72 [I 0, nilS, nilS, nilS] :: R) (fun u => script.length - u.1)
    (0, p, ⟨sh, ⟨[], [], []⟩, []⟩, ⟨sh, ⟨[], []⟩, []⟩, (none, 0), (none, 0), (none, 0), H1) ⟨⟨Nat.zero_le _, by omega⟩, .refl _, pinv0 hsh, prel0, rfl, SlB.nil, SlB.nil, SlB.nil⟩ fun ⟨k, q, s, m, ⟨d1, d2⟩, ⟨d3, d4⟩, ⟨d5, d6⟩, HK⟩ ⟨⟨hk0, hk60⟩, hlK, hI, hR, hse, hn1, hn2, hn3⟩ K hL => ?_
  simp only at hk0 hk60 hlK hI hR hse hn1 hn2 hn3
  dsimp only
  have hms : m.Shard = sh := hR.sh.trans hse
  refine walkG ?_
  refine ex_if rfl (fun hk => ?_) (fun hk => ?_)
  · have hk1 : k < script.length := by omega
    refine walk ?_
    refine ex_any 6 [row p8 72 [I m.Shard, .slice d1 m.T.Held.length d2, .slice d3 m.T.Prep.length d4, .slice d5 m.Done.length d6]] ?_
    refine stepY 0 ?_; refine stepY 1 ?_; refine stepY 2 ?_; refine stepY 3 ?_
    refine gny_ixp 4 rfl rfl rfl (h0.mono hlK) hk1 fun b o cc hr hc => ?_
    have hc0 := hc
    obtain ⟨u1, u2, u3, u4, rfl, _⟩ := hc
    refine gny_ldNH 5 rfl rfl rfl hr rfl ?_
    refine any_stage 13 [] ?_
    refine gny_call 6 rfl rfl rfl (pplay_spec (W0 := W0) (H := HK) (p := q) (s := s) (m := m) (c := [I m.Shard, .slice d1 m.T.Held.length d2, .slice d3 m.T.Prep.length d4, .slice d5 m.Done.length d6]) (n := k) (o := script[k]) (hP.mono hlK) hI (by omega) hR ⟨_, _, _, rfl, by rw [hms]; exact hsh, hn1, hn2, hn3⟩ hc0) fun r5 H5 B hl5 ⟨p', s', m', c', er, hc', hI', hR', hse', eB⟩ => ?_
    subst er eB
    refine ⟨(by (repeat (first | exact Sub.refl _ | exact Sub.nil _ | (apply sub_pick; (repeat (first | exact Has.here | apply Has.there)); skip) | apply Sub.drop))), ?_⟩
    obtain ⟨q1, q2, q3, rfl, _, hq1, hq2, hq3⟩ := hc'
    obtain ⟨qb1, qc1, rfl, _, _⟩ := hq1.1.shape
    obtain ⟨qb2, qc2, rfl, _, _⟩ := hq2.1.shape
    obtain ⟨qb3, qc3, rfl, _, _⟩ := hq3.1.shape
    refine stepY 7 ?_
    refine gny_ext 8 rfl rfl rfl rfl ?_
    refine gny_ext 9 rfl rfl rfl rfl ?_
    refine gny_ext 10 rfl rfl rfl rfl ?_
    refine stepY 11 ?_
    refine any_sta 12 rfl rfl rfl rfl (by simp) rfl ⟨(by (repeat (first | exact Sub.refl _ | exact Sub.nil _ | (apply sub_pick; (repeat (first | exact Has.here | apply Has.there)); skip) | apply Sub.drop))), ?_⟩
    refine any_rest rfl ?_
    refine walk ?_
    exact out_next hL (k + 1, p', s', m', (qb1, qc1), (qb2, qc2), (qb3, qc3), H5) ⟨⟨by simp only; omega, by simp only; omega⟩, hlK.trans hl5, hI', hR', hse'.trans hse, hq1, hq2, hq3⟩
  · clear hL
    refine walk ?_
    refine ex_any 5 [row p8 72 [I m.Shard, .slice d1 m.T.Held.length d2, .slice d3 m.T.Prep.length d4, .slice d5 m.Done.length d6]] ?_
    refine stepY 0 ?_; refine stepY 1 ?_; refine stepY 2 ?_; refine stepY 3 ?_
    refine any_sta 4 rfl rfl rfl rfl (by simp) rfl ⟨(by (repeat (first | exact Sub.refl _ | exact Sub.nil _ | (apply sub_pick; (repeat (first | exact Has.here | apply Has.there)); skip) | apply Sub.drop))), ?_⟩
    refine any_rest rfl ?_
    refine walk ?_
    refine finB [partO HK q s] ?_
    exact ⟨q, s, m, _, rfl, ⟨_, _, _, rfl, by rw [hms]; exact hsh, hn1, hn2, hn3⟩, hI.more hk60, hR, hse, rfl⟩
def xq : Txn := ⟨0, 1, 1⟩
def wq : Work := ⟨5, [ka], []⟩
def mq : Message := { zMessage with From := 0, To := 2, Kind := 1, Txn := xq, Work := wq }
def sq : PS := ⟨2, ⟨[], [], []⟩, []⟩
theorem qw1 : prepE ⟨[], [], []⟩ xq wq = 0 := by
  unfold prepE
  rw [if_neg (by decide), if_neg (by rw [dupT_iff]; decide), if_pos (by decide)]
theorem qf : ¬ ¬ forMe sq mq := fun h => h ⟨rfl, rfl⟩
theorem qw2 : hearOut sq mq = [voteM sq mq true] := by
  unfold hearOut
  rw [if_neg qf, if_pos (show mq.Kind = 1 from rfl), if_neg (by decide), decide_eq_true (p := _ ∨ _) (.inr (show prepE sq.t mq.Txn mq.Work = 0 from qw1))]
theorem qw3 : hearRec sq mq = [recP mq] := by
  unfold hearRec
  rw [if_neg qf, if_pos (show mq.Kind = 1 from rfl), if_neg (by decide), if_neg (by decide), if_pos (show prepE sq.t mq.Txn mq.Work = 0 from qw1)]
theorem qw4 {cs : List Value} : hearS sq mq cs = ⟨2, prepT ⟨[], [], []⟩ xq wq cs, []⟩ := by
  unfold hearS
  rw [if_neg qf, if_pos (show mq.Kind = 1 from rfl), if_neg (by decide), if_neg (by decide), if_pos (show prepE sq.t mq.Txn mq.Work = 0 from qw1)]
  rfl
theorem qw5 {cs : List Value} : ((prepL (prepT ⟨[], [], []⟩ xq wq cs)).map fun q => askM ⟨2, prepT ⟨[], [], []⟩ xq wq cs, []⟩ q.Txn).length = 1 := by
  rw [List.length_map, prepL_len]
  simp [prepT, mset]
theorem mq_ok : OkM mq := by
  refine ⟨⟨by decide, by decide, by unfold fits; decide, fun k hk => ?_⟩, by unfold okX fits; decide⟩
  have : k = ka := by simpa [mq, wq, Work.ks] using hk
  subst this
  decide
set_option maxHeartbeats 8000000 in
set_option maxRecDepth 20000 in
theorem pawake_spec {W0 : World} {H : Heap} (hP : PkH H) :
    Ct Tryz.prog 8 #[] W0 H [] (fun r H' B => r = .bool true ∧ B = []) := by
  refine Ct.go (vs := []) fun R => ?_
  have hf2 : fits (2 : Int) := fit_lit.2.2
  refine walk ?_
  refine ops_call rfl rfl (pnew_spec hf2) fun r1 H1 B hl1 ⟨p, er, eB, eH⟩ => ?_
  subst er eB eH
  refine walk ?_
  refine ops_w rfl rfl (op_bs1 rfl rfl rfl fun b9 => ?_)
  refine walk ?_
  refine ops_L (L' := ownS rStr 1 16 9 H1 (.slice (some ⟨b9, 0, none⟩) 1 1) [ka] :: partO H1 p sq :: R) ?_ ?_
  · refine Sub.trans (B := row b9 9 [.string ka] :: partO H1 p sq :: R) ?_ (own1 (x := ka) ⟨rfl, by decide⟩ (by decide))
    (repeat (first | exact Sub.refl _ | exact Sub.nil _ | (apply sub_pick; (repeat (first | exact Has.here | apply Has.there)); skip) | apply Sub.drop))
  refine ops_freeze (.slice (some ⟨b9, 0, none⟩) 1 1) fun H2 hl2 hsk => ?_
  refine ops_L (L' := partO H2 p sq :: R) ?_ ?_
  · refine Sub.trans ?_ (part_up hl2)
    (repeat (first | exact Sub.refl _ | exact Sub.nil _ | (apply sub_pick; (repeat (first | exact Has.here | apply Has.there)); skip) | apply Sub.drop))
  have I0 : PInv 0 sq := pinv0 hf2
  have hf0 : fits (0 : Int) := fits0
  have hf1 : fits (1 : Int) := fit_lit.2.1
  have hf5 : fits (5 : Int) := by unfold fits; decide
  have hp1 := hear_spec (W0 := W0) (H := H2) (p := p) (n := 0) (s := sq) (m := mq) (c := [I 0, I 2, I 1, I 0, I 1, I 1, I 5, .slice (some ⟨b9, 0, none⟩) 1 1, nilS, .bool false, I 0, I 0, I 0, I 0, nilS, I 0, I 0, I 0, nilS]) (hP.mono hl2) I0 (by omega) mq_ok ⟨_, _, _, _, rfl, hf0, hf2, hf1, hf0, hf1, hf1, hf5, hsk, SlB.nil, hf0, hf0, hf0, hf0, SlB.nil, hf0, hf0, hf0, SlB.nil⟩
  refine ops_call rfl rfl hp1 fun r3 H3 B hl3 ⟨v1, v2, cs, er, eB⟩ => ?_
  subst er eB
  have hinv := I0.hear (cs := cs) mq_ok
  rw [qw2, qw3, qw4]
  rw [qw4] at hinv
  refine ops_freeze v1 fun H4 hl4 hsm => ?_
  refine ops_freeze v2 fun H5 hl5 hsr => ?_
  have hsm := hsm.mono hl5
  obtain ⟨ba, ca, ea, _, _⟩ := hsm.1.shape
  rw [show [voteM sq mq true].length = 1 from rfl] at ea
  subst ea
  obtain ⟨bb, cb, eb, _, _⟩ := hsr.1.shape
  rw [show [recP mq].length = 1 from rfl] at eb
  subst eb
  refine walk ?_
  refine ops_ixp rfl rfl hsm.1 (show 0 < [voteM sq mq true].length by decide) fun b o cc hr hc => ?_
  obtain ⟨t1, t2, t3, t4, rfl, g⟩ := hc
  change HRow H5 b o [I 2, I 0, I 2, I 0, I 1, I 1, I 0, t1, t2, .bool true, I 0, I 0, I 0, I 0, t3, I 0, I 0, I 0, t4] at hr
  refine walk ?_
  refine ops_ixp rfl rfl hsm.1 (show 0 < [voteM sq mq true].length by decide) fun bx ox ccx hrx hcx => ?_
  obtain ⟨u1, u2, u3, u4, rfl, g'⟩ := hcx
  change HRow H5 bx ox [I 2, I 0, I 2, I 0, I 1, I 1, I 0, u1, u2, .bool true, I 0, I 0, I 0, I 0, u3, I 0, I 0, I 0, u4] at hrx
  refine walk ?_
  refine ops_ixp rfl rfl hsr.1 (show 0 < [recP mq].length by decide) fun by_ oy ccy hry hcy => ?_
  obtain ⟨w1, w2, w3, rfl, g''⟩ := hcy
  change HRow H5 by_ oy [I 2, I 0, I 1, I 1, I 5, w1, w2, .bool false, w3] at hry
  refine walk ?_
  refine ops_L (L' := partO H5 p ⟨2, prepT ⟨[], [], []⟩ xq wq cs, []⟩ :: R) ?_ ?_
  · refine Sub.trans ?_ (part_up (hl4.trans hl5))
    (repeat (first | exact Sub.refl _ | exact Sub.nil _ | (apply sub_pick; (repeat (first | exact Has.here | apply Has.there)); skip) | apply Sub.drop))
  refine ops_call rfl rfl (ask_spec (W0 := W0) (H := H5) (p := p) (s := ⟨2, prepT ⟨[], [], []⟩ xq wq cs, []⟩) (hinv.t.ok (by omega)) hinv.sh hinv.asks) fun r6 H6 B hl6 eB => ?_
  subst eB
  refine ops_shape r6 fun d6 e6 e _ _ _ => ?_
  rw [qw5] at e
  subst e
  refine walk ?_
  refine fin0 ?_
  exact ⟨rfl, rfl⟩
end Go.Proofs.YtjgjcakeimkkdaaGreatDoor
