/- Hear, walked. SRB to SRF, for another map and another order (printed by gen_srt.py). Ask and Done, walked. Done and Load, walked. -/
import Derived.Test.YtjgjcakeimkkdaaGreatDoorM6
import Derived.Test.YtjgjcakeimkkdaaGreatDoorM5
import Derived.Test.YtjgjcakeimkkdaaGreatDoorM1
import Derived.Test.YtjgjcakeimkkdaaGreatDoorM9
import Derived.Test.YtjgjcakeimkkdaaGreatDoorKD
set_option linter.unusedVariables false
set_option linter.unusedSimpArgs false
namespace Go.Proofs.YtjgjcakeimkkdaaGreatDoor
open Go Go.Sx Go.Proofs
theorem bself : ∀ b : Bool, b = decide (b = true) := by decide
theorem own1 {α : Type} {Rr : Sx.Rd α} {sz w T b : Nat} {H : Heap} {cs : List Value} {x : α} {L : List HProp} [RdOk Rr sz] (h : Rr H cs x) (hw : w ≤ cap47) : Sub (row b T cs :: L) (ownS Rr sz w T H (.slice (some ⟨b, 0, none⟩) 1 1) [x] :: L) := by
  have hl := RdOk.len h
  have h1 := own_shut (T := T) (sz := sz) (m := 1) (b := b) (cap := 1) (xs := cs) (sp := []) (R := L) (by omega) (Nat.le_refl _) (by decide) (by simp [hl])
  rw [List.append_nil] at h1
  exact h1.trans (ownS_mk (s := .slice (some ⟨b, 0, none⟩) 1 1) (xs := [x]) (show RL Rr H cs [x] from ⟨cs, [], by simp, h, rfl⟩) (by simpa using hw))
abbrev mCells (s : PS) (m : Message) (k : Int) (y : Bool) : List Value := [I s.sh, I m.From, I k, I m.Txn.Node, I m.Txn.Life, I m.Txn.Count, I 0, nilS, nilS, .bool y, I 0, I 0, I 0, I 0, nilS, I 0, I 0, I 0, nilS]
theorem outM_reads {H : Heap} {s : PS} {m : Message} {k : Int} {y : Bool} (hs : fits s.sh) (hf : fits m.From) (hk : fits k) (hx : fits m.Txn.Node ∧ fits m.Txn.Life ∧ fits m.Txn.Count) : rMessage H (mCells s m k y) { zMessage with From := s.sh, To := m.From, Kind := k, Txn := m.Txn, Yes := y } :=
  ⟨nilS, nilS, nilS, nilS, rfl, hs, hf, hk, hx.1, hx.2.1, hx.2.2, fits0, SlB.nil, SlB.nil, fits0, fits0, fits0, fits0, SlB.nil, fits0, fits0, fits0, SlB.nil⟩
theorem fk2 : fits (2 : Int) := by unfold fits; omega
theorem fk3 : fits (3 : Int) := by unfold fits; omega
theorem fk4 : fits (4 : Int) := by unfold fits; omega
theorem c216 : 216 ≤ cap47 := by decide
theorem c120 : 120 ≤ cap47 := by decide
set_option maxHeartbeats 16000000 in
set_option maxRecDepth 20000 in
theorem hear_spec {W0 : World} {H : Heap} {p n : Nat} {s : PS} {m : Message} {c : List Value} (hP : PkH H) (I0 : PInv n s) (hn : n ≤ 500) (hm : OkM m) (hc : rMessage H c m) :
    Ct Tryz.prog 9 #[.pointer (some ⟨p, 0, none⟩), .agg c.toArray] W0 H [partO H p s] (fun r H' B => ∃ v1 v2 cs, r = .tuple #[v1, v2] ∧ B = [ownS rMessage 19 216 43 H' v1 (hearOut s m), ownS rRec 9 120 53 H' v2 (hearRec s m), partO H' p (hearS s m cs)]) := by
  refine Ct.go (vs := [.pointer (some ⟨p, 0, none⟩), .agg c.toArray]) fun R => ?_
  obtain ⟨s1, s2, s3, s4, rfl, f1, f2, f3, f4, f5, f6, f7, h1, h2, f8, f9, f10, f11, h3, f12, f13, f14, h4⟩ := hc
  obtain ⟨b1, c1, rfl, _, _⟩ := h1.1.shape
  obtain ⟨b2, c2, rfl, _, _⟩ := h2.1.shape
  obtain ⟨b3, c3, rfl, _, _⟩ := h3.1.shape
  obtain ⟨b4, c4, rfl, _, _⟩ := h4.1.shape
  refine ex_open (A := partO H p s) (σ := Nat × Nat) (B := fun a => [pRow p a.1 (PS.sh s) a.2, tabO H a.1 (PS.t s), dMap H a.2 s]) (p := fun _ => True) (by repeat (first | exact Has.here | apply Has.there)) (fun h ⟨tp, db, hbig⟩ => ⟨(tp, db), trivial, hbig⟩) fun ⟨tp, db⟩ _ => ?_
  dsimp only
  refine walk ?_
  refine ops_box rfl rfl fun p3 _ => ?_
  have hnil : ∀ {H' : Heap} {L : List HProp}, Sub L (ownS rMessage 19 216 43 H' nilS [] :: ownS rRec 9 120 53 H' nilS [] :: L) := ownS_nil.trans ownS_nil
  by_cases hf : forMe s m
  case neg =>
    rw [show hearOut s m = [] from if_pos hf, show hearRec s m = [] from if_pos hf]
    by_cases e1 : m.To = s.sh
    · have e2 : ¬ m.From = m.Txn.Node := fun e => hf ⟨e1, e⟩
      refine walk ?_
      refine finB [ownS rMessage 19 216 43 H nilS [], ownS rRec 9 120 53 H nilS [], partO H p s] ?_ (hs := ?_)
      · exact ⟨_, _, [], rfl, by rw [show hearS s m [] = s from if_pos hf]⟩
      · refine Sub.trans ?_ (Sub.trans (part_shut (H1 := H) (H2 := H) (tp := tp) (db := db) (.refl _) (.refl _)) hnil)
        (repeat (first | exact Sub.refl _ | exact Sub.nil _ | (apply sub_pick; (repeat (first | exact Has.here | apply Has.there)); skip) | apply Sub.drop))
    · refine walk ?_
      refine finB [ownS rMessage 19 216 43 H nilS [], ownS rRec 9 120 53 H nilS [], partO H p s] ?_ (hs := ?_)
      · exact ⟨_, _, [], rfl, by rw [show hearS s m [] = s from if_pos hf]⟩
      · refine Sub.trans ?_ (Sub.trans (part_shut (H1 := H) (H2 := H) (tp := tp) (db := db) (.refl _) (.refl _)) hnil)
        (repeat (first | exact Sub.refl _ | exact Sub.nil _ | (apply sub_pick; (repeat (first | exact Has.here | apply Has.there)); skip) | apply Sub.drop))
  have hf' : ¬ ¬ forMe s m := fun h => h hf
  obtain ⟨e1, e2⟩ := id hf
  refine walk ?_
  refine ex_any 11 [row p3 43 (m.cv (.slice b1 m.Work.Take.length c1) (.slice b2 m.Work.Drop.length c2) (.slice b3 m.Call.Route.Cells.length c3) (.slice b4 m.Reply.Route.Cells.length c4)), pRow p tp s.sh db] ?_
  refine stepY 0 ?_; refine stepY 1 ?_; refine stepY 2 ?_; refine stepY 3 ?_; refine stepY 4 ?_; refine stepY 5 ?_; refine stepY 6 ?_; refine stepY 7 ?_; refine stepY 8 ?_
  refine gny_alloc 9 rfl rfl fun p6 _ => ?_
  refine any_sta 10 rfl rfl rfl rfl (by simp) rfl ⟨(by (repeat (first | exact Sub.refl _ | exact Sub.nil _ | (apply sub_pick; (repeat (first | exact Has.here | apply Has.there)); skip) | apply Sub.drop))), ?_⟩
  refine any_rest rfl ?_
  refine ops_L (L' := row p6 43 [I s.sh, I m.From, I 0, I m.Txn.Node, I m.Txn.Life, I m.Txn.Count, I 0, nilS, nilS, .bool false, I 0, I 0, I 0, I 0, nilS, I 0, I 0, I 0, nilS] :: row p3 43 (m.cv (.slice b1 m.Work.Take.length c1) (.slice b2 m.Work.Drop.length c2) (.slice b3 m.Call.Route.Cells.length c3) (.slice b4 m.Reply.Route.Cells.length c4)) :: pRow p tp s.sh db :: tabO H tp s.t :: dMap H db s :: R) (by (repeat (first | exact Sub.refl _ | exact Sub.nil _ | (apply sub_pick; (repeat (first | exact Has.here | apply Has.there)); skip) | apply Sub.drop))) ?_
  have hxm : fits m.Txn.Node ∧ fits m.Txn.Life ∧ fits m.Txn.Count := ⟨f4, f5, f6⟩
  by_cases k1 : m.Kind = 1
  · refine walk ?_
    refine ops_lkA2 (RV := rInt) (ag := false) (z := 0) rfl rfl (by repeat (first | exact Has.here | apply Has.there)) ?_
    rw [show (mget (m.Txn.Node, m.Txn.Life, m.Txn.Count) s.done).isSome = decide (isD s m.Txn) from bself _]
    refine walk ?_
    refine ex_if rfl (fun hd => ?_) (fun hd => ?_)
    · refine walk ?_
      rw [show hearOut s m = [] by unfold hearOut; rw [if_neg hf', if_pos k1, if_pos hd], show hearRec s m = [] by unfold hearRec; rw [if_neg hf', if_pos k1, if_pos hd]]
      refine finB [ownS rMessage 19 216 43 H nilS [], ownS rRec 9 120 53 H nilS [], partO H p s] ?_ (hs := ?_)
      · exact ⟨_, _, [], rfl, by rw [show hearS s m [] = s by unfold hearS; rw [if_neg hf', if_pos k1, if_pos hd]]⟩
      · refine Sub.trans ?_ (Sub.trans (part_shut (H1 := H) (H2 := H) (tp := tp) (db := db) (.refl _) (.refl _)) hnil)
        (repeat (first | exact Sub.refl _ | exact Sub.nil _ | (apply sub_pick; (repeat (first | exact Has.here | apply Has.there)); skip) | apply Sub.drop))
    refine walk ?_
    refine ops_L (L' := partO H p s :: row p6 43 (mCells s m 2 true) :: row p3 43 (m.cv (.slice b1 m.Work.Take.length c1) (.slice b2 m.Work.Drop.length c2) (.slice b3 m.Call.Route.Cells.length c3) (.slice b4 m.Reply.Route.Cells.length c4)) :: R) ?_ ?_
    · refine Sub.trans ?_ (part_shut (H1 := H) (H2 := H) (tp := tp) (db := db) (.refl _) (.refl _))
      (repeat (first | exact Sub.refl _ | exact Sub.nil _ | (apply sub_pick; (repeat (first | exact Has.here | apply Has.there)); skip) | apply Sub.drop))
    refine ops_call rfl rfl (is_spec (W0 := W0) (H := H) (p := p) (s := s) (x := m.Txn) (I0.t.ok (by omega)) I0.t.wd) fun r1 H1 B hl1 ⟨er, eB⟩ => ?_
    subst er eB
    refine walk ?_
    refine ex_if rfl (fun hp => ?_) (fun hp => ?_)
    · rw [show hearOut s m = [voteM s m true] by unfold hearOut; rw [if_neg hf', if_pos k1, if_neg hd, decide_eq_true (p := _ ∨ _) (.inl hp)], show hearRec s m = [] by unfold hearRec; rw [if_neg hf', if_pos k1, if_neg hd, if_pos hp]]
      have hS : ∀ cs, hearS s m cs = s := fun cs => by unfold hearS; rw [if_neg hf', if_pos k1, if_neg hd, if_pos hp]
      refine walk ?_
      refine ops_w rfl rfl (op_bs1 rfl rfl rfl fun b9 => ?_)
      refine walk ?_
      refine finB [ownS rMessage 19 216 43 H1 (.slice (some ⟨b9, 0, none⟩) 1 1) [voteM s m true], ownS rRec 9 120 53 H1 nilS [], partO H1 p s] ?_ (hs := ?_)
      · exact ⟨_, _, [], rfl, by rw [hS]⟩
      · refine Sub.trans (B := row b9 43 (mCells s m 2 true) :: partO H1 p s :: R) ?_ ((own1 (x := voteM s m true) (outM_reads I0.sh f1 fk2 hxm) c216).trans (Sub.cons ownS_nil))
        (repeat (first | exact Sub.refl _ | exact Sub.nil _ | (apply sub_pick; (repeat (first | exact Has.here | apply Has.there)); skip) | apply Sub.drop))
    refine ex_open (A := partO H1 p s) (σ := Nat × Nat) (B := fun a => [pRow p a.1 (PS.sh s) a.2, tabO H1 a.1 (PS.t s), dMap H1 a.2 s]) (p := fun _ => True) (by repeat (first | exact Has.here | apply Has.there)) (fun h ⟨tp, db, hbig⟩ => ⟨(tp, db), trivial, hbig⟩) fun ⟨tp, db⟩ _ => ?_
    dsimp only
    refine ex_L (L' := row p6 43 (mCells s m 2 true) :: row p3 43 (m.cv (.slice b1 m.Work.Take.length c1) (.slice b2 m.Work.Drop.length c2) (.slice b3 m.Call.Route.Cells.length c3) (.slice b4 m.Reply.Route.Cells.length c4)) :: pRow p tp s.sh db :: tabO H1 tp s.t :: dMap H1 db s :: R) (by (repeat (first | exact Sub.refl _ | exact Sub.nil _ | (apply sub_pick; (repeat (first | exact Has.here | apply Has.there)); skip) | apply Sub.drop))) ?_
    have hw1 : rWork H1 [I m.Work.Robot, .slice b1 m.Work.Take.length c1, .slice b2 m.Work.Drop.length c2] m.Work := ⟨_, _, rfl, f7, h1.mono hl1, h2.mono hl1⟩
    refine walk ?_
    refine ex_any 12 [row p3 43 (m.cv (.slice b1 m.Work.Take.length c1) (.slice b2 m.Work.Drop.length c2) (.slice b3 m.Call.Route.Cells.length c3) (.slice b4 m.Reply.Route.Cells.length c4)), pRow p tp s.sh db] ?_
    refine stepY 0 ?_; refine stepY 1 ?_; refine stepY 2 ?_; refine stepY 3 ?_; refine stepY 4 ?_; refine stepY 5 ?_; refine stepY 6 ?_; refine stepY 7 ?_
    refine gny_call 8 rfl rfl rfl (prepare_spec (W0 := W0) (H := H1) (p := tp) (s := s.t) (x := m.Txn) (w := m.Work) (cw := [I m.Work.Robot, .slice b1 m.Work.Take.length c1, .slice b2 m.Work.Drop.length c2]) hxm hw1 (by have := hm.w.ks_len; simp only [cap47]; omega)) fun r2 H2 B hl2 ⟨er, cs, hcs, eB⟩ => ?_
    subst er eB
    refine ⟨(by (repeat (first | exact Sub.refl _ | exact Sub.nil _ | (apply sub_pick; (repeat (first | exact Has.here | apply Has.there)); skip) | apply Sub.drop))), ?_⟩
    refine stepY 9 ?_; refine stepY 10 ?_
    refine any_sta 11 rfl rfl rfl rfl (by simp) rfl ⟨(by (repeat (first | exact Sub.refl _ | exact Sub.nil _ | (apply sub_pick; (repeat (first | exact Has.here | apply Has.there)); skip) | apply Sub.drop))), ?_⟩
    refine any_rest rfl ?_
    by_cases he : prepE s.t m.Txn m.Work = 0
    · rw [show hearOut s m = [voteM s m true] by unfold hearOut; rw [if_neg hf', if_pos k1, if_neg hd, decide_eq_true (p := _ ∨ _) (.inr he)], show hearRec s m = [recP m] by unfold hearRec; rw [if_neg hf', if_pos k1, if_neg hd, if_neg hp, if_pos he]]
      have hS : ∀ cs, hearS s m cs = ⟨s.sh, prepT s.t m.Txn m.Work cs, s.done⟩ := fun cs => by unfold hearS; rw [if_neg hf', if_pos k1, if_neg hd, if_neg hp, if_pos he]
      rw [decide_eq_true he, if_pos he]
      refine ops_L (L' := ownS rRec 9 120 53 H2 nilS [] :: row p6 43 (mCells s m 2 true) :: row p3 43 (m.cv (.slice b1 m.Work.Take.length c1) (.slice b2 m.Work.Drop.length c2) (.slice b3 m.Call.Route.Cells.length c3) (.slice b4 m.Reply.Route.Cells.length c4)) :: pRow p tp s.sh db :: tabO H2 tp (prepT s.t m.Txn m.Work cs) :: dMap H1 db s :: R) ?_ ?_
      · refine Sub.trans ?_ ownS_nil
        (repeat (first | exact Sub.refl _ | exact Sub.nil _ | (apply sub_pick; (repeat (first | exact Has.here | apply Has.there)); skip) | apply Sub.drop))
      have hl12 : H.le H2 := hl1.trans hl2
      refine walk ?_
      refine ex_any 9 [row p3 43 (m.cv (.slice b1 m.Work.Take.length c1) (.slice b2 m.Work.Drop.length c2) (.slice b3 m.Call.Route.Cells.length c3) (.slice b4 m.Reply.Route.Cells.length c4))] ?_
      refine stepY 0 ?_; refine stepY 1 ?_; refine stepY 2 ?_; refine stepY 3 ?_; refine stepY 4 ?_
      refine gny_call 5 rfl rfl rfl (pown_spec (W0 := W0) (H := H2) (m := m.Work) (c := [I m.Work.Robot, .slice b1 m.Work.Take.length c1, .slice b2 m.Work.Drop.length c2]) ⟨_, _, rfl, f7, h1.mono hl12, h2.mono hl12⟩) fun r3 H3 B hl3 ⟨cs3, er, hcs3, eB⟩ => ?_
      subst er eB
      refine ⟨(by (repeat (first | exact Sub.refl _ | exact Sub.nil _ | (apply sub_pick; (repeat (first | exact Has.here | apply Has.there)); skip) | apply Sub.drop))), ?_⟩
      obtain ⟨q1, q2, rfl, hrob, hq1, hq2⟩ := hcs3
      refine stepY 6 ?_
      refine any_app1 (y := recP m) 7 8 rfl rfl rfl ⟨q1, q2, nilS, rfl, fk2, hxm.1, hxm.2.1, hxm.2.2, hrob, hq1, hq2, SlB.nil⟩ (by simp only [cap47, List.length_nil]; omega) fun d3 e3 => ⟨(by (repeat (first | exact Sub.refl _ | exact Sub.nil _ | (apply sub_pick; (repeat (first | exact Has.here | apply Has.there)); skip) | apply Sub.drop))), ?_⟩
      refine any_rest rfl ?_
      refine walk ?_
      refine ops_w rfl rfl (op_bs1 rfl rfl rfl fun b9 => ?_)
      refine walk ?_
      refine finB [ownS rMessage 19 216 43 H3 (.slice (some ⟨b9, 0, none⟩) 1 1) [voteM s m true], ownS rRec 9 120 53 H3 (.slice d3 1 e3) [recP m], partO H3 p ⟨s.sh, prepT s.t m.Txn m.Work cs, s.done⟩] ?_ (hs := ?_)
      · exact ⟨_, _, cs, rfl, by rw [hS]; rfl⟩
      · refine Sub.trans (B := row b9 43 (mCells s m 2 true) :: ownS rRec 9 120 53 H3 (.slice d3 1 e3) [recP m] :: pRow p tp s.sh db :: tabO H2 tp (prepT s.t m.Txn m.Work cs) :: dMap H1 db s :: R) ?_ ((own1 (x := voteM s m true) (outM_reads I0.sh f1 fk2 hxm) c216).trans (Sub.cons (Sub.cons (part_shut (H1 := H2) (H2 := H1) (tp := tp) (db := db) hl3 (hl2.trans hl3)))))
        (repeat (first | exact Sub.refl _ | exact Sub.nil _ | (apply sub_pick; (repeat (first | exact Has.here | apply Has.there)); skip) | apply Sub.drop))
    · rw [show hearOut s m = [voteM s m false] by unfold hearOut; rw [if_neg hf', if_pos k1, if_neg hd, decide_eq_false (p := _ ∨ _) (fun h => h.elim hp he)], show hearRec s m = [] by unfold hearRec; rw [if_neg hf', if_pos k1, if_neg hd, if_neg hp, if_neg he]]
      have hS : ∀ cs, hearS s m cs = s := fun cs => by unfold hearS; rw [if_neg hf', if_pos k1, if_neg hd, if_neg hp, if_neg he]
      rw [decide_eq_false he, if_neg he]
      refine ops_L (L' := row p6 43 (mCells s m 2 false) :: row p3 43 (m.cv (.slice b1 m.Work.Take.length c1) (.slice b2 m.Work.Drop.length c2) (.slice b3 m.Call.Route.Cells.length c3) (.slice b4 m.Reply.Route.Cells.length c4)) :: pRow p tp s.sh db :: tabO H2 tp s.t :: dMap H1 db s :: R) (by (repeat (first | exact Sub.refl _ | exact Sub.nil _ | (apply sub_pick; (repeat (first | exact Has.here | apply Has.there)); skip) | apply Sub.drop))) ?_
      refine walk ?_
      refine ops_w rfl rfl (op_bs1 rfl rfl rfl fun b9 => ?_)
      refine walk ?_
      refine finB [ownS rMessage 19 216 43 H2 (.slice (some ⟨b9, 0, none⟩) 1 1) [voteM s m false], ownS rRec 9 120 53 H2 nilS [], partO H2 p s] ?_ (hs := ?_)
      · exact ⟨_, _, [], rfl, by rw [hS]⟩
      · refine Sub.trans (B := row b9 43 (mCells s m 2 false) :: pRow p tp s.sh db :: tabO H2 tp s.t :: dMap H1 db s :: R) ?_ ((own1 (x := voteM s m false) (outM_reads I0.sh f1 fk2 hxm) c216).trans (Sub.cons ((part_shut (H1 := H2) (H2 := H1) (tp := tp) (db := db) (.refl _) hl2).trans ownS_nil)))
        (repeat (first | exact Sub.refl _ | exact Sub.nil _ | (apply sub_pick; (repeat (first | exact Has.here | apply Has.there)); skip) | apply Sub.drop))
  by_cases k3 : m.Kind = 3
  case neg =>
    refine walk ?_
    rw [show hearOut s m = [] by unfold hearOut; rw [if_neg hf', if_neg k1, if_neg k3], show hearRec s m = [] by unfold hearRec; rw [if_neg hf', if_neg k1, if_neg k3]]
    refine finB [ownS rMessage 19 216 43 H nilS [], ownS rRec 9 120 53 H nilS [], partO H p s] ?_ (hs := ?_)
    · exact ⟨_, _, [], rfl, by rw [show hearS s m [] = s by unfold hearS; rw [if_neg hf', if_neg k1, if_neg k3]]⟩
    · refine Sub.trans ?_ (Sub.trans (part_shut (H1 := H) (H2 := H) (tp := tp) (db := db) (.refl _) (.refl _)) hnil)
      (repeat (first | exact Sub.refl _ | exact Sub.nil _ | (apply sub_pick; (repeat (first | exact Has.here | apply Has.there)); skip) | apply Sub.drop))
  refine walk ?_
  refine ops_L (L' := partO H p s :: row p6 43 (mCells s m 4 false) :: row p3 43 (m.cv (.slice b1 m.Work.Take.length c1) (.slice b2 m.Work.Drop.length c2) (.slice b3 m.Call.Route.Cells.length c3) (.slice b4 m.Reply.Route.Cells.length c4)) :: R) ?_ ?_
  · refine Sub.trans ?_ (part_shut (H1 := H) (H2 := H) (tp := tp) (db := db) (.refl _) (.refl _))
    (repeat (first | exact Sub.refl _ | exact Sub.nil _ | (apply sub_pick; (repeat (first | exact Has.here | apply Has.there)); skip) | apply Sub.drop))
  refine ops_call rfl rfl (until_spec (W0 := W0) (H := H) (p := p) (s := s) (x := m.Txn) hP (I0.t.ok (by omega)) I0.t.wd (fun q hq => by have := (I0.t.ww _ _ (I0.t.recs hq)).1.1.ks_len; simp only [cap47]; omega)) fun r1 H1 B hl1 ⟨er, eB⟩ => ?_
  subst er eB
  rw [show hearOut s m = [ackM s m] by unfold hearOut; rw [if_neg hf', if_neg k1, if_pos k3]]
  refine walk ?_
  refine ex_open (A := partO H1 p s) (σ := Nat × Nat) (B := fun a => [pRow p a.1 (PS.sh s) a.2, tabO H1 a.1 (PS.t s), dMap H1 a.2 s]) (p := fun _ => True) (by repeat (first | exact Has.here | apply Has.there)) (fun h ⟨tp, db, hbig⟩ => ⟨(tp, db), trivial, hbig⟩) fun ⟨tp, db⟩ _ => ?_
  dsimp only
  refine ex_L (L' := ownS rRec 9 120 53 H1 nilS [] :: row p6 43 (mCells s m 4 false) :: row p3 43 (m.cv (.slice b1 m.Work.Take.length c1) (.slice b2 m.Work.Drop.length c2) (.slice b3 m.Call.Route.Cells.length c3) (.slice b4 m.Reply.Route.Cells.length c4)) :: pRow p tp s.sh db :: tabO H1 tp s.t :: dMap H1 db s :: R) ?_ ?_
  · refine Sub.trans ?_ ownS_nil
    (repeat (first | exact Sub.refl _ | exact Sub.nil _ | (apply sub_pick; (repeat (first | exact Has.here | apply Has.there)); skip) | apply Sub.drop))
  refine ex_any 10 [row p3 43 (m.cv (.slice b1 m.Work.Take.length c1) (.slice b2 m.Work.Drop.length c2) (.slice b3 m.Call.Route.Cells.length c3) (.slice b4 m.Reply.Route.Cells.length c4)), pRow p tp s.sh db] ?_
  refine stepY 0 ?_; refine stepY 1 ?_; refine stepY 2 ?_; refine stepY 3 ?_; refine stepY 4 ?_; refine stepY 5 ?_; refine stepY 6 ?_; refine stepY 7 ?_
  refine gny_call 8 rfl rfl rfl (apply_spec (W0 := W0) (H := H1) (p := tp) (s := s.t) (x := m.Txn) (yes := m.Yes) (I0.t.ks_ok _)) fun r2 H2 B hl2 ⟨er, eB⟩ => ?_
  subst er eB
  refine ⟨(by (repeat (first | exact Sub.refl _ | exact Sub.nil _ | (apply sub_pick; (repeat (first | exact Has.here | apply Has.there)); skip) | apply Sub.drop))), ?_⟩
  refine stepY 9 ?_
  refine any_rest rfl ?_
  by_cases hp : isP s m.Txn
  · rw [show hearRec s m = [recA m] by unfold hearRec; rw [if_neg hf', if_neg k1, if_pos k3, if_pos hp]]
    have hS : ∀ cs, hearS s m cs = ⟨s.sh, applyT s.t m.Txn m.Yes, if m.Yes = true then mset m.Txn.k (untilS s m.Txn) s.done else s.done⟩ := fun cs => by unfold hearS; rw [if_neg hf', if_neg k1, if_pos k3, if_pos hp]
    rw [decide_eq_true (p := applyE s.t m.Txn = 0) (if_pos hp)]
    refine walk ?_
    refine ops_app1 (y := recA m) rfl rfl rfl ⟨nilS, nilS, nilS, rfl, fk3, hxm.1, hxm.2.1, hxm.2.2, fits0, SlB.nil, SlB.nil, SlB.nil⟩ (by simp only [cap47, List.length_nil]; omega) fun d3 e3 => ?_
    refine walk ?_
    refine ex_ifb rfl Iff.rfl (fun hy => ?_) (fun hy => ?_)
    · rw [if_pos hy] at hS
      refine walk ?_
      refine ex_any 7 [row p3 43 (m.cv (.slice b1 m.Work.Take.length c1) (.slice b2 m.Work.Drop.length c2) (.slice b3 m.Call.Route.Cells.length c3) (.slice b4 m.Reply.Route.Cells.length c4)), pRow p tp s.sh db] ?_
      refine stepY 0 ?_; refine stepY 1 ?_; refine stepY 2 ?_; refine stepY 3 ?_; refine stepY 4 ?_; refine stepY 5 ?_; refine stepY 6 ?_
      refine any_rest rfl ?_
      refine ops_update (RV := rInt) (ag := false) (cs := [I (untilS s m.Txn)]) (u := untilS s m.Txn) rfl rfl ⟨rfl, untilS_fits⟩ (by repeat (first | exact Has.here | apply Has.there)) ?_
      refine walk ?_
      refine ops_w rfl rfl (op_bs1 rfl rfl rfl fun b9 => ?_)
      refine walk ?_
      refine finB [ownS rMessage 19 216 43 H2 (.slice (some ⟨b9, 0, none⟩) 1 1) [ackM s m], ownS rRec 9 120 53 H2 (.slice d3 1 e3) [recA m], partO H2 p ⟨s.sh, applyT s.t m.Txn m.Yes, mset m.Txn.k (untilS s m.Txn) s.done⟩] ?_ (hs := ?_)
      · exact ⟨_, _, [], rfl, by rw [hS]; rfl⟩
      · refine Sub.trans (B := row b9 43 (mCells s m 4 false) :: ownS rRec 9 120 53 H2 (.slice d3 1 e3) [recA m] :: pRow p tp s.sh db :: tabO H2 tp (applyT s.t m.Txn m.Yes) :: mapO ek3 rInt false H1 db (mset m.Txn.k (untilS s m.Txn) s.done) :: R) ?_ ((own1 (x := ackM s m) (outM_reads I0.sh f1 fk4 hxm) c216).trans (Sub.cons (Sub.cons (part_shut (H1 := H2) (H2 := H1) (tp := tp) (db := db) (.refl _) hl2))))
        (repeat (first | exact Sub.refl _ | exact Sub.nil _ | (apply sub_pick; (repeat (first | exact Has.here | apply Has.there)); skip) | apply Sub.drop))
    · rw [if_neg (by simpa using hy)] at hS
      refine walk ?_
      refine ops_w rfl rfl (op_bs1 rfl rfl rfl fun b9 => ?_)
      refine walk ?_
      refine finB [ownS rMessage 19 216 43 H2 (.slice (some ⟨b9, 0, none⟩) 1 1) [ackM s m], ownS rRec 9 120 53 H2 (.slice d3 1 e3) [recA m], partO H2 p ⟨s.sh, applyT s.t m.Txn m.Yes, s.done⟩] ?_ (hs := ?_)
      · exact ⟨_, _, [], rfl, by rw [hS]; rfl⟩
      · refine Sub.trans (B := row b9 43 (mCells s m 4 false) :: ownS rRec 9 120 53 H2 (.slice d3 1 e3) [recA m] :: pRow p tp s.sh db :: tabO H2 tp (applyT s.t m.Txn m.Yes) :: dMap H1 db s :: R) ?_ ((own1 (x := ackM s m) (outM_reads I0.sh f1 fk4 hxm) c216).trans (Sub.cons (Sub.cons (part_shut (H1 := H2) (H2 := H1) (tp := tp) (db := db) (.refl _) hl2))))
        (repeat (first | exact Sub.refl _ | exact Sub.nil _ | (apply sub_pick; (repeat (first | exact Has.here | apply Has.there)); skip) | apply Sub.drop))
  · rw [show hearRec s m = [] by unfold hearRec; rw [if_neg hf', if_neg k1, if_pos k3, if_neg hp]]
    have hS : ∀ cs, hearS s m cs = s := fun cs => by unfold hearS; rw [if_neg hf', if_neg k1, if_pos k3, if_neg hp]
    have hE : applyE s.t m.Txn = 4 := if_neg hp
    rw [decide_eq_false (p := applyE s.t m.Txn = 0) (by rw [hE]; decide), show applyT s.t m.Txn m.Yes = s.t from if_neg hp]
    refine walk ?_
    refine ops_w rfl rfl (op_bs1 rfl rfl rfl fun b9 => ?_)
    refine walk ?_
    refine finB [ownS rMessage 19 216 43 H2 (.slice (some ⟨b9, 0, none⟩) 1 1) [ackM s m], ownS rRec 9 120 53 H2 nilS [], partO H2 p s] ?_ (hs := ?_)
    · exact ⟨_, _, [], rfl, by rw [hS]⟩
    · refine Sub.trans (B := row b9 43 (mCells s m 4 false) :: pRow p tp s.sh db :: tabO H2 tp s.t :: dMap H1 db s :: R) ?_ ((own1 (x := ackM s m) (outM_reads I0.sh f1 fk4 hxm) c216).trans (Sub.cons ((part_shut (H1 := H2) (H2 := H1) (tp := tp) (db := db) (.refl _) hl2).trans ownS_nil)))
      (repeat (first | exact Sub.refl _ | exact Sub.nil _ | (apply sub_pick; (repeat (first | exact Has.here | apply Has.there)); skip) | apply Sub.drop))
end Go.Proofs.YtjgjcakeimkkdaaGreatDoor

set_option linter.unusedVariables false
set_option linter.unusedSimpArgs false
namespace Go.Proofs.YtjgjcakeimkkdaaGreatDoor
open Go Go.Sx Go.Proofs Go.RowKit Go.Maps Go.Sort Go.Shelf Go.Lib
set_option maxRecDepth 100000 in
set_option maxHeartbeats 2000000 in
theorem keys1_rawD (F : Fence) (n : Nat) (h10 : F.fn 59) (hro : F.round = none) (hn : 1 ≤ n) (l Bm b : Nat) (es : Array MapEntry) (clock : Nat) (kf : MapEntry → K3) (J : List K3 → World → Prop)
    (hY : ∀ pre x W, J pre W → pre.length < es.size → YieldAt F (n - 1) Tryz.prog l #[ek3 x] W fun e W' => e = .returned (.bool true) ∧ J (pre ++ [x]) W' ∧ KeepsWalks W W')
    (W : World) (hJ : AbidesFrom W.heap.size J) (hm : W.cell? ⟨Bm, 0, none⟩ = some (.map (some b))) (hb : W.heap[b]? = some (.map es clock)) (hold : ∀ x ∈ es.toList, x.born < clock) (hnd : (es.toList.map (·.born)).Nodup) (hk : ∀ e ∈ es.toList, e.key = ek3 (kf e)) (h0 : J [] W) :
    CallsIn F n Tryz.prog 59 #[.func (.yield l) #[] #[], .pointer (some ⟨Bm, 0, none⟩)] W fun e W' => (∃ v, e = .returned v) ∧ ∃ ss : List K3, ss.Perm (es.toList.map kf) ∧ J ss W' := by
  have hblt : b < W.heap.size := (Array.getElem?_eq_some_iff.1 hb).1
  refine callsIn_of_wp Tryz.func59 rfl h10 ?_ hro
  simp only [Tryz.ntmps59, List.size_toArray, List.length_cons, List.length_nil, Nat.reduceAdd, Nat.reduceSub, Array.replicate_succ, Array.replicate_zero, List.push_toArray, List.append_toArray, List.nil_append, List.cons_append]
  gi_wp2_with (first
    | (gi_at_range; refine in_range_raw _ rfl _ 61 rfl 29 3 Tryz.underlying61 b es clock rfl hb ?_)
    | gi_in)
  go_frame
  gi_loopw [3] (fun _ wr => ∃ (seen : Array Nat) (c0 : Nat) (ss : List K3), wr.heap[b]? = some (.map es clock) ∧ wr.heap[W.heap.size]? = some (.mapIter (some b) clock seen c0) ∧ clock ≤ c0 ∧ ss.Perm ((cameL es seen).map kf) ∧ J ss wr)
    (fun _ wr => wr.rangeLeft b W.heap.size)
  case atStart =>
    exact ⟨#[], clock, [], (Below.heap_alloc _ _ b hblt).trans hb, World.alloc_heap_new W _, Nat.le_refl _, by rw [came_none]; exact .refl _, hJ [] W _ none h0 (World.grownBy_alloc W _ none) (fun r e => by cases e)⟩
  case round =>
    obtain ⟨seen, c0, ss, hbr, hrr, hc0, hperm, hJs⟩ := hrel
    gi_wp2_with (first
      | (gi_at_next; refine in_next_raw _ rfl _ rfl b W.heap.size es clock clock c0 seen rfl hrr hbr hold hc0 ?_ ?_)
      | gi_in)
    · intro hl0
      gi_wp2
      go_end0
      rw [came_all (by rw [hl0]; rfl)] at hperm
      exact ⟨⟨_, rfl⟩, ss, hperm, hJs⟩
    · intro e he w2 hr2 hg2 hs2
      obtain ⟨hcs, hem⟩ := came_step hnd (show e ∈ (leftOf es seen).toList by simpa using he)
      have hb2 : w2.heap[b]? = some (.map es clock) := (hg2.block b (Array.getElem?_eq_some_iff.1 hbr).1 (fun e1 => by cases e1; omega)).trans hbr
      have hen := run_entry_at (P := Tryz.prog) w2 W.heap.size b clock seen es clock e hr2 hb2 hem hnd
      rw [hk e hem] at hen ⊢
      obtain ⟨⟨x, y, z⟩, hx⟩ : ∃ q, q = kf e := ⟨_, rfl⟩
      rw [← hx] at hen ⊢
      simp only [ek3] at hen
      have he' : e ∈ (leftOf es seen).toList := by simpa using he
      have hwr : wr.heap.size = w2.heap.size := hs2.symm
      clear hs2
      have hJ2 : J ss w2 := hJ ss wr w2 (some W.heap.size) hJs hg2 (fun r e1 => by cases e1; exact ⟨Nat.le_refl _, _, hrr, rfl⟩)
      obtain ⟨W3, hW3⟩ : ∃ W3, W3 = w2.alloc (.cells #[.int .i64 x, .int .i64 y, .int .i64 z] 29) := ⟨_, rfl⟩
      have hJ3 : J ss W3 := by rw [hW3]; exact hJ ss w2 _ none hJ2 (World.grownBy_alloc w2 _ none) (fun r e1 => by cases e1)
      have hlen : ss.length < es.size := by
        have h1 := hperm.length_eq
        have h2 := hcs.length_eq
        have h3 : (cameL es (seen.push e.born)).length ≤ es.toList.length := List.length_filter_le _ _
        simp only [List.length_map, List.length_cons] at h1 h2
        simp only [Array.length_toList] at h3
        omega
      obtain ⟨fn, tmps, assign, body, hy, hR⟩ := hY ss (x, y, z) W3 hJ3 hlen
      simp only [ek3] at hy
      have hb3 : W3.heap[b]? = some (.map es clock) := by rw [hW3]; exact (Below.heap_alloc _ _ b (Array.getElem?_eq_some_iff.1 hb2).1).trans hb2
      have hr3 : W3.heap[W.heap.size]? = some (.mapIter (some b) clock (seen.push e.born) clock) := by rw [hW3]; exact (Below.heap_alloc _ _ _ (Array.getElem?_eq_some_iff.1 hr2).1).trans hr2
      gi_wp2
      rw [← hW3, hy]
      refine ⟨fun _ => hn, hR.mono ?_⟩
      rintro e4 W4 ⟨rfl, hJ4, hk4⟩
      gi_wp2
      go_roundw
      case rel =>
        refine ⟨seen.push e.born, clock, ss ++ [(x, y, z)], hk4.same b _ hb3 rfl, hk4.same _ _ hr3 rfl, Nat.le_refl _, ?_, hJ4⟩
        refine List.Perm.trans ?_ (hcs.map kf).symm
        rw [List.map_cons, ← hx]
        exact (List.perm_append_singleton _ _).trans (hperm.cons _)
      case measure =>
        have h1 := left_shrinks es seen e he'
        simp only [World.rangeLeft, hk4.same b _ hb3 rfl, hk4.same _ _ hr3 rfl, hbr, hrr]
        exact h1

set_option maxRecDepth 100000 in
set_option maxHeartbeats 4000000 in
theorem order_callsD (x y : K3) (W : World) : Calls Tryz.prog 33 #[.agg (c3 x).toArray, .agg (c3 y).toArray] W fun e w' => e = .returned (.int .i64 (ordI x y)) ∧ ∃ q os', w' = grow (W.drewN q) os' := by
  obtain ⟨x1, x2, x3⟩ := x
  obtain ⟨y1, y2, y3⟩ := y
  simp only [c3, ordI]
  have h1 := fun W => cmpI_calls x1 y1 W
  have h2 := fun W => cmpI_calls x2 y2 W
  have h3 := fun W => cmpI_calls x3 y3 W
  generalize compareInt x1 y1 = r1 at *
  generalize compareInt x2 y2 = r2 at *
  generalize compareInt x3 y3 = r3 at *
  have h4 := fun (blk : Nat) (w : World) (c0 : w.cell? ⟨blk, 0, none⟩ = some (.int .i64 r1)) (c1 : w.cell? ⟨blk, 1, none⟩ = some (.int .i64 r2)) (c2 : w.cell? ⟨blk, 2, none⟩ = some (.int .i64 r3)) => or3 r1 r2 r3 blk w c0 c1 c2
  generalize (if r1 = 0 then (if r2 = 0 then r3 else r2) else r1) = rr at *
  go_enter Tryz.func33, Tryz.ntmps33
  go_wp2
  obtain ⟨W2, hW2⟩ : ∃ W2, (W.alloc (.cells #[.int .i64 x1, .int .i64 x2, .int .i64 x3] 29)).alloc (.cells #[.int .i64 y1, .int .i64 y2, .int .i64 y3] 29) = W2 := ⟨_, rfl⟩
  have hg : W2 = grow W #[.cells #[.int .i64 x1, .int .i64 x2, .int .i64 x3] 29 (0, 0), .cells #[.int .i64 y1, .int .i64 y2, .int .i64 y3] 29 (0, 0)] := by rw [← hW2, alloc_eq_grow, alloc_eq_grow, grow_grow]; rfl
  have hb1 : W2.heap[W.heap.size]? = some (.cells #[.int .i64 x1, .int .i64 x2, .int .i64 x3] 29 (0, 0)) := by rw [← hW2]; exact (Below.heap_alloc _ _ _ (by simp)).trans (World.alloc_heap_new W _)
  have hb2 : W2.heap[W.heap.size + 1]? = some (.cells #[.int .i64 y1, .int .i64 y2, .int .i64 y3] 29 (0, 0)) := by rw [← hW2]; have := World.alloc_heap_new (W.alloc (.cells #[.int .i64 x1, .int .i64 x2, .int .i64 x3] 29)) (.cells #[.int .i64 y1, .int .i64 y2, .int .i64 y3] 29 (0, 0)); rwa [World.size_alloc] at this
  have a0 : W2.cell? ⟨W.heap.size, 0, none⟩ = some (.int .i64 x1) := by simp [World.cell?, hb1]
  have a1 : W2.cell? ⟨W.heap.size, 1, none⟩ = some (.int .i64 x2) := by simp [World.cell?, hb1]
  have a2 : W2.cell? ⟨W.heap.size, 2, none⟩ = some (.int .i64 x3) := by simp [World.cell?, hb1]
  have b0 : W2.cell? ⟨W.heap.size + 1, 0, none⟩ = some (.int .i64 y1) := by simp [World.cell?, hb2]
  have b1 : W2.cell? ⟨W.heap.size + 1, 1, none⟩ = some (.int .i64 y2) := by simp [World.cell?, hb2]
  have b2 : W2.cell? ⟨W.heap.size + 1, 2, none⟩ = some (.int .i64 y3) := by simp [World.cell?, hb2]
  rw [hW2]
  generalize W.heap.size + 1 = B2 at *
  generalize W.heap.size = B1 at *
  clear hW2 hb1 hb2
  go_still_tail 15, (by kernel_rfl)
  change wpStill _ _ W2.drew (fun a' => wpList _ _ _ _ a' W2.drew) _ _
  have hg3 : ∃ os, W2.drew = grow (W.drewN 1) os := ⟨#[.cells #[.int .i64 x1, .int .i64 x2, .int .i64 x3] 29 (0, 0), .cells #[.int .i64 y1, .int .i64 y2, .int .i64 y3] 29 (0, 0)], by rw [hg]; rfl⟩
  have a0' : W2.drew.cell? ⟨B1, 0, none⟩ = some (.int .i64 x1) := a0
  have a1' : W2.drew.cell? ⟨B1, 1, none⟩ = some (.int .i64 x2) := a1
  have a2' : W2.drew.cell? ⟨B1, 2, none⟩ = some (.int .i64 x3) := a2
  have b0' : W2.drew.cell? ⟨B2, 0, none⟩ = some (.int .i64 y1) := b0
  have b1' : W2.drew.cell? ⟨B2, 1, none⟩ = some (.int .i64 y2) := b1
  have b2' : W2.drew.cell? ⟨B2, 2, none⟩ = some (.int .i64 y3) := b2
  clear a0 a1 a2 b0 b1 b2 hg
  generalize W2.drew = W3 at *
  repeat still_step
  still_call (h1 _)
  repeat still_step
  still_call (h2 _)
  repeat still_step
  still_call (h3 _)
  refine wpStill_nil ?_
  go_wp2_with (go_at_call 60; refine (h4 _ _ (cell_new3 _ _ _ 0) (cell_new3 _ _ _ 1) (cell_new3 _ _ _ 2)).mono ?_; rintro e w' ⟨rfl, rfl⟩)
  go_ret
  obtain ⟨os, hos⟩ := hg3
  exact ⟨rfl, 1, os ++ #[.cells #[.int .i64 r1, .int .i64 r2, .int .i64 r3] 3 (0, 0)], by rw [hos, alloc_eq_grow, grow_grow]⟩
theorem cmpLaysD (blk off size : Nat) (w : World) : CmpLays Tryz.prog 33 #[] c3 3 ordI blk off size w := fun _ _ _ _ x y => order_callsD x y _
set_option maxRecDepth 100000 in
theorem sortFunc_callsD (gb cap : Nat) (ss : List K3) (W : World) (cur : Array Value) (hgb : W.heap[gb]? = some (.cells cur 29 (0, 0))) (r4 : cur.toList.take (ss.length * 3) = c3s ss) (hsz : ss.length < 4611686018427387904) :
    Calls Tryz.prog 58 #[.slice (some ⟨gb, 0, none⟩) ss.length cap, .func (.func 33) #[] #[]] W fun e w' => e = .returned (.tuple #[]) ∧ ∃ n os, w' = grow (putRow id (Sort.ahead W n) gb 0 (c3s (sort3 ss)).toArray) os := by
  have hgl : gb < W.heap.size := (Array.getElem?_eq_some_iff.1 hgb).1
  have hH : HoldsK c3 3 W gb 0 ss.toArray := by
    unfold HoldsK
    rw [flat3]
    exact holds_of_blockG hgb (by rw [c3s_len]; exact r4)
  have h := AnyQ.slices_SortFunc_total Tryz.sortTx 3 Tryz.isAgg29 Tryz.sizeOf29 c3 (fun _ => rfl) (by intro x v hv; simp [c3] at hv; rcases hv with rfl | rfl | rfl <;> rfl) ordI swoK 33 #[] gb 0 cap ss.toArray W (fun _ _ => rfl) (cmpLaysD gb 0 ss.toArray.size W) hH hgl (by simpa using hsz) (by
    intro x y h1 h2
    have e1 : ¬ ltK x y := fun h => by rw [← ltOf_iff] at h; rw [h] at h1; cases h1
    have e2 : ¬ ltK y x := fun h => by rw [← ltOf_iff] at h; rw [h] at h2; cases h2
    exact ltK_tot e1 e2)
  refine (show Calls Tryz.prog 58 #[.slice (some ⟨gb, 0, none⟩) ss.toArray.size cap, .func (.func 33) #[] #[]] W _ from h).mono ?_
  rintro e w' ⟨he, n, os, hw⟩
  refine ⟨he, n, os, ?_⟩
  rw [hw]
  unfold sortWorldK putRowK
  rw [show (ss.toArray.toList.mergeSort fun x y => !(ltOf ordI) y x) = sort3 ss from rfl, flat3]
set_option maxRecDepth 100000 in
set_option maxHeartbeats 2000000 in
theorem sortedFunc_inD (F : Fence) (n : Nat) (h6 : F.fn 31) (h8 : F.fn 57) (h9 : F.fn 58) (h11 : F.fn 88) (hro : F.round = none) (hwd : ∀ f args w R, Calls Tryz.prog f args w R → CallsIn F (n - 1) Tryz.prog f args w R) (hFg : ∀ g, F.fn g) (hn : 4 ≤ n) (g : Nat) (lb : Array Value) (eg : ∀ args w, (callFunc g args).run Tryz.prog w = .ok (.enter g args) w)
    (S : List K3 → Prop) (N : Nat) (hN : N ≤ maxLen) (hNb : N * 24 ≤ 140737488355328) (w : World) (hseq : SeqGives F (n - 1 - 1 - 1) Tryz.prog g lb ek3 S N w) :
    CallsIn F n Tryz.prog 31 #[.func (.func g) #[] lb, .func (.func 33) #[] #[]] w fun e w' => ∃ (v : Value) (ss : List K3), e = .returned v ∧ S ss ∧ w'.ownsRow w.heap.size 29 3 v ss.length (c3s (sort3 ss)) ∧ (v = .slice none 0 0 ↔ ss = []) ∧ Below w.heap.size w w' := by
  have h1 : 1 ≤ n := by omega
  refine callsIn_of_wp Tryz.func31 rfl h6 ?_ hro
  simp only [Tryz.ntmps31, List.size_toArray, List.length_cons, List.length_nil, Nat.reduceAdd, Nat.reduceSub, Array.replicate_succ, Array.replicate_zero, List.push_toArray, List.append_toArray, List.nil_append, List.cons_append]
  gi_wp2_with (gi_at_call 57; refine (collect_in F (n - 1) h8 h11 hro (by omega) g lb (hFg g) eg _ N hN hNb _ hseq.bounded).mono ?_; rintro e W ⟨v, ss, rfl, ⟨hS, hlen⟩, hrow, hnil, hb⟩)
  rcases hrow.2 with ⟨rfl, hz⟩ | ⟨gb, cap, cur, rfl, hbase, hgb, r1, r2, r3, r4⟩
  · have hss : ss = [] := List.eq_nil_of_length_eq_zero hz
    subst hss
    gi_wp2_with (gi_at_call 58; refine (hwd _ _ _ _ (sortFunc_none 0 _ W)).mono ?_; rintro e w' ⟨rfl, rfl⟩)
    go_ret
    exact ⟨.slice none 0 0, [], rfl, hS, by simpa [sort3] using hrow, by simp, hb⟩
  · have hsz : ss.length < 4611686018427387904 := by omega
    have cS := sortFunc_callsD gb cap ss W cur hgb r4 hsz
    gi_wp2_with (gi_at_call 58; refine (hwd _ _ _ _ cS).mono ?_; rintro e w' ⟨rfl, nn, os, rfl⟩)
    go_ret
    exact ⟨_, ss, rfl, hS, ownsRow_sortedG (by rw [c3s_len, sort3_len]) hbase hgb r1 r2 r3, hnil, hb.grown (grownBy_sortedG _) hb.size (fun j hj => by cases hj; exact hbase)⟩
set_option maxHeartbeats 1000000 in
theorem keysTx_inD (F : Fence) (n : Nat) (h7 : F.fn 32) (hro : F.round = none) (mb : Option Nat) (w : World) :
    CallsIn F n Tryz.prog 32 #[.map mb] w fun e w' => e = .returned (.func (.func 59) #[] #[.pointer (some ⟨w.heap.size, 0, none⟩)]) ∧ w' = w.alloc (.cells #[.map mb] 61) := by
  refine callsIn_of_wp Tryz.func32 rfl h7 ?_ hro
  simp only [Tryz.ntmps32, List.size_toArray, List.length_cons, List.length_nil, Nat.reduceAdd, Nat.reduceSub, Array.replicate_succ, Array.replicate_zero, List.push_toArray, List.append_toArray, List.nil_append, List.cons_append]
  gi_wp2
  go_ret
  exact ⟨rfl, rfl⟩

section
variable {ν : Type} {RV : Go.Sx.Rd ν} {ag : Bool} {H : Heap}
set_option maxRecDepth 100000 in
theorem enters60D : ∀ args w, (callFunc 59 args).run Tryz.prog w = .ok (.enter 59 args) w := fun _ _ => rfl
theorem keys_gives3D (n : Nat) (hn : 1 ≤ n) (Bm b : Nat) (es : Array MapEntry) (clock : Nat) (w : World) (hBm : Bm < w.heap.size) (hm : w.cell? ⟨Bm, 0, none⟩ = some (.map (some b))) (hb : w.heap[b]? = some (.map es clock))
    (hold : ∀ x ∈ es.toList, x.born < clock) (hnd : (es.toList.map (·.born)).Nodup) (hk : ∀ e ∈ es.toList, e.key = ek3 (kf3 e)) :
    SeqGives Fence.wide n Tryz.prog 59 #[.pointer (some ⟨Bm, 0, none⟩)] ek3 (fun ss => ss.Perm (es.toList.map kf3)) es.size w := fun l J W hW hJ hY h0 =>
  keys1_rawD Fence.wide n trivial rfl hn l Bm b es clock kf3 J (fun pre x W1 hj hl => hY pre x W1 hj hl) W hJ ((hW.cell (p := ⟨Bm, 0, none⟩) hBm).trans hm) ((hW.block b (Array.getElem?_eq_some_iff.1 hb).1).trans hb) hold hnd hk h0
theorem ct_sorted3D {W0 : World} {H0 : Heap} {p b : Nat} {ms : List (K3 × ν)} (hs : ∀ q ∈ ms, fits q.1.1 ∧ fits q.1.2.1 ∧ fits q.1.2.2) (hl : ms.length * 24 ≤ cap47) :
    Ct Tryz.prog 31 #[.func (.func 59) #[] #[.pointer (some ⟨p, 0, none⟩)], .func (.func 33) #[] #[]] W0 H [row p 61 [.map (some b)], mapO ek3 RV ag H0 b ms]
      (fun r H' B => B = [ownS rTxn 3 24 29 H r ((sort3 (ms.map (·.1))).map toTx), mapO ek3 RV ag H0 b ms] ∧ H' = H) := by
  intro w R hS
  have hcap : cap47 ≤ maxLen := by decide
  obtain ⟨hA, hR, a, r, d, dA, dR, lA, lR⟩ := hS.parts
  obtain ⟨hB, hR2, ⟨es, clock, hm, hpt⟩, r2, d2, l2, l3⟩ := r
  have h1 : w.heap[p]? = some (.cells #[.map (some b)] 61 (0, 0)) := lA _ _ a
  have hcellp : w.cell? ⟨p, 0, none⟩ = some (.map (some b)) := by simp [World.cell?, h1]
  have hplt : p < w.heap.size := (Array.getElem?_eq_some_iff.1 h1).1
  have hbm : w.heap[b]? = some (.map es clock) := lR _ _ (l2 _ _ hpt)
  have hlm : ms.length ≤ maxLen := by have := hl; simp only [cap47] at this hcap; omega
  have hlen : es.size = ms.length := by simpa using hm.el.len
  obtain ⟨hk1, hk2⟩ := el_kf3 hm.el
  have hnd : (es.toList.map (·.born)).Nodup := hm.rise.imp fun h => Nat.ne_of_lt h
  refine (callsIn_wide.1 (sortedFunc_inD Fence.wide 4 trivial trivial trivial trivial rfl (fun _ _ _ _ h => callsIn_wide.2 h) (fun _ => trivial) (Nat.le_refl _) _ _ enters60D (fun ss => ss.Perm (es.toList.map kf3)) es.size (by rw [hlen]; exact hlm) (by rw [hlen]; exact hl) w
    (keys_gives3D 1 (Nat.le_refl _) p b es clock w hplt hcellp hbm hm.lt hnd hk2))).mono ?_
  rintro e w' ⟨v, ss, rfl, hss, hrow, _, hbl⟩
  have hS2 : St W0 H w (mapO ek3 RV ag H0 b ms :: R) := hS.sub (Sub.drop (Sub.refl _))
  have hS3 := newRow3 hS2 hbl hrow
  rw [hk1] at hss
  have hsort : sort3 ss = sort3 (ms.map (·.1)) := sort3_perm hss
  refine ⟨v, H, [ownS rTxn 3 24 29 H v ((sort3 (ms.map (·.1))).map toTx), mapO ek3 RV ag H0 b ms], rfl, .refl _, ⟨rfl, rfl⟩, ?_⟩
  refine hS3.sub ?_
  have hlen2 : ss.length = ((sort3 (ms.map (·.1))).map toTx).length := by
    rw [List.length_map, sort3_len]
    exact hss.length_eq
  rw [hsort, hlen2]
  refine ownS_mk (rl3 fun k hk => ?_) ?_
  · unfold sort3 at hk
    rw [List.mem_mergeSort] at hk
    obtain ⟨q, hq, rfl⟩ := List.mem_map.1 hk
    exact hs q hq
  · rw [← hlen2, hss.length_eq, List.length_map]
    exact hl
theorem ct_keys3D {W0 : World} {H : Heap} {b : Nat} :
    Ct Tryz.prog 32 #[.map (some b)] W0 H [] (fun r H' B => ∃ p, r = .func (.func 59) #[] #[.pointer (some ⟨p, 0, none⟩)] ∧ B = [row p 61 [.map (some b)]] ∧ H' = H) :=
  ct_keys fun mb W => callsIn_wide.1 (keysTx_inD Fence.wide 0 trivial rfl mb W)
end
end Go.Proofs.YtjgjcakeimkkdaaGreatDoor

set_option linter.unusedVariables false
set_option linter.unusedSimpArgs false
namespace Go.Proofs.YtjgjcakeimkkdaaGreatDoor
open Go Go.Sx Go.Proofs
theorem askM_reads {H : Heap} {s : PS} {x : Txn} (hs : fits s.sh) (hx : okX x.k) : rMessage H [I s.sh, I x.Node, I 5, I x.Node, I x.Life, I x.Count, I 0, nilS, nilS, .bool false, I 0, I 0, I 0, I 0, nilS, I 0, I 0, I 0, nilS] (askM s x) :=
  ⟨nilS, nilS, nilS, nilS, rfl, hs, hx.1, by unfold fits; simp [askM], hx.1, hx.2.1, hx.2.2, fits0, SlB.nil, SlB.nil, fits0, fits0, fits0, fits0, SlB.nil, fits0, fits0, fits0, SlB.nil⟩
set_option maxHeartbeats 4000000 in
theorem ask_spec {W0 : World} {H : Heap} {p : Nat} {s : PS} (hs : TsOk s.t) (hsh : fits s.sh) (hx : ∀ q ∈ prepL s.t, okX q.Txn.k) :
    Ct Tryz.prog 24 #[.pointer (some ⟨p, 0, none⟩)] W0 H [partO H p s] (fun r H' B => B = [ownS rMessage 19 216 43 H' r ((prepL s.t).map fun q => askM s q.Txn), partO H' p s]) := by
  refine Ct.go (vs := [.pointer (some ⟨p, 0, none⟩)]) fun R => ?_
  refine ex_open (A := partO H p s) (σ := Nat × Nat) (B := fun a => [pRow p a.1 (PS.sh s) a.2, tabO H a.1 (PS.t s), dMap H a.2 s]) (p := fun _ => True) (by repeat (first | exact Has.here | apply Has.there)) (fun h ⟨tp, db, hbig⟩ => ⟨(tp, db), trivial, hbig⟩) fun ⟨tp, db⟩ _ => ?_
  dsimp only
  refine walk ?_
  refine ops_call rfl rfl (prepared_spec (W0 := W0) (H := H) (p := tp) hs) fun r1 H1 B hl1 eB => ?_
  subst eB
  refine ops_freeze r1 fun H2 hl2 hsl => ?_
  have hln : (prepL s.t).length ≤ 1000000 := by have := hs.wn; simpa [prepL, sort3_len] using this
  generalize hl : prepL s.t = l at *
  obtain ⟨b0, c0, rfl, hc0, hd0⟩ := hsl.1.shape
  refine walk ?_
  refine ex_loop (σ := Nat × Option Addr × Nat) (fun u => u.1 ≤ l.length) (fun u => [(0, .pointer (some ⟨p, 0, none⟩)), (3, .slice u.2.1 ((l.take u.1).map fun q => askM s q.Txn).length u.2.2), (10, .slice b0 l.length c0), (11, I l.length), (12, I u.1)]) (fun _ => H2) (fun u => ownS rMessage 19 216 43 H2 (.slice u.2.1 ((l.take u.1).map fun q => askM s q.Txn).length u.2.2) ((l.take u.1).map fun q => askM s q.Txn) :: pRow p tp s.sh db :: tabO H1 tp s.t :: dMap H db s :: R) (fun u => l.length - u.1) (0, none, 0) (Nat.zero_le _) (hs0 := ?_) fun ⟨k, d, e⟩ hk0 K hL => ?_
  rotate_left
  · simp only [List.take_zero, List.map_nil, List.length_nil]
    refine Sub.trans ?_ ownS_nil
    (repeat (first | exact Sub.refl _ | exact Sub.nil _ | (apply sub_pick; (repeat (first | exact Has.here | apply Has.there)); skip) | apply Sub.drop))
  simp only at hk0
  dsimp only
  have hll : ((l.take k).map fun q => askM s q.Txn).length = k := by simp; omega
  have hcap : (1000000 : Nat) * 216 ≤ cap47 := by decide
  refine walk ?_
  refine ex_if rfl (fun hk => ?_) (fun hk => ?_)
  · have hk1 : k < l.length := by omega
    have ht := List.take_succ_eq_append_getElem hk1
    have hxk := hx l[k] (List.getElem_mem hk1)
    have hse : ((l.take k).map fun q => askM s q.Txn) ++ [askM s l[k].Txn] = (l.take (k + 1)).map fun q => askM s q.Txn := by rw [ht, List.map_append]; rfl
    have hsl2 : ((l.take k).map fun q => askM s q.Txn).length + 1 = ((l.take (k + 1)).map fun q => askM s q.Txn).length := by rw [← hse]; simp
    refine walk ?_
    refine ops_ixp rfl rfl hsl.1 hk1 fun b o c hr hc => ?_
    obtain ⟨s1, s2, s3, rfl, g1, g2, g3, g4, g5, g6, g7, g8⟩ := hc
    generalize l[k] = q at hr g1 g2 g3 g4 g5 g6 g7 g8 hse hxk
    obtain ⟨qk, ⟨xa, xb, xc⟩, ⟨wr, wt, wd⟩, qy, qp⟩ := q
    dsimp only at hr g1 g2 g3 g4 g5 g6 g7 g8 hse hxk
    obtain ⟨sb1, sc1, rfl, _, _⟩ := g6.1.shape
    obtain ⟨sb2, sc2, rfl, _, _⟩ := g7.1.shape
    obtain ⟨sb3, sc3, rfl, _, _⟩ := g8.1.shape
    change HRow H2 b o [I qk, I xa, I xb, I xc, I wr, .slice sb1 wt.length sc1, .slice sb2 wd.length sc2, .bool qy, .slice sb3 qp.length sc3] at hr
    refine ops_ldNH rfl rfl hr rfl ?_
    refine ops_alloc rfl fun p5 _ => ?_
    refine walk ?_
    refine ex_any 13 [pRow p tp s.sh db, row p5 53 [I qk, I xa, I xb, I xc, I wr, .slice sb1 wt.length sc1, .slice sb2 wd.length sc2, .bool qy, .slice sb3 qp.length sc3]] ?_
    refine stepY 0 ?_; refine stepY 1 ?_; refine stepY 2 ?_; refine stepY 3 ?_; refine stepY 4 ?_; refine stepY 5 ?_; refine stepY 6 ?_; refine stepY 7 ?_; refine stepY 8 ?_; refine stepY 9 ?_; refine stepY 10 ?_
    refine any_app1 (y := askM s ⟨xa, xb, xc⟩) 11 12 rfl rfl rfl (askM_reads hsh hxk) (by rw [hll]; simp only [cap47]; omega) fun d3 e3 => ⟨(by (repeat (first | exact Sub.refl _ | exact Sub.nil _ | (apply sub_pick; (repeat (first | exact Has.here | apply Has.there)); skip) | apply Sub.drop))), ?_⟩
    rw [hsl2, hse]
    refine any_rest rfl ?_
    refine walk ?_
    exact out_next hL (k + 1, d3, e3) (by simp only; omega)
  · clear hL
    obtain rfl : k = l.length := by omega
    refine walk ?_
    rw [List.take_length] at *
    refine finB [ownS rMessage 19 216 43 H2 (.slice d (l.map fun q => askM s q.Txn).length e) (l.map fun q => askM s q.Txn), partO H2 p s] ?_ (hs := ?_)
    · exact rfl
    · refine Sub.trans ?_ (Sub.cons (part_shut (H1 := H1) (H2 := H) (tp := tp) (db := db) hl2 (hl1.trans hl2)))
      (repeat (first | exact Sub.refl _ | exact Sub.nil _ | (apply sub_pick; (repeat (first | exact Has.here | apply Has.there)); skip) | apply Sub.drop))
end Go.Proofs.YtjgjcakeimkkdaaGreatDoor

set_option linter.unusedVariables false
set_option linter.unusedSimpArgs false
namespace Go.Proofs.YtjgjcakeimkkdaaGreatDoor
open Go Go.Sx Go.Proofs
theorem PInv.dfit {n : Nat} {s : PS} (h : PInv n s) (k : K3) : fits ((mget k s.done).getD 0) := by
  cases hg : mget k s.done with
  | none => exact fits0
  | some v => exact (h.dv k v hg).2
set_option maxHeartbeats 4000000 in
theorem doneP_spec {W0 : World} {H Ht Hd : Heap} {p n tp db : Nat} {s : PS} (I0 : PInv n s) (hn : n ≤ 1000) (hlt : Ht.le H) (hld : Hd.le H) :
    Ct Tryz.prog 11 #[.pointer (some ⟨p, 0, none⟩)] W0 H [pRow p tp s.sh db, tabO Ht tp s.t, dMap Hd db s] (fun r H' B => B = [ownS rPartDone 4 32 66 H' r (doneL s), pRow p tp s.sh db, tabO Ht tp s.t, dMap Hd db s]) := by
  refine Ct.go (vs := [.pointer (some ⟨p, 0, none⟩)]) fun R => ?_
  have hwf : ∀ q ∈ s.done, fits q.1.1 ∧ fits q.1.2.1 ∧ fits q.1.2.2 := fun q hq => (I0.dv q.1 q.2 (mget_of_mem I0.dd hq)).1
  have hdn := I0.dn
  refine walk ?_
  refine ops_call rfl rfl ct_keys3D fun r1 H1 B hl1 ⟨pk, er, eB, eH⟩ => ?_
  subst er eB eH
  have hc := ct_sorted3D (W0 := W0) (H := H1) (H0 := Hd) (RV := rInt) (ag := false) (p := pk) (b := db) (ms := s.done) hwf (by simp only [cap47]; omega)
  refine ops_call rfl rfl hc fun r2 H2 B hl2 ⟨eB, eH⟩ => ?_
  subst eB eH
  have hlen : (sort3 (s.done.map (·.1))).length = s.done.length := by rw [sort3_len, List.length_map]
  have hmem : ∀ k ∈ sort3 (s.done.map (·.1)), fits k.1 ∧ fits k.2.1 ∧ fits k.2.2 := fun k hk => by
    obtain ⟨q, hq, rfl⟩ := List.mem_map.1 (mem_sort3.1 hk)
    exact hwf q hq
  unfold doneL
  generalize sort3 (s.done.map (·.1)) = ks at *
  refine ops_freeze r2 fun H3 hl3 hsl => ?_
  obtain ⟨b0, c0, rfl, hc0, hd0⟩ := hsl.1.shape
  have hlx : (ks.map toTx).length = ks.length := by simp
  refine walk ?_
  refine ex_loop (σ := Nat × Option Addr × Nat) (fun u => u.1 ≤ ks.length) (fun u => [(0, .pointer (some ⟨p, 0, none⟩)), (11, .slice b0 (ks.map toTx).length c0), (12, I (ks.map toTx).length), (13, I u.1), (3, .slice u.2.1 ((ks.take u.1).map (doneOf s)).length u.2.2)]) (fun _ => H3)
    (fun u => ownS rPartDone 4 32 66 H3 (.slice u.2.1 ((ks.take u.1).map (doneOf s)).length u.2.2) ((ks.take u.1).map (doneOf s)) :: pRow p tp s.sh db :: tabO Ht tp s.t :: dMap Hd db s :: R) (fun u => ks.length - u.1) (0, none, 0) (Nat.zero_le _) (hs0 := ?_) fun ⟨k, d, e⟩ hk0 K hL => ?_
  rotate_left
  · simp only [List.take_zero, List.map_nil, List.length_nil]
    refine Sub.trans ?_ ownS_nil
    (repeat (first | exact Sub.refl _ | exact Sub.nil _ | (apply sub_pick; (repeat (first | exact Has.here | apply Has.there)); skip) | apply Sub.drop))
  simp only at hk0
  dsimp only
  have hll : ((ks.take k).map (doneOf s)).length = k := by simp; omega
  refine walk ?_
  refine ex_if rfl (fun hk => ?_) (fun hk => ?_)
  · have hk1 : k < ks.length := by omega
    have ht := List.take_succ_eq_append_getElem hk1
    refine walk ?_
    refine ops_ixp rfl rfl hsl.1 (show k < (ks.map toTx).length by simpa using hk1) fun b o c hr hc => ?_
    have hx : (ks.map toTx)[k]'(by simpa using hk1) = toTx ks[k] := by simp
    rw [hx] at hc
    have hkm := hmem ks[k] (List.getElem_mem hk1)
    have hfd := I0.dfit ks[k]
    have hse : (ks.take k).map (doneOf s) ++ [doneOf s ks[k]] = (ks.take (k + 1)).map (doneOf s) := by rw [ht, List.map_append]; rfl
    have hsl2 : ((ks.take k).map (doneOf s)).length + 1 = ((ks.take (k + 1)).map (doneOf s)).length := by rw [← hse]; simp
    obtain ⟨rfl, _⟩ := hc
    generalize ks[k] = kk at *
    obtain ⟨ka, kb, kc⟩ := kk
    dsimp only at hkm
    change HRow H3 b o [I ka, I kb, I kc] at hr
    refine walk ?_
    refine ops_ldNH rfl rfl hr rfl ?_
    refine ops_alloc rfl fun p5 _ => ?_
    refine walk ?_
    refine ex_any 11 [pRow p tp s.sh db, row p5 29 [I ka, I kb, I kc], dMap Hd db s] ?_
    refine stepY 0 ?_; refine stepY 1 ?_; refine stepY 2 ?_; refine stepY 3 ?_; refine stepY 4 ?_; refine stepY 5 ?_; refine stepY 6 ?_
    refine gny_lkA (RV := rInt) (ag := false) (z := 0) 7 rfl rfl rfl (by repeat (first | exact Has.here | apply Has.there)) ?_
    refine stepY 8 ?_
    refine any_app1 (y := doneOf s (ka, kb, kc)) 9 10 rfl rfl rfl ⟨rfl, hkm.1, hkm.2.1, hkm.2.2, hfd⟩ (by rw [hll]; simp only [cap47]; omega) fun d3 e3 => ⟨(by (repeat (first | exact Sub.refl _ | exact Sub.nil _ | (apply sub_pick; (repeat (first | exact Has.here | apply Has.there)); skip) | apply Sub.drop))), ?_⟩
    rw [hsl2, hse]
    refine any_rest rfl ?_
    refine walk ?_
    exact out_next hL (k + 1, d3, e3) (by simp only; omega)
  · clear hL
    obtain rfl : k = ks.length := by omega
    refine walk ?_
    rw [List.take_length] at *
    refine finB [ownS rPartDone 4 32 66 H3 (.slice d (ks.map (doneOf s)).length e) (ks.map (doneOf s)), pRow p tp s.sh db, tabO Ht tp s.t, dMap Hd db s] ?_
    exact rfl
theorem done_spec {W0 : World} {H : Heap} {p n : Nat} {s : PS} (I0 : PInv n s) (hn : n ≤ 1000) :
    Ct Tryz.prog 11 #[.pointer (some ⟨p, 0, none⟩)] W0 H [partO H p s] (fun r H' B => B = [ownS rPartDone 4 32 66 H' r (doneL s), partO H' p s]) :=
  Ct.open (σ := Nat × Nat) (B := fun a => [pRow p a.1 s.sh a.2, tabO H a.1 s.t, dMap H a.2 s]) (fun h ⟨tp, db, hb⟩ => ⟨(tp, db), hb⟩) fun ⟨tp, db⟩ =>
    (doneP_spec I0 hn (.refl _) (.refl _)).fold fun r H' B R hl eB => by
      subst eB
      exact ⟨_, rfl, Sub.cons (part_shut hl hl)⟩
/-- what Load answers -/
def PLoadQ (sh : Int) (s' : TS) (dones : List PartDone) (p : Nat) (r : Value) (H' : Heap) (B : List HProp) : Prop :=
  (loadD s' [] dones = none ∧ r = .tuple #[nilP, I 2] ∧ B = []) ∨ ∃ d, loadD s' [] dones = some d ∧ r = .tuple #[.pointer (some ⟨p, 0, none⟩), I 0] ∧ B = [partO H' p ⟨sh, s', d⟩]
set_option maxHeartbeats 8000000 in
set_option maxRecDepth 20000 in
theorem pload_spec {W0 : World} {H : Heap} {sh : Int} {v1 v2 v3 : Value} {holds : List Hold} {prep : List Rec} {dones : List PartDone} (h1 : SlB rHold 2 24 H v1 holds) (h2 : SlB rRec 9 120 H v2 prep) (h3 : SlB rPartDone 4 32 H v3 dones) (hp : prep.length ≤ 1000000) (hw : ∀ q ∈ prep, q.Work.ks.length * 16 ≤ cap47)
    (hok : ∀ s' a', LoadP (holdF holds) (loadH [] 0 holds).2 prep s' a' → lastE a' prep = 0 ∧ TsOk s' ∧ (s'.works.map (·.1)).Nodup) :
    Ct Tryz.prog 12 #[I sh, v1, v2, v3] W0 H [] (fun r H' B => ∃ s' a' p, LoadP (holdF holds) (loadH [] 0 holds).2 prep s' a' ∧ PLoadQ sh s' dones p r H' B) := by
  refine Ct.go (vs := [I sh, v1, v2, v3]) fun R => ?_
  obtain ⟨b1, c1, rfl, hc1, hd1⟩ := h1.1.shape
  obtain ⟨b2, c2, rfl, hc2, hd2⟩ := h2.1.shape
  obtain ⟨b3, c3, rfl, hc3, hd3⟩ := h3.1.shape
  refine walk ?_
  refine ops_call rfl rfl (load_spec (W0 := W0) (H := H) h1 h2 hp hw) fun r1 H1 B hl1 ⟨s', a', tp, hLP, hlast⟩ => ?_
  obtain ⟨g1, g2, g3⟩ := hok s' a' hLP
  rw [if_pos g1] at hlast
  obtain ⟨er, eB⟩ := hlast
  subst er eB
  refine walk ?_
  refine ops_makeMap ek3 rInt false rfl fun db _ => ?_
  refine walk ?_
  refine ops_box rfl rfl fun p _ => ?_
  refine walk ?_
  generalize hT : loadD s' [] dones = T
  refine ex_loop (σ := Nat × List (K3 × Int) × Heap) (fun u => u.1 ≤ dones.length ∧ loadD s' u.2.1 (dones.drop u.1) = T ∧ H1.le u.2.2) (fun u => [(12, .pointer (some ⟨p, 0, none⟩)), (31, .slice b3 dones.length c3), (32, I dones.length), (33, I u.1)]) (fun u => u.2.2) (fun u => partO u.2.2 p ⟨sh, s', u.2.1⟩ :: R) (fun u => dones.length - u.1) (0, [], H1) ⟨Nat.zero_le _, hT, .refl _⟩ (hs0 := ?_) fun ⟨k, d, HK⟩ ⟨hk0, hF, hlK⟩ K hL => ?_
  rotate_left
  · refine Sub.trans ?_ (part_shut (H1 := H1) (H2 := H1) (tp := tp) (db := db) (.refl _) (.refl _))
    (repeat (first | exact Sub.refl _ | exact Sub.nil _ | (apply sub_pick; (repeat (first | exact Has.here | apply Has.there)); skip) | apply Sub.drop))
  simp only at hk0 hF hlK
  dsimp only
  refine walk ?_
  refine ex_if rfl (fun hk => ?_) (fun hk => ?_)
  · have hk1 : k < dones.length := by omega
    rw [List.drop_eq_getElem_cons hk1] at hF
    unfold loadD at hF
    refine ex_open (A := partO HK p ⟨sh, s', d⟩) (σ := Nat × Nat) (B := fun a => [pRow p a.1 (PS.sh ⟨sh, s', d⟩) a.2, tabO HK a.1 (PS.t ⟨sh, s', d⟩), dMap HK a.2 ⟨sh, s', d⟩]) (p := fun _ => True) (by repeat (first | exact Has.here | apply Has.there)) (fun h ⟨tp, db, hbig⟩ => ⟨(tp, db), trivial, hbig⟩) fun ⟨tp, db⟩ _ => ?_
    dsimp only
    refine walk ?_
    refine ops_ixp rfl rfl (h3.mono (hl1.trans hlK)).1 hk1 fun b o c hr hc => ?_
    obtain ⟨rfl, hc1, hc2, hc3, hc4⟩ := hc
    generalize dones[k] = q at hr hc1 hc2 hc3 hc4 hF
    obtain ⟨⟨x1, x2, x3⟩, du⟩ := q
    dsimp only at hr hc1 hc2 hc3 hc4 hF
    change HRow HK b o [I x1, I x2, I x3, I du] at hr
    refine walk ?_
    refine ops_ldNH rfl rfl hr rfl ?_
    refine ops_alloc rfl fun p14 _ => ?_
    refine walk ?_
    refine ops_lkA2 (RV := rInt) (ag := false) (z := 0) rfl rfl (by repeat (first | exact Has.here | apply Has.there)) ?_
    dsimp only
    change (if (mget (x1, x2, x3) d).isSome = true ∨ (mget (x1, x2, x3) s'.works).isSome = true then none else loadD s' (mset (x1, x2, x3) du d) (dones.drop (k + 1))) = T at hF
    by_cases htw : (mget (x1, x2, x3) d).isSome = true
    · rw [if_pos (.inl htw)] at hF
      rw [htw]
      refine walk ?_
      refine fin0 ?_
      exact ⟨s', a', 0, hLP, .inl ⟨by rw [hT, hF], rfl, rfl⟩⟩
    have htw' : (mget (x1, x2, x3) d).isSome = false := by simpa using htw
    rw [htw']
    refine walk ?_
    refine ops_L (L' := partO HK p ⟨sh, s', d⟩ :: row p14 66 [I x1, I x2, I x3, I du] :: R) ?_ ?_
    · refine Sub.trans ?_ (part_shut (H1 := HK) (H2 := HK) (tp := tp) (db := db) (.refl _) (.refl _))
      (repeat (first | exact Sub.refl _ | exact Sub.nil _ | (apply sub_pick; (repeat (first | exact Has.here | apply Has.there)); skip) | apply Sub.drop))
    refine ops_call rfl rfl (is_spec (W0 := W0) (H := HK) (p := p) (s := ⟨sh, s', d⟩) (x := ⟨x1, x2, x3⟩) g2 g3) fun r2 H2 B hl2 ⟨er, eB⟩ => ?_
    subst er eB
    refine walk ?_
    refine ex_if rfl (fun hq => ?_) (fun hq => ?_)
    · have hq' : (mget (x1, x2, x3) s'.works).isSome = true := hq
      rw [if_pos (.inr hq')] at hF
      refine walk ?_
      refine fin0 ?_
      exact ⟨s', a', 0, hLP, .inl ⟨by rw [hT, hF], rfl, rfl⟩⟩
    have hq' : ¬ (mget (x1, x2, x3) s'.works).isSome = true := hq
    rw [if_neg (fun h => h.elim htw hq')] at hF
    refine ex_open (A := partO H2 p ⟨sh, s', d⟩) (σ := Nat × Nat) (B := fun a => [pRow p a.1 (PS.sh ⟨sh, s', d⟩) a.2, tabO H2 a.1 (PS.t ⟨sh, s', d⟩), dMap H2 a.2 ⟨sh, s', d⟩]) (p := fun _ => True) (by repeat (first | exact Has.here | apply Has.there)) (fun h ⟨tp, db, hbig⟩ => ⟨(tp, db), trivial, hbig⟩) fun ⟨tp, db⟩ _ => ?_
    dsimp only
    refine walk ?_
    refine ex_any 8 [pRow p tp sh db, row p14 66 [I x1, I x2, I x3, I du]] ?_
    refine stepY 0 ?_; refine stepY 1 ?_; refine stepY 2 ?_; refine stepY 3 ?_; refine stepY 4 ?_; refine stepY 5 ?_; refine stepY 6 ?_; refine stepY 7 ?_
    refine any_rest rfl ?_
    refine ops_update (RV := rInt) (ag := false) (cs := [I du]) (u := du) rfl rfl ⟨rfl, hc4⟩ (by repeat (first | exact Has.here | apply Has.there)) ?_
    refine walk ?_
    refine out_next hL (k + 1, mset (x1, x2, x3) du d, H2) ⟨by simp only; omega, hF, hlK.trans hl2⟩ (hs := ?_)
    refine Sub.trans ?_ (part_shut (H1 := H2) (H2 := H2) (tp := tp) (db := db) (.refl _) (.refl _))
    (repeat (first | exact Sub.refl _ | exact Sub.nil _ | (apply sub_pick; (repeat (first | exact Has.here | apply Has.there)); skip) | apply Sub.drop))
  · clear hL
    obtain rfl : k = dones.length := by omega
    rw [List.drop_length] at hF
    unfold loadD at hF
    refine walk ?_
    refine finB [partO HK p ⟨sh, s', d⟩] ?_
    exact ⟨s', a', p, hLP, .inr ⟨d, by rw [hT, hF], rfl, rfl⟩⟩
end Go.Proofs.YtjgjcakeimkkdaaGreatDoor
