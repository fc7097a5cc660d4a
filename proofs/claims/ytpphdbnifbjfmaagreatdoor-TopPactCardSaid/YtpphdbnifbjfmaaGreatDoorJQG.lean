/- Hear, walked. -/
import Derived.Test.YtpphdbnifbjfmaaGreatDoorJMR
import Derived.Test.YtpphdbnifbjfmaaGreatDoorJQF
set_option linter.unusedVariables false
set_option linter.unusedSimpArgs false
namespace Go.Proofs.YtpphdbnifbjfmaaGreatDoor
open Go Go.Sx Go.Proofs
theorem bself : ∀ b : Bool, b = decide (b = true) := by decide
theorem own1 {α : Type} {Rr : Sx.Rd α} {sz w T b : Nat} {H : Heap} {cs : List Value} {x : α} {L : List HProp} [RdOk Rr sz] (h : Rr H cs x) (hw : w ≤ cap47) : Sub (row b T cs :: L) (ownS Rr sz w T H (.slice (some ⟨b, 0, none⟩) 1 1) [x] :: L) := by
  have hl := RdOk.len h
  have h1 := own_shut (T := T) (sz := sz) (m := 1) (b := b) (cap := 1) (xs := cs) (sp := []) (R := L) (by omega) (Nat.le_refl _) (by decide) (by simp [hl])
  rw [List.append_nil] at h1
  exact h1.trans (ownS_mk (s := .slice (some ⟨b, 0, none⟩) 1 1) (xs := [x]) (show RL Rr H cs [x] from ⟨cs, [], by simp, h, rfl⟩) (by simpa using hw))
abbrev mCells (s : PS) (m : Message) (k : Int) (y : Bool) : List Value := [I s.sh, I m.From, I k, I m.Txn.Node, I m.Txn.Life, I m.Txn.Count, I 0, nilS, nilS, .bool y, I 0, I 0, I 0, I 0, nilS, I 0, I 0, I 0, nilS]
theorem outM_reads {H : Heap} {s : PS} {m : Message} {k : Int} {y : Bool} (hs : fits s.sh) (hf : fits m.From) (hk : fits k) (hx : fits m.Txn.Node ∧ fits m.Txn.Life ∧ fits m.Txn.Count) : rMessage H (mCells s m k y) { zMessage with From := s.sh, To := m.From, Kind := k, Txn := m.Txn, Yes := y } :=
  ⟨nilS, nilS, nilS, nilS, rfl, hs, hf, hk, hx.1, hx.2.1, hx.2.2, fits0, SlB.nil, SlB.nil, fits0, fits0, fits0, fits0, SlB.nil, fits0, fits0, fits0, SlB.nil⟩
theorem fk2 : fits (2 : Int) := by unfold fits; omega
theorem fk3 : fits (3 : Int) := by unfold fits; omega
theorem fk4 : fits (4 : Int) := by unfold fits; omega
theorem c216 : 216 ≤ cap47 := by decide
theorem c120 : 120 ≤ cap47 := by decide
set_option maxHeartbeats 16000000 in
set_option maxRecDepth 20000 in
theorem hear_spec {W0 : World} {H : Heap} {p n : Nat} {s : PS} {m : Message} {c : List Value} (hP : PkH H) (I0 : PInv n s) (hn : n ≤ 500) (hm : OkM m) (hc : rMessage H c m) :
    Ct Tryz.prog 36 #[.pointer (some ⟨p, 0, none⟩), .agg c.toArray] W0 H [partO H p s] (fun r H' B => ∃ v1 v2 cs, r = .tuple #[v1, v2] ∧ B = [ownS rMessage 19 216 81 H' v1 (hearOut s m), ownS rRec 9 120 48 H' v2 (hearRec s m), partO H' p (hearS s m cs)]) := by
  refine Ct.go (vs := [.pointer (some ⟨p, 0, none⟩), .agg c.toArray]) fun R => ?_
  obtain ⟨s1, s2, s3, s4, rfl, f1, f2, f3, f4, f5, f6, f7, h1, h2, f8, f9, f10, f11, h3, f12, f13, f14, h4⟩ := hc
  obtain ⟨b1, c1, rfl, _, _⟩ := h1.1.shape
  obtain ⟨b2, c2, rfl, _, _⟩ := h2.1.shape
  obtain ⟨b3, c3, rfl, _, _⟩ := h3.1.shape
  obtain ⟨b4, c4, rfl, _, _⟩ := h4.1.shape
  refine ex_open (A := partO H p s) (σ := Nat × Nat) (B := fun a => [pRow p a.1 (PS.sh s) a.2, tabO H a.1 (PS.t s), dMap H a.2 s]) (p := fun _ => True) (by repeat (first | exact Has.here | apply Has.there)) (fun h ⟨tp, db, hbig⟩ => ⟨(tp, db), trivial, hbig⟩) fun ⟨tp, db⟩ _ => ?_
  dsimp only
  refine walk ?_
  refine ops_box rfl rfl fun p3 _ => ?_
  have hnil : ∀ {H' : Heap} {L : List HProp}, Sub L (ownS rMessage 19 216 81 H' nilS [] :: ownS rRec 9 120 48 H' nilS [] :: L) := ownS_nil.trans ownS_nil
  by_cases hf : forMe s m
  case neg =>
    rw [show hearOut s m = [] from if_pos hf, show hearRec s m = [] from if_pos hf]
    by_cases e1 : m.To = s.sh
    · have e2 : ¬ m.From = m.Txn.Node := fun e => hf ⟨e1, e⟩
      refine walk ?_
      refine finB [ownS rMessage 19 216 81 H nilS [], ownS rRec 9 120 48 H nilS [], partO H p s] ?_ (hs := ?_)
      · exact ⟨_, _, [], rfl, by rw [show hearS s m [] = s from if_pos hf]⟩
      · refine Sub.trans ?_ (Sub.trans (part_shut (H1 := H) (H2 := H) (tp := tp) (db := db) (.refl _) (.refl _)) hnil)
        exact subA
    · refine walk ?_
      refine finB [ownS rMessage 19 216 81 H nilS [], ownS rRec 9 120 48 H nilS [], partO H p s] ?_ (hs := ?_)
      · exact ⟨_, _, [], rfl, by rw [show hearS s m [] = s from if_pos hf]⟩
      · refine Sub.trans ?_ (Sub.trans (part_shut (H1 := H) (H2 := H) (tp := tp) (db := db) (.refl _) (.refl _)) hnil)
        exact subA
  have hf' : ¬ ¬ forMe s m := fun h => h hf
  obtain ⟨e1, e2⟩ := id hf
  refine walk ?_
  refine ex_any 11 [row p3 81 (m.cv (.slice b1 m.Work.Take.length c1) (.slice b2 m.Work.Drop.length c2) (.slice b3 m.Call.Route.Cells.length c3) (.slice b4 m.Reply.Route.Cells.length c4)), pRow p tp s.sh db] ?_
  refine stepY 0 ?_; refine stepY 1 ?_; refine stepY 2 ?_; refine stepY 3 ?_; refine stepY 4 ?_; refine stepY 5 ?_; refine stepY 6 ?_; refine stepY 7 ?_; refine stepY 8 ?_
  refine gny_alloc 9 rfl rfl fun p6 _ => ?_
  refine any_sta 10 rfl rfl rfl rfl (by simp) rfl ⟨subA, ?_⟩
  refine any_rest rfl ?_
  refine ops_L (L' := row p6 81 [I s.sh, I m.From, I 0, I m.Txn.Node, I m.Txn.Life, I m.Txn.Count, I 0, nilS, nilS, .bool false, I 0, I 0, I 0, I 0, nilS, I 0, I 0, I 0, nilS] :: row p3 81 (m.cv (.slice b1 m.Work.Take.length c1) (.slice b2 m.Work.Drop.length c2) (.slice b3 m.Call.Route.Cells.length c3) (.slice b4 m.Reply.Route.Cells.length c4)) :: pRow p tp s.sh db :: tabO H tp s.t :: dMap H db s :: R) subA ?_
  have hxm : fits m.Txn.Node ∧ fits m.Txn.Life ∧ fits m.Txn.Count := ⟨f4, f5, f6⟩
  by_cases k1 : m.Kind = 1
  · refine walk ?_
    refine ops_lkA2 (RV := rInt) (ag := false) (z := 0) rfl rfl (by repeat (first | exact Has.here | apply Has.there)) ?_
    rw [show (mget (m.Txn.Node, m.Txn.Life, m.Txn.Count) s.done).isSome = decide (isD s m.Txn) from bself _]
    refine walk ?_
    refine ex_if rfl (fun hd => ?_) (fun hd => ?_)
    · refine walk ?_
      rw [show hearOut s m = [] by unfold hearOut; rw [if_neg hf', if_pos k1, if_pos hd], show hearRec s m = [] by unfold hearRec; rw [if_neg hf', if_pos k1, if_pos hd]]
      refine finB [ownS rMessage 19 216 81 H nilS [], ownS rRec 9 120 48 H nilS [], partO H p s] ?_ (hs := ?_)
      · exact ⟨_, _, [], rfl, by rw [show hearS s m [] = s by unfold hearS; rw [if_neg hf', if_pos k1, if_pos hd]]⟩
      · refine Sub.trans ?_ (Sub.trans (part_shut (H1 := H) (H2 := H) (tp := tp) (db := db) (.refl _) (.refl _)) hnil)
        exact subA
    refine walk ?_
    refine ops_L (L' := partO H p s :: row p6 81 (mCells s m 2 true) :: row p3 81 (m.cv (.slice b1 m.Work.Take.length c1) (.slice b2 m.Work.Drop.length c2) (.slice b3 m.Call.Route.Cells.length c3) (.slice b4 m.Reply.Route.Cells.length c4)) :: R) ?_ ?_
    · refine Sub.trans ?_ (part_shut (H1 := H) (H2 := H) (tp := tp) (db := db) (.refl _) (.refl _))
      exact subA
    refine ops_call rfl rfl (is_spec (W0 := W0) (H := H) (p := p) (s := s) (x := m.Txn) (I0.t.ok (by omega)) I0.t.wd) fun r1 H1 B hl1 ⟨er, eB⟩ => ?_
    subst er eB
    refine walk ?_
    refine ex_if rfl (fun hp => ?_) (fun hp => ?_)
    · rw [show hearOut s m = [voteM s m true] by unfold hearOut; rw [if_neg hf', if_pos k1, if_neg hd, decide_eq_true (p := _ ∨ _) (.inl hp)], show hearRec s m = [] by unfold hearRec; rw [if_neg hf', if_pos k1, if_neg hd, if_pos hp]]
      have hS : ∀ cs, hearS s m cs = s := fun cs => by unfold hearS; rw [if_neg hf', if_pos k1, if_neg hd, if_pos hp]
      refine walk ?_
      refine ops_w rfl rfl (op_bs1 rfl rfl rfl fun b9 => ?_)
      refine walk ?_
      refine finB [ownS rMessage 19 216 81 H1 (.slice (some ⟨b9, 0, none⟩) 1 1) [voteM s m true], ownS rRec 9 120 48 H1 nilS [], partO H1 p s] ?_ (hs := ?_)
      · exact ⟨_, _, [], rfl, by rw [hS]⟩
      · refine Sub.trans (B := row b9 81 (mCells s m 2 true) :: partO H1 p s :: R) ?_ ((own1 (x := voteM s m true) (outM_reads I0.sh f1 fk2 hxm) c216).trans (Sub.cons ownS_nil))
        exact subA
    refine ex_open (A := partO H1 p s) (σ := Nat × Nat) (B := fun a => [pRow p a.1 (PS.sh s) a.2, tabO H1 a.1 (PS.t s), dMap H1 a.2 s]) (p := fun _ => True) (by repeat (first | exact Has.here | apply Has.there)) (fun h ⟨tp, db, hbig⟩ => ⟨(tp, db), trivial, hbig⟩) fun ⟨tp, db⟩ _ => ?_
    dsimp only
    refine ex_L (L' := row p6 81 (mCells s m 2 true) :: row p3 81 (m.cv (.slice b1 m.Work.Take.length c1) (.slice b2 m.Work.Drop.length c2) (.slice b3 m.Call.Route.Cells.length c3) (.slice b4 m.Reply.Route.Cells.length c4)) :: pRow p tp s.sh db :: tabO H1 tp s.t :: dMap H1 db s :: R) subA ?_
    have hw1 : rWork H1 [I m.Work.Robot, .slice b1 m.Work.Take.length c1, .slice b2 m.Work.Drop.length c2] m.Work := ⟨_, _, rfl, f7, h1.mono hl1, h2.mono hl1⟩
    refine walk ?_
    refine ex_any 12 [row p3 81 (m.cv (.slice b1 m.Work.Take.length c1) (.slice b2 m.Work.Drop.length c2) (.slice b3 m.Call.Route.Cells.length c3) (.slice b4 m.Reply.Route.Cells.length c4)), pRow p tp s.sh db] ?_
    refine stepY 0 ?_; refine stepY 1 ?_; refine stepY 2 ?_; refine stepY 3 ?_; refine stepY 4 ?_; refine stepY 5 ?_; refine stepY 6 ?_; refine stepY 7 ?_
    refine gny_call 8 rfl rfl rfl (prepare_spec (W0 := W0) (H := H1) (p := tp) (s := s.t) (x := m.Txn) (w := m.Work) (cw := [I m.Work.Robot, .slice b1 m.Work.Take.length c1, .slice b2 m.Work.Drop.length c2]) hxm hw1 (by have := hm.w.ks_len; simp only [cap47]; omega)) fun r2 H2 B hl2 ⟨er, cs, hcs, eB⟩ => ?_
    subst er eB
    refine ⟨subA, ?_⟩
    refine stepY 9 ?_; refine stepY 10 ?_
    refine any_sta 11 rfl rfl rfl rfl (by simp) rfl ⟨subA, ?_⟩
    refine any_rest rfl ?_
    by_cases he : prepE s.t m.Txn m.Work = 0
    · rw [show hearOut s m = [voteM s m true] by unfold hearOut; rw [if_neg hf', if_pos k1, if_neg hd, decide_eq_true (p := _ ∨ _) (.inr he)], show hearRec s m = [recP m] by unfold hearRec; rw [if_neg hf', if_pos k1, if_neg hd, if_neg hp, if_pos he]]
      have hS : ∀ cs, hearS s m cs = ⟨s.sh, prepT s.t m.Txn m.Work cs, s.done⟩ := fun cs => by unfold hearS; rw [if_neg hf', if_pos k1, if_neg hd, if_neg hp, if_pos he]
      rw [decide_eq_true he, if_pos he]
      refine ops_L (L' := ownS rRec 9 120 48 H2 nilS [] :: row p6 81 (mCells s m 2 true) :: row p3 81 (m.cv (.slice b1 m.Work.Take.length c1) (.slice b2 m.Work.Drop.length c2) (.slice b3 m.Call.Route.Cells.length c3) (.slice b4 m.Reply.Route.Cells.length c4)) :: pRow p tp s.sh db :: tabO H2 tp (prepT s.t m.Txn m.Work cs) :: dMap H1 db s :: R) ?_ ?_
      · refine Sub.trans ?_ ownS_nil
        exact subA
      have hl12 : H.le H2 := hl1.trans hl2
      refine walk ?_
      refine ex_any 9 [row p3 81 (m.cv (.slice b1 m.Work.Take.length c1) (.slice b2 m.Work.Drop.length c2) (.slice b3 m.Call.Route.Cells.length c3) (.slice b4 m.Reply.Route.Cells.length c4))] ?_
      refine stepY 0 ?_; refine stepY 1 ?_; refine stepY 2 ?_; refine stepY 3 ?_; refine stepY 4 ?_
      refine gny_call 5 rfl rfl rfl (pown_spec (W0 := W0) (H := H2) (m := m.Work) (c := [I m.Work.Robot, .slice b1 m.Work.Take.length c1, .slice b2 m.Work.Drop.length c2]) ⟨_, _, rfl, f7, h1.mono hl12, h2.mono hl12⟩) fun r3 H3 B hl3 ⟨cs3, er, hcs3, eB⟩ => ?_
      subst er eB
      refine ⟨subA, ?_⟩
      obtain ⟨q1, q2, rfl, hrob, hq1, hq2⟩ := hcs3
      refine stepY 6 ?_
      refine any_app1 (y := recP m) 7 8 rfl rfl rfl ⟨q1, q2, nilS, rfl, fk2, hxm.1, hxm.2.1, hxm.2.2, hrob, hq1, hq2, SlB.nil⟩ (by simp only [cap47, List.length_nil]; omega) fun d3 e3 => ⟨subA, ?_⟩
      refine any_rest rfl ?_
      refine walk ?_
      refine ops_w rfl rfl (op_bs1 rfl rfl rfl fun b9 => ?_)
      refine walk ?_
      refine finB [ownS rMessage 19 216 81 H3 (.slice (some ⟨b9, 0, none⟩) 1 1) [voteM s m true], ownS rRec 9 120 48 H3 (.slice d3 1 e3) [recP m], partO H3 p ⟨s.sh, prepT s.t m.Txn m.Work cs, s.done⟩] ?_ (hs := ?_)
      · exact ⟨_, _, cs, rfl, by rw [hS]; rfl⟩
      · refine Sub.trans (B := row b9 81 (mCells s m 2 true) :: ownS rRec 9 120 48 H3 (.slice d3 1 e3) [recP m] :: pRow p tp s.sh db :: tabO H2 tp (prepT s.t m.Txn m.Work cs) :: dMap H1 db s :: R) ?_ ((own1 (x := voteM s m true) (outM_reads I0.sh f1 fk2 hxm) c216).trans (Sub.cons (Sub.cons (part_shut (H1 := H2) (H2 := H1) (tp := tp) (db := db) hl3 (hl2.trans hl3)))))
        exact subA
    · rw [show hearOut s m = [voteM s m false] by unfold hearOut; rw [if_neg hf', if_pos k1, if_neg hd, decide_eq_false (p := _ ∨ _) (fun h => h.elim hp he)], show hearRec s m = [] by unfold hearRec; rw [if_neg hf', if_pos k1, if_neg hd, if_neg hp, if_neg he]]
      have hS : ∀ cs, hearS s m cs = s := fun cs => by unfold hearS; rw [if_neg hf', if_pos k1, if_neg hd, if_neg hp, if_neg he]
      rw [decide_eq_false he, if_neg he]
      refine ops_L (L' := row p6 81 (mCells s m 2 false) :: row p3 81 (m.cv (.slice b1 m.Work.Take.length c1) (.slice b2 m.Work.Drop.length c2) (.slice b3 m.Call.Route.Cells.length c3) (.slice b4 m.Reply.Route.Cells.length c4)) :: pRow p tp s.sh db :: tabO H2 tp s.t :: dMap H1 db s :: R) subA ?_
      refine walk ?_
      refine ops_w rfl rfl (op_bs1 rfl rfl rfl fun b9 => ?_)
      refine walk ?_
      refine finB [ownS rMessage 19 216 81 H2 (.slice (some ⟨b9, 0, none⟩) 1 1) [voteM s m false], ownS rRec 9 120 48 H2 nilS [], partO H2 p s] ?_ (hs := ?_)
      · exact ⟨_, _, [], rfl, by rw [hS]⟩
      · refine Sub.trans (B := row b9 81 (mCells s m 2 false) :: pRow p tp s.sh db :: tabO H2 tp s.t :: dMap H1 db s :: R) ?_ ((own1 (x := voteM s m false) (outM_reads I0.sh f1 fk2 hxm) c216).trans (Sub.cons ((part_shut (H1 := H2) (H2 := H1) (tp := tp) (db := db) (.refl _) hl2).trans ownS_nil)))
        exact subA
  by_cases k3 : m.Kind = 3
  case neg =>
    refine walk ?_
    rw [show hearOut s m = [] by unfold hearOut; rw [if_neg hf', if_neg k1, if_neg k3], show hearRec s m = [] by unfold hearRec; rw [if_neg hf', if_neg k1, if_neg k3]]
    refine finB [ownS rMessage 19 216 81 H nilS [], ownS rRec 9 120 48 H nilS [], partO H p s] ?_ (hs := ?_)
    · exact ⟨_, _, [], rfl, by rw [show hearS s m [] = s by unfold hearS; rw [if_neg hf', if_neg k1, if_neg k3]]⟩
    · refine Sub.trans ?_ (Sub.trans (part_shut (H1 := H) (H2 := H) (tp := tp) (db := db) (.refl _) (.refl _)) hnil)
      exact subA
  refine walk ?_
  refine ops_L (L' := partO H p s :: row p6 81 (mCells s m 4 false) :: row p3 81 (m.cv (.slice b1 m.Work.Take.length c1) (.slice b2 m.Work.Drop.length c2) (.slice b3 m.Call.Route.Cells.length c3) (.slice b4 m.Reply.Route.Cells.length c4)) :: R) ?_ ?_
  · refine Sub.trans ?_ (part_shut (H1 := H) (H2 := H) (tp := tp) (db := db) (.refl _) (.refl _))
    exact subA
  refine ops_call rfl rfl (until_spec (W0 := W0) (H := H) (p := p) (s := s) (x := m.Txn) hP (I0.t.ok (by omega)) I0.t.wd (fun q hq => by have := (I0.t.ww _ _ (I0.t.recs hq)).1.1.ks_len; simp only [cap47]; omega)) fun r1 H1 B hl1 ⟨er, eB⟩ => ?_
  subst er eB
  rw [show hearOut s m = [ackM s m] by unfold hearOut; rw [if_neg hf', if_neg k1, if_pos k3]]
  refine walk ?_
  refine ex_open (A := partO H1 p s) (σ := Nat × Nat) (B := fun a => [pRow p a.1 (PS.sh s) a.2, tabO H1 a.1 (PS.t s), dMap H1 a.2 s]) (p := fun _ => True) (by repeat (first | exact Has.here | apply Has.there)) (fun h ⟨tp, db, hbig⟩ => ⟨(tp, db), trivial, hbig⟩) fun ⟨tp, db⟩ _ => ?_
  dsimp only
  refine ex_L (L' := ownS rRec 9 120 48 H1 nilS [] :: row p6 81 (mCells s m 4 false) :: row p3 81 (m.cv (.slice b1 m.Work.Take.length c1) (.slice b2 m.Work.Drop.length c2) (.slice b3 m.Call.Route.Cells.length c3) (.slice b4 m.Reply.Route.Cells.length c4)) :: pRow p tp s.sh db :: tabO H1 tp s.t :: dMap H1 db s :: R) ?_ ?_
  · refine Sub.trans ?_ ownS_nil
    exact subA
  refine ex_any 10 [row p3 81 (m.cv (.slice b1 m.Work.Take.length c1) (.slice b2 m.Work.Drop.length c2) (.slice b3 m.Call.Route.Cells.length c3) (.slice b4 m.Reply.Route.Cells.length c4)), pRow p tp s.sh db] ?_
  refine stepY 0 ?_; refine stepY 1 ?_; refine stepY 2 ?_; refine stepY 3 ?_; refine stepY 4 ?_; refine stepY 5 ?_; refine stepY 6 ?_; refine stepY 7 ?_
  refine gny_call 8 rfl rfl rfl (apply_spec (W0 := W0) (H := H1) (p := tp) (s := s.t) (x := m.Txn) (yes := m.Yes) (I0.t.ks_ok _)) fun r2 H2 B hl2 ⟨er, eB⟩ => ?_
  subst er eB
  refine ⟨subA, ?_⟩
  refine stepY 9 ?_
  refine any_rest rfl ?_
  by_cases hp : isP s m.Txn
  · rw [show hearRec s m = [recA m] by unfold hearRec; rw [if_neg hf', if_neg k1, if_pos k3, if_pos hp]]
    have hS : ∀ cs, hearS s m cs = ⟨s.sh, applyT s.t m.Txn m.Yes, if m.Yes = true then mset m.Txn.k (untilS s m.Txn) s.done else s.done⟩ := fun cs => by unfold hearS; rw [if_neg hf', if_neg k1, if_pos k3, if_pos hp]
    rw [decide_eq_true (p := applyE s.t m.Txn = 0) (if_pos hp)]
    refine walk ?_
    refine ops_app1 (y := recA m) rfl rfl rfl ⟨nilS, nilS, nilS, rfl, fk3, hxm.1, hxm.2.1, hxm.2.2, fits0, SlB.nil, SlB.nil, SlB.nil⟩ (by simp only [cap47, List.length_nil]; omega) fun d3 e3 => ?_
    refine walk ?_
    refine ex_ifb rfl Iff.rfl (fun hy => ?_) (fun hy => ?_)
    · rw [if_pos hy] at hS
      refine walk ?_
      refine ex_any 7 [row p3 81 (m.cv (.slice b1 m.Work.Take.length c1) (.slice b2 m.Work.Drop.length c2) (.slice b3 m.Call.Route.Cells.length c3) (.slice b4 m.Reply.Route.Cells.length c4)), pRow p tp s.sh db] ?_
      refine stepY 0 ?_; refine stepY 1 ?_; refine stepY 2 ?_; refine stepY 3 ?_; refine stepY 4 ?_; refine stepY 5 ?_; refine stepY 6 ?_
      refine any_rest rfl ?_
      refine ops_update (RV := rInt) (ag := false) (cs := [I (untilS s m.Txn)]) (u := untilS s m.Txn) rfl rfl ⟨rfl, untilS_fits⟩ (by repeat (first | exact Has.here | apply Has.there)) ?_
      refine walk ?_
      refine ops_w rfl rfl (op_bs1 rfl rfl rfl fun b9 => ?_)
      refine walk ?_
      refine finB [ownS rMessage 19 216 81 H2 (.slice (some ⟨b9, 0, none⟩) 1 1) [ackM s m], ownS rRec 9 120 48 H2 (.slice d3 1 e3) [recA m], partO H2 p ⟨s.sh, applyT s.t m.Txn m.Yes, mset m.Txn.k (untilS s m.Txn) s.done⟩] ?_ (hs := ?_)
      · exact ⟨_, _, [], rfl, by rw [hS]; rfl⟩
      · refine Sub.trans (B := row b9 81 (mCells s m 4 false) :: ownS rRec 9 120 48 H2 (.slice d3 1 e3) [recA m] :: pRow p tp s.sh db :: tabO H2 tp (applyT s.t m.Txn m.Yes) :: mapO ek3 rInt false H1 db (mset m.Txn.k (untilS s m.Txn) s.done) :: R) ?_ ((own1 (x := ackM s m) (outM_reads I0.sh f1 fk4 hxm) c216).trans (Sub.cons (Sub.cons (part_shut (H1 := H2) (H2 := H1) (tp := tp) (db := db) (.refl _) hl2))))
        exact subA
    · rw [if_neg (by simpa using hy)] at hS
      refine walk ?_
      refine ops_w rfl rfl (op_bs1 rfl rfl rfl fun b9 => ?_)
      refine walk ?_
      refine finB [ownS rMessage 19 216 81 H2 (.slice (some ⟨b9, 0, none⟩) 1 1) [ackM s m], ownS rRec 9 120 48 H2 (.slice d3 1 e3) [recA m], partO H2 p ⟨s.sh, applyT s.t m.Txn m.Yes, s.done⟩] ?_ (hs := ?_)
      · exact ⟨_, _, [], rfl, by rw [hS]; rfl⟩
      · refine Sub.trans (B := row b9 81 (mCells s m 4 false) :: ownS rRec 9 120 48 H2 (.slice d3 1 e3) [recA m] :: pRow p tp s.sh db :: tabO H2 tp (applyT s.t m.Txn m.Yes) :: dMap H1 db s :: R) ?_ ((own1 (x := ackM s m) (outM_reads I0.sh f1 fk4 hxm) c216).trans (Sub.cons (Sub.cons (part_shut (H1 := H2) (H2 := H1) (tp := tp) (db := db) (.refl _) hl2))))
        exact subA
  · rw [show hearRec s m = [] by unfold hearRec; rw [if_neg hf', if_neg k1, if_pos k3, if_neg hp]]
    have hS : ∀ cs, hearS s m cs = s := fun cs => by unfold hearS; rw [if_neg hf', if_neg k1, if_pos k3, if_neg hp]
    have hE : applyE s.t m.Txn = 4 := if_neg hp
    rw [decide_eq_false (p := applyE s.t m.Txn = 0) (by rw [hE]; decide), show applyT s.t m.Txn m.Yes = s.t from if_neg hp]
    refine walk ?_
    refine ops_w rfl rfl (op_bs1 rfl rfl rfl fun b9 => ?_)
    refine walk ?_
    refine finB [ownS rMessage 19 216 81 H2 (.slice (some ⟨b9, 0, none⟩) 1 1) [ackM s m], ownS rRec 9 120 48 H2 nilS [], partO H2 p s] ?_ (hs := ?_)
    · exact ⟨_, _, [], rfl, by rw [hS]⟩
    · refine Sub.trans (B := row b9 81 (mCells s m 4 false) :: pRow p tp s.sh db :: tabO H2 tp s.t :: dMap H1 db s :: R) ?_ ((own1 (x := ackM s m) (outM_reads I0.sh f1 fk4 hxm) c216).trans (Sub.cons ((part_shut (H1 := H2) (H2 := H1) (tp := tp) (db := db) (.refl _) hl2).trans ownS_nil)))
      exact subA
end Go.Proofs.YtpphdbnifbjfmaaGreatDoor
