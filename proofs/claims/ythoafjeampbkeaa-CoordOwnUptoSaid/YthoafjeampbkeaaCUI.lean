/- Messages held against each other; messages with lists of their own. -/
import Derived.Test.YthoafjeampbkeaaCTW
import Derived.Test.YthoafjeampbkeaaCUH
set_option linter.unusedVariables false
set_option linter.unusedSimpArgs false
namespace Go.Proofs.Ythoafjeampbkeaa
open Go Go.Sx Go.Proofs
theorem sameRoute_spec {W0 : World} {H : Heap} {c d : List Value} {x y : Route} (h0 : rRoute H c x) (h1 : rRoute H d y) :
    Ct Try.prog 60 #[.agg c.toArray, .agg d.toArray] W0 H [] (fun r H' B => r = .bool (decide (x = y)) ∧ B = [] ∧ H' = H) := by
  refine Ct.go fun R => ?_
  obtain ⟨xs, xc⟩ := x
  obtain ⟨ys, yc⟩ := y
  obtain ⟨s, rfl, h2, h0⟩ := h0
  obtain ⟨t, rfl, h3, h1⟩ := h1
  dsimp only at *
  refine walk ?_
  refine ops_box rfl rfl fun p0 _ => ?_
  refine ops_box rfl rfl fun p1 _ => ?_
  by_cases e1 : xs = ys
  · refine walk ?_
    refine ops_call rfl rfl (ints_spec h0.1 h1.1) fun r H' B hl ⟨e, eB, eH⟩ => ?_
    subst e eB eH
    refine walk ?_
    refine fin0 ?_
    exact ⟨by simp [e1], rfl, rfl⟩
  · refine walk ?_
    refine fin0 ?_
    exact ⟨by simp [e1], rfl, rfl⟩
theorem sameCall_spec {W0 : World} {H : Heap} {c d : List Value} {x y : Call} (h0 : rCall H c x) (h1 : rCall H d y) :
    Ct Try.prog 48 #[.agg c.toArray, .agg d.toArray] W0 H [] (fun r H' B => r = .bool (decide (x = y)) ∧ B = [] ∧ H' = H) := by
  refine Ct.go fun R => ?_
  obtain ⟨xv, xe, xr⟩ := x
  obtain ⟨yv, ye, yr⟩ := y
  obtain ⟨s, rfl, f1, f2, f3, h0⟩ := h0
  obtain ⟨t, rfl, g1, g2, g3, h1⟩ := h1
  dsimp only at *
  refine walk ?_
  refine ops_box rfl rfl fun p0 _ => ?_
  refine ops_box rfl rfl fun p1 _ => ?_
  by_cases e1 : xv = yv
  · by_cases e2 : xe = ye
    · refine walk ?_
      refine ops_call rfl rfl (sameRoute_spec (x := xr) (y := yr) ⟨s, rfl, f3, h0⟩ ⟨t, rfl, g3, h1⟩) fun r H' B hl ⟨e, eB, eH⟩ => ?_
      subst e eB eH
      refine walk ?_
      refine fin0 ?_
      exact ⟨by simp [e1, e2], rfl, rfl⟩
    · refine walk ?_
      refine fin0 ?_
      exact ⟨by simp [e2], rfl, rfl⟩
  · refine walk ?_
    refine fin0 ?_
    exact ⟨by simp [e1], rfl, rfl⟩
theorem sameReply_spec {W0 : World} {H : Heap} {c d : List Value} {x y : Reply} (h0 : rReply H c x) (h1 : rReply H d y) :
    Ct Try.prog 49 #[.agg c.toArray, .agg d.toArray] W0 H [] (fun r H' B => r = .bool (decide (x = y)) ∧ B = [] ∧ H' = H) := by
  refine Ct.go fun R => ?_
  obtain ⟨xv, xe, xr⟩ := x
  obtain ⟨yv, ye, yr⟩ := y
  obtain ⟨s, rfl, f1, f2, f3, h0⟩ := h0
  obtain ⟨t, rfl, g1, g2, g3, h1⟩ := h1
  dsimp only at *
  refine walk ?_
  refine ops_box rfl rfl fun p0 _ => ?_
  refine ops_box rfl rfl fun p1 _ => ?_
  by_cases e1 : xv = yv
  · by_cases e2 : xe = ye
    · refine walk ?_
      refine ops_call rfl rfl (sameRoute_spec (x := xr) (y := yr) ⟨s, rfl, f3, h0⟩ ⟨t, rfl, g3, h1⟩) fun r H' B hl ⟨e, eB, eH⟩ => ?_
      subst e eB eH
      refine walk ?_
      refine fin0 ?_
      exact ⟨by simp [e1, e2], rfl, rfl⟩
    · refine walk ?_
      refine fin0 ?_
      exact ⟨by simp [e2], rfl, rfl⟩
  · refine walk ?_
    refine fin0 ?_
    exact ⟨by simp [e1], rfl, rfl⟩
instance {x y : Operand} {a b c a' b' c' : Int} {T' : TypeId} : BOp Try.prog (.binOp .eql 28 x y T') [.agg [I a, I b, I c].toArray, .agg [I a', I b', I c'].toArray] ((⟨a, b, c⟩ : Txn) = ⟨a', b', c'⟩) inferInstance := ⟨fun h => .mk fun _ w hF _ => by
  simp only [execOp, hF.opv (opvs2 h).1, hF.opv (opvs2 h).2]
  simp [go_sem]
  repeat' split
  all_goals simp_all⟩
theorem txn_eta (t : Txn) : (⟨t.Node, t.Life, t.Count⟩ : Txn) = t := rfl
theorem same_spec {W0 : World} {H : Heap} {c d : List Value} {x y : Message} (h0 : rMessage H c x) (h1 : rMessage H d y) :
    Ct Try.prog 30 #[.agg c.toArray, .agg d.toArray] W0 H [] (fun r H' B => r = .bool (decide (x = y)) ∧ B = [] ∧ H' = H) := by
  refine Ct.go fun R => ?_
  obtain ⟨s1, s2, s3, s4, rfl, f1, f2, f3, f4, f5, f6, f7, a1, a2, f8, f9, f10, f11, a3, f12, f13, f14, a4⟩ := h0
  obtain ⟨t1, t2, t3, t4, rfl, g1, g2, g3, g4, g5, g6, g7, b1, b2, g8, g9, g10, g11, b3, g12, g13, g14, b4⟩ := h1
  have hf : ∀ {p : Prop} [Decidable p], ¬ p → (x = y → p) → Value.bool false = .bool (decide (x = y)) := fun h h' => by simp; intro e; exact h (h' e)
  refine walk ?_
  refine ops_box rfl rfl fun p0 _ => ?_
  refine ops_box rfl rfl fun p1 _ => ?_
  by_cases e1 : x.From = y.From
  case neg =>
    refine walk ?_
    refine fin0 ?_
    exact ⟨hf e1 fun e => by rw [e], rfl, rfl⟩
  by_cases e2 : x.To = y.To
  case neg =>
    refine walk ?_
    refine fin0 ?_
    exact ⟨hf e2 fun e => by rw [e], rfl, rfl⟩
  by_cases e3 : x.Kind = y.Kind
  case neg =>
    refine walk ?_
    refine fin0 ?_
    exact ⟨hf e3 fun e => by rw [e], rfl, rfl⟩
  by_cases e4 : x.Txn = y.Txn
  case neg =>
    refine walk ?_
    refine fin0 ?_
    exact ⟨hf e4 fun e => by rw [e], rfl, rfl⟩
  by_cases e5 : x.Yes = y.Yes
  case neg =>
    refine walk ?_
    refine fin0 ?_
    exact ⟨hf e5 fun e => by rw [e], rfl, rfl⟩
  by_cases e6 : x.ID = y.ID
  case neg =>
    refine walk ?_
    refine fin0 ?_
    exact ⟨hf e6 fun e => by rw [e], rfl, rfl⟩
  refine walk ?_
  refine ops_call rfl rfl (sameWork_spec (x := x.Work) (y := y.Work) ⟨s1, s2, rfl, f7, a1, a2⟩ ⟨t1, t2, rfl, g7, b1, b2⟩) fun r H' B hl ⟨e, eB, eH⟩ => ?_
  subst e eB eH
  by_cases e7 : x.Work = y.Work
  case neg =>
    rw [show decide (x.Work = y.Work) = false by simp [e7]]
    refine walk ?_
    refine fin0 ?_
    exact ⟨hf e7 fun e => by rw [e], rfl, rfl⟩
  rw [show decide (x.Work = y.Work) = true by simp [e7]]
  refine walk ?_
  refine ops_call rfl rfl (sameCall_spec (x := x.Call) (y := y.Call) ⟨s3, rfl, f9, f10, f11, a3⟩ ⟨t3, rfl, g9, g10, g11, b3⟩) fun r H' B hl ⟨e, eB, eH⟩ => ?_
  subst e eB eH
  by_cases e8 : x.Call = y.Call
  case neg =>
    rw [show decide (x.Call = y.Call) = false by simp [e8]]
    refine walk ?_
    refine fin0 ?_
    exact ⟨hf e8 fun e => by rw [e], rfl, rfl⟩
  rw [show decide (x.Call = y.Call) = true by simp [e8]]
  refine walk ?_
  refine ops_call rfl rfl (sameReply_spec (x := x.Reply) (y := y.Reply) ⟨s4, rfl, f12, f13, f14, a4⟩ ⟨t4, rfl, g12, g13, g14, b4⟩) fun r H' B hl ⟨e, eB, eH⟩ => ?_
  subst e eB eH
  refine walk ?_
  refine fin0 ?_
  refine ⟨?_, rfl, rfl⟩
  have : x = y ↔ x.Reply = y.Reply := ⟨fun e => by rw [e], fun e9 => by cases x; cases y; simp_all⟩
  simp [this]
set_option maxHeartbeats 4000000 in
theorem sameAll_spec {W0 : World} {H : Heap} {v0 v1 : Value} {l : List Message} (h0 : SlR rMessage 19 H v0 l) (h1 : SlR rMessage 19 H v1 l) :
    Ct Try.prog 14 #[v0, v1] W0 H [] (fun r H' B => r = .bool true ∧ B = [] ∧ H' = H) := by
  refine Ct.go (vs := [v0, v1]) fun R => ?_
  obtain ⟨b0, c0, rfl, hc0, hd0⟩ := h0.shape
  obtain ⟨b1, c1, rfl, hc1, hd1⟩ := h1.shape
  refine walk ?_
  refine ex_loop (σ := Nat) (fun k => k ≤ l.length) (fun k => [(0, .slice b0 l.length c0), (1, .slice b1 l.length c1), (12, I l.length), (13, I k)]) (fun _ => H) (fun _ => R) (fun k => l.length - k) 0 (Nat.zero_le _) fun k hk0 K hL => ?_
  refine walk ?_
  refine ex_if rfl (fun hk => ?_) (fun hk => ?_)
  · have hk1 : k < l.length := by omega
    refine walk ?_
    refine ex_any 8 [] ?_
    refine stepY 0 ?_; refine stepY 1 ?_
    refine gny_ixp 2 rfl rfl rfl h0 hk1 fun b o cc hr hc => ?_
    obtain ⟨s1, s2, s3, s4, rfl, f⟩ := id hc
    refine gny_ldNH 3 rfl rfl rfl hr rfl ?_
    refine stepY 4 ?_; refine stepY 5 ?_
    refine gny_ixp 6 rfl rfl rfl h1 hk1 fun b' o' cc' hr' hc' => ?_
    obtain ⟨t1, t2, t3, t4, rfl, g⟩ := id hc'
    refine gny_ldNH 7 rfl rfl rfl hr' rfl ?_
    refine any_rest rfl ?_
    have hs := same_spec (W0 := W0) (H := H) (x := l[k]) (y := l[k]) ⟨s1, s2, s3, s4, rfl, f⟩ ⟨t1, t2, t3, t4, rfl, g⟩
    rw [decide_eq_true (p := l[k] = l[k]) rfl] at hs
    refine ops_pcall rfl rfl hs ?_
    refine walk ?_
    exact out_next hL (k + 1) (by omega)
  · refine walk ?_
    refine fin0 ?_
    exact ⟨rfl, rfl, rfl⟩
/-- a slice of so many -/
abbrev sl (x : Option Addr × Nat) {α : Type} (l : List α) : Value := .slice x.1 l.length x.2
/-- the lists of a message's own -/
abbrev ownM (H : Heap) (s1 s2 s3 s4 : Option Addr × Nat) (m : Message) : List HProp :=
  [ownS rStr 1 16 9 H (sl s1 m.Work.Take) m.Work.Take, ownS rStr 1 16 9 H (sl s2 m.Work.Drop) m.Work.Drop, ownS rInt 1 8 3 H (sl s3 m.Call.Route.Cells) m.Call.Route.Cells, ownS rInt 1 8 3 H (sl s4 m.Reply.Route.Cells) m.Reply.Route.Cells]
/-- its cells -/
abbrev cvM (s1 s2 s3 s4 : Option Addr × Nat) (m : Message) : List Value := m.cv (sl s1 m.Work.Take) (sl s2 m.Work.Drop) (sl s3 m.Call.Route.Cells) (sl s4 m.Reply.Route.Cells)
/-- what a message's numbers keep to -/
def okM (m : Message) : Prop := fits m.From ∧ fits m.To ∧ fits m.Kind ∧ (fits m.Txn.Node ∧ fits m.Txn.Life ∧ fits m.Txn.Count) ∧ fits m.Work.Robot ∧ fits m.ID ∧ fits m.Call.Verb ∧ fits m.Call.Epoch ∧ fits m.Call.Route.Start ∧ fits m.Reply.Code ∧ fits m.Reply.Epoch ∧ fits m.Reply.Route.Start
theorem refOwn_spec {W0 : World} {H : Heap} {c : List Value} {m : Message} (h0 : rMessage H c m) :
    Ct Try.prog 18 #[.agg c.toArray] W0 H [] (fun r H' B => ∃ s1 s2 s3 s4, r = .agg (cvM s1 s2 s3 s4 m).toArray ∧ B = ownM H s1 s2 s3 s4 m ∧ H' = H) := by
  refine Ct.go fun R => ?_
  obtain ⟨s1, s2, s3, s4, rfl, f1, f2, f3, f4, f5, f6, f7, h1, h2, f8, f9, f10, f11, h3, f12, f13, f14, h4⟩ := h0
  refine walk ?_
  refine ops_box rfl rfl fun p1 _ => ?_
  refine ops_alloc rfl fun p2 _ => ?_
  refine walk ?_
  refine ops_mk0 (w := 16) rStr rfl fun b1 => ?_
  refine walk ?_
  refine ops_appS rfl rfl h1.1 (by simpa using h1.2) fun d1 e1 => ?_
  refine walk ?_
  refine ops_mk0 (w := 16) rStr rfl fun b2 => ?_
  refine walk ?_
  refine ops_appS rfl rfl h2.1 (by simpa using h2.2) fun d2 e2 => ?_
  refine walk ?_
  refine ops_mk0 (w := 8) rInt rfl fun b3 => ?_
  refine walk ?_
  refine ops_appS rfl rfl h3.1 (by simpa using h3.2) fun d3 e3 => ?_
  refine walk ?_
  refine ops_mk0 (w := 8) rInt rfl fun b4 => ?_
  refine walk ?_
  refine ops_appS rfl rfl h4.1 (by simpa using h4.2) fun d4 e4 => ?_
  simp only [List.length_nil, Nat.zero_add, List.nil_append]
  refine walk ?_
  refine finB (ownM H (d1, e1) (d2, e2) (d3, e3) (d4, e4) m) ?_
  exact ⟨_, _, _, _, rfl, rfl, rfl⟩
/-- .. its lists only read from here on -/
theorem refOwnF_spec {W0 : World} {H : Heap} {c : List Value} {m : Message} (h0 : rMessage H c m) :
    Ct Try.prog 18 #[.agg c.toArray] W0 H [] (fun r H' B => ∃ cs, r = .agg cs.toArray ∧ rMessage H' cs m ∧ B = []) := by
  refine Ct.go fun R => ?_
  obtain ⟨s1, s2, s3, s4, rfl, f1, f2, f3, f4, f5, f6, f7, h1, h2, f8, f9, f10, f11, h3, f12, f13, f14, h4⟩ := h0
  refine walk ?_
  refine ops_box rfl rfl fun p1 _ => ?_
  refine ops_alloc rfl fun p2 _ => ?_
  refine walk ?_
  refine ops_mk0 (w := 16) rStr rfl fun b1 => ?_
  refine walk ?_
  refine ops_appS rfl rfl h1.1 (by simpa using h1.2) fun d1 e1 => ?_
  refine walk ?_
  refine ops_mk0 (w := 16) rStr rfl fun b2 => ?_
  refine walk ?_
  refine ops_appS rfl rfl h2.1 (by simpa using h2.2) fun d2 e2 => ?_
  refine walk ?_
  refine ops_mk0 (w := 8) rInt rfl fun b3 => ?_
  refine walk ?_
  refine ops_appS rfl rfl h3.1 (by simpa using h3.2) fun d3 e3 => ?_
  refine walk ?_
  refine ops_mk0 (w := 8) rInt rfl fun b4 => ?_
  refine walk ?_
  refine ops_appS rfl rfl h4.1 (by simpa using h4.2) fun d4 e4 => ?_
  simp only [List.length_nil, Nat.zero_add, List.nil_append]
  refine walk ?_
  refine out_freeze (.slice d1 m.Work.Take.length e1) fun H2 g2 q1 => ?_
  refine out_freeze (.slice d2 m.Work.Drop.length e2) fun H3 g3 q2 => ?_
  refine out_freeze (.slice d3 m.Call.Route.Cells.length e3) fun H4 g4 q3 => ?_
  refine out_freeze (.slice d4 m.Reply.Route.Cells.length e4) fun H5 g5 q4 => ?_
  refine fin0 ?_
  exact ⟨cvM (d1, e1) (d2, e2) (d3, e3) (d4, e4) m, rfl, ⟨_, _, _, _, rfl, f1, f2, f3, f4, f5, f6, f7, q1.mono (g3.trans (g4.trans g5)), q2.mono (g4.trans g5), f8, f9, f10, f11, q3.mono g5, f12, f13, f14, q4⟩, rfl⟩
end Go.Proofs.Ythoafjeampbkeaa
