/- Messages with lists of their own: copies, and the net's own function. -/
import Derived.Test.YtlbpaokehdiinaaNA
set_option linter.unusedVariables false
set_option linter.unusedSimpArgs false
namespace Go.Proofs.Ytlbpaokehdiinaa
open Go Go.Sx Go.Proofs
theorem cloneS_spec {W0 : World} {H : Heap} {v : Value} {xs : List ByteArray} (h0 : SlB rStr 1 16 H v xs) :
    Ct Try.prog 31 #[v] W0 H [] (fun r H' B => B = [ownS rStr 1 16 9 H r xs] ∧ H' = H) := by
  refine Ct.go fun R => ?_
  obtain ⟨b0, c0, rfl, hc0, hd0⟩ := h0.1.shape
  refine walk ?_
  refine ex_if rfl (fun h => ?_) (fun h => ?_)
  · subst h
    refine walk ?_
    obtain rfl : xs = [] := by
      obtain ⟨⟨cs, ⟨b, c, e, _, hl, _, h⟩, _⟩, _⟩ := h0
      cases e
      rcases h with h | ⟨b, off, h, _⟩
      · exact List.eq_nil_of_length_eq_zero h
      · cases h
    refine finB [ownS rStr 1 16 9 H (.slice none 0 0) []] ?_ (hs := ownS_nil)
    exact ⟨rfl, rfl⟩
  · refine walk ?_
    refine ops_mk0 (w := 16) rStr rfl fun b => ?_
    refine walk ?_
    refine ops_appS rfl rfl h0.1 (by simpa using h0.2) fun base cap => ?_
    refine walk ?_
    refine finB [_] ?_
    exact ⟨rfl, rfl⟩
theorem cloneI_spec {W0 : World} {H : Heap} {v : Value} {xs : List Int} (h0 : SlB rInt 1 8 H v xs) :
    Ct Try.prog 32 #[v] W0 H [] (fun r H' B => B = [ownS rInt 1 8 3 H r xs] ∧ H' = H) := by
  refine Ct.go fun R => ?_
  obtain ⟨b0, c0, rfl, hc0, hd0⟩ := h0.1.shape
  refine walk ?_
  refine ex_if rfl (fun h => ?_) (fun h => ?_)
  · subst h
    refine walk ?_
    obtain rfl : xs = [] := by
      obtain ⟨⟨cs, ⟨b, c, e, _, hl, _, h⟩, _⟩, _⟩ := h0
      cases e
      rcases h with h | ⟨b, off, h, _⟩
      · exact List.eq_nil_of_length_eq_zero h
      · cases h
    refine finB [ownS rInt 1 8 3 H (.slice none 0 0) []] ?_ (hs := ownS_nil)
    exact ⟨rfl, rfl⟩
  · refine walk ?_
    refine ops_mk0 (w := 8) rInt rfl fun b => ?_
    refine walk ?_
    refine ops_appS rfl rfl h0.1 (by simpa using h0.2) fun base cap => ?_
    refine walk ?_
    refine finB [_] ?_
    exact ⟨rfl, rfl⟩
/-- a slice of so many -/
abbrev sl (x : Option Addr × Nat) {α : Type} (l : List α) : Value := .slice x.1 l.length x.2
/-- the lists of a message's own -/
abbrev ownM (H : Heap) (s1 s2 s3 s4 : Option Addr × Nat) (m : Message) : List HProp :=
  [ownS rStr 1 16 9 H (sl s1 m.Work.Take) m.Work.Take, ownS rStr 1 16 9 H (sl s2 m.Work.Drop) m.Work.Drop, ownS rInt 1 8 3 H (sl s3 m.Call.Route.Cells) m.Call.Route.Cells, ownS rInt 1 8 3 H (sl s4 m.Reply.Route.Cells) m.Reply.Route.Cells]
/-- its cells -/
abbrev cvM (s1 s2 s3 s4 : Option Addr × Nat) (m : Message) : List Value := m.cv (sl s1 m.Work.Take) (sl s2 m.Work.Drop) (sl s3 m.Call.Route.Cells) (sl s4 m.Reply.Route.Cells)
/-- what a message's numbers keep to -/
def okM (m : Message) : Prop := fits m.From ∧ fits m.To ∧ fits m.Kind ∧ (fits m.Txn.Node ∧ fits m.Txn.Life ∧ fits m.Txn.Count) ∧ fits m.Work.Robot ∧ fits m.ID ∧ fits m.Call.Verb ∧ fits m.Call.Epoch ∧ fits m.Call.Route.Start ∧ fits m.Reply.Code ∧ fits m.Reply.Epoch ∧ fits m.Reply.Route.Start
theorem own_spec {W0 : World} {H : Heap} {c : List Value} {m : Message} (h0 : rMessage H c m) :
    Ct Try.prog 20 #[.agg c.toArray] W0 H [] (fun r H' B => ∃ s1 s2 s3 s4, r = .agg (cvM s1 s2 s3 s4 m).toArray ∧ B = ownM H s1 s2 s3 s4 m ∧ H' = H) := by
  refine Ct.go fun R => ?_
  obtain ⟨s1, s2, s3, s4, rfl, f1, f2, f3, f4, f5, f6, f7, h1, h2, f8, f9, f10, f11, h3, f12, f13, f14, h4⟩ := h0
  refine walk ?_
  refine ops_box rfl rfl fun p1 _ => ?_
  refine ops_alloc rfl fun p2 _ => ?_
  refine walk ?_
  refine ex_any 10 [row p1 42 (m.cv s1 s2 s3 s4)] ?_
  (first | refine any_p 0 rfl rfl ?_ | refine any_ld 0 rfl rfl rfl ?_ | refine any_ldN 0 rfl rfl rfl ?_); (first | refine any_p 1 rfl rfl ?_ | refine any_ld 1 rfl rfl rfl ?_ | refine any_ldN 1 rfl rfl rfl ?_); (first | refine any_p 2 rfl rfl ?_ | refine any_ld 2 rfl rfl rfl ?_ | refine any_ldN 2 rfl rfl rfl ?_); (first | refine any_p 4 rfl rfl ?_ | refine any_ld 4 rfl rfl rfl ?_ | refine any_ldN 4 rfl rfl rfl ?_); (first | refine any_p 5 rfl rfl ?_ | refine any_ld 5 rfl rfl rfl ?_ | refine any_ldN 5 rfl rfl rfl ?_); (first | refine any_p 6 rfl rfl ?_ | refine any_ld 6 rfl rfl rfl ?_ | refine any_ldN 6 rfl rfl rfl ?_)
  refine any_call 3 rfl rfl (cloneS_spec h1) fun r1 H1 B hl1 ⟨eB, eH⟩ => ?_
  subst eB eH
  refine ⟨(by (repeat (first | exact Sub.refl _ | exact Sub.nil _ | (apply sub_pick; (repeat (first | exact Has.here | apply Has.there)); skip) | apply Sub.drop))), ?_⟩
  (first | refine any_p 8 rfl rfl ?_ | refine any_ld 8 rfl rfl rfl ?_ | refine any_ldN 8 rfl rfl rfl ?_); (first | refine any_p 9 rfl rfl ?_ | refine any_ld 9 rfl rfl rfl ?_ | refine any_ldN 9 rfl rfl rfl ?_)
  refine any_call 7 rfl rfl (cloneS_spec h2) fun r2 H2 B hl2 ⟨eB, eH⟩ => ?_
  subst eB eH
  refine ⟨(by (repeat (first | exact Sub.refl _ | exact Sub.nil _ | (apply sub_pick; (repeat (first | exact Has.here | apply Has.there)); skip) | apply Sub.drop))), ?_⟩
  refine any_rest rfl ?_
  refine ops_shape r1 fun d1 e1 e _ _ _ => ?_
  subst e
  refine ops_shape r2 fun d2 e2 e _ _ _ => ?_
  subst e
  refine walk ?_
  refine ops_call rfl rfl (cloneI_spec h3) fun r3 H3 B hl3 ⟨eB, eH⟩ => ?_
  subst eB eH
  refine ops_shape r3 fun d3 e3 e _ _ _ => ?_
  subst e
  refine walk ?_
  refine ops_call rfl rfl (cloneI_spec h4) fun r4 H4 B hl4 ⟨eB, eH⟩ => ?_
  subst eB eH
  refine ops_shape r4 fun d4 e4 e _ _ _ => ?_
  subst e
  refine walk ?_
  refine finB (ownM _ (d1, e1) (d2, e2) (d3, e3) (d4, e4) m) ?_
  exact ⟨_, _, _, _, rfl, rfl, rfl⟩
end Go.Proofs.Ytlbpaokehdiinaa
