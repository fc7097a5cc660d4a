/- The net: what its calls do. -/
import Derived.Test.YtlbpaokehdiinaaNB
set_option linter.unusedVariables false
set_option linter.unusedSimpArgs false
namespace Go.Proofs.Ytlbpaokehdiinaa
open Go Go.Sx Go.Proofs
/-- a net: the messages under way -/
def netO (H : Heap) (p : Value) (ms : List Message) : HProp := fun h => ∃ b s, p = .pointer (some ⟨b, 0, none⟩) ∧ big [row b 65 [s], ownS rMessage 19 216 42 H s ms] h
theorem netO_open {H H' : Heap} {p : Value} {ms : List Message} {h : Heap} (hl : H.le H') (ho : netO H p ms h) : ∃ x : Nat × Option Addr × Nat, (p = .pointer (some ⟨x.1, 0, none⟩) ∧ ms.length ≤ x.2.2 ∧ x.2.2 ≤ 9223372036854775807 ∧ ms.length * 216 ≤ cap47) ∧
    big [row x.1 65 [.slice x.2.1 ms.length x.2.2], ownS rMessage 19 216 42 H' (.slice x.2.1 ms.length x.2.2) ms] h := by
  obtain ⟨b, s, hp, hb⟩ := ho
  obtain ⟨h1, h2, a, ⟨h3, h4, c, d, e, l1, l2⟩, f, l3, l4⟩ := hb
  obtain ⟨base, cap, rfl, k1, k2⟩ := ownS_shape c
  refine ⟨(b, base, cap), ⟨hp, k1, k2, ownS_small c⟩, h1, h2, a, ⟨h3, h4, ?_, d, e, l1, l2⟩, f, l3, l4⟩
  obtain ⟨cs, ⟨u, v⟩, w⟩ := c
  exact ⟨cs, ⟨u.mono hl, v⟩, w⟩
theorem netO_shut {H : Heap} {b : Nat} {s : Value} {ms : List Message} {L : List HProp} : Sub (row b 65 [s] :: ownS rMessage 19 216 42 H s ms :: L) (netO H (.pointer (some ⟨b, 0, none⟩)) ms :: L) :=
  sub_shut (B := [row b 65 [s], ownS rMessage 19 216 42 H s ms]) fun x hx => ⟨b, s, rfl, hx⟩
theorem netO_shut' {H : Heap} {b : Nat} {s : Value} {ms : List Message} {L : List HProp} : Sub (ownS rMessage 19 216 42 H s ms :: row b 65 [s] :: L) (netO H (.pointer (some ⟨b, 0, none⟩)) ms :: L) :=
  Sub.trans (fun _ => big_swap) netO_shut
theorem new_spec {W0 : World} {H : Heap} : Ct Try.prog 7 #[] W0 H [] (fun r H' B => B = [netO H r []] ∧ H' = H) := by
  refine Ct.go (vs := []) fun R => ?_
  refine walk ?_
  refine ops_box rfl rfl fun b _ => ?_
  refine walk ?_
  refine finB [netO H (.pointer (some ⟨b, 0, none⟩)) []] ?_ (hs := (ownS_nil.trans netO_shut'))
  exact ⟨rfl, rfl⟩
theorem len_spec {W0 : World} {H H0 : Heap} {p : Value} {ms : List Message} (hl : H0.le H) : Ct Try.prog 11 #[p] W0 H [netO H0 p ms] (fun r H' B => r = I ms.length ∧ B = [netO H p ms] ∧ H' = H) := by
  refine Ct.go fun R => ?_
  refine ex_open .here (fun h => netO_open hl) fun ⟨b, base, cap⟩ ⟨hp, h1, h2, h3⟩ => ?_
  simp only at hp h1 h2 h3
  subst hp
  dsimp only
  refine walk ?_
  refine finB [netO H (.pointer (some ⟨b, 0, none⟩)) ms] ?_ (hs := netO_shut)
  exact ⟨rfl, rfl, rfl⟩
theorem send_yes {W0 : World} {H H0 : Heap} {p : Value} {c : List Value} {ms : List Message} {m : Message} (hl : H0.le H) (h0 : rMessage H c m) (hlt : ms.length < 64) :
    Ct Try.prog 9 #[p, .agg c.toArray] W0 H [netO H0 p ms] (fun r H' B => r = I 0 ∧ B = [netO H' p (ms ++ [m])]) := by
  refine Ct.go fun R => ?_
  refine ex_open .here (fun h => netO_open hl) fun ⟨b, base, cap⟩ ⟨hp, h1, h2, h3⟩ => ?_
  simp only at hp h1 h2 h3
  subst hp
  dsimp only
  refine walk ?_
  have hc := h0
  obtain ⟨s1, s2, s3, s4, rfl, f1, f2, f3, f4, f5, f6, f7, k1, k2, f8, f9, f10, f11, k3, f12, f13, f14, k4⟩ := h0
  refine ops_box rfl rfl fun p1 _ => ?_
  refine walk ?_
  refine ex_any 9 [row b 65 [.slice base ms.length cap], row p1 42 (m.cv s1 s2 s3 s4)] ?_
  (first | refine any_p 0 rfl rfl ?_ | refine any_ld 0 rfl rfl rfl ?_ | refine any_ldN 0 rfl rfl rfl ?_); (first | refine any_p 1 rfl rfl ?_ | refine any_ld 1 rfl rfl rfl ?_ | refine any_ldN 1 rfl rfl rfl ?_); (first | refine any_p 2 rfl rfl ?_ | refine any_ld 2 rfl rfl rfl ?_ | refine any_ldN 2 rfl rfl rfl ?_); (first | refine any_p 3 rfl rfl ?_ | refine any_ld 3 rfl rfl rfl ?_ | refine any_ldN 3 rfl rfl rfl ?_); (first | refine any_p 4 rfl rfl ?_ | refine any_ld 4 rfl rfl rfl ?_ | refine any_ldN 4 rfl rfl rfl ?_); (first | refine any_p 5 rfl rfl ?_ | refine any_ld 5 rfl rfl rfl ?_ | refine any_ldN 5 rfl rfl rfl ?_)
  refine any_call 6 rfl rfl (own_spec hc) fun r1 H1 B hl1 ⟨t1, t2, t3, t4, er, eB, eH⟩ => ?_
  subst er eB eH
  refine ⟨(by (repeat (first | exact Sub.refl _ | exact Sub.nil _ | (apply sub_pick; (repeat (first | exact Has.here | apply Has.there)); skip) | apply Sub.drop))), ?_⟩
  refine any_freeze (sl t1 m.Work.Take) fun H1 g1 q1 => ?_
  refine any_freeze (sl t2 m.Work.Drop) fun H2 g2 q2 => ?_
  refine any_freeze (sl t3 m.Call.Route.Cells) fun H3 g3 q3 => ?_
  refine any_freeze (sl t4 m.Reply.Route.Cells) fun H4 g4 q4 => ?_
  refine any_app1 7 8 (y := m) rfl rfl rfl ⟨_, _, _, _, rfl, f1, f2, f3, f4, f5, f6, f7, q1.mono (g2.trans (g3.trans g4)), q2.mono (g3.trans g4), f8, f9, f10, f11, q3.mono g4, f12, f13, f14, q4⟩ (by simp only [cap47]; omega) fun b2 c2 => ⟨(by (repeat (first | exact Sub.refl _ | exact Sub.nil _ | (apply sub_pick; (repeat (first | exact Has.here | apply Has.there)); skip) | apply Sub.drop))), ?_⟩
  refine any_rest rfl ?_
  refine walk ?_
  refine finB [netO H4 (.pointer (some ⟨b, 0, none⟩)) (ms ++ [m])] ?_ (hs := (fun _ h => netO_shut' _ (Sub.cons (by (repeat (first | exact Sub.refl _ | exact Sub.nil _ | (apply sub_pick; (repeat (first | exact Has.here | apply Has.there)); skip) | apply Sub.drop))) _ h)))
  exact ⟨rfl, rfl⟩
theorem send_no {W0 : World} {H H0 : Heap} {p : Value} {c : List Value} {ms : List Message} {m : Message} (hl : H0.le H) (h0 : rMessage H c m) (hlt : ¬ ms.length < 64) :
    Ct Try.prog 9 #[p, .agg c.toArray] W0 H [netO H0 p ms] (fun r H' B => r = I 5 ∧ B = [netO H p ms] ∧ H' = H) := by
  refine Ct.go fun R => ?_
  refine ex_open .here (fun h => netO_open hl) fun ⟨b, base, cap⟩ ⟨hp, h1, h2, h3⟩ => ?_
  simp only at hp h1 h2 h3
  subst hp
  dsimp only
  refine walk ?_
  refine ops_box rfl rfl fun p1 _ => ?_
  refine walk ?_
  refine finB [netO H (.pointer (some ⟨b, 0, none⟩)) ms] ?_ (hs := (fun _ h => netO_shut _ (Sub.drop (Sub.refl _) _ h)))
  exact ⟨rfl, rfl, rfl⟩
/-- what comes back with a message of its own -/
def msgPost (H' : Heap) (m : Message) (v : Value) (b : List HProp) (r : Value) (B : List HProp) : Prop := ∃ s1 s2 s3 s4, r = .tuple #[.agg (cvM s1 s2 s3 s4 m).toArray, v] ∧ B = ownM H' s1 s2 s3 s4 m ++ b
abbrev nl : Option Addr × Nat := (none, 0)
def inR (ms : List Message) (i : Int) : Prop := 0 ≤ i ∧ i < ms.length
theorem ownM_zero {H : Heap} {L : List HProp} : Sub L (ownM H nl nl nl nl zMessage ++ L) := ((ownS_nil.trans (Sub.cons ownS_nil)).trans (Sub.cons (Sub.cons ownS_nil))).trans (Sub.cons (Sub.cons (Sub.cons ownS_nil)))
theorem at_no {W0 : World} {H H0 : Heap} {p : Value} {ms : List Message} {i : Int} (hl : H0.le H) (hi : ¬ inR ms i) :
    Ct Try.prog 15 #[p, I i] W0 H [netO H0 p ms] (fun r H' B => msgPost H zMessage (.bool false) [netO H p ms] r B ∧ H' = H) := by
  refine Ct.go fun R => ?_
  refine ex_open .here (fun h => netO_open hl) fun ⟨b, base, cap⟩ ⟨hp, h1, h2, h3⟩ => ?_
  simp only at hp h1 h2 h3
  subst hp
  dsimp only
  unfold inR at hi
  refine walk ?_
  refine ops_alloc rfl fun p1 _ => ?_
  by_cases h0 : i < 0
  all_goals
    refine walk ?_
    refine finB (ownM H nl nl nl nl zMessage ++ [netO H (.pointer (some ⟨b, 0, none⟩)) ms]) ?_ (hs := (fun _ h => ?_))
    · exact ⟨⟨_, _, _, _, rfl, rfl⟩, rfl⟩
    · rw [List.append_assoc]; exact ownM_zero _ (netO_shut _ (Sub.drop (Sub.refl _) _ h))
theorem at_yes {W0 : World} {H H0 : Heap} {p : Value} {ms : List Message} {j : Nat} (hl : H0.le H) (hj : j < ms.length) :
    Ct Try.prog 15 #[p, I j] W0 H [netO H0 p ms] (fun r H' B => msgPost H ms[j] (.bool true) [netO H p ms] r B ∧ H' = H) := by
  refine Ct.go fun R => ?_
  refine ex_open .here (fun h => netO_open hl) fun ⟨b, base, cap⟩ ⟨hp, h1, h2, h3⟩ => ?_
  simp only at hp h1 h2 h3
  subst hp
  dsimp only
  refine walk ?_
  refine ops_alloc rfl fun p1 _ => ?_
  refine walk ?_
  refine ops_ixo rfl rfl rfl hj fun c hc => ?_
  refine ops_call rfl rfl (own_spec hc) fun r1 H1 B hl1 ⟨t1, t2, t3, t4, er, eB, eH⟩ => ?_
  subst er eB eH
  refine walk ?_
  refine finB (ownM H1 t1 t2 t3 t4 ms[j] ++ [netO H1 (.pointer (some ⟨b, 0, none⟩)) ms]) ?_ (hs := (fun _ h => ?_))
  · exact ⟨⟨_, _, _, _, rfl, rfl⟩, rfl⟩
  · rw [List.append_assoc]; exact (Sub.cons (Sub.cons (Sub.cons (Sub.cons ((Sub.drop (Sub.refl _)).trans netO_shut))))) _ h
end Go.Proofs.Ytlbpaokehdiinaa
