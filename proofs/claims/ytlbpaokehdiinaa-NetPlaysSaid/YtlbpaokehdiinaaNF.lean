/- The reference's net: what its functions do. -/
import Derived.Test.YtlbpaokehdiinaaNE
set_option linter.unusedVariables false
set_option linter.unusedSimpArgs false
namespace Go.Proofs.Ytlbpaokehdiinaa
open Go Go.Sx Go.Proofs
theorem refOwn_spec {W0 : World} {H : Heap} {c : List Value} {m : Message} (h0 : rMessage H c m) :
    Ct Try.prog 13 #[.agg c.toArray] W0 H [] (fun r H' B => ∃ s1 s2 s3 s4, r = .agg (cvM s1 s2 s3 s4 m).toArray ∧ B = ownM H s1 s2 s3 s4 m ∧ H' = H) := by
  refine Ct.go fun R => ?_
  obtain ⟨s1, s2, s3, s4, rfl, f1, f2, f3, f4, f5, f6, f7, h1, h2, f8, f9, f10, f11, h3, f12, f13, f14, h4⟩ := h0
  refine walk ?_
  refine ops_box rfl rfl fun p1 _ => ?_
  refine ops_alloc rfl fun p2 _ => ?_
  refine walk ?_
  refine ops_mk0 (w := 16) rStr rfl fun b1 => ?_
  refine walk ?_
  refine ops_appS rfl rfl h1.1 (by simpa using h1.2) fun d1 e1 => ?_
  refine walk ?_
  refine ops_mk0 (w := 16) rStr rfl fun b2 => ?_
  refine walk ?_
  refine ops_appS rfl rfl h2.1 (by simpa using h2.2) fun d2 e2 => ?_
  refine walk ?_
  refine ops_mk0 (w := 8) rInt rfl fun b3 => ?_
  refine walk ?_
  refine ops_appS rfl rfl h3.1 (by simpa using h3.2) fun d3 e3 => ?_
  refine walk ?_
  refine ops_mk0 (w := 8) rInt rfl fun b4 => ?_
  refine walk ?_
  refine ops_appS rfl rfl h4.1 (by simpa using h4.2) fun d4 e4 => ?_
  simp only [List.length_nil, Nat.zero_add, List.nil_append]
  refine walk ?_
  refine finB (ownM H (d1, e1) (d2, e2) (d3, e3) (d4, e4) m) ?_
  exact ⟨_, _, _, _, rfl, rfl, rfl⟩
theorem refSend_yes {W0 : World} {H : Heap} {l : Value} {c : List Value} {ms : List Message} {m : Message} (hs : SlB rMessage 19 216 H l ms) (h0 : rMessage H c m) (hlt : ms.length < 64) :
    Ct Try.prog 25 #[l, .agg c.toArray] W0 H [] (fun r H' B => ∃ v, r = .tuple #[v, I 0] ∧ SlB rMessage 19 216 H' v (ms ++ [m]) ∧ B = []) := by
  refine Ct.go fun R => ?_
  obtain ⟨b0, c0, rfl, hc0, hd0⟩ := hs.1.shape
  have hc := h0
  obtain ⟨s1, s2, s3, s4, rfl, f1, f2, f3, f4, f5, f6, f7, h1, h2, f8, f9, f10, f11, h3, f12, f13, f14, h4⟩ := h0
  refine walk ?_
  refine ops_box rfl rfl fun p1 _ => ?_
  refine walk ?_
  have hcap1 : ([].length (α := Message) + ms.length) * 216 ≤ cap47 := by simpa using hs.2
  have hcap2 : (([] ++ ms : List Message).length + 1) * 216 ≤ cap47 := by simp only [List.nil_append, cap47]; omega
  refine ex_any 6 [row p1 42 (m.cv s1 s2 s3 s4)] ?_
  (first | refine any_p 1 rfl rfl ?_ | refine any_ld 1 rfl rfl rfl ?_ | refine any_ldN 1 rfl rfl rfl ?_); (first | refine any_p 3 rfl rfl ?_ | refine any_ld 3 rfl rfl rfl ?_ | refine any_ldN 3 rfl rfl rfl ?_)
  refine any_w2 0 4 rfl rfl (op_mk0S (wd := 216) rMessage fun b1 => ⟨.refl _, (by (repeat (first | exact Sub.refl _ | exact Sub.nil _ | (apply sub_pick; (repeat (first | exact Has.here | apply Has.there)); skip) | apply Sub.drop))), ?_⟩) (op_bs1 rfl rfl rfl fun b2 => ⟨.refl _, (by (repeat (first | exact Sub.refl _ | exact Sub.nil _ | (apply sub_pick; (repeat (first | exact Has.here | apply Has.there)); skip) | apply Sub.drop))), ?_⟩)
  · refine any_w2 2 4 rfl rfl (op_appSS rfl hs.1 hcap1 fun d1 e1 => ⟨.refl _, (by (repeat (first | exact Sub.refl _ | exact Sub.nil _ | (apply sub_pick; (repeat (first | exact Has.here | apply Has.there)); skip) | apply Sub.drop))), ?_⟩) (op_bs1 rfl rfl rfl fun b2 => ⟨.refl _, (by (repeat (first | exact Sub.refl _ | exact Sub.nil _ | (apply sub_pick; (repeat (first | exact Has.here | apply Has.there)); skip) | apply Sub.drop))), ?_⟩)
    · refine any_w 4 rfl (op_bs1 rfl rfl rfl fun b2 => ⟨.refl _, (by (repeat (first | exact Sub.refl _ | exact Sub.nil _ | (apply sub_pick; (repeat (first | exact Has.here | apply Has.there)); skip) | apply Sub.drop))), ?_⟩)
      refine any_w 5 rfl (op_appRS rfl hc hcap2 fun d2 e2 => ⟨.refl _, (by (repeat (first | exact Sub.refl _ | exact Sub.nil _ | (apply sub_pick; (repeat (first | exact Has.here | apply Has.there)); skip) | apply Sub.drop))), ?_⟩)
      refine any_rest rfl ?_
      refine ops_freeze (.slice d2 (([] ++ ms).length + 1) e2) fun H1 hl1 hf => ?_
      refine walk ?_
      refine fin0 ?_
      exact ⟨_, rfl, hf, rfl⟩
    · refine any_w 2 rfl (op_appSS rfl hs.1 hcap1 fun d1 e1 => ⟨.refl _, (by (repeat (first | exact Sub.refl _ | exact Sub.nil _ | (apply sub_pick; (repeat (first | exact Has.here | apply Has.there)); skip) | apply Sub.drop))), ?_⟩)
      refine any_w 5 rfl (op_appRS rfl hc hcap2 fun d2 e2 => ⟨.refl _, (by (repeat (first | exact Sub.refl _ | exact Sub.nil _ | (apply sub_pick; (repeat (first | exact Has.here | apply Has.there)); skip) | apply Sub.drop))), ?_⟩)
      refine any_rest rfl ?_
      refine ops_freeze (.slice d2 (([] ++ ms).length + 1) e2) fun H1 hl1 hf => ?_
      refine walk ?_
      refine fin0 ?_
      exact ⟨_, rfl, hf, rfl⟩
  · refine any_w 0 rfl (op_mk0S (wd := 216) rMessage fun b1 => ⟨.refl _, (by (repeat (first | exact Sub.refl _ | exact Sub.nil _ | (apply sub_pick; (repeat (first | exact Has.here | apply Has.there)); skip) | apply Sub.drop))), ?_⟩)
    refine any_w 2 rfl (op_appSS rfl hs.1 hcap1 fun d1 e1 => ⟨.refl _, (by (repeat (first | exact Sub.refl _ | exact Sub.nil _ | (apply sub_pick; (repeat (first | exact Has.here | apply Has.there)); skip) | apply Sub.drop))), ?_⟩)
    refine any_w 5 rfl (op_appRS rfl hc hcap2 fun d2 e2 => ⟨.refl _, (by (repeat (first | exact Sub.refl _ | exact Sub.nil _ | (apply sub_pick; (repeat (first | exact Has.here | apply Has.there)); skip) | apply Sub.drop))), ?_⟩)
    refine any_rest rfl ?_
    refine ops_freeze (.slice d2 (([] ++ ms).length + 1) e2) fun H1 hl1 hf => ?_
    refine walk ?_
    refine fin0 ?_
    exact ⟨_, rfl, hf, rfl⟩
theorem refSend_no {W0 : World} {H : Heap} {l : Value} {c : List Value} {ms : List Message} {m : Message} (hs : SlB rMessage 19 216 H l ms) (h0 : rMessage H c m) (hlt : ¬ ms.length < 64) :
    Ct Try.prog 25 #[l, .agg c.toArray] W0 H [] (fun r H' B => r = .tuple #[l, I 5] ∧ B = [] ∧ H' = H) := by
  refine Ct.go fun R => ?_
  obtain ⟨b0, c0, rfl, hc0, hd0⟩ := hs.1.shape
  refine walk ?_
  refine ops_box rfl rfl fun p1 _ => ?_
  refine walk ?_
  refine fin0 ?_
  exact ⟨rfl, rfl, rfl⟩
theorem refCopy_yes {W0 : World} {H : Heap} {l : Value} {ms : List Message} {j : Nat} (hs : SlB rMessage 19 216 H l ms) (hj : j < ms.length) (hlt : ms.length < 64) :
    Ct Try.prog 27 #[l, I j] W0 H [] (fun r H' B => ∃ v, r = .tuple #[v, I 0] ∧ SlB rMessage 19 216 H' v (ms ++ [ms[j]]) ∧ B = []) := by
  refine Ct.go fun R => ?_
  obtain ⟨b0, c0, rfl, hc0, hd0⟩ := hs.1.shape
  refine walk ?_
  refine ops_ixp rfl rfl hs.1 hj fun b o c hr hc => ?_
  refine ops_ldNH rfl rfl hr (RdOk.len hc) ?_
  refine ops_call rfl rfl (refSend_yes hs hc hlt) fun r1 H1 B hl1 ⟨v, er, hv, eB⟩ => ?_
  subst er eB
  refine walk ?_
  refine fin0 ?_
  exact ⟨_, rfl, hv, rfl⟩
theorem refCopy_full {W0 : World} {H : Heap} {l : Value} {ms : List Message} {j : Nat} (hs : SlB rMessage 19 216 H l ms) (hj : j < ms.length) (hlt : ¬ ms.length < 64) :
    Ct Try.prog 27 #[l, I j] W0 H [] (fun r H' B => r = .tuple #[l, I 5] ∧ B = [] ∧ H' = H) := by
  refine Ct.go fun R => ?_
  obtain ⟨b0, c0, rfl, hc0, hd0⟩ := hs.1.shape
  refine walk ?_
  refine ops_ixp rfl rfl hs.1 hj fun b o c hr hc => ?_
  refine ops_ldNH rfl rfl hr (RdOk.len hc) ?_
  refine ops_call rfl rfl (refSend_no hs hc hlt) fun r1 H1 B hl1 ⟨er, eB, eH⟩ => ?_
  subst er eB eH
  refine walk ?_
  refine fin0 ?_
  exact ⟨rfl, rfl, rfl⟩
theorem refCopy_no {W0 : World} {H : Heap} {l : Value} {ms : List Message} {i : Int} (hs : SlB rMessage 19 216 H l ms) (hi : ¬ inR ms i) :
    Ct Try.prog 27 #[l, I i] W0 H [] (fun r H' B => r = .tuple #[l, I 4] ∧ B = [] ∧ H' = H) := by
  refine Ct.go fun R => ?_
  obtain ⟨b0, c0, rfl, hc0, hd0⟩ := hs.1.shape
  unfold inR at hi
  by_cases h0 : i < 0
  all_goals
    refine walk ?_
    refine fin0 ?_
    exact ⟨rfl, rfl, rfl⟩
theorem refDrop_no {W0 : World} {H : Heap} {l : Value} {ms : List Message} {i : Int} (hs : SlB rMessage 19 216 H l ms) (hi : ¬ inR ms i) :
    Ct Try.prog 26 #[l, I i] W0 H [] (fun r H' B => ∃ c, r = .tuple #[l, .agg c.toArray, I 4] ∧ rMessage H c zMessage ∧ B = [] ∧ H' = H) := by
  refine Ct.go fun R => ?_
  obtain ⟨b0, c0, rfl, hc0, hd0⟩ := hs.1.shape
  unfold inR at hi
  refine walk ?_
  refine ops_alloc rfl fun p1 _ => ?_
  by_cases h0 : i < 0
  all_goals
    refine walk ?_
    refine fin0 ?_
    exact ⟨_, rfl, zMessage_reads, rfl, rfl⟩
end Go.Proofs.Ytlbpaokehdiinaa
