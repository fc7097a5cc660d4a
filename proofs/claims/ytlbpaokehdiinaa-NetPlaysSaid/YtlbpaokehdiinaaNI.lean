/- NetOwn: the walk. -/
import Derived.Test.YtlbpaokehdiinaaNH
set_option linter.unusedVariables false
set_option linter.unusedSimpArgs false
namespace Go.Proofs.Ytlbpaokehdiinaa
open Go Go.Sx Go.Proofs
theorem rup {α : Type} {R : Rd α} {sz : Nat} [RdOk R sz] {H H' : Heap} {c : List Value} {x : α} (h : R H c x) (hl : H.le H' := by first | exact Go.Sx.Heap.le.refl _ | assumption | ((try simp only [Go.Sx.le_self] at *); (repeat (first | exact Go.Sx.Heap.le.refl _ | assumption | refine Go.Sx.Heap.le.trans ?_ ‹Go.Sx.Heap.le _ _›)))) : R H' c x := RdOk.mono hl h
theorem rMessage_cap {H : Heap} {c : List Value} {m : Message} (h : rMessage H c m) : capM m := by
  obtain ⟨_, _, _, _, _, f1, f2, f3, f4, f5, f6, f7, h1, h2, f8, f9, f10, f11, h3, f12, f13, f14, h4⟩ := h
  exact ⟨h1.2, h2.2, h3.2, h4.2⟩
theorem ownM_reads {H hA : Heap} {s1 s2 s3 s4 : Option Addr × Nat} {m : Message} (hb : big (ownM H s1 s2 s3 s4 m) hA) (d : Disj H hA) (hm : okM m) : rMessage (union H hA) (cvM s1 s2 s3 s4 m) m := by
  obtain ⟨f1, f2, f3, ⟨f4, f5, f6⟩, f7, f8, f9, f10, f11, f12, f13, f14⟩ := hm
  obtain ⟨h1, r1, p1, ⟨h2, r2, p2, ⟨h3, r3, p3, ⟨h4, r4, p4, -, -, l4, -⟩, -, l3, m3⟩, -, l2, m2⟩, -, l1, m1⟩ := hb
  have hl := le_union_left H hA
  have hr := le_union_right d
  exact ⟨_, _, _, _, rfl, f1, f2, f3, f4, f5, f6, f7, ownS_reads p1 hl (l1.trans hr), ownS_reads p2 hl (l2.trans (m1.trans hr)), f8, f9, f10, f11, ownS_reads p3 hl (l3.trans (m2.trans (m1.trans hr))), f12, f13, f14, ownS_reads p4 hl (l4.trans (m3.trans (m2.trans (m1.trans hr))))⟩
theorem sameO_spec {W0 : World} {H : Heap} {s1 s2 s3 s4 : Option Addr × Nat} {d : List Value} {x y : Message} (hx : okM x) (h1 : rMessage H d y) :
    Ct Try.prog 16 #[.agg (cvM s1 s2 s3 s4 x).toArray, .agg d.toArray] W0 H (ownM H s1 s2 s3 s4 x) (fun r H' B => r = .bool (decide (x = y)) ∧ B = ownM H s1 s2 s3 s4 x) := by
  have := Ct.lend (P := Try.prog) (f := 16) (vs := #[.agg (cvM s1 s2 s3 s4 x).toArray, .agg d.toArray]) (W0 := W0) (H := H) (A := ownM H s1 s2 s3 s4 x) (A2 := []) (Post := fun r B => r = .bool (decide (x = y)) ∧ B = [])
    fun hA hb hd => (same_spec (ownM_reads hb hd hx) (RdOk.mono (le_union_left H hA) h1)).mono fun r H' B _ ⟨a, b, _⟩ => ⟨a, b⟩
  exact this.mono fun r H' B _ ⟨B', e, e1, e2⟩ => ⟨e1, by rw [e, e2]; rfl⟩
theorem netOwn_spec {W0 : World} {H : Heap} {c : List Value} {m : Message} (h0 : rMessage H c m) : Ct Try.prog 4 #[.agg c.toArray] W0 H [] (fun r H' B => r = .bool true ∧ B = []) := by
  refine Ct.go fun R => ?_
  have hc := h0
  have hcap := rMessage_cap h0
  have hok := rMessage_ok h0
  obtain ⟨s1, s2, s3, s4, rfl, _⟩ := h0
  refine walk ?_
  refine ops_box rfl rfl fun p1 _ => ?_
  refine walk ?_
  refine ops_call (vs := []) rfl rfl new_spec fun r1 H1 B hl1 ⟨eB, eH⟩ => ?_
  subst eB eH
  refine ops_know .here (fun h => netO_ptr) fun ⟨b, e⟩ => ?_
  subst e
  refine walk ?_
  refine ops_call (vs := []) rfl rfl awake_spec fun r2 H2 B hl2 ⟨er, eB⟩ => ?_
  subst er eB
  refine walk ?_
  refine ops_call rfl rfl (refOwn_spec (rup hc)) fun r3 H3 B hl3 ⟨t1, t2, t3, t4, er, eB, eH⟩ => ?_
  subst er eB eH
  refine walk ?_
  refine ops_alloc rfl fun p2 _ => ?_
  refine walk ?_
  refine ops_call rfl rfl (sendO_spec (ms := []) hl2 hcap hok (by simp)) fun r4 H4 B hl4 ⟨er, eB⟩ => ?_
  subst er eB
  refine walk ?_
  refine ops_call rfl rfl (copy_yes (ms := [m]) (j := 0) (.refl _) (by simp) (by simp)) fun r5 H5 B hl5 ⟨er, eB⟩ => ?_
  subst er eB
  refine walk ?_
  refine ops_call rfl rfl (spoil_spec (m := m)) fun r6 H6 B hl6 ⟨eB, eH⟩ => ?_
  subst eB eH
  refine walk ?_
  refine ops_call rfl rfl (at_yes (ms := [m, m]) (j := 0) (.refl _) (by simp)) fun r7 H7 B hl7 ⟨⟨u1, u2, u3, u4, er, eB⟩, eH⟩ => ?_
  subst er eB eH
  refine walk ?_
  refine ops_alloc rfl fun p3 _ => ?_
  refine walk ?_
  refine ops_call rfl rfl (spoil_spec (m := m)) fun r8 H8 B hl8 ⟨eB, eH⟩ => ?_
  subst eB eH
  refine walk ?_
  refine ops_call rfl rfl (deliver_yes (ms := [m, m]) (j := 0) (.refl _) (by simp)) fun r9 H9 B hl9 ⟨⟨v1, v2, v3, v4, er, eB⟩, eH⟩ => ?_
  subst er eB eH
  refine walk ?_
  refine ops_alloc rfl fun p4 _ => ?_
  refine walk ?_
  refine ops_call rfl rfl (sameO_spec (x := m) (y := m) hok (rup hc)) fun r10 H10 B hl10 ⟨er, eB⟩ => ?_
  subst er eB
  simp only [decide_true]
  refine walk ?_
  refine ops_call rfl rfl (spoil_spec (m := m)) fun r11 H11 B hl11 ⟨eB, eH⟩ => ?_
  subst eB eH
  refine walk ?_
  refine ops_call rfl rfl (deliver_yes (H0 := H9) (ms := [m]) (j := 0) hl10 (by simp)) fun r12 H12 B hl12 ⟨⟨w1, w2, w3, w4, er, eB⟩, eH⟩ => ?_
  subst er eB eH
  refine walk ?_
  refine ops_alloc rfl fun p5 _ => ?_
  refine walk ?_
  simp only [List.getElem_cons_zero]
  refine ops_frzM w1 w2 w3 w4 m hok fun H13 hl13 hm => ?_
  refine ops_call rfl rfl (same_spec hm (rup hc)) fun r14 H14 B hl14 ⟨er, eB, eH⟩ => ?_
  subst er eB eH
  refine walk ?_
  refine fin0 ?_
  exact ⟨by simp, rfl⟩
end Go.Proofs.Ytlbpaokehdiinaa
