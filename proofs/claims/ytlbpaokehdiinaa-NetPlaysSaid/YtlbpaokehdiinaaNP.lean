/- One call played: what it does to the net and to the plain list. -/
import Derived.Test.YtlbpaokehdiinaaNM
import Derived.Test.YtlbpaokehdiinaaE8
set_option linter.unusedVariables false
set_option linter.unusedSimpArgs false
namespace Go.Proofs.Ytlbpaokehdiinaa
open Go Go.Sx Go.Proofs
theorem sup {α : Type} {R : Rd α} {sz w : Nat} [RdOk R sz] {H H' : Heap} {v : Value} {xs : List α} (h : SlB R sz w H v xs) (hl : H.le H' := by first | exact Go.Sx.Heap.le.refl _ | assumption | ((try simp only [Go.Sx.le_self] at *); (repeat (first | exact Go.Sx.Heap.le.refl _ | assumption | refine Go.Sx.Heap.le.trans ?_ ‹Go.Sx.Heap.le _ _›)))) : SlB R sz w H' v xs := h.mono hl
def PlayPost (p : Value) (r : Value) (H' : Heap) (B : List HProp) : Prop := ∃ v ms, r = .tuple #[v, .bool true] ∧ SlB rMessage 19 216 H' v ms ∧ B = [netO H' p ms] ∧ ms.length ≤ 64
theorem okz : okM zMessage := by unfold okM zMessage; simp [fits0]
theorem play1 {W0 : World} {H H0 : Heap} {p l : Value} {c : List Value} {ms : List Message} {i : Int} {m : Message} (hl : H0.le H) (hs : SlB rMessage 19 216 H l ms) (ho : rOp H c ⟨1, i, m⟩) (hlen : ms.length ≤ 64) :
    Ct Try.prog 17 #[p, l, .agg c.toArray] W0 H [netO H0 p ms] (PlayPost p) := by
  obtain ⟨s1, s2, s3, s4, rfl, fK, fI, hrest⟩ := ho
  refine Ct.go (vs := [p, l, .agg (I 1 :: I i :: m.cv s1 s2 s3 s4).toArray]) fun R => ?_
  have hm : rMessage H (m.cv s1 s2 s3 s4) m := ⟨s1, s2, s3, s4, rfl, hrest⟩
  have hok := rMessage_ok hm
  refine ex_know .here (fun h => netO_ok) fun hoks => ?_
  obtain ⟨b0, c0, rfl, hc0, hd0⟩ := hs.1.shape
  refine walk ?_
  refine ops_box rfl rfl fun p5 _ => ?_
  refine walk ?_
  refine ops_call rfl rfl (refOwn_spec hm) fun r3 H4 B hl4 ⟨t1, t2, t3, t4, er, eB, eH⟩ => ?_
  subst er eB eH
  refine ops_frzM t1 t2 t3 t4 m hok fun H5 hl5 hm5 => ?_
  by_cases hlt : ms.length < 64
  · refine ops_call rfl rfl (send_yes (H0 := H0) (ms := ms) (hl.trans hl5) hm5 hlt) fun r4 H6 B hl6 ⟨er, eB⟩ => ?_
    subst er eB
    refine walk ?_
    refine ops_call rfl rfl (refSend_yes (sup hs) (rup hm) hlt) fun r7 H7 B hl7 ⟨v, er, hv, eB⟩ => ?_
    subst er eB
    obtain ⟨d1, e1, rfl, _⟩ := hv.1.shape
    refine walk ?_
    refine ops_call rfl rfl (len_spec (H0 := H6) (ms := (ms ++ [m])) (by first | exact .refl _ | assumption | ((try simp only [Go.Sx.le_self] at *); (repeat (first | exact Go.Sx.Heap.le.refl _ | assumption | refine Go.Sx.Heap.le.trans ?_ ‹Go.Sx.Heap.le _ _›))))) fun rl HL B hlL ⟨er, eB, eH⟩ => ?_
    subst er eB eH
    refine walk ?_
    refine finB [netO HL p (ms ++ [m])] ?_
    exact ⟨_, _, rfl, hv, rfl, by simp; omega⟩
  · refine ops_call rfl rfl (send_no (H0 := H0) (ms := ms) (hl.trans hl5) hm5 hlt) fun r4 H6 B hl6 ⟨er, eB, eH⟩ => ?_
    subst er eB eH
    refine walk ?_
    refine ops_call rfl rfl (refSend_no (sup hs) (rup hm) hlt) fun r7 H7 B hl7 ⟨er, eB, eH⟩ => ?_
    subst er eB eH
    refine walk ?_
    refine ops_call rfl rfl (len_spec (H0 := H7) (ms := ms) (by first | exact .refl _ | assumption | ((try simp only [Go.Sx.le_self] at *); (repeat (first | exact Go.Sx.Heap.le.refl _ | assumption | refine Go.Sx.Heap.le.trans ?_ ‹Go.Sx.Heap.le _ _›))))) fun rl HL B hlL ⟨er, eB, eH⟩ => ?_
    subst er eB eH
    refine walk ?_
    refine finB [netO HL p ms] ?_
    exact ⟨_, _, rfl, sup hs, rfl, hlen⟩
theorem play2 {W0 : World} {H H0 : Heap} {p l : Value} {c : List Value} {ms : List Message} {i : Int} {m : Message} (hl : H0.le H) (hs : SlB rMessage 19 216 H l ms) (ho : rOp H c ⟨2, i, m⟩) (hlen : ms.length ≤ 64) :
    Ct Try.prog 17 #[p, l, .agg c.toArray] W0 H [netO H0 p ms] (PlayPost p) := by
  obtain ⟨s1, s2, s3, s4, rfl, fK, fI, hrest⟩ := ho
  refine Ct.go (vs := [p, l, .agg (I 2 :: I i :: m.cv s1 s2 s3 s4).toArray]) fun R => ?_
  have hm : rMessage H (m.cv s1 s2 s3 s4) m := ⟨s1, s2, s3, s4, rfl, hrest⟩
  have hok := rMessage_ok hm
  refine ex_know .here (fun h => netO_ok) fun hoks => ?_
  obtain ⟨b0, c0, rfl, hc0, hd0⟩ := hs.1.shape
  refine walk ?_
  refine ops_box rfl rfl fun p5 _ => ?_
  refine walk ?_
  refine ops_alloc rfl fun p10 _ => ?_
  refine ops_alloc rfl fun p11 _ => ?_
  refine walk ?_
  by_cases hin : inR ms i
  · obtain ⟨j, rfl⟩ : ∃ j : Nat, i = j := ⟨i.toNat, by unfold inR at hin; omega⟩
    have hj : j < ms.length := by unfold inR at hin; omega
    refine ops_call rfl rfl (deliver_yes (H0 := H0) (ms := ms) hl hj) fun r3 H4 B hl4 ⟨⟨t1, t2, t3, t4, er, eB⟩, eH⟩ => ?_
    subst er eB eH
    refine walk ?_
    refine ops_frzM t1 t2 t3 t4 ms[j] (hoks _ (List.getElem_mem _)) fun H5 hl5 hm5 => ?_
    refine ops_call rfl rfl (refDrop_yes (sup hs) hj) fun r6 H6 B hl6 ⟨v, c, er, hc, hv, eB⟩ => ?_
    subst er eB
    obtain ⟨d1, e1, rfl, _⟩ := hv.1.shape
    have hcl := RdOk.len (R := rMessage) hc
    refine walk ?_
    refine ops_stall rfl hcl rfl (RdOk.one hc) ?_
    refine walk ?_
    refine ops_ldall rfl rfl hcl ?_
    refine ops_call rfl rfl (same_spec (rup hm5) hc) fun r7 H7 B hl7 ⟨er, eB, eH⟩ => ?_
    subst er eB eH
    simp only [decide_true]
    refine walk ?_
    refine ops_call rfl rfl (len_spec (H0 := H4) (ms := (del ms j)) (by first | exact .refl _ | assumption | ((try simp only [Go.Sx.le_self] at *); (repeat (first | exact Go.Sx.Heap.le.refl _ | assumption | refine Go.Sx.Heap.le.trans ?_ ‹Go.Sx.Heap.le _ _›))))) fun rl HL B hlL ⟨er, eB, eH⟩ => ?_
    subst er eB eH
    refine walk ?_
    refine finB [netO HL p (del ms j)] ?_
    exact ⟨_, _, rfl, hv, rfl, by rw [del_len hj]; omega⟩
  · refine ops_call rfl rfl (deliver_no (H0 := H0) (ms := ms) hl hin) fun r3 H4 B hl4 ⟨⟨t1, t2, t3, t4, er, eB⟩, eH⟩ => ?_
    subst er eB eH
    refine walk ?_
    refine ops_frzM t1 t2 t3 t4 zMessage okz fun H5 hl5 hm5 => ?_
    refine ops_call rfl rfl (refDrop_no (sup hs) hin) fun r6 H6 B hl6 ⟨c, er, hc, eB, eH⟩ => ?_
    subst er eB eH
    have hcl := RdOk.len (R := rMessage) hc
    refine walk ?_
    refine ops_stall rfl hcl rfl (RdOk.one hc) ?_
    refine walk ?_
    refine ops_ldall rfl rfl hcl ?_
    refine ops_call rfl rfl (same_spec (rup hm5) hc) fun r7 H7 B hl7 ⟨er, eB, eH⟩ => ?_
    subst er eB eH
    simp only [decide_true]
    refine walk ?_
    refine ops_call rfl rfl (len_spec (H0 := H4) (ms := ms) (by first | exact .refl _ | assumption | ((try simp only [Go.Sx.le_self] at *); (repeat (first | exact Go.Sx.Heap.le.refl _ | assumption | refine Go.Sx.Heap.le.trans ?_ ‹Go.Sx.Heap.le _ _›))))) fun rl HL B hlL ⟨er, eB, eH⟩ => ?_
    subst er eB eH
    refine walk ?_
    refine finB [netO HL p ms] ?_
    exact ⟨_, _, rfl, sup hs, rfl, hlen⟩
theorem play3 {W0 : World} {H H0 : Heap} {p l : Value} {c : List Value} {ms : List Message} {i : Int} {m : Message} (hl : H0.le H) (hs : SlB rMessage 19 216 H l ms) (ho : rOp H c ⟨3, i, m⟩) (hlen : ms.length ≤ 64) :
    Ct Try.prog 17 #[p, l, .agg c.toArray] W0 H [netO H0 p ms] (PlayPost p) := by
  obtain ⟨s1, s2, s3, s4, rfl, fK, fI, hrest⟩ := ho
  refine Ct.go (vs := [p, l, .agg (I 3 :: I i :: m.cv s1 s2 s3 s4).toArray]) fun R => ?_
  have hm : rMessage H (m.cv s1 s2 s3 s4) m := ⟨s1, s2, s3, s4, rfl, hrest⟩
  have hok := rMessage_ok hm
  refine ex_know .here (fun h => netO_ok) fun hoks => ?_
  obtain ⟨b0, c0, rfl, hc0, hd0⟩ := hs.1.shape
  refine walk ?_
  refine ops_box rfl rfl fun p5 _ => ?_
  refine walk ?_
  by_cases hin : inR ms i
  · obtain ⟨j, rfl⟩ : ∃ j : Nat, i = j := ⟨i.toNat, by unfold inR at hin; omega⟩
    have hj : j < ms.length := by unfold inR at hin; omega
    refine ops_call rfl rfl (drop_yes (H0 := H0) (ms := ms) hl hj) fun r3 H4 B hl4 ⟨er, eB, eH⟩ => ?_
    subst er eB eH
    refine walk ?_
    refine ops_call rfl rfl (refDrop_yes (sup hs) hj) fun r6 H6 B hl6 ⟨v, c, er, hc, hv, eB⟩ => ?_
    subst er eB
    obtain ⟨d1, e1, rfl, _⟩ := hv.1.shape
    refine walk ?_
    refine ops_call rfl rfl (len_spec (H0 := H4) (ms := (del ms j)) (by first | exact .refl _ | assumption | ((try simp only [Go.Sx.le_self] at *); (repeat (first | exact Go.Sx.Heap.le.refl _ | assumption | refine Go.Sx.Heap.le.trans ?_ ‹Go.Sx.Heap.le _ _›))))) fun rl HL B hlL ⟨er, eB, eH⟩ => ?_
    subst er eB eH
    refine walk ?_
    refine finB [netO HL p (del ms j)] ?_
    exact ⟨_, _, rfl, hv, rfl, by rw [del_len hj]; omega⟩
  · refine ops_call rfl rfl (drop_no (H0 := H0) (ms := ms) hl hin) fun r3 H4 B hl4 ⟨er, eB, eH⟩ => ?_
    subst er eB eH
    refine walk ?_
    refine ops_call rfl rfl (refDrop_no (sup hs) hin) fun r6 H6 B hl6 ⟨c, er, hc, eB, eH⟩ => ?_
    subst er eB eH
    refine walk ?_
    refine ops_call rfl rfl (len_spec (H0 := H6) (ms := ms) (by first | exact .refl _ | assumption | ((try simp only [Go.Sx.le_self] at *); (repeat (first | exact Go.Sx.Heap.le.refl _ | assumption | refine Go.Sx.Heap.le.trans ?_ ‹Go.Sx.Heap.le _ _›))))) fun rl HL B hlL ⟨er, eB, eH⟩ => ?_
    subst er eB eH
    refine walk ?_
    refine finB [netO HL p ms] ?_
    exact ⟨_, _, rfl, sup hs, rfl, hlen⟩
theorem play4 {W0 : World} {H H0 : Heap} {p l : Value} {c : List Value} {ms : List Message} {i : Int} {m : Message} (hl : H0.le H) (hs : SlB rMessage 19 216 H l ms) (ho : rOp H c ⟨4, i, m⟩) (hlen : ms.length ≤ 64) :
    Ct Try.prog 17 #[p, l, .agg c.toArray] W0 H [netO H0 p ms] (PlayPost p) := by
  obtain ⟨s1, s2, s3, s4, rfl, fK, fI, hrest⟩ := ho
  refine Ct.go (vs := [p, l, .agg (I 4 :: I i :: m.cv s1 s2 s3 s4).toArray]) fun R => ?_
  have hm : rMessage H (m.cv s1 s2 s3 s4) m := ⟨s1, s2, s3, s4, rfl, hrest⟩
  have hok := rMessage_ok hm
  refine ex_know .here (fun h => netO_ok) fun hoks => ?_
  obtain ⟨b0, c0, rfl, hc0, hd0⟩ := hs.1.shape
  refine walk ?_
  refine ops_box rfl rfl fun p5 _ => ?_
  refine walk ?_
  by_cases hin : inR ms i
  · obtain ⟨j, rfl⟩ : ∃ j : Nat, i = j := ⟨i.toNat, by unfold inR at hin; omega⟩
    have hj : j < ms.length := by unfold inR at hin; omega
    by_cases hlt : ms.length < 64
    · refine ops_call rfl rfl (copy_yes (H0 := H0) (ms := ms) hl hj hlt) fun r3 H4 B hl4 ⟨er, eB⟩ => ?_
      subst er eB
      refine walk ?_
      refine ops_call rfl rfl (refCopy_yes (sup hs) hj hlt) fun r6 H6 B hl6 ⟨v, er, hv, eB⟩ => ?_
      subst er eB
      obtain ⟨d1, e1, rfl, _⟩ := hv.1.shape
      refine walk ?_
      refine ops_call rfl rfl (len_spec (H0 := H4) (ms := (ms ++ [ms[j]])) (by first | exact .refl _ | assumption | ((try simp only [Go.Sx.le_self] at *); (repeat (first | exact Go.Sx.Heap.le.refl _ | assumption | refine Go.Sx.Heap.le.trans ?_ ‹Go.Sx.Heap.le _ _›))))) fun rl HL B hlL ⟨er, eB, eH⟩ => ?_
      subst er eB eH
      refine walk ?_
      refine finB [netO HL p (ms ++ [ms[j]])] ?_
      exact ⟨_, _, rfl, hv, rfl, by simp; omega⟩
    · refine ops_call rfl rfl (copy_full (H0 := H0) (ms := ms) hl hj hlt) fun r3 H4 B hl4 ⟨er, eB⟩ => ?_
      subst er eB
      refine walk ?_
      refine ops_call rfl rfl (refCopy_full (sup hs) hj hlt) fun r6 H6 B hl6 ⟨er, eB, eH⟩ => ?_
      subst er eB eH
      refine walk ?_
      refine ops_call rfl rfl (len_spec (H0 := H6) (ms := ms) (by first | exact .refl _ | assumption | ((try simp only [Go.Sx.le_self] at *); (repeat (first | exact Go.Sx.Heap.le.refl _ | assumption | refine Go.Sx.Heap.le.trans ?_ ‹Go.Sx.Heap.le _ _›))))) fun rl HL B hlL ⟨er, eB, eH⟩ => ?_
      subst er eB eH
      refine walk ?_
      refine finB [netO HL p ms] ?_
      exact ⟨_, _, rfl, sup hs, rfl, hlen⟩
  · refine ops_call rfl rfl (copy_no (H0 := H0) (ms := ms) hl hin) fun r3 H4 B hl4 ⟨er, eB, eH⟩ => ?_
    subst er eB eH
    refine walk ?_
    refine ops_call rfl rfl (refCopy_no (sup hs) hin) fun r6 H6 B hl6 ⟨er, eB, eH⟩ => ?_
    subst er eB eH
    refine walk ?_
    refine ops_call rfl rfl (len_spec (H0 := H6) (ms := ms) (by first | exact .refl _ | assumption | ((try simp only [Go.Sx.le_self] at *); (repeat (first | exact Go.Sx.Heap.le.refl _ | assumption | refine Go.Sx.Heap.le.trans ?_ ‹Go.Sx.Heap.le _ _›))))) fun rl HL B hlL ⟨er, eB, eH⟩ => ?_
    subst er eB eH
    refine walk ?_
    refine finB [netO HL p ms] ?_
    exact ⟨_, _, rfl, sup hs, rfl, hlen⟩
theorem play5 {W0 : World} {H H0 : Heap} {p l : Value} {c : List Value} {ms : List Message} {i : Int} {m : Message} (hl : H0.le H) (hs : SlB rMessage 19 216 H l ms) (ho : rOp H c ⟨5, i, m⟩) (hlen : ms.length ≤ 64) :
    Ct Try.prog 17 #[p, l, .agg c.toArray] W0 H [netO H0 p ms] (PlayPost p) := by
  obtain ⟨s1, s2, s3, s4, rfl, fK, fI, hrest⟩ := ho
  refine Ct.go (vs := [p, l, .agg (I 5 :: I i :: m.cv s1 s2 s3 s4).toArray]) fun R => ?_
  have hm : rMessage H (m.cv s1 s2 s3 s4) m := ⟨s1, s2, s3, s4, rfl, hrest⟩
  have hok := rMessage_ok hm
  refine ex_know .here (fun h => netO_ok) fun hoks => ?_
  obtain ⟨b0, c0, rfl, hc0, hd0⟩ := hs.1.shape
  refine walk ?_
  refine ops_box rfl rfl fun p5 _ => ?_
  refine walk ?_
  refine ops_call rfl rfl (refClear_spec (to := i) hs) fun r3 H4 B hl4 ⟨v, er, hv, eB⟩ => ?_
  subst er eB
  obtain ⟨d1, e1, rfl, _⟩ := hv.1.shape
  refine walk ?_
  refine ops_call rfl rfl (clear_spec (H0 := H0) (ms := ms) (to := i) (hl.trans hl4)) fun r6 H6 B hl6 ⟨er, eB, eH⟩ => ?_
  subst er eB eH
  refine walk ?_
  refine ops_call rfl rfl (len_spec (H0 := H6) (ms := (clr i ms)) (by first | exact .refl _ | assumption | ((try simp only [Go.Sx.le_self] at *); (repeat (first | exact Go.Sx.Heap.le.refl _ | assumption | refine Go.Sx.Heap.le.trans ?_ ‹Go.Sx.Heap.le _ _›))))) fun rl HL B hlL ⟨er, eB, eH⟩ => ?_
  subst er eB eH
  refine walk ?_
  refine finB [netO HL p (clr i ms)] ?_
  exact ⟨_, _, rfl, hv, rfl, Nat.le_trans clr_len hlen⟩
end Go.Proofs.Ytlbpaokehdiinaa
