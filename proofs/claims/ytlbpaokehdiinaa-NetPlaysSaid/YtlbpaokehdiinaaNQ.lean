/- One call played: the message at a place; and all calls together. -/
import Derived.Test.YtlbpaokehdiinaaNP
set_option linter.unusedVariables false
set_option linter.unusedSimpArgs false
namespace Go.Proofs.Ytlbpaokehdiinaa
open Go Go.Sx Go.Proofs
set_option maxHeartbeats 8000000 in
theorem play0 {W0 : World} {H H0 : Heap} {p l : Value} {c : List Value} {ms : List Message} {kd i : Int} {m : Message} (hl : H0.le H) (hs : SlB rMessage 19 216 H l ms) (ho : rOp H c ⟨kd, i, m⟩) (hlen : ms.length ≤ 64) (k1 : ¬ kd = 1) (k2 : ¬ kd = 2) (k3 : ¬ kd = 3) (k4 : ¬ kd = 4) (k5 : ¬ kd = 5) :
    Ct Try.prog 17 #[p, l, .agg c.toArray] W0 H [netO H0 p ms] (PlayPost p) := by
  obtain ⟨s1, s2, s3, s4, rfl, fK, fI, hrest⟩ := ho
  refine Ct.go (vs := [p, l, .agg (I kd :: I i :: m.cv s1 s2 s3 s4).toArray]) fun R => ?_
  refine ex_know .here (fun h => netO_ok) fun hoks => ?_
  obtain ⟨b0, c0, rfl, hc0, hd0⟩ := hs.1.shape
  refine walk ?_
  refine ops_box rfl rfl fun p5 _ => ?_
  refine walk ?_
  by_cases hin : inR ms i
  · obtain ⟨j, rfl⟩ : ∃ j : Nat, i = j := ⟨i.toNat, by unfold inR at hin; omega⟩
    have hj : j < ms.length := by unfold inR at hin; omega
    refine ops_call rfl rfl (at_yes (H0 := H0) (ms := ms) hl hj) fun r3 H4 B hl4 ⟨⟨t1, t2, t3, t4, er, eB⟩, eH⟩ => ?_
    subst er eB eH
    refine walk ?_
    refine ops_alloc rfl fun p13 _ => ?_
    refine ops_frzM t1 t2 t3 t4 ms[j] (hoks _ (List.getElem_mem _)) fun H5 hl5 hm5 => ?_
    refine walk ?_
    refine ex_any 26 [row p13 42 (cvM t1 t2 t3 t4 ms[j]), row p5 60 (I kd :: I j :: m.cv s1 s2 s3 s4)] ?_
    refine gny_p 0 rfl rfl rfl ?_; refine gny_p 1 rfl rfl rfl ?_; refine gny_p 2 rfl rfl rfl ?_; refine gny_p 3 rfl rfl rfl ?_; refine gny_p 4 rfl rfl rfl ?_; refine gny_p 5 rfl rfl rfl ?_; refine gny_p 6 rfl rfl rfl ?_; refine gny_ldN 7 rfl rfl rfl rfl ?_; refine gny_p 8 rfl rfl rfl ?_; refine gny_p 9 rfl rfl rfl ?_; refine gny_ld 10 rfl rfl rfl rfl ?_
    refine gny_ixp 11 rfl rfl rfl (sup hs).1 hj fun b o c hr hc => ?_
    refine gny_ldNH 12 rfl rfl rfl hr (RdOk.len hc) ?_
    refine gny_call 13 rfl rfl rfl (same_spec hm5 hc) fun r7 H7 B hl7 ⟨er, eB, eH⟩ => ?_
    subst er eB eH
    refine ⟨(by (repeat (first | exact Sub.refl _ | exact Sub.nil _ | (apply sub_pick; (repeat (first | exact Has.here | apply Has.there)); skip) | apply Sub.drop))), ?_⟩
    simp only [decide_true]
    refine gny_p 14 rfl rfl rfl ?_; refine gny_p 15 rfl rfl rfl ?_; refine gny_skip 16 rfl rfl ?_; refine gny_skip 17 rfl rfl ?_; refine gny_skip 18 rfl rfl ?_; refine gny_skip 19 rfl rfl ?_; refine gny_skip 20 rfl rfl ?_; refine gny_skip 21 rfl rfl ?_; refine gny_skip 22 rfl rfl ?_; refine gny_p 23 rfl rfl rfl ?_; refine gny_p 24 rfl rfl rfl ?_; refine gny_p 25 rfl rfl rfl ?_
    refine any_rest rfl ?_
    refine walk ?_
    refine finB [netO H7 p ms] ?_ (hs := Sub.trans (by (repeat (first | exact Sub.refl _ | exact Sub.nil _ | (apply sub_pick; (repeat (first | exact Has.here | apply Has.there)); skip) | apply Sub.drop))) (netO_up (H := H4) hl5))
    exact ⟨_, _, rfl, sup hs, rfl, hlen⟩
  · refine ops_call rfl rfl (at_no (H0 := H0) (ms := ms) hl hin) fun r3 H4 B hl4 ⟨⟨t1, t2, t3, t4, er, eB⟩, eH⟩ => ?_
    subst er eB eH
    refine walk ?_
    refine ops_alloc rfl fun p13 _ => ?_
    refine ops_frzM t1 t2 t3 t4 zMessage okz fun H5 hl5 hm5 => ?_
    have hz : rMessage H5 [I 0, I 0, I 0, I 0, I 0, I 0, I 0, nilS, nilS, .bool false, I 0, I 0, I 0, I 0, nilS, I 0, I 0, I 0, nilS] zMessage := zMessage_reads
    unfold inR at hin
    by_cases h0 : i < 0
    all_goals
      refine walk ?_
      refine ex_any 26 [row p13 42 (cvM t1 t2 t3 t4 zMessage)] ?_
      refine gny_p 0 rfl rfl rfl ?_; refine gny_p 1 rfl rfl rfl ?_; refine gny_p 2 rfl rfl rfl ?_; refine gny_p 3 rfl rfl rfl ?_; refine gny_p 4 rfl rfl rfl ?_; refine gny_p 5 rfl rfl rfl ?_; refine gny_p 6 rfl rfl rfl ?_; refine gny_skip 7 rfl rfl ?_; refine gny_skip 8 rfl rfl ?_; refine gny_skip 9 rfl rfl ?_; refine gny_skip 10 rfl rfl ?_; refine gny_skip 11 rfl rfl ?_; refine gny_skip 12 rfl rfl ?_; refine gny_skip 13 rfl rfl ?_; refine gny_p 14 rfl rfl rfl ?_; refine gny_p 15 rfl rfl rfl ?_; refine gny_p 16 rfl rfl rfl ?_; refine gny_p 17 rfl rfl rfl ?_; refine gny_p 18 rfl rfl rfl ?_; refine gny_ldN 19 rfl rfl rfl rfl ?_; refine gny_bld 20 rfl rfl rfl ?_
      refine gny_call 21 rfl rfl rfl (same_spec hm5 hz) fun r7 H7 B hl7 ⟨er, eB, eH⟩ => ?_
      subst er eB eH
      refine ⟨(by (repeat (first | exact Sub.refl _ | exact Sub.nil _ | (apply sub_pick; (repeat (first | exact Has.here | apply Has.there)); skip) | apply Sub.drop))), ?_⟩
      simp only [decide_true]
      refine gny_p 22 rfl rfl rfl ?_; refine gny_p 23 rfl rfl rfl ?_; refine gny_p 24 rfl rfl rfl ?_; refine gny_p 25 rfl rfl rfl ?_
      refine any_rest rfl ?_
      refine walk ?_
      refine finB [netO H7 p ms] ?_ (hs := Sub.trans (by (repeat (first | exact Sub.refl _ | exact Sub.nil _ | (apply sub_pick; (repeat (first | exact Has.here | apply Has.there)); skip) | apply Sub.drop))) (netO_up (H := H4) hl5))
      exact ⟨_, _, rfl, sup hs, rfl, hlen⟩
end Go.Proofs.Ytlbpaokehdiinaa
