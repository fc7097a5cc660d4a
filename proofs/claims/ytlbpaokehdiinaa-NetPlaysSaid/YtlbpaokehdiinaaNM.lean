/- NetFull: the walk. -/
import Derived.Test.YtlbpaokehdiinaaNL
set_option linter.unusedVariables false
set_option linter.unusedSimpArgs false
namespace Go.Proofs.Ytlbpaokehdiinaa
open Go Go.Sx Go.Proofs
theorem netO_up {H H' : Heap} {p : Value} {ms : List Message} {L : List HProp} (hl : H.le H') : Sub (netO H p ms :: L) (netO H' p ms :: L) := fun h ⟨h1, h2, ho, q, d, l1, l2⟩ => by
  obtain ⟨x, ⟨hp, _⟩, hb⟩ := netO_open hl ho
  exact ⟨h1, h2, ⟨x.1, _, hp, hb⟩, q, d, l1, l2⟩
theorem del_rep {m : Message} {n j : Nat} (hj : j < n) : del (List.replicate n m) j = List.replicate (n - 1) m := by
  simp only [del, List.take_replicate, List.drop_replicate, List.replicate_append_replicate]; congr 1; omega
theorem clr_rep {m : Message} {n : Nat} : clr m.To (List.replicate n m) = [] := by
  simp [clr, List.filter_eq_nil_iff]
theorem netFull_spec {W0 : World} {H : Heap} {c : List Value} {m : Message} {i : Int} (h0 : rMessage H c m) : Ct Try.prog 6 #[.agg c.toArray, I i] W0 H [] (fun r H' B => r = .bool true ∧ B = []) := by
  refine Ct.go fun R => ?_
  have hc := h0
  have hcap := rMessage_cap h0
  have hok := rMessage_ok h0
  obtain ⟨s1, s2, s3, s4, rfl, _⟩ := h0
  refine walk ?_
  refine ops_box rfl rfl fun p1 _ => ?_
  refine walk ?_
  refine ops_call (vs := []) rfl rfl new_spec fun r1 H1 B hl1 ⟨eB, eH⟩ => ?_
  subst eB eH
  refine ops_know .here (fun h => netO_ptr) fun ⟨b, e⟩ => ?_
  subst e
  refine walk ?_
  refine ops_call (vs := []) rfl rfl awake_spec fun r2 H2 B hl2 ⟨er, eB⟩ => ?_
  subst er eB
  refine walk ?_
  refine ex_L (netO_up hl2) ?_
  refine ex_loop (σ := Nat × Heap) (fun s => s.1 ≤ 64 ∧ H2.le s.2) (fun s => [(1, I i), (2, .pointer (some ⟨p1, 0, none⟩)), (5, .pointer (some ⟨b, 0, none⟩)), (6, I s.1)]) (fun s => s.2) (fun s => netO s.2 (.pointer (some ⟨b, 0, none⟩)) (List.replicate s.1 m) :: row p1 42 (m.cv s1 s2 s3 s4) :: R) (fun s => 64 - s.1) (0, H2) ⟨Nat.zero_le _, .refl _⟩ fun ⟨k, H3⟩ ⟨hk0, hl3⟩ K hL => ?_
  simp only at hk0 hl3
  dsimp only
  by_cases hk : k < 64
  · refine walk ?_
    refine ops_call rfl rfl (refOwn_spec (rup hc)) fun r3 H4 B hl4 ⟨t1, t2, t3, t4, er, eB, eH⟩ => ?_
    subst er eB eH
    refine ops_frzM t1 t2 t3 t4 m hok fun H5 hl5 hm => ?_
    refine ops_call rfl rfl (send_yes (H0 := H4) (ms := List.replicate k m) hl5 hm (by simpa using hk)) fun r4 H6 B hl6 ⟨er, eB⟩ => ?_
    subst er eB
    refine walk ?_
    refine out_next hL (k + 1, H6) ⟨by simp only; omega, by simp only; exact hl3.trans (hl5.trans hl6)⟩ (hs := ?_)
    dsimp only
    rw [List.replicate_succ']
    (repeat (first | exact Sub.refl _ | exact Sub.nil _ | (apply sub_pick; (repeat (first | exact Has.here | apply Has.there)); skip) | apply Sub.drop))
  · obtain rfl : k = 64 := by omega
    clear hL hk0 hk
    obtain ⟨j, hj, hj64⟩ : ∃ j : Nat, (IntKind.u64.wrap i).tmod 64 = j ∧ j < 64 := by
      have hw : 0 ≤ IntKind.u64.wrap i := by simp [IntKind.wrap, IntKind.bits, IntKind.signed]; omega
      refine ⟨((IntKind.u64.wrap i).tmod 64).toNat, ?_, ?_⟩ <;> rw [Int.tmod_eq_emod_of_nonneg hw] <;> omega
    have hfit : fits ((IntKind.u64.wrap i).tmod 64) := by rw [hj]; unfold fits; omega
    generalize hms : List.replicate 64 m = ms at *
    have hlen : ms.length = 64 := by rw [← hms]; simp
    refine walk ?_
    rw [hj]
    refine ops_call rfl rfl (refOwn_spec (rup hc)) fun r3 H4 B hl4 ⟨t1, t2, t3, t4, er, eB, eH⟩ => ?_
    subst er eB eH
    refine ops_frzM t1 t2 t3 t4 m hok fun H5 hl5 hm => ?_
    refine ops_call rfl rfl (send_no (H0 := H4) (ms := ms) hl5 hm (by omega)) fun r4 H6 B hl6 ⟨er, eB, eH⟩ => ?_
    subst er eB eH
    refine walk ?_
    refine ops_call rfl rfl (copy_full (ms := ms) (j := j) (.refl _) (by omega) (by omega)) fun r5 H7 B hl7 ⟨er, eB⟩ => ?_
    subst er eB
    refine walk ?_
    refine ops_call rfl rfl (copy_no (ms := ms) (i := 64) (.refl _) (by unfold inR; omega)) fun r6 H8 B hl8 ⟨er, eB, eH⟩ => ?_
    subst er eB eH
    refine walk ?_
    refine ops_call rfl rfl (drop_yes (ms := ms) (j := j) (.refl _) (by omega)) fun r7 H9 B hl9 ⟨er, eB, eH⟩ => ?_
    subst er eB eH
    have hd : del ms j = List.replicate 63 m := by rw [← hms]; exact del_rep hj64
    rw [hd]
    generalize hms2 : List.replicate 63 m = ms2 at *
    have hlen2 : ms2.length = 63 := by rw [← hms2]; simp
    have h20 : ms2[0]'(by omega) = m := by simp [← hms2]
    refine walk ?_
    refine ops_call rfl rfl (copy_yes (ms := ms2) (j := 0) (.refl _) (by omega) (by omega)) fun r8 H10 B hl10 ⟨er, eB⟩ => ?_
    subst er eB
    have hd2 : ms2 ++ [ms2[0]'(by omega)] = ms := by rw [h20, ← hms2, ← hms, ← List.replicate_succ']
    rw [hd2]
    refine walk ?_
    refine ops_call rfl rfl (len_spec (ms := ms) (.refl _)) fun r9 H11 B hl11 ⟨er, eB, eH⟩ => ?_
    subst er eB eH
    rw [hlen]
    refine walk ?_
    refine ops_call rfl rfl (clear_spec (ms := ms) (to := m.To) (.refl _)) fun r10 H12 B hl12 ⟨er, eB, eH⟩ => ?_
    subst er eB eH
    have hcl : clr m.To ms = [] := by rw [← hms]; exact clr_rep
    rw [hcl]
    simp only [hlen, List.length_nil, Nat.sub_zero]
    refine walk ?_
    refine ops_call rfl rfl (len_spec (ms := []) (.refl _)) fun r11 H13 B hl13 ⟨er, eB, eH⟩ => ?_
    subst er eB eH
    simp only [List.length_nil]
    refine walk ?_
    refine fin0 ?_
    exact ⟨rfl, rfl⟩
end Go.Proofs.Ytlbpaokehdiinaa
