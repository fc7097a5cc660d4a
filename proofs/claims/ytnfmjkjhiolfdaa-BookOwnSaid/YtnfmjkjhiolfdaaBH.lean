/- Routes: the reference's rest; do two meet? -/
import Derived.Test.YtnfmjkjhiolfdaaBG
set_option linter.unusedVariables false
set_option linter.unusedSimpArgs false
namespace Go.Proofs.Ytnfmjkjhiolfdaa
open Go Go.Sx Go.Proofs
theorem wP2 {p q : Prop} (hq : q) (h : Held q → p := by
    intro hq
    repeat (first
      | refine Go.Sx.ops_p rfl rfl ?_ | refine Go.Sx.ops_ld rfl rfl rfl ?_ | refine Go.Sx.ops_T rfl rfl ?_ | refine Go.Sx.ops_F rfl rfl ?_ | refine Go.Sx.ops_B rfl rfl ?_ | refine Go.Sx.ops_skip rfl ?_
      | refine Go.Sx.ops_gp rfl rfl ?_ | refine Go.Sx.ops_gB rfl rfl ?_ | refine Go.Sx.ops_gld rfl rfl rfl ?_
      | refine Go.Sx.ops_st rfl rfl rfl rfl ?_ | refine Go.Sx.ops_ldN rfl rfl rfl ?_ | refine Go.Sx.ops_ext rfl rfl rfl ?_ | refine Go.Sx.ops_bld rfl rfl ?_ | refine Go.Sx.ops_ldHz rfl rfl ‹Go.Sx.HRow _ _ 0 _› rfl ?_ | refine Go.Sx.ops_ldHNz rfl rfl ‹Go.Sx.HRow _ _ 0 _› rfl ?_ | refine Go.Sx.ops_ldH rfl rfl ‹Go.Sx.HRow _ _ _ _› rfl rfl ?_ | refine Go.Sx.ops_ldH0 rfl rfl ‹Go.Sx.HRow _ _ _ _› rfl ?_ | refine Go.Sx.ops_ix rfl rfl rfl ‹Go.Sx.SlR _ _ _ _ _› (by omega) ?_
      | refine Go.Sx.ops_gldH0 rfl rfl ‹Go.Sx.HRow _ _ 0 _› rfl ?_ | refine Go.Sx.ops_gldN rfl rfl rfl ?_ | refine Go.Sx.ops_gext rfl rfl rfl ?_ | refine Go.Sx.ops_gix rfl rfl rfl ‹Go.Sx.SlR _ _ _ _ _› (by intro hg; omega) ?_
      | refine Go.Sx.ops_gcall rfl rfl (fun hg => refPlain_spec (x := x) ⟨_, rfl, ‹_›, ‹_›⟩) ?_
      | refine Go.Sx.ops_pcall rfl rfl (refPlain_spec (x := x) ⟨_, rfl, ‹_›, ‹_›⟩) ?_
      | refine Go.Sx.ops_nil ?_ | refine Go.Sx.ex_seq ?_ | refine Go.Sx.ex_reg ?_ | refine Go.Sx.out_seq ?_ | refine Go.Sx.ex_c rfl ?_ | refine Go.Sx.ex_sT ?_ | refine Go.Sx.ex_sF ?_ | refine Go.Sx.ex_blk ?_ | refine Go.Sx.out_blk ?_
      | refine Go.Sx.ex_skip ?_ | refine Go.Sx.ex_exit ?_ | refine Go.Sx.ex_ret ?_ | refine Go.Sx.out_eseq ?_ | refine Go.Sx.out_eblk ?_ | refine Go.Sx.out_ecut ?_ | refine Go.Sx.out_epass rfl ?_ | refine Go.Sx.out_rseq ?_ | refine Go.Sx.out_rblk ?_ | refine Go.Sx.out_rcut ?_
      | refine Go.Sx.ex_quiet (by decide +kernel) (fun _ _ _ _ _ h => h) ?_)
    exact hq.out) : p := h ⟨hq⟩
set_option maxHeartbeats 8000000 in
theorem rcut_spec {W0 : World} {H : Heap} {c : List Value} {x : Route} {t : Int} (h0 : rRoute H c x) (ht : fits t) :
    Ct Try.prog 32 #[.agg c.toArray, I t] W0 H [] (RPost (cutR x t)) := by
  refine Ct.go (vs := [.agg c.toArray, I t]) fun R => ?_
  obtain ⟨s, rfl, h2, h0⟩ := h0
  obtain ⟨b0, c0, rfl, hc0, hd0⟩ := h0.1.shape
  have k0 := h0.1
  have hfc := k0.fits
  refine walk ?_
  refine ops_box rfl rfl fun p2 _ => ?_
  refine ops_alloc rfl fun p4 _ => ?_
  refine walk ?_
  refine ops_alloc rfl fun p5 _ => ?_
  refine walk ?_
  refine ex_L (L' := row p5 28 [I 0, nilS] :: row p4 28 [I 0, nilS] :: row p2 28 (x.cv (.slice b0 x.Cells.length c0)) :: ownS rInt 1 8 3 H nilS [] :: R) (Sub.cons (Sub.cons (Sub.cons ownS_nil))) ?_
  by_cases hp : plainR x
  · have hpp := hp
    simp only [plainR] at hpp
    generalize hk00 : (t - x.Start).toNat = q
    refine ex_loop (σ := Nat × Int × Value) (fun s => s.1 ≤ x.Cells.length ∧ s.2.1 = if q < s.1 then x.Start + q else 0) (fun s => [(1, I t), (2, .pointer (some ⟨p2, 0, none⟩)), (4, .pointer (some ⟨p4, 0, none⟩)), (5, .pointer (some ⟨p5, 0, none⟩)), (6, I s.1)]) (fun _ => H)
      (fun s => row p5 28 [I s.2.1, s.2.2] :: row p4 28 [I 0, nilS] :: row p2 28 (x.cv (.slice b0 x.Cells.length c0)) :: ownS rInt 1 8 3 H s.2.2 ((x.Cells.take s.1).drop q) :: R) (fun s => x.Cells.length - s.1) (0, 0, nilS) ⟨Nat.zero_le _, by simp⟩ (hs0 := by simp only [List.take_zero, List.drop_nil]; exact Sub.refl _) fun ⟨k, st, v⟩ ⟨hk1, hst⟩ K hL => ?_
    simp only at hk1 hst
    dsimp only
    refine ex_shape v fun d1 e1 e _ hcapv hsmall => ?_
    have hlen : ((x.Cells.take k).drop q).length = k - q := by simp; omega
    rw [hlen] at e
    subst e
    refine wP2 ?_
    refine ex_if rfl (fun hc => ?_) (fun hc => ?_)
    · have hk : k < x.Cells.length := by omega
      have hsnoc : (x.Cells.take (k + 1)).drop q = if q ≤ k then (x.Cells.take k).drop q ++ [x.Cells[k]] else [] := by
        rw [List.take_succ_eq_append_getElem hk]
        split
        · rw [List.drop_append_of_le_length (by simp; omega)]
        · exact List.drop_eq_nil_of_le (by simp; omega)
      refine walk ?_
      refine ex_if rfl (fun hq => ?_) (fun hq => ?_)
      · have hqk : q ≤ k := by omega
        rw [if_pos hqk] at hsnoc
        by_cases he : q = k
        · refine walk ?_
          refine ex_any 9 [row p5 28 [(I (x.Start + (k : Int))), .slice d1 (k - q) e1], row p2 28 (x.cv (.slice b0 x.Cells.length c0))] ?_
          (first | refine gny_p 0 rfl rfl rfl ?_ | refine gny_ld 0 rfl rfl rfl rfl ?_ | refine gny_ldH 0 rfl rfl rfl ‹HRow _ _ 0 _› rfl ?_ | refine gny_T 0 rfl rfl rfl ?_ | refine gny_F 0 rfl rfl rfl ?_ | refine gny_B 0 rfl rfl rfl ?_ | refine gny_skip 0 rfl rfl ?_ | refine gny_sp 0 rfl rfl rfl ?_ | refine gny_sB 0 rfl rfl rfl ?_ | refine gny_sld 0 rfl rfl rfl rfl ?_ | refine gny_sldH 0 rfl rfl rfl ‹HRow _ _ 0 _› rfl ?_ | refine gny_ldN 0 rfl rfl rfl rfl ?_ | refine gny_bld 0 rfl rfl rfl ?_); (first | refine gny_p 1 rfl rfl rfl ?_ | refine gny_ld 1 rfl rfl rfl rfl ?_ | refine gny_ldH 1 rfl rfl rfl ‹HRow _ _ 0 _› rfl ?_ | refine gny_T 1 rfl rfl rfl ?_ | refine gny_F 1 rfl rfl rfl ?_ | refine gny_B 1 rfl rfl rfl ?_ | refine gny_skip 1 rfl rfl ?_ | refine gny_sp 1 rfl rfl rfl ?_ | refine gny_sB 1 rfl rfl rfl ?_ | refine gny_sld 1 rfl rfl rfl rfl ?_ | refine gny_sldH 1 rfl rfl rfl ‹HRow _ _ 0 _› rfl ?_ | refine gny_ldN 1 rfl rfl rfl rfl ?_ | refine gny_bld 1 rfl rfl rfl ?_); (first | refine gny_p 2 rfl rfl rfl ?_ | refine gny_ld 2 rfl rfl rfl rfl ?_ | refine gny_ldH 2 rfl rfl rfl ‹HRow _ _ 0 _› rfl ?_ | refine gny_T 2 rfl rfl rfl ?_ | refine gny_F 2 rfl rfl rfl ?_ | refine gny_B 2 rfl rfl rfl ?_ | refine gny_skip 2 rfl rfl ?_ | refine gny_sp 2 rfl rfl rfl ?_ | refine gny_sB 2 rfl rfl rfl ?_ | refine gny_sld 2 rfl rfl rfl rfl ?_ | refine gny_sldH 2 rfl rfl rfl ‹HRow _ _ 0 _› rfl ?_ | refine gny_ldN 2 rfl rfl rfl rfl ?_ | refine gny_bld 2 rfl rfl rfl ?_); (first | refine gny_p 3 rfl rfl rfl ?_ | refine gny_ld 3 rfl rfl rfl rfl ?_ | refine gny_ldH 3 rfl rfl rfl ‹HRow _ _ 0 _› rfl ?_ | refine gny_T 3 rfl rfl rfl ?_ | refine gny_F 3 rfl rfl rfl ?_ | refine gny_B 3 rfl rfl rfl ?_ | refine gny_skip 3 rfl rfl ?_ | refine gny_sp 3 rfl rfl rfl ?_ | refine gny_sB 3 rfl rfl rfl ?_ | refine gny_sld 3 rfl rfl rfl rfl ?_ | refine gny_sldH 3 rfl rfl rfl ‹HRow _ _ 0 _› rfl ?_ | refine gny_ldN 3 rfl rfl rfl rfl ?_ | refine gny_bld 3 rfl rfl rfl ?_); (first | refine gny_p 4 rfl rfl rfl ?_ | refine gny_ld 4 rfl rfl rfl rfl ?_ | refine gny_ldH 4 rfl rfl rfl ‹HRow _ _ 0 _› rfl ?_ | refine gny_T 4 rfl rfl rfl ?_ | refine gny_F 4 rfl rfl rfl ?_ | refine gny_B 4 rfl rfl rfl ?_ | refine gny_skip 4 rfl rfl ?_ | refine gny_sp 4 rfl rfl rfl ?_ | refine gny_sB 4 rfl rfl rfl ?_ | refine gny_sld 4 rfl rfl rfl rfl ?_ | refine gny_sldH 4 rfl rfl rfl ‹HRow _ _ 0 _› rfl ?_ | refine gny_ldN 4 rfl rfl rfl rfl ?_ | refine gny_bld 4 rfl rfl rfl ?_)
          refine gny_el 5 6 rfl rfl rfl rfl rfl k0 hk ?_
          refine any_app1 7 8 (y := x.Cells[k]) rfl rfl rfl ⟨rfl, hfc _ (List.getElem_mem _)⟩ (by rw [hlen]; simp only [cap47]; omega) fun b2 c2 => ⟨(by (repeat (first | exact Sub.refl _ | exact Sub.nil _ | (apply sub_pick; (repeat (first | exact Has.here | apply Has.there)); skip) | apply Sub.drop))), ?_⟩
          refine any_rest rfl ?_
          refine walk ?_
          refine out_next hL (k + 1, x.Start + (k : Int), .slice b2 (((x.Cells.take k).drop q).length + 1) c2) ⟨by simp only; omega, by simp only; rw [if_pos (by omega)]; first | omega | (rw [hst, if_pos (by omega)])⟩ (hs := ?_)
          dsimp only
          rw [hsnoc]
          (repeat (first | exact Sub.refl _ | exact Sub.nil _ | (apply sub_pick; (repeat (first | exact Has.here | apply Has.there)); skip) | apply Sub.drop))
        · refine walk ?_
          refine ex_any 9 [row p5 28 [(I st), .slice d1 (k - q) e1], row p2 28 (x.cv (.slice b0 x.Cells.length c0))] ?_
          (first | refine gny_p 0 rfl rfl rfl ?_ | refine gny_ld 0 rfl rfl rfl rfl ?_ | refine gny_ldH 0 rfl rfl rfl ‹HRow _ _ 0 _› rfl ?_ | refine gny_T 0 rfl rfl rfl ?_ | refine gny_F 0 rfl rfl rfl ?_ | refine gny_B 0 rfl rfl rfl ?_ | refine gny_skip 0 rfl rfl ?_ | refine gny_sp 0 rfl rfl rfl ?_ | refine gny_sB 0 rfl rfl rfl ?_ | refine gny_sld 0 rfl rfl rfl rfl ?_ | refine gny_sldH 0 rfl rfl rfl ‹HRow _ _ 0 _› rfl ?_ | refine gny_ldN 0 rfl rfl rfl rfl ?_ | refine gny_bld 0 rfl rfl rfl ?_); (first | refine gny_p 1 rfl rfl rfl ?_ | refine gny_ld 1 rfl rfl rfl rfl ?_ | refine gny_ldH 1 rfl rfl rfl ‹HRow _ _ 0 _› rfl ?_ | refine gny_T 1 rfl rfl rfl ?_ | refine gny_F 1 rfl rfl rfl ?_ | refine gny_B 1 rfl rfl rfl ?_ | refine gny_skip 1 rfl rfl ?_ | refine gny_sp 1 rfl rfl rfl ?_ | refine gny_sB 1 rfl rfl rfl ?_ | refine gny_sld 1 rfl rfl rfl rfl ?_ | refine gny_sldH 1 rfl rfl rfl ‹HRow _ _ 0 _› rfl ?_ | refine gny_ldN 1 rfl rfl rfl rfl ?_ | refine gny_bld 1 rfl rfl rfl ?_); (first | refine gny_p 2 rfl rfl rfl ?_ | refine gny_ld 2 rfl rfl rfl rfl ?_ | refine gny_ldH 2 rfl rfl rfl ‹HRow _ _ 0 _› rfl ?_ | refine gny_T 2 rfl rfl rfl ?_ | refine gny_F 2 rfl rfl rfl ?_ | refine gny_B 2 rfl rfl rfl ?_ | refine gny_skip 2 rfl rfl ?_ | refine gny_sp 2 rfl rfl rfl ?_ | refine gny_sB 2 rfl rfl rfl ?_ | refine gny_sld 2 rfl rfl rfl rfl ?_ | refine gny_sldH 2 rfl rfl rfl ‹HRow _ _ 0 _› rfl ?_ | refine gny_ldN 2 rfl rfl rfl rfl ?_ | refine gny_bld 2 rfl rfl rfl ?_); (first | refine gny_p 3 rfl rfl rfl ?_ | refine gny_ld 3 rfl rfl rfl rfl ?_ | refine gny_ldH 3 rfl rfl rfl ‹HRow _ _ 0 _› rfl ?_ | refine gny_T 3 rfl rfl rfl ?_ | refine gny_F 3 rfl rfl rfl ?_ | refine gny_B 3 rfl rfl rfl ?_ | refine gny_skip 3 rfl rfl ?_ | refine gny_sp 3 rfl rfl rfl ?_ | refine gny_sB 3 rfl rfl rfl ?_ | refine gny_sld 3 rfl rfl rfl rfl ?_ | refine gny_sldH 3 rfl rfl rfl ‹HRow _ _ 0 _› rfl ?_ | refine gny_ldN 3 rfl rfl rfl rfl ?_ | refine gny_bld 3 rfl rfl rfl ?_); (first | refine gny_p 4 rfl rfl rfl ?_ | refine gny_ld 4 rfl rfl rfl rfl ?_ | refine gny_ldH 4 rfl rfl rfl ‹HRow _ _ 0 _› rfl ?_ | refine gny_T 4 rfl rfl rfl ?_ | refine gny_F 4 rfl rfl rfl ?_ | refine gny_B 4 rfl rfl rfl ?_ | refine gny_skip 4 rfl rfl ?_ | refine gny_sp 4 rfl rfl rfl ?_ | refine gny_sB 4 rfl rfl rfl ?_ | refine gny_sld 4 rfl rfl rfl rfl ?_ | refine gny_sldH 4 rfl rfl rfl ‹HRow _ _ 0 _› rfl ?_ | refine gny_ldN 4 rfl rfl rfl rfl ?_ | refine gny_bld 4 rfl rfl rfl ?_)
          refine gny_el 5 6 rfl rfl rfl rfl rfl k0 hk ?_
          refine any_app1 7 8 (y := x.Cells[k]) rfl rfl rfl ⟨rfl, hfc _ (List.getElem_mem _)⟩ (by rw [hlen]; simp only [cap47]; omega) fun b2 c2 => ⟨(by (repeat (first | exact Sub.refl _ | exact Sub.nil _ | (apply sub_pick; (repeat (first | exact Has.here | apply Has.there)); skip) | apply Sub.drop))), ?_⟩
          refine any_rest rfl ?_
          refine walk ?_
          refine out_next hL (k + 1, st, .slice b2 (((x.Cells.take k).drop q).length + 1) c2) ⟨by simp only; omega, by simp only; rw [if_pos (by omega)]; first | omega | (rw [hst, if_pos (by omega)])⟩ (hs := ?_)
          dsimp only
          rw [hsnoc]
          (repeat (first | exact Sub.refl _ | exact Sub.nil _ | (apply sub_pick; (repeat (first | exact Has.here | apply Has.there)); skip) | apply Sub.drop))
      · have hqk : ¬ q ≤ k := by omega
        rw [if_neg hqk] at hsnoc
        refine walk ?_
        have hd0 : (x.Cells.take k).drop q = [] := List.drop_eq_nil_of_le (by simp; omega)
        refine out_next hL (k + 1, st, .slice d1 (k - q) e1) ⟨by simp only; omega, by simp only; rw [hst, if_neg (by omega), if_neg (by omega)]⟩ (hs := ?_)
        simp only [hsnoc, hd0]
        exact Sub.refl _
    · clear hL
      obtain rfl : k = x.Cells.length := by omega
      rw [List.take_length]
      rw [List.take_length] at hlen
      refine walk ?_
      by_cases hq : q < x.Cells.length
      · have e : cutR x t = ⟨x.Start + q, x.Cells.drop q⟩ := by unfold cutR; rw [hk00, if_pos ⟨hp, hq⟩]
        rw [e, hst, if_pos hq]
        refine finB [ownS rInt 1 8 3 H (.slice d1 (x.Cells.length - q) e1) (x.Cells.drop q)] ?_
        exact ⟨_, rfl, rfl⟩
      · have e : cutR x t = zRoute := by unfold cutR; rw [hk00, if_neg (fun h => hq h.2)]
        have hd0 : x.Cells.drop q = [] := List.drop_eq_nil_of_le (by omega)
        rw [e, hst, if_neg hq, hd0]
        refine finB [ownS rInt 1 8 3 H (.slice d1 (x.Cells.length - q) e1) []] ?_
        exact ⟨_, rfl, rfl⟩
  · have e : cutR x t = zRoute := by unfold cutR; rw [if_neg (fun h => hp h.1)]
    refine ex_loop (σ := Unit) (fun _ => True) (fun _ => [(1, I t), (2, .pointer (some ⟨p2, 0, none⟩)), (4, .pointer (some ⟨p4, 0, none⟩)), (5, .pointer (some ⟨p5, 0, none⟩)), (6, I 0)]) (fun _ => H)
      (fun _ => row p5 28 [I 0, nilS] :: row p4 28 [I 0, nilS] :: row p2 28 (x.cv (.slice b0 x.Cells.length c0)) :: ownS rInt 1 8 3 H nilS [] :: R) (fun _ => 0) () trivial fun _ _ K hL => ?_
    clear hL
    refine wP2 ?_
    refine ex_if rfl (fun hc => absurd hc.2 hp) (fun hc => ?_)
    refine walk ?_
    rw [e]
    refine finB [ownS rInt 1 8 3 H nilS []] ?_
    exact ⟨_, rfl, rfl⟩
end Go.Proofs.Ytnfmjkjhiolfdaa
