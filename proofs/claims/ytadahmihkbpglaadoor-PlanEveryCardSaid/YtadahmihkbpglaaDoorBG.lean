/- Routes: what is left of one, one with cells behind, the cell at a tick. -/
import Derived.Test.YtadahmihkbpglaaDoorBC
import Derived.Test.YtadahmihkbpglaaDoorKC
set_option linter.unusedVariables false
set_option linter.unusedSimpArgs false
namespace Go.Proofs.YtadahmihkbpglaaDoor
open Go Go.Sx Go.Proofs
/-- a route with cells of its own -/
def RPost (x : Route) (r : Value) (H' : Heap) (B : List HProp) : Prop := ∃ v, r = .agg [I x.Start, v].toArray ∧ B = [ownS rInt 1 8 3 H' v x.Cells]
theorem grow0_spec {W0 : World} {H : Heap} {n : Nat} (hn : n * 8 ≤ cap47) :
    Ct Tryd.prog 64 #[nilS, I n] W0 H [] (fun r H' B => B = [ownS rInt 1 8 3 H r []] ∧ H' = H) := by
  refine Ct.go fun R => ?_
  simp only [cap47] at hn
  have e0 : (n : Int) - (((0 : Nat) : Int) - ((0 : Nat) : Int)) = n := by omega
  by_cases h0 : n = 0
  · subst h0
    refine walk ?_
    refine finB [ownS rInt 1 8 3 H nilS []] ?_ (hs := ownS_nil)
    exact ⟨rfl, rfl⟩
  · refine walk ?_
    rw [e0]
    refine ops_zapp rfl rfl (by omega) (by omega) (by omega) fun b cap cs h1 h2 h3 => ?_
    refine walk ?_
    refine finB [ownS rInt 1 8 3 H (.slice (some ⟨b, 0, none⟩) 0 cap) []] ?_ (hs := own_room (by simpa using h3) h2)
    exact ⟨rfl, rfl⟩
def sumLen (xss : List (List Int)) : Nat := (xss.map List.length).sum
theorem sumLen_snoc {xss : List (List Int)} {x : List Int} : sumLen (xss ++ [x]) = sumLen xss + x.length := by simp [sumLen]
theorem sumLen_take {xss : List (List Int)} {k : Nat} : sumLen (xss.take k) ≤ sumLen xss := by
  have : sumLen xss = sumLen (xss.take k) + sumLen (xss.drop k) := by
    unfold sumLen; rw [← List.sum_append, ← List.map_append, List.take_append_drop]
  omega
theorem flat_len {xss : List (List Int)} : xss.flatten.length = sumLen xss := by simp [sumLen, List.length_flatten]
set_option maxHeartbeats 4000000 in
theorem concat_spec {W0 : World} {H : Heap} {v : Value} {xss : List (List Int)} (h0 : SlR (rSl rInt 1 8) 1 H v xss) (hs : sumLen xss * 8 ≤ cap47) :
    Ct Tryd.prog 54 #[v] W0 H [] (fun r H' B => B = [ownS rInt 1 8 3 H r xss.flatten] ∧ H' = H) := by
  refine Ct.go fun R => ?_
  obtain ⟨b0, c0, rfl, hc0, hd0⟩ := h0.shape
  have hs' := hs
  simp only [cap47] at hs'
  refine walk ?_
  refine ex_loop (σ := Nat × Int) (fun s => s.1 ≤ xss.length ∧ s.2 = sumLen (xss.take s.1)) (fun s => [(0, .slice b0 xss.length c0), (3, I s.2), (9, .slice b0 xss.length c0), (10, I xss.length), (11, I s.1)]) (fun _ => H) (fun _ => R) (fun s => xss.length - s.1) (0, 0) ⟨Nat.zero_le _, rfl⟩ fun ⟨k, z⟩ ⟨hk0, hz⟩ K hL => ?_
  simp only at hk0 hz
  dsimp only
  have hst := sumLen_take (xss := xss) (k := k)
  refine walk ?_
  refine ex_if rfl (fun hk => ?_) (fun hk => ?_)
  · have hk1 : k < xss.length := by omega
    have hst2 := sumLen_take (xss := xss) (k := k + 1)
    have hsn : sumLen (xss.take (k + 1)) = sumLen (xss.take k) + xss[k].length := by rw [List.take_succ_eq_append_getElem hk1, sumLen_snoc]
    refine walk ?_
    refine ops_ixp rfl rfl h0 hk1 fun b o c hr hc => ?_
    obtain ⟨w, rfl, hw⟩ := hc
    obtain ⟨b2, c2, rfl, _, _⟩ := hw.1.shape
    refine walk ?_
    exact out_next hL (k + 1, z + (xss[k].length : Nat)) ⟨by simp only; omega, by simp only; rw [hsn, hz]; omega⟩
  · clear hL
    obtain rfl : k = xss.length := by omega
    rw [List.take_length] at hz
    subst hz
    refine walk ?_
    refine ops_call (vs := [nilS, I (sumLen xss)]) rfl rfl (grow0_spec hs) fun r1 H1 B hl1 ⟨eB, eH⟩ => ?_
    subst eB eH
    refine walk ?_
    refine ex_loop (σ := Nat × Value) (fun s => s.1 ≤ xss.length) (fun s => [(6, s.2), (25, .slice b0 xss.length c0), (26, I xss.length), (27, I s.1)]) (fun _ => H1) (fun s => ownS rInt 1 8 3 H1 s.2 (xss.take s.1).flatten :: R) (fun s => xss.length - s.1) (0, r1) (Nat.zero_le _) fun ⟨k, v⟩ hk0 K hL => ?_
    simp only at hk0
    dsimp only
    refine walk ?_
    refine ex_if rfl (fun hk => ?_) (fun hk => ?_)
    · have hk1 : k < xss.length := by omega
      have hst2 := sumLen_take (xss := xss) (k := k + 1)
      have hsn : sumLen (xss.take (k + 1)) = sumLen (xss.take k) + xss[k].length := by rw [List.take_succ_eq_append_getElem hk1, sumLen_snoc]
      refine walk ?_
      refine ops_ixp rfl rfl h0 hk1 fun b o c hr hc => ?_
      obtain ⟨w, rfl, hw⟩ := hc
      obtain ⟨b2, c2, rfl, _, _⟩ := hw.1.shape
      refine walk ?_
      refine ops_appS rfl rfl hw.1 (by rw [flat_len]; simp only [cap47]; omega) fun d1 e1 => ?_
      refine walk ?_
      refine out_next hL (k + 1, _) (by simp only; omega) (hs := ?_)
      dsimp only
      rw [List.take_succ_eq_append_getElem hk1, List.flatten_append, List.length_append.symm]
      simp only [List.flatten_cons, List.flatten_nil, List.append_nil]
      exact Sub.refl _
    · clear hL
      obtain rfl : k = xss.length := by omega
      rw [List.take_length]
      refine walk ?_
      refine finB [ownS rInt 1 8 3 H1 v xss.flatten] ?_
      exact ⟨rfl, rfl⟩
set_option maxHeartbeats 4000000 in
theorem join_spec {W0 : World} {H : Heap} {c : List Value} {v : Value} {x : Route} {more : List Int} (h0 : rRoute H c x) (h1 : SlB rInt 1 8 H v more) (hs : (x.Cells.length + more.length) * 8 ≤ cap47) :
    Ct Tryd.prog 33 #[.agg c.toArray, v] W0 H [] (RPost ⟨x.Start, x.Cells ++ more⟩) := by
  refine Ct.go (vs := [.agg c.toArray, v]) fun R => ?_
  obtain ⟨s, rfl, h2, h0⟩ := h0
  obtain ⟨b0, c0, rfl, hc0, hd0⟩ := h0.1.shape
  obtain ⟨b1, c1, rfl, hc1, hd1⟩ := h1.1.shape
  refine walk ?_
  refine ops_box rfl rfl fun p2 _ => ?_
  refine ops_alloc rfl fun p4 _ => ?_
  refine walk ?_
  refine ex_any 8 [row p2 36 (x.cv (.slice b0 x.Cells.length c0))] ?_
  (first | refine gny_p 0 rfl rfl rfl ?_ | refine gny_ld 0 rfl rfl rfl rfl ?_ | refine gny_ldH 0 rfl rfl rfl ‹HRow _ _ 0 _› rfl ?_ | refine gny_T 0 rfl rfl rfl ?_ | refine gny_F 0 rfl rfl rfl ?_ | refine gny_B 0 rfl rfl rfl ?_ | refine gny_skip 0 rfl rfl ?_ | refine gny_sp 0 rfl rfl rfl ?_ | refine gny_sB 0 rfl rfl rfl ?_ | refine gny_sld 0 rfl rfl rfl rfl ?_ | refine gny_sldH 0 rfl rfl rfl ‹HRow _ _ 0 _› rfl ?_ | refine gny_ldN 0 rfl rfl rfl rfl ?_ | refine gny_bld 0 rfl rfl rfl ?_); (first | refine gny_p 1 rfl rfl rfl ?_ | refine gny_ld 1 rfl rfl rfl rfl ?_ | refine gny_ldH 1 rfl rfl rfl ‹HRow _ _ 0 _› rfl ?_ | refine gny_T 1 rfl rfl rfl ?_ | refine gny_F 1 rfl rfl rfl ?_ | refine gny_B 1 rfl rfl rfl ?_ | refine gny_skip 1 rfl rfl ?_ | refine gny_sp 1 rfl rfl rfl ?_ | refine gny_sB 1 rfl rfl rfl ?_ | refine gny_sld 1 rfl rfl rfl rfl ?_ | refine gny_sldH 1 rfl rfl rfl ‹HRow _ _ 0 _› rfl ?_ | refine gny_ldN 1 rfl rfl rfl rfl ?_ | refine gny_bld 1 rfl rfl rfl ?_); (first | refine gny_p 2 rfl rfl rfl ?_ | refine gny_ld 2 rfl rfl rfl rfl ?_ | refine gny_ldH 2 rfl rfl rfl ‹HRow _ _ 0 _› rfl ?_ | refine gny_T 2 rfl rfl rfl ?_ | refine gny_F 2 rfl rfl rfl ?_ | refine gny_B 2 rfl rfl rfl ?_ | refine gny_skip 2 rfl rfl ?_ | refine gny_sp 2 rfl rfl rfl ?_ | refine gny_sB 2 rfl rfl rfl ?_ | refine gny_sld 2 rfl rfl rfl rfl ?_ | refine gny_sldH 2 rfl rfl rfl ‹HRow _ _ 0 _› rfl ?_ | refine gny_ldN 2 rfl rfl rfl rfl ?_ | refine gny_bld 2 rfl rfl rfl ?_); (first | refine gny_p 3 rfl rfl rfl ?_ | refine gny_ld 3 rfl rfl rfl rfl ?_ | refine gny_ldH 3 rfl rfl rfl ‹HRow _ _ 0 _› rfl ?_ | refine gny_T 3 rfl rfl rfl ?_ | refine gny_F 3 rfl rfl rfl ?_ | refine gny_B 3 rfl rfl rfl ?_ | refine gny_skip 3 rfl rfl ?_ | refine gny_sp 3 rfl rfl rfl ?_ | refine gny_sB 3 rfl rfl rfl ?_ | refine gny_sld 3 rfl rfl rfl rfl ?_ | refine gny_sldH 3 rfl rfl rfl ‹HRow _ _ 0 _› rfl ?_ | refine gny_ldN 3 rfl rfl rfl rfl ?_ | refine gny_bld 3 rfl rfl rfl ?_); (first | refine gny_p 4 rfl rfl rfl ?_ | refine gny_ld 4 rfl rfl rfl rfl ?_ | refine gny_ldH 4 rfl rfl rfl ‹HRow _ _ 0 _› rfl ?_ | refine gny_T 4 rfl rfl rfl ?_ | refine gny_F 4 rfl rfl rfl ?_ | refine gny_B 4 rfl rfl rfl ?_ | refine gny_skip 4 rfl rfl ?_ | refine gny_sp 4 rfl rfl rfl ?_ | refine gny_sB 4 rfl rfl rfl ?_ | refine gny_sld 4 rfl rfl rfl rfl ?_ | refine gny_sldH 4 rfl rfl rfl ‹HRow _ _ 0 _› rfl ?_ | refine gny_ldN 4 rfl rfl rfl rfl ?_ | refine gny_bld 4 rfl rfl rfl ?_)
  refine gny_bsN 5 rfl rfl rfl fun pb _ => ?_
  refine any_frzR .here fun H1 hl1 hr1 => ?_
  have hs2 : SlR (rSl rInt 1 8) 1 H1 (.slice (some ⟨pb, 0, none⟩) 2 2) [x.Cells, more] := slr_of_hrow (R := rSl rInt 1 8) (xs := [x.Cells, more]) hr1 (show RL (rSl rInt 1 8) H1 [.slice b0 x.Cells.length c0, .slice b1 more.length c1] [x.Cells, more] from ⟨[_], [_], rfl, ⟨_, rfl, h0.mono hl1⟩, ⟨[_], [], rfl, ⟨_, rfl, h1.mono hl1⟩, rfl⟩⟩) (by simp) (by omega)
  have hcat := concat_spec (W0 := W0) hs2 (by simpa [sumLen] using hs)
  rw [show [x.Cells, more].flatten = x.Cells ++ more by simp] at hcat
  refine gny_call (vs := [.slice (some ⟨pb, 0, none⟩) 2 2]) 6 rfl rfl rfl hcat fun r1 H2 B hl2 ⟨eB, eH⟩ => ?_
  subst eB eH
  refine ⟨(by (repeat (first | exact Sub.refl _ | exact Sub.nil _ | (apply sub_pick; (repeat (first | exact Has.here | apply Has.there)); skip) | apply Sub.drop))), ?_⟩
  refine any_shape r1 fun d1 e1 e _ _ _ => ?_
  subst e
  (first | refine gny_p 7 rfl rfl rfl ?_ | refine gny_ld 7 rfl rfl rfl rfl ?_ | refine gny_ldH 7 rfl rfl rfl ‹HRow _ _ 0 _› rfl ?_ | refine gny_T 7 rfl rfl rfl ?_ | refine gny_F 7 rfl rfl rfl ?_ | refine gny_B 7 rfl rfl rfl ?_ | refine gny_skip 7 rfl rfl ?_ | refine gny_sp 7 rfl rfl rfl ?_ | refine gny_sB 7 rfl rfl rfl ?_ | refine gny_sld 7 rfl rfl rfl rfl ?_ | refine gny_sldH 7 rfl rfl rfl ‹HRow _ _ 0 _› rfl ?_ | refine gny_ldN 7 rfl rfl rfl rfl ?_ | refine gny_bld 7 rfl rfl rfl ?_)
  refine any_rest rfl ?_
  refine walk ?_
  refine finB [ownS rInt 1 8 3 H2 (.slice d1 (x.Cells ++ more).length e1) (x.Cells ++ more)] ?_
  exact ⟨_, rfl, rfl⟩
/-- the cell at a tick -/
def atR (x : Route) (t : Int) : Option Int := if plainR x ∧ x.Start ≤ t then x.Cells[(t - x.Start).toNat]? else none
theorem wP {p q : Prop} (hq : q) (h : Held q → p := by
    intro hq
    repeat (first
      | refine Go.Sx.ops_p rfl rfl ?_ | refine Go.Sx.ops_ld rfl rfl rfl ?_ | refine Go.Sx.ops_T rfl rfl ?_ | refine Go.Sx.ops_F rfl rfl ?_ | refine Go.Sx.ops_B rfl rfl ?_ | refine Go.Sx.ops_skip rfl ?_
      | refine Go.Sx.ops_gp rfl rfl ?_ | refine Go.Sx.ops_gB rfl rfl ?_ | refine Go.Sx.ops_gld rfl rfl rfl ?_
      | refine Go.Sx.ops_st rfl rfl rfl rfl ?_ | refine Go.Sx.ops_ldN rfl rfl rfl ?_ | refine Go.Sx.ops_ext rfl rfl rfl ?_ | refine Go.Sx.ops_bld rfl rfl ?_ | refine Go.Sx.ops_ldHz rfl rfl ‹Go.Sx.HRow _ _ 0 _› rfl ?_ | refine Go.Sx.ops_ldHNz rfl rfl ‹Go.Sx.HRow _ _ 0 _› rfl ?_ | refine Go.Sx.ops_ldH rfl rfl ‹Go.Sx.HRow _ _ _ _› rfl rfl ?_ | refine Go.Sx.ops_ldH0 rfl rfl ‹Go.Sx.HRow _ _ _ _› rfl ?_ | refine Go.Sx.ops_ix rfl rfl rfl ‹Go.Sx.SlR _ _ _ _ _› (by omega) ?_
      | refine Go.Sx.ops_gldH0 rfl rfl ‹Go.Sx.HRow _ _ 0 _› rfl ?_ | refine Go.Sx.ops_gldN rfl rfl rfl ?_ | refine Go.Sx.ops_gext rfl rfl rfl ?_ | refine Go.Sx.ops_gix rfl rfl rfl ‹Go.Sx.SlR _ _ _ _ _› (by intro hg; omega) ?_
      | refine Go.Sx.ops_gcall rfl rfl (fun hg => plain_spec (x := x) ⟨_, rfl, ‹_›, ‹_›⟩) ?_
      | refine Go.Sx.ops_pcall rfl rfl (plain_spec (x := x) ⟨_, rfl, ‹_›, ‹_›⟩) ?_
      | refine Go.Sx.ops_gcall rfl rfl (fun hg => refPlain_spec (x := x) ⟨_, rfl, ‹_›, ‹_›⟩) ?_
      | refine Go.Sx.ops_pcall rfl rfl (refPlain_spec (x := x) ⟨_, rfl, ‹_›, ‹_›⟩) ?_
      | refine Go.Sx.ops_nil ?_ | refine Go.Sx.ex_seq ?_ | refine Go.Sx.ex_reg ?_ | refine Go.Sx.out_seq ?_ | refine Go.Sx.ex_c rfl ?_ | refine Go.Sx.ex_sT ?_ | refine Go.Sx.ex_sF ?_ | refine Go.Sx.ex_blk ?_ | refine Go.Sx.out_blk ?_
      | refine Go.Sx.ex_skip ?_ | refine Go.Sx.ex_exit ?_ | refine Go.Sx.ex_ret ?_ | refine Go.Sx.out_eseq ?_ | refine Go.Sx.out_eblk ?_ | refine Go.Sx.out_ecut ?_ | refine Go.Sx.out_epass rfl ?_ | refine Go.Sx.out_rseq ?_ | refine Go.Sx.out_rblk ?_ | refine Go.Sx.out_rcut ?_
      | refine Go.Sx.ex_quiet (by decide +kernel) (fun _ _ _ _ _ h => h) ?_)
    exact hq.out) : p := h ⟨hq⟩
/-- what is left from a tick on -/
def cutR (x : Route) (now : Int) : Route := if plainR x ∧ (now - x.Start).toNat < x.Cells.length then ⟨x.Start + (now - x.Start).toNat, x.Cells.drop (now - x.Start).toNat⟩ else zRoute
end Go.Proofs.YtadahmihkbpglaaDoor
