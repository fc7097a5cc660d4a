/- Routes: what is left of one, one with cells behind, the cell at a tick. -/
import Derived.Test.YtnfmjkjhiolfdaaGreatDoorBC
import Derived.Test.YtnfmjkjhiolfdaaGreatDoorKC
set_option linter.unusedVariables false
set_option linter.unusedSimpArgs false
namespace Go.Proofs.YtnfmjkjhiolfdaaGreatDoor
open Go Go.Sx Go.Proofs
/-- a route with cells of its own -/
def RPost (x : Route) (r : Value) (H' : Heap) (B : List HProp) : Prop := ∃ v, r = .agg [I x.Start, v].toArray ∧ B = [ownS rInt 1 8 3 H' v x.Cells]
def sumLen (xss : List (List Int)) : Nat := (xss.map List.length).sum
theorem sumLen_snoc {xss : List (List Int)} {x : List Int} : sumLen (xss ++ [x]) = sumLen xss + x.length := by simp [sumLen]
theorem sumLen_take {xss : List (List Int)} {k : Nat} : sumLen (xss.take k) ≤ sumLen xss := by
  have : sumLen xss = sumLen (xss.take k) + sumLen (xss.drop k) := by
    unfold sumLen; rw [← List.sum_append, ← List.map_append, List.take_append_drop]
  omega
theorem flat_len {xss : List (List Int)} : xss.flatten.length = sumLen xss := by simp [sumLen, List.length_flatten]
/-- the cell at a tick -/
def atR (x : Route) (t : Int) : Option Int := if plainR x ∧ x.Start ≤ t then x.Cells[(t - x.Start).toNat]? else none
theorem wP {p q : Prop} (hq : q) (h : Held q → p := by
    intro hq
    repeat (first
      | refine Go.Sx.ops_p rfl rfl ?_ | refine Go.Sx.ops_ld rfl rfl rfl ?_ | refine Go.Sx.ops_T rfl rfl ?_ | refine Go.Sx.ops_F rfl rfl ?_ | refine Go.Sx.ops_B rfl rfl ?_ | refine Go.Sx.ops_skip rfl ?_
      | refine Go.Sx.ops_gp rfl rfl ?_ | refine Go.Sx.ops_gB rfl rfl ?_ | refine Go.Sx.ops_gld rfl rfl rfl ?_
      | refine Go.Sx.ops_st rfl rfl rfl rfl ?_ | refine Go.Sx.ops_ldN rfl rfl rfl ?_ | refine Go.Sx.ops_ext rfl rfl rfl ?_ | refine Go.Sx.ops_bld rfl rfl ?_ | refine Go.Sx.ops_ldHz rfl rfl ‹Go.Sx.HRow _ _ 0 _› rfl ?_ | refine Go.Sx.ops_ldHNz rfl rfl ‹Go.Sx.HRow _ _ 0 _› rfl ?_ | refine Go.Sx.ops_ldH rfl rfl ‹Go.Sx.HRow _ _ _ _› rfl rfl ?_ | refine Go.Sx.ops_ldH0 rfl rfl ‹Go.Sx.HRow _ _ _ _› rfl ?_ | refine Go.Sx.ops_ix rfl rfl rfl ‹Go.Sx.SlR _ _ _ _ _› (by omega) ?_
      | refine Go.Sx.ops_gldH0 rfl rfl ‹Go.Sx.HRow _ _ 0 _› rfl ?_ | refine Go.Sx.ops_gldN rfl rfl rfl ?_ | refine Go.Sx.ops_gext rfl rfl rfl ?_ | refine Go.Sx.ops_gix rfl rfl rfl ‹Go.Sx.SlR _ _ _ _ _› (by intro hg; omega) ?_
      | refine Go.Sx.ops_gcall rfl rfl (fun hg => plain_spec (x := x) ⟨_, rfl, ‹_›, ‹_›⟩) ?_
      | refine Go.Sx.ops_pcall rfl rfl (plain_spec (x := x) ⟨_, rfl, ‹_›, ‹_›⟩) ?_
      | refine Go.Sx.ops_gcall rfl rfl (fun hg => refPlain_spec (x := x) ⟨_, rfl, ‹_›, ‹_›⟩) ?_
      | refine Go.Sx.ops_pcall rfl rfl (refPlain_spec (x := x) ⟨_, rfl, ‹_›, ‹_›⟩) ?_
      | refine Go.Sx.ops_nil ?_ | refine Go.Sx.ex_seq ?_ | refine Go.Sx.ex_reg ?_ | refine Go.Sx.out_seq ?_ | refine Go.Sx.ex_c rfl ?_ | refine Go.Sx.ex_sT ?_ | refine Go.Sx.ex_sF ?_ | refine Go.Sx.ex_blk ?_ | refine Go.Sx.out_blk ?_
      | refine Go.Sx.ex_skip ?_ | refine Go.Sx.ex_exit ?_ | refine Go.Sx.ex_ret ?_ | refine Go.Sx.out_eseq ?_ | refine Go.Sx.out_eblk ?_ | refine Go.Sx.out_ecut ?_ | refine Go.Sx.out_epass rfl ?_ | refine Go.Sx.out_rseq ?_ | refine Go.Sx.out_rblk ?_ | refine Go.Sx.out_rcut ?_
      | refine Go.Sx.ex_quiet (by decide +kernel) (fun _ _ _ _ _ h => h) ?_)
    exact hq.out) : p := h ⟨hq⟩
theorem at_spec {W0 : World} {H : Heap} {c : List Value} {x : Route} {t : Int} (h0 : rRoute H c x) (ht : fits t) :
    Ct Tryz.prog 30 #[.agg c.toArray, I t] W0 H [] (fun r H' B => r = .tuple [I ((atR x t).getD 0), .bool (atR x t).isSome].toArray ∧ B = [] ∧ H' = H) := by
  refine Ct.go (vs := [.agg c.toArray, I t]) fun R => ?_
  obtain ⟨s, rfl, h2, h0⟩ := h0
  obtain ⟨b0, c0, rfl, hc0, hd0⟩ := h0.1.shape
  have k0 := h0.1
  refine walk ?_
  refine ops_box rfl rfl fun p2 _ => ?_
  refine wP ?_
  refine ex_if rfl (fun h => ?_) (fun h => ?_)
  · refine walk ?_
    refine fin0 ?_
    have : atR x t = none := by
      unfold atR
      split
      · next e => rw [List.getElem?_eq_none]; omega
      · rfl
    rw [this]; exact ⟨rfl, rfl, rfl⟩
  · obtain ⟨k, hk⟩ : ∃ k : Nat, t = x.Start + k := ⟨(t - x.Start).toNat, by omega⟩
    have hk1 : k < x.Cells.length := by omega
    have e : atR x t = some x.Cells[k] := by
      unfold atR
      rw [if_pos (by omega), show (t - x.Start).toNat = k by omega, List.getElem?_eq_getElem hk1]
    refine walk ?_
    rw [show t - x.Start = ((k : Nat) : Int) by omega]
    refine walk ?_
    refine fin0 ?_
    rw [e]; exact ⟨rfl, rfl, rfl⟩
/-- what is left from a tick on -/
def cutR (x : Route) (now : Int) : Route := if plainR x ∧ (now - x.Start).toNat < x.Cells.length then ⟨x.Start + (now - x.Start).toNat, x.Cells.drop (now - x.Start).toNat⟩ else zRoute
end Go.Proofs.YtnfmjkjhiolfdaaGreatDoor
