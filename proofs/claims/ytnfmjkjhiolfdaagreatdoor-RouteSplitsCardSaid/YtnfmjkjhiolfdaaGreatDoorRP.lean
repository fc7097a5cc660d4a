/- Keys dealt to their shards. -/
import Derived.Test.YtnfmjkjhiolfdaaGreatDoorGO
import Derived.Test.YtnfmjkjhiolfdaaGreatDoorGE
import Derived.Test.YtnfmjkjhiolfdaaGreatDoorRB
import Derived.Test.YtnfmjkjhiolfdaaGreatDoorE28
set_option linter.unusedVariables false
set_option linter.unusedSimpArgs false
namespace Go.Proofs.YtnfmjkjhiolfdaaGreatDoor
open Go Go.Sx Go.Proofs
set_option maxHeartbeats 8000000 in
theorem keysO_spec {W0 : World} {H : Heap} {c : List Value} {x : Route} (h0 : rRoute H c x) :
    Ct Tryz.prog 7 #[.agg c.toArray] W0 H [] (fun r H' B => B = [ownS rStr 1 16 9 H r ((keysL x).map sb)] ∧ H' = H) := by
  refine Ct.go (vs := [.agg c.toArray]) fun R => ?_
  have g0 := h0
  obtain ⟨s, rfl, f0, h0⟩ := h0
  obtain ⟨b0, c0, rfl, hc0, hd0⟩ := h0.1.shape
  have k0 := h0.1
  have hfc := k0.fits
  refine walk ?_
  refine ops_box rfl rfl fun p1 _ => ?_
  refine walk ?_
  refine ex_L (ownS_nil (R := rStr) (sz := 1) (w := 16) (T := 9) (H := H) (base := none)) ?_
  by_cases hp : plainR x
  · have hpp := hp
    simp only [plainR] at hpp
    refine ex_loop (σ := Nat × Value × List (List UInt8)) (fun s => s.1 ≤ x.Cells.length ∧ s.2.2 ++ keysFrom (x.Start + s.1) (x.Cells.drop s.1) = keysFrom x.Start x.Cells ∧ s.2.2.length ≤ 2 * s.1) (fun s => [(1, .pointer (some ⟨p1, 0, none⟩)), (3, s.2.1), (4, I s.1)]) (fun _ => H) (fun s => row p1 26 (x.cv (.slice b0 x.Cells.length c0)) :: ownS rStr 1 16 9 H s.2.1 (s.2.2.map sb) :: R) (fun s => x.Cells.length - s.1) (0, nilS, []) ⟨Nat.zero_le _, by simp, by simp⟩ (hs0 := fun _ h => big_swap h) fun ⟨k, v, out⟩ ⟨hk0, hout, hlen⟩ K hL => ?_
    simp only at hk0 hout hlen
    dsimp only
    refine walkG ?_
    refine ops_gcall rfl rfl (fun hg => refPlain_spec g0) ?_
    refine walkG ?_
    refine ex_if rfl (fun hc => ?_) (fun hc => ?_)
    · have hk : k < x.Cells.length := by omega
      have hfk := hfc _ (List.getElem_mem hk)
      have hft : fits (x.Start + k) := by unfold fits; omega
      refine walk ?_
      refine ex_any 13 [row p1 26 (x.cv (.slice b0 x.Cells.length c0))] ?_
      (first | refine gny_p 0 rfl rfl rfl ?_ | refine gny_ld 0 rfl rfl rfl rfl ?_ | refine gny_ldH 0 rfl rfl rfl ‹HRow _ _ 0 _› rfl ?_ | refine gny_T 0 rfl rfl rfl ?_ | refine gny_F 0 rfl rfl rfl ?_ | refine gny_B 0 rfl rfl rfl ?_ | refine gny_skip 0 rfl rfl ?_ | refine gny_sp 0 rfl rfl rfl ?_ | refine gny_sB 0 rfl rfl rfl ?_ | refine gny_sld 0 rfl rfl rfl rfl ?_ | refine gny_sldH 0 rfl rfl rfl ‹HRow _ _ 0 _› rfl ?_ | refine gny_ldN 0 rfl rfl rfl rfl ?_ | refine gny_bld 0 rfl rfl rfl ?_); (first | refine gny_p 1 rfl rfl rfl ?_ | refine gny_ld 1 rfl rfl rfl rfl ?_ | refine gny_ldH 1 rfl rfl rfl ‹HRow _ _ 0 _› rfl ?_ | refine gny_T 1 rfl rfl rfl ?_ | refine gny_F 1 rfl rfl rfl ?_ | refine gny_B 1 rfl rfl rfl ?_ | refine gny_skip 1 rfl rfl ?_ | refine gny_sp 1 rfl rfl rfl ?_ | refine gny_sB 1 rfl rfl rfl ?_ | refine gny_sld 1 rfl rfl rfl rfl ?_ | refine gny_sldH 1 rfl rfl rfl ‹HRow _ _ 0 _› rfl ?_ | refine gny_ldN 1 rfl rfl rfl rfl ?_ | refine gny_bld 1 rfl rfl rfl ?_); (first | refine gny_p 2 rfl rfl rfl ?_ | refine gny_ld 2 rfl rfl rfl rfl ?_ | refine gny_ldH 2 rfl rfl rfl ‹HRow _ _ 0 _› rfl ?_ | refine gny_T 2 rfl rfl rfl ?_ | refine gny_F 2 rfl rfl rfl ?_ | refine gny_B 2 rfl rfl rfl ?_ | refine gny_skip 2 rfl rfl ?_ | refine gny_sp 2 rfl rfl rfl ?_ | refine gny_sB 2 rfl rfl rfl ?_ | refine gny_sld 2 rfl rfl rfl rfl ?_ | refine gny_sldH 2 rfl rfl rfl ‹HRow _ _ 0 _› rfl ?_ | refine gny_ldN 2 rfl rfl rfl rfl ?_ | refine gny_bld 2 rfl rfl rfl ?_); (first | refine gny_p 3 rfl rfl rfl ?_ | refine gny_ld 3 rfl rfl rfl rfl ?_ | refine gny_ldH 3 rfl rfl rfl ‹HRow _ _ 0 _› rfl ?_ | refine gny_T 3 rfl rfl rfl ?_ | refine gny_F 3 rfl rfl rfl ?_ | refine gny_B 3 rfl rfl rfl ?_ | refine gny_skip 3 rfl rfl ?_ | refine gny_sp 3 rfl rfl rfl ?_ | refine gny_sB 3 rfl rfl rfl ?_ | refine gny_sld 3 rfl rfl rfl rfl ?_ | refine gny_sldH 3 rfl rfl rfl ‹HRow _ _ 0 _› rfl ?_ | refine gny_ldN 3 rfl rfl rfl rfl ?_ | refine gny_bld 3 rfl rfl rfl ?_)
      refine gny_el 4 5 rfl rfl rfl rfl rfl k0 hk ?_
      (first | refine gny_p 6 rfl rfl rfl ?_ | refine gny_ld 6 rfl rfl rfl rfl ?_ | refine gny_ldH 6 rfl rfl rfl ‹HRow _ _ 0 _› rfl ?_ | refine gny_T 6 rfl rfl rfl ?_ | refine gny_F 6 rfl rfl rfl ?_ | refine gny_B 6 rfl rfl rfl ?_ | refine gny_skip 6 rfl rfl ?_ | refine gny_sp 6 rfl rfl rfl ?_ | refine gny_sB 6 rfl rfl rfl ?_ | refine gny_sld 6 rfl rfl rfl rfl ?_ | refine gny_sldH 6 rfl rfl rfl ‹HRow _ _ 0 _› rfl ?_ | refine gny_ldN 6 rfl rfl rfl rfl ?_ | refine gny_bld 6 rfl rfl rfl ?_); (first | refine gny_p 7 rfl rfl rfl ?_ | refine gny_ld 7 rfl rfl rfl rfl ?_ | refine gny_ldH 7 rfl rfl rfl ‹HRow _ _ 0 _› rfl ?_ | refine gny_T 7 rfl rfl rfl ?_ | refine gny_F 7 rfl rfl rfl ?_ | refine gny_B 7 rfl rfl rfl ?_ | refine gny_skip 7 rfl rfl ?_ | refine gny_sp 7 rfl rfl rfl ?_ | refine gny_sB 7 rfl rfl rfl ?_ | refine gny_sld 7 rfl rfl rfl rfl ?_ | refine gny_sldH 7 rfl rfl rfl ‹HRow _ _ 0 _› rfl ?_ | refine gny_ldN 7 rfl rfl rfl rfl ?_ | refine gny_bld 7 rfl rfl rfl ?_); (first | refine gny_p 8 rfl rfl rfl ?_ | refine gny_ld 8 rfl rfl rfl rfl ?_ | refine gny_ldH 8 rfl rfl rfl ‹HRow _ _ 0 _› rfl ?_ | refine gny_T 8 rfl rfl rfl ?_ | refine gny_F 8 rfl rfl rfl ?_ | refine gny_B 8 rfl rfl rfl ?_ | refine gny_skip 8 rfl rfl ?_ | refine gny_sp 8 rfl rfl rfl ?_ | refine gny_sB 8 rfl rfl rfl ?_ | refine gny_sld 8 rfl rfl rfl rfl ?_ | refine gny_sldH 8 rfl rfl rfl ‹HRow _ _ 0 _› rfl ?_ | refine gny_ldN 8 rfl rfl rfl rfl ?_ | refine gny_bld 8 rfl rfl rfl ?_); (first | refine gny_p 9 rfl rfl rfl ?_ | refine gny_ld 9 rfl rfl rfl rfl ?_ | refine gny_ldH 9 rfl rfl rfl ‹HRow _ _ 0 _› rfl ?_ | refine gny_T 9 rfl rfl rfl ?_ | refine gny_F 9 rfl rfl rfl ?_ | refine gny_B 9 rfl rfl rfl ?_ | refine gny_skip 9 rfl rfl ?_ | refine gny_sp 9 rfl rfl rfl ?_ | refine gny_sB 9 rfl rfl rfl ?_ | refine gny_sld 9 rfl rfl rfl rfl ?_ | refine gny_sldH 9 rfl rfl rfl ‹HRow _ _ 0 _› rfl ?_ | refine gny_ldN 9 rfl rfl rfl rfl ?_ | refine gny_bld 9 rfl rfl rfl ?_)
      refine gny_pcall 10 rfl rfl rfl (slot_spec hfk hft) ?_
      refine any_app1 11 12 (y := sb (slotL x.Cells[k] (x.Start + k))) rfl rfl rfl ⟨rfl, by rw [sb_size]; have := slotL_len hfk hft; simp only [cap47]; omega⟩ (by simp only [List.length_map, cap47]; omega) fun b2 c2 => ⟨(by (repeat (first | exact Sub.refl _ | exact Sub.nil _ | (apply sub_pick; (repeat (first | exact Has.here | apply Has.there)); skip) | apply Sub.drop))), ?_⟩
      refine any_rest rfl ?_
      refine walkG ?_
      have hsl := slotL_len hfk hft
      refine ex_if rfl (fun hq => ?_) (fun hq => ?_)
      · have hk1 : k + 1 < x.Cells.length := by omega
        have hg1 : x.Cells.getD (k + 1) default = x.Cells[k + 1] := by simp [List.getD, hk1]
        have hg0 : x.Cells.getD k default = x.Cells[k] := by simp [List.getD, hk]
        rw [hg0, hg1] at hq
        have hfk1 := hfc _ (List.getElem_mem hk1)
        rw [List.drop_eq_getElem_cons hk, List.drop_eq_getElem_cons hk1, keysFrom, if_neg hq.2, ← List.drop_eq_getElem_cons hk1] at hout
        refine walk ?_
        refine ex_any 19 [row p1 26 (x.cv (.slice b0 x.Cells.length c0))] ?_
        (first | refine gny_p 0 rfl rfl rfl ?_ | refine gny_ld 0 rfl rfl rfl rfl ?_ | refine gny_ldH 0 rfl rfl rfl ‹HRow _ _ 0 _› rfl ?_ | refine gny_T 0 rfl rfl rfl ?_ | refine gny_F 0 rfl rfl rfl ?_ | refine gny_B 0 rfl rfl rfl ?_ | refine gny_skip 0 rfl rfl ?_ | refine gny_sp 0 rfl rfl rfl ?_ | refine gny_sB 0 rfl rfl rfl ?_ | refine gny_sld 0 rfl rfl rfl rfl ?_ | refine gny_sldH 0 rfl rfl rfl ‹HRow _ _ 0 _› rfl ?_ | refine gny_ldN 0 rfl rfl rfl rfl ?_ | refine gny_bld 0 rfl rfl rfl ?_); (first | refine gny_p 1 rfl rfl rfl ?_ | refine gny_ld 1 rfl rfl rfl rfl ?_ | refine gny_ldH 1 rfl rfl rfl ‹HRow _ _ 0 _› rfl ?_ | refine gny_T 1 rfl rfl rfl ?_ | refine gny_F 1 rfl rfl rfl ?_ | refine gny_B 1 rfl rfl rfl ?_ | refine gny_skip 1 rfl rfl ?_ | refine gny_sp 1 rfl rfl rfl ?_ | refine gny_sB 1 rfl rfl rfl ?_ | refine gny_sld 1 rfl rfl rfl rfl ?_ | refine gny_sldH 1 rfl rfl rfl ‹HRow _ _ 0 _› rfl ?_ | refine gny_ldN 1 rfl rfl rfl rfl ?_ | refine gny_bld 1 rfl rfl rfl ?_); (first | refine gny_p 2 rfl rfl rfl ?_ | refine gny_ld 2 rfl rfl rfl rfl ?_ | refine gny_ldH 2 rfl rfl rfl ‹HRow _ _ 0 _› rfl ?_ | refine gny_T 2 rfl rfl rfl ?_ | refine gny_F 2 rfl rfl rfl ?_ | refine gny_B 2 rfl rfl rfl ?_ | refine gny_skip 2 rfl rfl ?_ | refine gny_sp 2 rfl rfl rfl ?_ | refine gny_sB 2 rfl rfl rfl ?_ | refine gny_sld 2 rfl rfl rfl rfl ?_ | refine gny_sldH 2 rfl rfl rfl ‹HRow _ _ 0 _› rfl ?_ | refine gny_ldN 2 rfl rfl rfl rfl ?_ | refine gny_bld 2 rfl rfl rfl ?_); (first | refine gny_p 3 rfl rfl rfl ?_ | refine gny_ld 3 rfl rfl rfl rfl ?_ | refine gny_ldH 3 rfl rfl rfl ‹HRow _ _ 0 _› rfl ?_ | refine gny_T 3 rfl rfl rfl ?_ | refine gny_F 3 rfl rfl rfl ?_ | refine gny_B 3 rfl rfl rfl ?_ | refine gny_skip 3 rfl rfl ?_ | refine gny_sp 3 rfl rfl rfl ?_ | refine gny_sB 3 rfl rfl rfl ?_ | refine gny_sld 3 rfl rfl rfl rfl ?_ | refine gny_sldH 3 rfl rfl rfl ‹HRow _ _ 0 _› rfl ?_ | refine gny_ldN 3 rfl rfl rfl rfl ?_ | refine gny_bld 3 rfl rfl rfl ?_)
        refine gny_el 4 5 rfl rfl rfl rfl rfl k0 hk ?_
        (first | refine gny_p 6 rfl rfl rfl ?_ | refine gny_ld 6 rfl rfl rfl rfl ?_ | refine gny_ldH 6 rfl rfl rfl ‹HRow _ _ 0 _› rfl ?_ | refine gny_T 6 rfl rfl rfl ?_ | refine gny_F 6 rfl rfl rfl ?_ | refine gny_B 6 rfl rfl rfl ?_ | refine gny_skip 6 rfl rfl ?_ | refine gny_sp 6 rfl rfl rfl ?_ | refine gny_sB 6 rfl rfl rfl ?_ | refine gny_sld 6 rfl rfl rfl rfl ?_ | refine gny_sldH 6 rfl rfl rfl ‹HRow _ _ 0 _› rfl ?_ | refine gny_ldN 6 rfl rfl rfl rfl ?_ | refine gny_bld 6 rfl rfl rfl ?_); (first | refine gny_p 7 rfl rfl rfl ?_ | refine gny_ld 7 rfl rfl rfl rfl ?_ | refine gny_ldH 7 rfl rfl rfl ‹HRow _ _ 0 _› rfl ?_ | refine gny_T 7 rfl rfl rfl ?_ | refine gny_F 7 rfl rfl rfl ?_ | refine gny_B 7 rfl rfl rfl ?_ | refine gny_skip 7 rfl rfl ?_ | refine gny_sp 7 rfl rfl rfl ?_ | refine gny_sB 7 rfl rfl rfl ?_ | refine gny_sld 7 rfl rfl rfl rfl ?_ | refine gny_sldH 7 rfl rfl rfl ‹HRow _ _ 0 _› rfl ?_ | refine gny_ldN 7 rfl rfl rfl rfl ?_ | refine gny_bld 7 rfl rfl rfl ?_); (first | refine gny_p 8 rfl rfl rfl ?_ | refine gny_ld 8 rfl rfl rfl rfl ?_ | refine gny_ldH 8 rfl rfl rfl ‹HRow _ _ 0 _› rfl ?_ | refine gny_T 8 rfl rfl rfl ?_ | refine gny_F 8 rfl rfl rfl ?_ | refine gny_B 8 rfl rfl rfl ?_ | refine gny_skip 8 rfl rfl ?_ | refine gny_sp 8 rfl rfl rfl ?_ | refine gny_sB 8 rfl rfl rfl ?_ | refine gny_sld 8 rfl rfl rfl rfl ?_ | refine gny_sldH 8 rfl rfl rfl ‹HRow _ _ 0 _› rfl ?_ | refine gny_ldN 8 rfl rfl rfl rfl ?_ | refine gny_bld 8 rfl rfl rfl ?_); (first | refine gny_p 9 rfl rfl rfl ?_ | refine gny_ld 9 rfl rfl rfl rfl ?_ | refine gny_ldH 9 rfl rfl rfl ‹HRow _ _ 0 _› rfl ?_ | refine gny_T 9 rfl rfl rfl ?_ | refine gny_F 9 rfl rfl rfl ?_ | refine gny_B 9 rfl rfl rfl ?_ | refine gny_skip 9 rfl rfl ?_ | refine gny_sp 9 rfl rfl rfl ?_ | refine gny_sB 9 rfl rfl rfl ?_ | refine gny_sld 9 rfl rfl rfl rfl ?_ | refine gny_sldH 9 rfl rfl rfl ‹HRow _ _ 0 _› rfl ?_ | refine gny_ldN 9 rfl rfl rfl rfl ?_ | refine gny_bld 9 rfl rfl rfl ?_)
        refine gny_el 10 11 (jj := k + 1) rfl rfl rfl rfl rfl k0 hk1 ?_
        (first | refine gny_p 12 rfl rfl rfl ?_ | refine gny_ld 12 rfl rfl rfl rfl ?_ | refine gny_ldH 12 rfl rfl rfl ‹HRow _ _ 0 _› rfl ?_ | refine gny_T 12 rfl rfl rfl ?_ | refine gny_F 12 rfl rfl rfl ?_ | refine gny_B 12 rfl rfl rfl ?_ | refine gny_skip 12 rfl rfl ?_ | refine gny_sp 12 rfl rfl rfl ?_ | refine gny_sB 12 rfl rfl rfl ?_ | refine gny_sld 12 rfl rfl rfl rfl ?_ | refine gny_sldH 12 rfl rfl rfl ‹HRow _ _ 0 _› rfl ?_ | refine gny_ldN 12 rfl rfl rfl rfl ?_ | refine gny_bld 12 rfl rfl rfl ?_); (first | refine gny_p 13 rfl rfl rfl ?_ | refine gny_ld 13 rfl rfl rfl rfl ?_ | refine gny_ldH 13 rfl rfl rfl ‹HRow _ _ 0 _› rfl ?_ | refine gny_T 13 rfl rfl rfl ?_ | refine gny_F 13 rfl rfl rfl ?_ | refine gny_B 13 rfl rfl rfl ?_ | refine gny_skip 13 rfl rfl ?_ | refine gny_sp 13 rfl rfl rfl ?_ | refine gny_sB 13 rfl rfl rfl ?_ | refine gny_sld 13 rfl rfl rfl rfl ?_ | refine gny_sldH 13 rfl rfl rfl ‹HRow _ _ 0 _› rfl ?_ | refine gny_ldN 13 rfl rfl rfl rfl ?_ | refine gny_bld 13 rfl rfl rfl ?_); (first | refine gny_p 14 rfl rfl rfl ?_ | refine gny_ld 14 rfl rfl rfl rfl ?_ | refine gny_ldH 14 rfl rfl rfl ‹HRow _ _ 0 _› rfl ?_ | refine gny_T 14 rfl rfl rfl ?_ | refine gny_F 14 rfl rfl rfl ?_ | refine gny_B 14 rfl rfl rfl ?_ | refine gny_skip 14 rfl rfl ?_ | refine gny_sp 14 rfl rfl rfl ?_ | refine gny_sB 14 rfl rfl rfl ?_ | refine gny_sld 14 rfl rfl rfl rfl ?_ | refine gny_sldH 14 rfl rfl rfl ‹HRow _ _ 0 _› rfl ?_ | refine gny_ldN 14 rfl rfl rfl rfl ?_ | refine gny_bld 14 rfl rfl rfl ?_); (first | refine gny_p 15 rfl rfl rfl ?_ | refine gny_ld 15 rfl rfl rfl rfl ?_ | refine gny_ldH 15 rfl rfl rfl ‹HRow _ _ 0 _› rfl ?_ | refine gny_T 15 rfl rfl rfl ?_ | refine gny_F 15 rfl rfl rfl ?_ | refine gny_B 15 rfl rfl rfl ?_ | refine gny_skip 15 rfl rfl ?_ | refine gny_sp 15 rfl rfl rfl ?_ | refine gny_sB 15 rfl rfl rfl ?_ | refine gny_sld 15 rfl rfl rfl rfl ?_ | refine gny_sldH 15 rfl rfl rfl ‹HRow _ _ 0 _› rfl ?_ | refine gny_ldN 15 rfl rfl rfl rfl ?_ | refine gny_bld 15 rfl rfl rfl ?_)
        refine gny_pcall 16 rfl rfl rfl (pass_spec hfk hfk1 hft) ?_
        refine any_app1 17 18 (y := sb (passL x.Cells[k] x.Cells[k + 1] (x.Start + k))) rfl rfl rfl ⟨rfl, by rw [sb_size]; have := passL_len hfk hfk1 hft; simp only [cap47]; omega⟩ (by simp only [List.length_append, List.length_map, List.length_cons, List.length_nil, cap47]; omega) fun b3 c3 => ⟨(by (repeat (first | exact Sub.refl _ | exact Sub.nil _ | (apply sub_pick; (repeat (first | exact Has.here | apply Has.there)); skip) | apply Sub.drop))), ?_⟩
        refine any_rest rfl ?_
        refine walk ?_
        refine out_next hL (k + 1, .slice b3 ((out.map sb ++ [sb (slotL x.Cells[k] (x.Start + k))]).length + 1) c3, out ++ [slotL x.Cells[k] (x.Start + k)] ++ [passL x.Cells[k] x.Cells[k + 1] (x.Start + k)]) ⟨by simp only; omega, ?_, by simp; omega⟩ (hs := ?_)
        · simp only
          rw [← hout, show x.Start + ((k + 1 : Nat) : Int) = x.Start + k + 1 by omega]
          simp
        · simp only [List.map_append, List.map_cons, List.map_nil]
          (repeat (first | exact Sub.refl _ | exact Sub.nil _ | (apply sub_pick; (repeat (first | exact Has.here | apply Has.there)); skip) | apply Sub.drop))
      · have hout2 : out ++ [slotL x.Cells[k] (x.Start + k)] ++ keysFrom (x.Start + (k + 1 : Nat)) (x.Cells.drop (k + 1)) = keysFrom x.Start x.Cells := by
          rw [← hout, List.drop_eq_getElem_cons hk]
          by_cases hk1 : k + 1 < x.Cells.length
          · have hg1 : x.Cells.getD (k + 1) default = x.Cells[k + 1] := by simp [List.getD, hk1]
            have hg0 : x.Cells.getD k default = x.Cells[k] := by simp [List.getD, hk]
            rw [hg0, hg1] at hq
            have he : x.Cells[k + 1] = x.Cells[k] := Classical.byContradiction fun e => hq ⟨by omega, e⟩
            rw [List.drop_eq_getElem_cons hk1, keysFrom, if_pos he, show x.Start + ((k + 1 : Nat) : Int) = x.Start + k + 1 by omega]
            simp
          · rw [List.drop_eq_nil_of_le (i := k + 1) (by omega), keysFrom, keysFrom]; simp
        refine walk ?_
        refine out_next hL (k + 1, .slice b2 ((out.map sb).length + 1) c2, out ++ [slotL x.Cells[k] (x.Start + k)]) ⟨by simp only; omega, hout2, by simp; omega⟩ (hs := ?_)
        simp only [List.map_append, List.map_cons, List.map_nil]
        (repeat (first | exact Sub.refl _ | exact Sub.nil _ | (apply sub_pick; (repeat (first | exact Has.here | apply Has.there)); skip) | apply Sub.drop))
    · clear hL
      have hke : k = x.Cells.length := by have : ¬ ((k : Int) < x.Cells.length) := fun e => hc ⟨e, hp⟩; omega
      subst hke
      rw [List.drop_length, keysFrom, List.append_nil] at hout
      refine walk ?_
      refine finB [ownS rStr 1 16 9 H v (out.map sb)] ?_
      refine ⟨?_, rfl⟩
      unfold keysL
      rw [if_pos hp, ← hout]
  · refine ex_loop (σ := Unit) (fun _ => True) (fun _ => [(1, .pointer (some ⟨p1, 0, none⟩)), (3, nilS), (4, I 0)]) (fun _ => H) (fun _ => row p1 26 (x.cv (.slice b0 x.Cells.length c0)) :: R) (fun _ => 0) () trivial fun _ _ K hL => ?_
    clear hL
    refine walkG ?_
    refine ops_gcall rfl rfl (fun hg => refPlain_spec g0) ?_
    refine walkG ?_
    refine ex_if rfl (fun hc => absurd hc.2 hp) (fun hc => ?_)
    refine walk ?_
    refine finB [ownS rStr 1 16 9 H nilS []] ?_ (hs := ?_)
    · refine ⟨?_, rfl⟩
      unfold keysL
      rw [if_neg hp]; rfl
    · exact (Sub.drop (Sub.refl _)).trans ownS_nil
open Classical in
/-- the home of a key, if it has one -/
noncomputable def homeV (m : Map) (s : ByteArray) : Option Int := if h : ∃ k, homeOk m s.data.toList k then some (shardM m h.choose.1) else none
theorem homeV_some {m : Map} {s : ByteArray} {k : Int × Int × Int} (h : homeOk m s.data.toList k) : homeV m s = some (shardM m k.1) := by
  have hx : ∃ k, homeOk m s.data.toList k := ⟨k, h⟩
  unfold homeV
  rw [dif_pos hx, (hx.choose_spec.uniq h.1)]
theorem homeV_none {m : Map} {s : ByteArray} (h : ∀ k, ¬ homeOk m s.data.toList k) : homeV m s = none := by
  unfold homeV
  rw [dif_neg (fun ⟨k, hk⟩ => h k hk)]
theorem homeV_lt {m : Map} (hg : headM m) {s : ByteArray} {q : Int} (h : homeV m s = some q) : 0 ≤ q ∧ q < m.Shards := by
  unfold homeV at h
  split at h
  · next hx =>
    cases h
    exact (shard_facts hg hx.choose_spec.2.1).2
  · cases h
theorem HomeP.val {m : Map} {s : ByteArray} {r : Value} (h : HomeP m s.data.toList r) : r = match homeV m s with | some q => .tuple #[I q, I 0] | none => .tuple #[I 0, I 121] := by
  rcases h with ⟨k, hk, rfl⟩ | ⟨hno, rfl⟩
  · rw [homeV_some hk]
  · rw [homeV_none hno]
theorem RHomeP.val {m : Map} {s : ByteArray} {r : Value} (h : RHomeP m s.data.toList r) : r = match homeV m s with | some q => I q | none => I (-1) := by
  rcases h with ⟨k, hk, rfl⟩ | ⟨hno, rfl⟩
  · rw [homeV_some hk]
  · rw [homeV_none hno]
/-- the keys of each shard, in their order -/
noncomputable def dealt (m : Map) (n : Nat) (keys : List ByteArray) : List (List ByteArray) := (List.range n).map fun j : Nat => keys.filter fun s => decide (homeV m s = some (j : Int))
theorem dealt_len {m : Map} {n : Nat} {keys : List ByteArray} : (dealt m n keys).length = n := by simp [dealt]
theorem dealt_get {m : Map} {n j : Nat} {keys : List ByteArray} (hj : j < n) : (dealt m n keys)[j]'(by rw [dealt_len]; exact hj) = keys.filter fun s => decide (homeV m s = some (j : Int)) := by
  simp [dealt]
theorem dealt_nil {m : Map} {n : Nat} : dealt m n [] = List.replicate n [] := by
  unfold dealt
  apply List.ext_getElem <;> simp
theorem dealt_snoc {m : Map} {n q : Nat} {keys : List ByteArray} {s : ByteArray} (hq : homeV m s = some (q : Int)) (hn : q < n) :
    dealt m n (keys ++ [s]) = (dealt m n keys).set q ((dealt m n keys)[q]'(by rw [dealt_len]; exact hn) ++ [s]) := by
  apply List.ext_getElem
  · simp [dealt_len]
  · intro j h1 h2
    rw [dealt_len] at h1
    rw [dealt_get h1, List.getElem_set]
    by_cases e : q = j
    · subst e
      rw [if_pos rfl, dealt_get hn, List.filter_append]
      simp [hq]
    · rw [if_neg e, dealt_get h1, List.filter_append]
      have : ¬ homeV m s = some (j : Int) := by rw [hq]; intro h; cases h; exact e rfl
      simp [this]
theorem bigL_rep {ι : Type} {A : ι → HProp} {x : ι} (h : ∀ L, Sub L (A x :: L)) : ∀ (n : Nat) (L : List HProp), Sub L (bigL A (List.replicate n x) :: L)
  | 0, L => bigL_nil
  | n + 1, L => by
    refine (bigL_rep h n L).trans ?_
    refine (h _).trans ?_
    exact bigL_in (l1 := []) (x := x) (l2 := List.replicate n x)
/-- a shard's list, owned -/
def dA (H : Heap) (p : Value × List ByteArray) : HProp := ownS rStr 1 16 9 H p.1 p.2
theorem at_split {α : Type} {l : List α} {k : Nat} (h : k < l.length) : ∃ l1 x l2, l = l1 ++ x :: l2 ∧ l1.length = k := ⟨l.take k, l[k], l.drop (k + 1), split_at h, by simp; omega⟩
def homed (m : Map) (keys : List ByteArray) : Prop := ∀ s ∈ keys, homeV m s ≠ none
def SplitP (H : Heap) (m : Map) (keys : List ByteArray) (ok no : Value) (r : Value) (B : List HProp) : Prop :=
  (homed m keys ∧ ∃ vo zs, r = .tuple #[vo, ok] ∧ B = [ownS rVal 1 24 27 H vo (zs.map Prod.fst), bigL (dA H) zs] ∧ zs.map Prod.snd = dealt m m.Shards.toNat keys) ∨ (¬ homed m keys ∧ r = .tuple #[nilS, no] ∧ B = [])
set_option maxHeartbeats 8000000 in
theorem split_spec {W0 : World} {H : Heap} {p v : Value} {m : Map} {keys : List ByteArray} (hP : PkH H) (h : rG H p m) (hk : SlB rStr 1 16 H v keys) :
    Ct Tryz.prog 9 #[p, v] W0 H [] (fun r H' B => SplitP H m keys (I 0) (I 121) r B ∧ H' = H) := by
  refine Ct.go fun R => ?_
  have hG := h
  obtain ⟨⟨b, s, mb, mm, rfl, h1, h2, h3, h4⟩, hg, hfs⟩ := h
  obtain ⟨bk, ck, rfl, _, _⟩ := hk.1.shape
  have hsh := hg.1
  simp only [headM, sidesM] at hsh
  obtain ⟨n, hn⟩ : ∃ n : Nat, m.Shards = n := ⟨m.Shards.toNat, by omega⟩
  have hnt : m.Shards.toNat = n := by omega
  have hkl := hk.2
  have hkr := hk.1
  refine walk ?_
  refine ops_call (vs := [.pointer (some ⟨b, 0, none⟩)]) rfl rfl (map_spec hG) fun r1 H1 B hl1 ⟨v1, er, eB, eH⟩ => ?_
  subst er eB eH
  refine walk ?_
  rw [hn]
  refine ops_mkT rVal nilS n rfl ⟨rfl, rfl⟩ (by simp only [cap47]; omega) (by simp only [cap47]; omega) fun bo => ?_
  generalize (some (⟨bo, 0, none⟩ : Addr)) = bo
  refine walk ?_
  refine ex_L (bigL_rep (A := dA H1) (x := (nilS, [])) (fun L => ownS_nil) n _) ?_
  refine ex_loop (σ := Nat × List (Value × List ByteArray)) (fun s => (s.1 ≤ keys.length ∧ s.2.map Prod.snd = dealt m n (keys.take s.1)) ∧ homed m (keys.take s.1)) (fun s => [(0, .pointer (some ⟨b, 0, none⟩)), (6, .slice bo n n), (15, .slice bk keys.length ck), (16, I keys.length), (17, I s.1)]) (fun _ => H1) (fun s => ownS rVal 1 24 27 H1 (.slice bo n n) (s.2.map Prod.fst) :: bigL (dA H1) s.2 :: R) (fun s => keys.length - s.1) (0, List.replicate n (nilS, [])) ⟨⟨Nat.zero_le _, by simp [dealt_nil]⟩, by simp [homed]⟩ (hs0 := by dsimp only; rw [List.map_replicate]; (repeat (first | exact Sub.refl _ | exact Sub.nil _ | (apply sub_pick; (repeat (first | exact Has.here | apply Has.there)); skip) | apply Sub.drop))) fun ⟨k, zs⟩ ⟨⟨hk0, hz⟩, hh⟩ K hL => ?_
  simp only at hk0 hz hh
  dsimp only
  refine walk ?_
  refine ex_if rfl (fun hk1 => ?_) (fun hk1 => ?_)
  · have hk2 : k < keys.length := by omega
    obtain ⟨_, _, _, _, _, _, _, hsz⟩ := hk.1.get hk2
    have htk : keys.take (k + 1) = keys.take k ++ [keys[k]] := List.take_succ_eq_append_getElem hk2
    have hmem : keys[k] ∈ keys := List.getElem_mem hk2
    refine walk ?_
    generalize keys[k] = s at *
    rw [sb_of s]
    have hsl : s.data.toList.length ≤ cap47 := by rw [← Lib.size_eq]; exact hsz
    refine ops_call rfl rfl (home_spec hP hG hsl) fun r H' B hl ⟨hr, eB, eH⟩ => ?_
    subst eB eH
    have hv := hr.val
    cases hm : homeV m s with
    | none =>
      rw [hm] at hv
      simp only at hv
      subst hv
      refine walk ?_
      refine fin0 ?_
      exact ⟨.inr ⟨fun e => e s hmem hm, rfl, rfl⟩, rfl⟩
    | some q =>
      obtain ⟨q0, q1⟩ := homeV_lt hg.1 hm
      obtain ⟨j, rfl⟩ : ∃ j : Nat, q = j := ⟨q.toNat, by omega⟩
      rw [hm] at hv
      simp only at hv
      subst hv
      have hzl : zs.length = n := by have := congrArg List.length hz; rw [dealt_len] at this; simpa using this
      have hjn : j < n := by omega
      have hzj := dealt_get (m := m) (keys := keys.take k) hjn
      have hsn := dealt_snoc (keys := keys.take k) hm hjn
      rw [hzj] at hsn
      obtain ⟨l1, ⟨vv, xs⟩, l2, rfl, hl1⟩ := at_split (l := zs) (k := j) (by omega)
      have hxs : xs = (keys.take k).filter fun s => decide (homeV m s = some (j : Int)) := by
        rw [← hzj]
        simp only [← hz]
        simp [hl1]
      have hxl : xs.length ≤ k := by
        rw [hxs]
        exact Nat.le_trans (List.length_filter_le _ _) (by simp; omega)
      have hz2 : (l1 ++ (Value.slice none 0 0, xs ++ [s]) :: l2).map Prod.snd = dealt m n (keys.take (k + 1)) := by
        rw [htk, hsn, ← hz, ← hxs]
        simp [hl1, List.set_append]
      simp only [List.map_append, List.map_cons] at hz2 ⊢
      refine walk ?_
      refine ops_ixo1 rfl rfl rfl (j := j) (by simp [hl1]) ?_
      have hget : (l1.map Prod.fst ++ vv :: l2.map Prod.fst)[j]'(by simp [hl1]) = vv := by simp [List.getElem_append_right, hl1]
      rw [hget]
      refine ops_L (L' := ownS rVal 1 24 27 H' (.slice bo n n) (l1.map Prod.fst ++ vv :: l2.map Prod.fst) :: ownS rStr 1 16 9 H' vv xs :: bigL (dA H') (l1 ++ l2) :: R) (Sub.cons bigL_out) ?_
      refine walk ?_
      rw [show sb s.data.toList = s from (sb_of s).symm]
      refine ops_app1 (y := s) rfl rfl rfl ⟨rfl, hsz⟩ (by simp only [cap47] at hkl ⊢; omega) fun d1 e1 => ?_
      refine walk ?_
      refine ops_stS (y' := Value.slice d1 (xs.length + 1) e1) rfl rfl rfl ⟨rfl, rfl⟩ (by simp [hl1]) ?_
      have hset : (l1.map Prod.fst ++ vv :: l2.map Prod.fst).set j (Value.slice d1 (xs.length + 1) e1) = (l1 ++ (Value.slice d1 (xs.length + 1) e1, xs ++ [s]) :: l2).map Prod.fst := by simp [List.set_append, hl1]
      rw [hset]
      refine walk ?_
      refine out_next hL (k + 1, l1 ++ (.slice d1 (xs.length + 1) e1, xs ++ [s]) :: l2) ⟨⟨by simp only; omega, by simpa using hz2⟩, fun t ht => ?_⟩ (hs := ?_)
      · rw [htk] at ht
        rcases List.mem_append.1 ht with ht | ht
        · exact hh t ht
        · rw [List.mem_singleton.1 ht, hm]; exact fun e => by cases e
      · dsimp only
        refine Sub.trans ?_ (Sub.cons (bigL_in (A := dA H') (l1 := l1) (x := (.slice d1 (xs.length + 1) e1, xs ++ [s])) (l2 := l2)))
        (repeat (first | exact Sub.refl _ | exact Sub.nil _ | (apply sub_pick; (repeat (first | exact Has.here | apply Has.there)); skip) | apply Sub.drop))
  · clear hL
    obtain rfl : k = keys.length := by omega
    rw [List.take_length] at hz hh
    refine walk ?_
    refine finB [ownS rVal 1 24 27 H1 (.slice bo n n) (zs.map Prod.fst), bigL (dA H1) zs] ?_
    exact ⟨.inl ⟨hh, _, zs, rfl, rfl, by rw [hnt]; exact hz⟩, rfl⟩
end Go.Proofs.YtnfmjkjhiolfdaaGreatDoor
