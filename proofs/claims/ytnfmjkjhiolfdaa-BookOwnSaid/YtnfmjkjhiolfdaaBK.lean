/- Keys of routes; do two routes have one in common? -/
import Derived.Test.YtnfmjkjhiolfdaaBJ
set_option linter.unusedVariables false
set_option linter.unusedSimpArgs false
namespace Go.Proofs.Ytnfmjkjhiolfdaa
open Go Go.Sx Go.Proofs
def slotL (c t : Int) : List UInt8 := [99] ++ dgs c ++ [64] ++ dgs t
def passL (a b t : Int) : List UInt8 := [112] ++ dgs (min a b) ++ [45] ++ dgs (max a b) ++ [64] ++ dgs t
theorem slotL_len {c t : Int} (h1 : fits c) (h2 : fits t) : (slotL c t).length ≤ 42 := by
  have := dgs_len h1; have := dgs_len h2; simp [slotL]; omega
theorem passL_len {a b t : Int} (h1 : fits a) (h2 : fits b) (h3 : fits t) : (passL a b t).length ≤ 63 := by
  have := dgs_len (n := min a b) (by unfold fits at *; omega); have := dgs_len (n := max a b) (by unfold fits at *; omega); have := dgs_len h3; simp [passL]; omega
theorem slot_spec {W0 : World} {H : Heap} {c t : Int} (h1 : fits c) (h2 : fits t) :
    Ct Try.prog 57 #[I c, I t] W0 H [] (fun r H' B => r = .string (sb (slotL c t)) ∧ B = [] ∧ H' = H) := by
  refine Ct.go fun R => ?_
  haveI l1 : LenLe (dgs c) 20 := ⟨dgs_len h1⟩
  haveI l2 : LenLe (dgs t) 20 := ⟨dgs_len h2⟩
  refine walk ?_
  refine ops_pcall rfl rfl (digits_spec h1) ?_
  refine walk ?_
  refine ops_pcall rfl rfl (digits_spec h2) ?_
  refine walk ?_
  refine fin0 ?_
  exact ⟨rfl, rfl, rfl⟩
theorem pass_le {W0 : World} {H : Heap} {a b t : Int} (h1 : fits a) (h2 : fits b) (h3 : fits t) (hab : ¬ b < a) :
    Ct Try.prog 58 #[I a, I b, I t] W0 H [] (fun r H' B => r = .string (sb (passL a b t)) ∧ B = [] ∧ H' = H) := by
  refine Ct.go fun R => ?_
  haveI l1 : LenLe (dgs a) 20 := ⟨dgs_len h1⟩
  haveI l2 : LenLe (dgs b) 20 := ⟨dgs_len h2⟩
  haveI l3 : LenLe (dgs t) 20 := ⟨dgs_len h3⟩
  refine walk ?_
  refine ops_pcall rfl rfl (digits_spec h1) ?_
  refine walk ?_
  refine ops_pcall rfl rfl (digits_spec h2) ?_
  refine walk ?_
  refine ops_pcall rfl rfl (digits_spec h3) ?_
  refine walk ?_
  refine fin0 ?_
  refine ⟨?_, rfl, rfl⟩
  unfold passL
  rw [show min a b = a by omega, show max a b = b by omega]
theorem pass_spec {W0 : World} {H : Heap} {a b t : Int} (h1 : fits a) (h2 : fits b) (h3 : fits t) :
    Ct Try.prog 58 #[I a, I b, I t] W0 H [] (fun r H' B => r = .string (sb (passL a b t)) ∧ B = [] ∧ H' = H) := by
  by_cases hab : b < a
  · refine Ct.go fun R => ?_
    refine walk ?_
    refine ops_pcall rfl rfl (pass_le (a := b) (b := a) h2 h1 h3 (by omega)) ?_
    refine walk ?_
    refine fin0 ?_
    refine ⟨?_, rfl, rfl⟩
    unfold passL
    rw [Int.min_comm, Int.max_comm]
  · exact pass_le h1 h2 h3 hab
def keysFrom (s : Int) : List Int → List (List UInt8)
  | [] => []
  | [c] => [slotL c s]
  | c :: d :: r => (slotL c s :: if d = c then [] else [passL c d s]) ++ keysFrom (s + 1) (d :: r)
/-- the keys that a route needs -/
def keysL (x : Route) : List (List UInt8) := if plainR x then keysFrom x.Start x.Cells else []
set_option maxHeartbeats 8000000 in
theorem keys_spec {W0 : World} {H : Heap} {c : List Value} {x : Route} (h0 : rRoute H c x) :
    Ct Try.prog 52 #[.agg c.toArray] W0 H [] (fun r H' B => SlB rStr 1 16 H' r ((keysL x).map sb) ∧ B = []) := by
  refine Ct.go (vs := [.agg c.toArray]) fun R => ?_
  have g0 := h0
  obtain ⟨s, rfl, f0, h0⟩ := h0
  obtain ⟨b0, c0, rfl, hc0, hd0⟩ := h0.1.shape
  have k0 := h0.1
  have hfc := k0.fits
  refine walk ?_
  refine ops_box rfl rfl fun p1 _ => ?_
  refine walk ?_
  refine ex_L (ownS_nil (R := rStr) (sz := 1) (w := 16) (T := 9) (H := H) (base := none)) ?_
  by_cases hp : plainR x
  · have hpp := hp
    simp only [plainR] at hpp
    refine ex_loop (σ := Nat × Value × List (List UInt8)) (fun s => s.1 ≤ x.Cells.length ∧ s.2.2 ++ keysFrom (x.Start + s.1) (x.Cells.drop s.1) = keysFrom x.Start x.Cells ∧ s.2.2.length ≤ 2 * s.1) (fun s => [(1, .pointer (some ⟨p1, 0, none⟩)), (3, s.2.1), (4, I s.1)]) (fun _ => H) (fun s => row p1 28 (x.cv (.slice b0 x.Cells.length c0)) :: ownS rStr 1 16 9 H s.2.1 (s.2.2.map sb) :: R) (fun s => x.Cells.length - s.1) (0, nilS, []) ⟨Nat.zero_le _, by simp, by simp⟩ (hs0 := fun _ h => big_swap h) fun ⟨k, v, out⟩ ⟨hk0, hout, hlen⟩ K hL => ?_
    simp only at hk0 hout hlen
    dsimp only
    refine walkG ?_
    refine ops_gcall rfl rfl (fun hg => refPlain_spec g0) ?_
    refine walkG ?_
    refine ex_if rfl (fun hc => ?_) (fun hc => ?_)
    · have hk : k < x.Cells.length := by omega
      have hfk := hfc _ (List.getElem_mem hk)
      have hft : fits (x.Start + k) := by unfold fits; omega
      refine walk ?_
      refine ex_any 13 [row p1 28 (x.cv (.slice b0 x.Cells.length c0))] ?_
      (first | refine gny_p 0 rfl rfl rfl ?_ | refine gny_ld 0 rfl rfl rfl rfl ?_ | refine gny_ldH 0 rfl rfl rfl ‹HRow _ _ 0 _› rfl ?_ | refine gny_T 0 rfl rfl rfl ?_ | refine gny_F 0 rfl rfl rfl ?_ | refine gny_B 0 rfl rfl rfl ?_ | refine gny_skip 0 rfl rfl ?_ | refine gny_sp 0 rfl rfl rfl ?_ | refine gny_sB 0 rfl rfl rfl ?_ | refine gny_sld 0 rfl rfl rfl rfl ?_ | refine gny_sldH 0 rfl rfl rfl ‹HRow _ _ 0 _› rfl ?_ | refine gny_ldN 0 rfl rfl rfl rfl ?_ | refine gny_bld 0 rfl rfl rfl ?_); (first | refine gny_p 1 rfl rfl rfl ?_ | refine gny_ld 1 rfl rfl rfl rfl ?_ | refine gny_ldH 1 rfl rfl rfl ‹HRow _ _ 0 _› rfl ?_ | refine gny_T 1 rfl rfl rfl ?_ | refine gny_F 1 rfl rfl rfl ?_ | refine gny_B 1 rfl rfl rfl ?_ | refine gny_skip 1 rfl rfl ?_ | refine gny_sp 1 rfl rfl rfl ?_ | refine gny_sB 1 rfl rfl rfl ?_ | refine gny_sld 1 rfl rfl rfl rfl ?_ | refine gny_sldH 1 rfl rfl rfl ‹HRow _ _ 0 _› rfl ?_ | refine gny_ldN 1 rfl rfl rfl rfl ?_ | refine gny_bld 1 rfl rfl rfl ?_); (first | refine gny_p 2 rfl rfl rfl ?_ | refine gny_ld 2 rfl rfl rfl rfl ?_ | refine gny_ldH 2 rfl rfl rfl ‹HRow _ _ 0 _› rfl ?_ | refine gny_T 2 rfl rfl rfl ?_ | refine gny_F 2 rfl rfl rfl ?_ | refine gny_B 2 rfl rfl rfl ?_ | refine gny_skip 2 rfl rfl ?_ | refine gny_sp 2 rfl rfl rfl ?_ | refine gny_sB 2 rfl rfl rfl ?_ | refine gny_sld 2 rfl rfl rfl rfl ?_ | refine gny_sldH 2 rfl rfl rfl ‹HRow _ _ 0 _› rfl ?_ | refine gny_ldN 2 rfl rfl rfl rfl ?_ | refine gny_bld 2 rfl rfl rfl ?_); (first | refine gny_p 3 rfl rfl rfl ?_ | refine gny_ld 3 rfl rfl rfl rfl ?_ | refine gny_ldH 3 rfl rfl rfl ‹HRow _ _ 0 _› rfl ?_ | refine gny_T 3 rfl rfl rfl ?_ | refine gny_F 3 rfl rfl rfl ?_ | refine gny_B 3 rfl rfl rfl ?_ | refine gny_skip 3 rfl rfl ?_ | refine gny_sp 3 rfl rfl rfl ?_ | refine gny_sB 3 rfl rfl rfl ?_ | refine gny_sld 3 rfl rfl rfl rfl ?_ | refine gny_sldH 3 rfl rfl rfl ‹HRow _ _ 0 _› rfl ?_ | refine gny_ldN 3 rfl rfl rfl rfl ?_ | refine gny_bld 3 rfl rfl rfl ?_)
      refine gny_el 4 5 rfl rfl rfl rfl rfl k0 hk ?_
      (first | refine gny_p 6 rfl rfl rfl ?_ | refine gny_ld 6 rfl rfl rfl rfl ?_ | refine gny_ldH 6 rfl rfl rfl ‹HRow _ _ 0 _› rfl ?_ | refine gny_T 6 rfl rfl rfl ?_ | refine gny_F 6 rfl rfl rfl ?_ | refine gny_B 6 rfl rfl rfl ?_ | refine gny_skip 6 rfl rfl ?_ | refine gny_sp 6 rfl rfl rfl ?_ | refine gny_sB 6 rfl rfl rfl ?_ | refine gny_sld 6 rfl rfl rfl rfl ?_ | refine gny_sldH 6 rfl rfl rfl ‹HRow _ _ 0 _› rfl ?_ | refine gny_ldN 6 rfl rfl rfl rfl ?_ | refine gny_bld 6 rfl rfl rfl ?_); (first | refine gny_p 7 rfl rfl rfl ?_ | refine gny_ld 7 rfl rfl rfl rfl ?_ | refine gny_ldH 7 rfl rfl rfl ‹HRow _ _ 0 _› rfl ?_ | refine gny_T 7 rfl rfl rfl ?_ | refine gny_F 7 rfl rfl rfl ?_ | refine gny_B 7 rfl rfl rfl ?_ | refine gny_skip 7 rfl rfl ?_ | refine gny_sp 7 rfl rfl rfl ?_ | refine gny_sB 7 rfl rfl rfl ?_ | refine gny_sld 7 rfl rfl rfl rfl ?_ | refine gny_sldH 7 rfl rfl rfl ‹HRow _ _ 0 _› rfl ?_ | refine gny_ldN 7 rfl rfl rfl rfl ?_ | refine gny_bld 7 rfl rfl rfl ?_); (first | refine gny_p 8 rfl rfl rfl ?_ | refine gny_ld 8 rfl rfl rfl rfl ?_ | refine gny_ldH 8 rfl rfl rfl ‹HRow _ _ 0 _› rfl ?_ | refine gny_T 8 rfl rfl rfl ?_ | refine gny_F 8 rfl rfl rfl ?_ | refine gny_B 8 rfl rfl rfl ?_ | refine gny_skip 8 rfl rfl ?_ | refine gny_sp 8 rfl rfl rfl ?_ | refine gny_sB 8 rfl rfl rfl ?_ | refine gny_sld 8 rfl rfl rfl rfl ?_ | refine gny_sldH 8 rfl rfl rfl ‹HRow _ _ 0 _› rfl ?_ | refine gny_ldN 8 rfl rfl rfl rfl ?_ | refine gny_bld 8 rfl rfl rfl ?_); (first | refine gny_p 9 rfl rfl rfl ?_ | refine gny_ld 9 rfl rfl rfl rfl ?_ | refine gny_ldH 9 rfl rfl rfl ‹HRow _ _ 0 _› rfl ?_ | refine gny_T 9 rfl rfl rfl ?_ | refine gny_F 9 rfl rfl rfl ?_ | refine gny_B 9 rfl rfl rfl ?_ | refine gny_skip 9 rfl rfl ?_ | refine gny_sp 9 rfl rfl rfl ?_ | refine gny_sB 9 rfl rfl rfl ?_ | refine gny_sld 9 rfl rfl rfl rfl ?_ | refine gny_sldH 9 rfl rfl rfl ‹HRow _ _ 0 _› rfl ?_ | refine gny_ldN 9 rfl rfl rfl rfl ?_ | refine gny_bld 9 rfl rfl rfl ?_)
      refine gny_pcall 10 rfl rfl rfl (slot_spec hfk hft) ?_
      refine any_app1 11 12 (y := sb (slotL x.Cells[k] (x.Start + k))) rfl rfl rfl ⟨rfl, by rw [sb_size]; have := slotL_len hfk hft; simp only [cap47]; omega⟩ (by simp only [List.length_map, cap47]; omega) fun b2 c2 => ⟨(by (repeat (first | exact Sub.refl _ | exact Sub.nil _ | (apply sub_pick; (repeat (first | exact Has.here | apply Has.there)); skip) | apply Sub.drop))), ?_⟩
      refine any_rest rfl ?_
      refine walkG ?_
      have hsl := slotL_len hfk hft
      refine ex_if rfl (fun hq => ?_) (fun hq => ?_)
      · have hk1 : k + 1 < x.Cells.length := by omega
        have hg1 : x.Cells.getD (k + 1) default = x.Cells[k + 1] := by simp [List.getD, hk1]
        have hg0 : x.Cells.getD k default = x.Cells[k] := by simp [List.getD, hk]
        rw [hg0, hg1] at hq
        have hfk1 := hfc _ (List.getElem_mem hk1)
        rw [List.drop_eq_getElem_cons hk, List.drop_eq_getElem_cons hk1, keysFrom, if_neg hq.2, ← List.drop_eq_getElem_cons hk1] at hout
        refine walk ?_
        refine ex_any 19 [row p1 28 (x.cv (.slice b0 x.Cells.length c0))] ?_
        (first | refine gny_p 0 rfl rfl rfl ?_ | refine gny_ld 0 rfl rfl rfl rfl ?_ | refine gny_ldH 0 rfl rfl rfl ‹HRow _ _ 0 _› rfl ?_ | refine gny_T 0 rfl rfl rfl ?_ | refine gny_F 0 rfl rfl rfl ?_ | refine gny_B 0 rfl rfl rfl ?_ | refine gny_skip 0 rfl rfl ?_ | refine gny_sp 0 rfl rfl rfl ?_ | refine gny_sB 0 rfl rfl rfl ?_ | refine gny_sld 0 rfl rfl rfl rfl ?_ | refine gny_sldH 0 rfl rfl rfl ‹HRow _ _ 0 _› rfl ?_ | refine gny_ldN 0 rfl rfl rfl rfl ?_ | refine gny_bld 0 rfl rfl rfl ?_); (first | refine gny_p 1 rfl rfl rfl ?_ | refine gny_ld 1 rfl rfl rfl rfl ?_ | refine gny_ldH 1 rfl rfl rfl ‹HRow _ _ 0 _› rfl ?_ | refine gny_T 1 rfl rfl rfl ?_ | refine gny_F 1 rfl rfl rfl ?_ | refine gny_B 1 rfl rfl rfl ?_ | refine gny_skip 1 rfl rfl ?_ | refine gny_sp 1 rfl rfl rfl ?_ | refine gny_sB 1 rfl rfl rfl ?_ | refine gny_sld 1 rfl rfl rfl rfl ?_ | refine gny_sldH 1 rfl rfl rfl ‹HRow _ _ 0 _› rfl ?_ | refine gny_ldN 1 rfl rfl rfl rfl ?_ | refine gny_bld 1 rfl rfl rfl ?_); (first | refine gny_p 2 rfl rfl rfl ?_ | refine gny_ld 2 rfl rfl rfl rfl ?_ | refine gny_ldH 2 rfl rfl rfl ‹HRow _ _ 0 _› rfl ?_ | refine gny_T 2 rfl rfl rfl ?_ | refine gny_F 2 rfl rfl rfl ?_ | refine gny_B 2 rfl rfl rfl ?_ | refine gny_skip 2 rfl rfl ?_ | refine gny_sp 2 rfl rfl rfl ?_ | refine gny_sB 2 rfl rfl rfl ?_ | refine gny_sld 2 rfl rfl rfl rfl ?_ | refine gny_sldH 2 rfl rfl rfl ‹HRow _ _ 0 _› rfl ?_ | refine gny_ldN 2 rfl rfl rfl rfl ?_ | refine gny_bld 2 rfl rfl rfl ?_); (first | refine gny_p 3 rfl rfl rfl ?_ | refine gny_ld 3 rfl rfl rfl rfl ?_ | refine gny_ldH 3 rfl rfl rfl ‹HRow _ _ 0 _› rfl ?_ | refine gny_T 3 rfl rfl rfl ?_ | refine gny_F 3 rfl rfl rfl ?_ | refine gny_B 3 rfl rfl rfl ?_ | refine gny_skip 3 rfl rfl ?_ | refine gny_sp 3 rfl rfl rfl ?_ | refine gny_sB 3 rfl rfl rfl ?_ | refine gny_sld 3 rfl rfl rfl rfl ?_ | refine gny_sldH 3 rfl rfl rfl ‹HRow _ _ 0 _› rfl ?_ | refine gny_ldN 3 rfl rfl rfl rfl ?_ | refine gny_bld 3 rfl rfl rfl ?_)
        refine gny_el 4 5 rfl rfl rfl rfl rfl k0 hk ?_
        (first | refine gny_p 6 rfl rfl rfl ?_ | refine gny_ld 6 rfl rfl rfl rfl ?_ | refine gny_ldH 6 rfl rfl rfl ‹HRow _ _ 0 _› rfl ?_ | refine gny_T 6 rfl rfl rfl ?_ | refine gny_F 6 rfl rfl rfl ?_ | refine gny_B 6 rfl rfl rfl ?_ | refine gny_skip 6 rfl rfl ?_ | refine gny_sp 6 rfl rfl rfl ?_ | refine gny_sB 6 rfl rfl rfl ?_ | refine gny_sld 6 rfl rfl rfl rfl ?_ | refine gny_sldH 6 rfl rfl rfl ‹HRow _ _ 0 _› rfl ?_ | refine gny_ldN 6 rfl rfl rfl rfl ?_ | refine gny_bld 6 rfl rfl rfl ?_); (first | refine gny_p 7 rfl rfl rfl ?_ | refine gny_ld 7 rfl rfl rfl rfl ?_ | refine gny_ldH 7 rfl rfl rfl ‹HRow _ _ 0 _› rfl ?_ | refine gny_T 7 rfl rfl rfl ?_ | refine gny_F 7 rfl rfl rfl ?_ | refine gny_B 7 rfl rfl rfl ?_ | refine gny_skip 7 rfl rfl ?_ | refine gny_sp 7 rfl rfl rfl ?_ | refine gny_sB 7 rfl rfl rfl ?_ | refine gny_sld 7 rfl rfl rfl rfl ?_ | refine gny_sldH 7 rfl rfl rfl ‹HRow _ _ 0 _› rfl ?_ | refine gny_ldN 7 rfl rfl rfl rfl ?_ | refine gny_bld 7 rfl rfl rfl ?_); (first | refine gny_p 8 rfl rfl rfl ?_ | refine gny_ld 8 rfl rfl rfl rfl ?_ | refine gny_ldH 8 rfl rfl rfl ‹HRow _ _ 0 _› rfl ?_ | refine gny_T 8 rfl rfl rfl ?_ | refine gny_F 8 rfl rfl rfl ?_ | refine gny_B 8 rfl rfl rfl ?_ | refine gny_skip 8 rfl rfl ?_ | refine gny_sp 8 rfl rfl rfl ?_ | refine gny_sB 8 rfl rfl rfl ?_ | refine gny_sld 8 rfl rfl rfl rfl ?_ | refine gny_sldH 8 rfl rfl rfl ‹HRow _ _ 0 _› rfl ?_ | refine gny_ldN 8 rfl rfl rfl rfl ?_ | refine gny_bld 8 rfl rfl rfl ?_); (first | refine gny_p 9 rfl rfl rfl ?_ | refine gny_ld 9 rfl rfl rfl rfl ?_ | refine gny_ldH 9 rfl rfl rfl ‹HRow _ _ 0 _› rfl ?_ | refine gny_T 9 rfl rfl rfl ?_ | refine gny_F 9 rfl rfl rfl ?_ | refine gny_B 9 rfl rfl rfl ?_ | refine gny_skip 9 rfl rfl ?_ | refine gny_sp 9 rfl rfl rfl ?_ | refine gny_sB 9 rfl rfl rfl ?_ | refine gny_sld 9 rfl rfl rfl rfl ?_ | refine gny_sldH 9 rfl rfl rfl ‹HRow _ _ 0 _› rfl ?_ | refine gny_ldN 9 rfl rfl rfl rfl ?_ | refine gny_bld 9 rfl rfl rfl ?_)
        refine gny_el 10 11 (jj := k + 1) rfl rfl rfl rfl rfl k0 hk1 ?_
        (first | refine gny_p 12 rfl rfl rfl ?_ | refine gny_ld 12 rfl rfl rfl rfl ?_ | refine gny_ldH 12 rfl rfl rfl ‹HRow _ _ 0 _› rfl ?_ | refine gny_T 12 rfl rfl rfl ?_ | refine gny_F 12 rfl rfl rfl ?_ | refine gny_B 12 rfl rfl rfl ?_ | refine gny_skip 12 rfl rfl ?_ | refine gny_sp 12 rfl rfl rfl ?_ | refine gny_sB 12 rfl rfl rfl ?_ | refine gny_sld 12 rfl rfl rfl rfl ?_ | refine gny_sldH 12 rfl rfl rfl ‹HRow _ _ 0 _› rfl ?_ | refine gny_ldN 12 rfl rfl rfl rfl ?_ | refine gny_bld 12 rfl rfl rfl ?_); (first | refine gny_p 13 rfl rfl rfl ?_ | refine gny_ld 13 rfl rfl rfl rfl ?_ | refine gny_ldH 13 rfl rfl rfl ‹HRow _ _ 0 _› rfl ?_ | refine gny_T 13 rfl rfl rfl ?_ | refine gny_F 13 rfl rfl rfl ?_ | refine gny_B 13 rfl rfl rfl ?_ | refine gny_skip 13 rfl rfl ?_ | refine gny_sp 13 rfl rfl rfl ?_ | refine gny_sB 13 rfl rfl rfl ?_ | refine gny_sld 13 rfl rfl rfl rfl ?_ | refine gny_sldH 13 rfl rfl rfl ‹HRow _ _ 0 _› rfl ?_ | refine gny_ldN 13 rfl rfl rfl rfl ?_ | refine gny_bld 13 rfl rfl rfl ?_); (first | refine gny_p 14 rfl rfl rfl ?_ | refine gny_ld 14 rfl rfl rfl rfl ?_ | refine gny_ldH 14 rfl rfl rfl ‹HRow _ _ 0 _› rfl ?_ | refine gny_T 14 rfl rfl rfl ?_ | refine gny_F 14 rfl rfl rfl ?_ | refine gny_B 14 rfl rfl rfl ?_ | refine gny_skip 14 rfl rfl ?_ | refine gny_sp 14 rfl rfl rfl ?_ | refine gny_sB 14 rfl rfl rfl ?_ | refine gny_sld 14 rfl rfl rfl rfl ?_ | refine gny_sldH 14 rfl rfl rfl ‹HRow _ _ 0 _› rfl ?_ | refine gny_ldN 14 rfl rfl rfl rfl ?_ | refine gny_bld 14 rfl rfl rfl ?_); (first | refine gny_p 15 rfl rfl rfl ?_ | refine gny_ld 15 rfl rfl rfl rfl ?_ | refine gny_ldH 15 rfl rfl rfl ‹HRow _ _ 0 _› rfl ?_ | refine gny_T 15 rfl rfl rfl ?_ | refine gny_F 15 rfl rfl rfl ?_ | refine gny_B 15 rfl rfl rfl ?_ | refine gny_skip 15 rfl rfl ?_ | refine gny_sp 15 rfl rfl rfl ?_ | refine gny_sB 15 rfl rfl rfl ?_ | refine gny_sld 15 rfl rfl rfl rfl ?_ | refine gny_sldH 15 rfl rfl rfl ‹HRow _ _ 0 _› rfl ?_ | refine gny_ldN 15 rfl rfl rfl rfl ?_ | refine gny_bld 15 rfl rfl rfl ?_)
        refine gny_pcall 16 rfl rfl rfl (pass_spec hfk hfk1 hft) ?_
        refine any_app1 17 18 (y := sb (passL x.Cells[k] x.Cells[k + 1] (x.Start + k))) rfl rfl rfl ⟨rfl, by rw [sb_size]; have := passL_len hfk hfk1 hft; simp only [cap47]; omega⟩ (by simp only [List.length_append, List.length_map, List.length_cons, List.length_nil, cap47]; omega) fun b3 c3 => ⟨(by (repeat (first | exact Sub.refl _ | exact Sub.nil _ | (apply sub_pick; (repeat (first | exact Has.here | apply Has.there)); skip) | apply Sub.drop))), ?_⟩
        refine any_rest rfl ?_
        refine walk ?_
        refine out_next hL (k + 1, .slice b3 ((out.map sb ++ [sb (slotL x.Cells[k] (x.Start + k))]).length + 1) c3, out ++ [slotL x.Cells[k] (x.Start + k)] ++ [passL x.Cells[k] x.Cells[k + 1] (x.Start + k)]) ⟨by simp only; omega, ?_, by simp; omega⟩ (hs := ?_)
        · simp only
          rw [← hout, show x.Start + ((k + 1 : Nat) : Int) = x.Start + k + 1 by omega]
          simp
        · simp only [List.map_append, List.map_cons, List.map_nil]
          (repeat (first | exact Sub.refl _ | exact Sub.nil _ | (apply sub_pick; (repeat (first | exact Has.here | apply Has.there)); skip) | apply Sub.drop))
      · have hout2 : out ++ [slotL x.Cells[k] (x.Start + k)] ++ keysFrom (x.Start + (k + 1 : Nat)) (x.Cells.drop (k + 1)) = keysFrom x.Start x.Cells := by
          rw [← hout, List.drop_eq_getElem_cons hk]
          by_cases hk1 : k + 1 < x.Cells.length
          · have hg1 : x.Cells.getD (k + 1) default = x.Cells[k + 1] := by simp [List.getD, hk1]
            have hg0 : x.Cells.getD k default = x.Cells[k] := by simp [List.getD, hk]
            rw [hg0, hg1] at hq
            have he : x.Cells[k + 1] = x.Cells[k] := Classical.byContradiction fun e => hq ⟨by omega, e⟩
            rw [List.drop_eq_getElem_cons hk1, keysFrom, if_pos he, show x.Start + ((k + 1 : Nat) : Int) = x.Start + k + 1 by omega]
            simp
          · rw [List.drop_eq_nil_of_le (i := k + 1) (by omega), keysFrom, keysFrom]; simp
        refine walk ?_
        refine out_next hL (k + 1, .slice b2 ((out.map sb).length + 1) c2, out ++ [slotL x.Cells[k] (x.Start + k)]) ⟨by simp only; omega, hout2, by simp; omega⟩ (hs := ?_)
        simp only [List.map_append, List.map_cons, List.map_nil]
        (repeat (first | exact Sub.refl _ | exact Sub.nil _ | (apply sub_pick; (repeat (first | exact Has.here | apply Has.there)); skip) | apply Sub.drop))
    · clear hL
      have hke : k = x.Cells.length := by have : ¬ ((k : Int) < x.Cells.length) := fun e => hc ⟨e, hp⟩; omega
      subst hke
      rw [List.drop_length, keysFrom, List.append_nil] at hout
      refine walk ?_
      refine out_freeze v fun H1 hl1 hf => ?_
      refine fin0 ?_
      refine ⟨?_, rfl⟩
      unfold keysL
      rw [if_pos hp, ← hout]; exact hf
  · refine ex_loop (σ := Unit) (fun _ => True) (fun _ => [(1, .pointer (some ⟨p1, 0, none⟩)), (3, nilS), (4, I 0)]) (fun _ => H) (fun _ => row p1 28 (x.cv (.slice b0 x.Cells.length c0)) :: R) (fun _ => 0) () trivial fun _ _ K hL => ?_
    clear hL
    refine walkG ?_
    refine ops_gcall rfl rfl (fun hg => refPlain_spec g0) ?_
    refine walkG ?_
    refine ex_if rfl (fun hc => absurd hc.2 hp) (fun hc => ?_)
    refine walk ?_
    refine fin0 ?_
    refine ⟨?_, rfl⟩
    unfold keysL
    rw [if_neg hp]; exact SlB.nil
instance : LawfulBEq ByteArray where
  eq_of_beq h := by rw [ba_beq] at h; simpa using h
  rfl := fun {a} => by rw [ba_beq]; simp
instance decEx {l m : List ByteArray} : Decidable (∃ s ∈ l, s ∈ m) := List.decidableBEx (fun s => s ∈ m) l
theorem common_spec {W0 : World} {H : Heap} {c d : List Value} {x y : Route} (h0 : rRoute H c x) (h1 : rRoute H d y) :
    Ct Try.prog 47 #[.agg c.toArray, .agg d.toArray] W0 H [] (fun r H' B => r = .bool (decide (∃ s ∈ (keysL x).map sb, s ∈ (keysL y).map sb)) ∧ B = []) := by
  refine Ct.go (vs := [.agg c.toArray, .agg d.toArray]) fun R => ?_
  obtain ⟨s0, rfl, f0, h0⟩ := h0
  obtain ⟨s1, rfl, f1, h1⟩ := h1
  refine walk ?_
  refine ops_box rfl rfl fun p2 _ => ?_
  refine ops_box rfl rfl fun p3 _ => ?_
  refine walk ?_
  refine ex_any 4 [row p2 28 (x.cv s0), row p3 28 (y.cv s1)] ?_
  (first | refine gny_p 0 rfl rfl rfl ?_ | refine gny_ld 0 rfl rfl rfl rfl ?_ | refine gny_ldH 0 rfl rfl rfl ‹HRow _ _ 0 _› rfl ?_ | refine gny_T 0 rfl rfl rfl ?_ | refine gny_F 0 rfl rfl rfl ?_ | refine gny_B 0 rfl rfl rfl ?_ | refine gny_skip 0 rfl rfl ?_ | refine gny_sp 0 rfl rfl rfl ?_ | refine gny_sB 0 rfl rfl rfl ?_ | refine gny_sld 0 rfl rfl rfl rfl ?_ | refine gny_sldH 0 rfl rfl rfl ‹HRow _ _ 0 _› rfl ?_ | refine gny_ldN 0 rfl rfl rfl rfl ?_ | refine gny_bld 0 rfl rfl rfl ?_); (first | refine gny_p 2 rfl rfl rfl ?_ | refine gny_ld 2 rfl rfl rfl rfl ?_ | refine gny_ldH 2 rfl rfl rfl ‹HRow _ _ 0 _› rfl ?_ | refine gny_T 2 rfl rfl rfl ?_ | refine gny_F 2 rfl rfl rfl ?_ | refine gny_B 2 rfl rfl rfl ?_ | refine gny_skip 2 rfl rfl ?_ | refine gny_sp 2 rfl rfl rfl ?_ | refine gny_sB 2 rfl rfl rfl ?_ | refine gny_sld 2 rfl rfl rfl rfl ?_ | refine gny_sldH 2 rfl rfl rfl ‹HRow _ _ 0 _› rfl ?_ | refine gny_ldN 2 rfl rfl rfl rfl ?_ | refine gny_bld 2 rfl rfl rfl ?_)
  refine gny_call 1 rfl rfl rfl (keys_spec (x := x) ⟨_, rfl, f0, h0⟩) fun r1 H1 B hl1 ⟨q1, eB⟩ => ?_
  subst eB
  refine ⟨(by (repeat (first | exact Sub.refl _ | exact Sub.nil _ | (apply sub_pick; (repeat (first | exact Has.here | apply Has.there)); skip) | apply Sub.drop))), ?_⟩
  refine gny_call 3 rfl rfl rfl (keys_spec (x := y) ⟨_, rfl, f1, h1.mono hl1⟩) fun r2 H2 B hl2 ⟨q2, eB⟩ => ?_
  subst eB
  refine ⟨(by (repeat (first | exact Sub.refl _ | exact Sub.nil _ | (apply sub_pick; (repeat (first | exact Has.here | apply Has.there)); skip) | apply Sub.drop))), ?_⟩
  refine any_rest rfl ?_
  generalize (keysL x).map sb = l at *
  generalize (keysL y).map sb = m at *
  have q1 := (q1.mono hl2).1
  have q2 := q2.1
  obtain ⟨b0, c0, rfl, hc0, hd0⟩ := q1.shape
  obtain ⟨b1, c1, rfl, hc1, hd1⟩ := q2.shape
  refine walk ?_
  refine ex_loop (fun k => k ≤ l.length ∧ ∀ s ∈ l.take k, s ∉ m) (fun k => [(5, .slice b0 l.length c0), (6, .slice b1 m.length c1), (7, I k)]) (fun _ => H2) (fun _ => R) (fun k => l.length - k) 0 ⟨Nat.zero_le _, by simp⟩ fun k ⟨hk0, ht⟩ K hL => ?_
  refine walk ?_
  refine ex_if rfl (fun hk => ?_) (fun hk => ?_)
  · have hk1 : k < l.length := by omega
    refine walk ?_
    refine ex_loop (fun j => j ≤ m.length ∧ l[k] ∉ m.take j) (fun j => [(5, .slice b0 l.length c0), (6, .slice b1 m.length c1), (7, I k), (8, I j)]) (fun _ => H2) (fun _ => R) (fun j => m.length - j) 0 ⟨Nat.zero_le _, by simp⟩ fun j ⟨hj0, hj⟩ K2 hL2 => ?_
    refine walk ?_
    refine ex_if rfl (fun hjk => ?_) (fun hjk => ?_)
    · have hj1 : j < m.length := by omega
      refine walk ?_
      refine ex_if rfl (fun he => ?_) (fun he => ?_)
      · refine walk ?_
        refine fin0 ?_
        refine ⟨?_, rfl⟩
        rw [decide_eq_true (p := ∃ s ∈ l, s ∈ m) ⟨_, List.getElem_mem hk1, he ▸ List.getElem_mem hj1⟩]
      · refine walk ?_
        refine out_next hL2 (j + 1) ⟨by omega, ?_⟩
        rw [List.take_succ_eq_append_getElem hj1]
        simp only [List.mem_append, List.mem_singleton, not_or]
        exact ⟨hj, he⟩
    · clear hL2
      obtain rfl : j = m.length := by omega
      rw [List.take_length] at hj
      refine walk ?_
      refine out_next hL (k + 1) ⟨by omega, ?_⟩
      rw [List.take_succ_eq_append_getElem hk1]
      intro s hs
      rcases List.mem_append.1 hs with hs | hs
      · exact ht s hs
      · rw [List.mem_singleton.1 hs]; exact hj
  · clear hL
    obtain rfl : k = l.length := by omega
    rw [List.take_length] at ht
    refine walk ?_
    refine fin0 ?_
    refine ⟨?_, rfl⟩
    rw [decide_eq_false (p := ∃ s ∈ l, s ∈ m) (fun ⟨s, h1, h2⟩ => ht s h1 h2)]
end Go.Proofs.Ytnfmjkjhiolfdaa
