/- A coordinator: what is said again by an open one, its parts kept apart. -/
import Derived.Test.YthoafjeampbkeaaN4
set_option linter.unusedVariables false
set_option linter.unusedSimpArgs false
namespace Go.Proofs.Ythoafjeampbkeaa
open Go Go.Sx Go.Proofs
set_option maxHeartbeats 8000000 in
set_option maxRecDepth 20000 in
theorem againP_spec {W0 : World} {H H1 : Heap} {p mb ep hb : Nat} {s : CS} {x : Txn} {began : Int} {parts : List Int} {works : List (Int × CW)} {heard : List (Int × Int)} {b0 : Option Addr} {c0 : Nat} (hl1 : H1.le H) (hn : fits s.node) (hx : fits x.Node ∧ fits x.Life ∧ fits x.Count) (hv : ∀ q ∈ heard, q.2 = 1) (hp : ∀ q ∈ parts, fits q) (hpl : parts.length ≤ 1000000) (hsl2 : SlB rInt 1 8 H1 (.slice b0 parts.length c0) parts) :
    Ct Try.prog 27 #[.pointer (some ⟨p, 0, none⟩), .agg x.cv.toArray, .pointer (some ⟨ep, 0, none⟩)] W0 H [cRow p mb s, xRowC ep true began (.slice b0 parts.length c0) (.map none) hb, mapO iK rInt false H1 hb heard] (fun r H' B => B = [ownS rMessage 19 216 53 H' r (againL s.node x ⟨true, began, parts, works, heard⟩), cRow p mb s, xRowC ep true began (.slice b0 parts.length c0) (.map none) hb, mapO iK rInt false H1 hb heard]) := by
  refine Ct.go (vs := [.pointer (some ⟨p, 0, none⟩), .agg x.cv.toArray, .pointer (some ⟨ep, 0, none⟩)]) fun R => ?_
  obtain ⟨x1, x2, x3⟩ := x
  have hcap : (1000001 : Nat) * 216 ≤ cap47 := by decide
  obtain ⟨_, _, e0, hc0, hd0⟩ := hsl2.1.shape
  cases e0
  refine walk ?_
  refine ops_box rfl rfl fun p4 _ => ?_
  refine walk ?_
  refine ex_L (L' := xRowC ep true began (.slice b0 parts.length c0) (.map none) hb :: mapO iK rInt false H1 hb heard :: row p4 28 [I x1, I x2, I x3] :: cRow p mb s :: R) (by (repeat (first | exact Sub.refl _ | exact Sub.nil _ | (apply sub_pick; (repeat (first | exact Has.here | apply Has.there)); skip) | apply Sub.drop))) ?_
  have hdd := TX.hd0 (t := ⟨true, began, parts, works, heard⟩) hv
  refine ex_loop (σ := Nat × Option Addr × Nat × Heap) (fun u => u.1 ≤ parts.length ∧ H.le u.2.2.2) (fun u => [(0, .pointer (some ⟨p, 0, none⟩)), (2, .pointer (some ⟨ep, 0, none⟩)), (4, .pointer (some ⟨p4, 0, none⟩)), (7, .slice u.2.1 (saidL s.node ⟨x1, x2, x3⟩ ⟨true, began, parts, works, heard⟩ u.1).length u.2.2.1), (14, .slice b0 parts.length c0), (15, I parts.length), (16, I u.1)]) (fun u => u.2.2.2)
    (fun u => ownS rMessage 19 216 53 u.2.2.2 (.slice u.2.1 (saidL s.node ⟨x1, x2, x3⟩ ⟨true, began, parts, works, heard⟩ u.1).length u.2.2.1) (saidL s.node ⟨x1, x2, x3⟩ ⟨true, began, parts, works, heard⟩ u.1) :: xRowC ep true began (.slice b0 parts.length c0) (.map none) hb :: mapO iK rInt false H1 hb heard :: row p4 28 [I x1, I x2, I x3] :: cRow p mb s :: R) (fun u => parts.length - u.1) (0, none, 0, H) ⟨Nat.zero_le _, .refl _⟩ (hs0 := ?_) fun ⟨j, d, e, HK⟩ ⟨hj0, hlK⟩ K hL => ?_
  rotate_left
  · show Sub _ (ownS rMessage 19 216 53 H (.slice none 0 0) [] :: _)
    refine Sub.trans ?_ ownS_nil
    (repeat (first | exact Sub.refl _ | exact Sub.nil _ | (apply sub_pick; (repeat (first | exact Has.here | apply Has.there)); skip) | apply Sub.drop))
  simp only at hj0 hlK
  dsimp only
  refine walk ?_
  refine ex_if rfl (fun hj => ?_) (fun hj => ?_)
  · have hj1 : j < parts.length := by omega
    have hfp := hp _ (List.getElem_mem hj1)
    have hslK : SlR rInt 1 HK (.slice b0 parts.length c0) parts := (hsl2.mono (hl1.trans hlK)).1
    refine walk ?_
    refine ops_lkA (RV := rInt) (ag := false) (z := 0) rfl rfl (by repeat (first | exact Has.here | apply Has.there)) ?_
    refine walk ?_
    refine ex_if rfl (fun hq => ?_) (fun hq => ?_)
    · have hh : (⟨true, began, parts, works, heard⟩ : TX).hd parts[j] = true := by
        cases hh : (⟨true, began, parts, works, heard⟩ : TX).hd parts[j] with
        | true => rfl
        | false => exact absurd ((hdd _).2 hh) hq
      rw [← saidL_no (n := s.node) (x := ⟨x1, x2, x3⟩) (t := ⟨true, began, parts, works, heard⟩) hj1 hh]
      refine walk ?_
      exact out_next hL (j + 1, d, e, HK) ⟨by simp only; omega, hlK⟩
    have hh : (⟨true, began, parts, works, heard⟩ : TX).hd parts[j] = false := (hdd _).1 (Classical.not_not.1 hq)
    refine walk ?_
    refine ex_any 15 [row p4 28 [I x1, I x2, I x3], xRowC ep true began (.slice b0 parts.length c0) (.map none) hb, cRow p mb s] ?_
    refine stepY 0 ?_; refine stepY 1 ?_; refine stepY 2 ?_; refine stepY 3 ?_; refine stepY 4 ?_; refine stepY 5 ?_; refine stepY 6 ?_; refine stepY 7 ?_; refine stepY 8 ?_; refine stepY 9 ?_; refine stepY 10 ?_
    refine gny_lkNil 11 (ek := iK) (z := .agg #[I 0, nilS, nilS]) rfl rfl rfl ?_
    refine any_ca 12 14 rfl rfl rfl (cOwn_spec (W0 := W0) (H := HK) (m := zWork) (c := [I 0, nilS, nilS]) zWork_rd) (fun r5 H5 B hl5 ⟨cs5, er, hcs5, eB⟩ => ?_) (fun p10 _ => ?_)
    · subst er eB
      refine ⟨(by (repeat (first | exact Sub.refl _ | exact Sub.nil _ | (apply sub_pick; (repeat (first | exact Has.here | apply Has.there)); skip) | apply Sub.drop))), ?_⟩
      obtain ⟨u1, u2, rfl, _, hu1, hu2⟩ := hcs5
      obtain ⟨ub1, uc1, rfl, _, _⟩ := hu1.1.shape
      obtain ⟨ub2, uc2, rfl, _, _⟩ := hu2.1.shape
      refine stepY 13 ?_
      refine gny_alloc 14 rfl rfl fun p10 _ => ?_
      refine any_rest rfl ?_
      refine walk ?_
      refine ex_any 7 [row p4 28 [I x1, I x2, I x3], cRow p mb s] ?_
      refine stepY 0 ?_; refine stepY 1 ?_; refine stepY 2 ?_; refine stepY 3 ?_; refine stepY 4 ?_; refine stepY 5 ?_; refine stepY 6 ?_
      refine any_rest rfl ?_
      refine walk ?_
      have hsy := saidL_yes (n := s.node) (x := ⟨x1, x2, x3⟩) (t := ⟨true, began, parts, works, heard⟩) hj1 hh
      have hln := saidL_len (n := s.node) (x := ⟨x1, x2, x3⟩) (t := ⟨true, began, parts, works, heard⟩) (j := j)
      refine ops_app1 (y := decM s.node ⟨x1, x2, x3⟩ parts[j] true) rfl rfl rfl (decM_reads hn hfp hx) (by simp only at hln; simp only [cap47] at hcap ⊢; omega) fun d3 e3 => ?_
      rw [show (saidL s.node ⟨x1, x2, x3⟩ ⟨true, began, parts, works, heard⟩ j).length + 1 = (saidL s.node ⟨x1, x2, x3⟩ ⟨true, began, parts, works, heard⟩ (j + 1)).length by rw [hsy, List.length_append]; rfl, show saidL s.node ⟨x1, x2, x3⟩ ⟨true, began, parts, works, heard⟩ j ++ [decM s.node ⟨x1, x2, x3⟩ parts[j] true] = saidL s.node ⟨x1, x2, x3⟩ ⟨true, began, parts, works, heard⟩ (j + 1) from hsy.symm]
      refine walk ?_
      exact out_next hL (j + 1, d3, e3, H5) ⟨by simp only; omega, hlK.trans hl5⟩
    · refine any_call 12 rfl rfl (cOwn_spec (W0 := W0) (H := HK) (m := zWork) (c := [I 0, nilS, nilS]) zWork_rd) fun r5 H5 B hl5 ⟨cs5, er, hcs5, eB⟩ => ?_
      subst er eB
      refine ⟨(by (repeat (first | exact Sub.refl _ | exact Sub.nil _ | (apply sub_pick; (repeat (first | exact Has.here | apply Has.there)); skip) | apply Sub.drop))), ?_⟩
      obtain ⟨u1, u2, rfl, _, hu1, hu2⟩ := hcs5
      obtain ⟨ub1, uc1, rfl, _, _⟩ := hu1.1.shape
      obtain ⟨ub2, uc2, rfl, _, _⟩ := hu2.1.shape
      refine stepY 13 ?_
      refine any_rest rfl ?_
      refine walk ?_
      refine ex_any 7 [row p4 28 [I x1, I x2, I x3], cRow p mb s] ?_
      refine stepY 0 ?_; refine stepY 1 ?_; refine stepY 2 ?_; refine stepY 3 ?_; refine stepY 4 ?_; refine stepY 5 ?_; refine stepY 6 ?_
      refine any_rest rfl ?_
      refine walk ?_
      have hsy := saidL_yes (n := s.node) (x := ⟨x1, x2, x3⟩) (t := ⟨true, began, parts, works, heard⟩) hj1 hh
      have hln := saidL_len (n := s.node) (x := ⟨x1, x2, x3⟩) (t := ⟨true, began, parts, works, heard⟩) (j := j)
      refine ops_app1 (y := decM s.node ⟨x1, x2, x3⟩ parts[j] true) rfl rfl rfl (decM_reads hn hfp hx) (by simp only at hln; simp only [cap47] at hcap ⊢; omega) fun d3 e3 => ?_
      rw [show (saidL s.node ⟨x1, x2, x3⟩ ⟨true, began, parts, works, heard⟩ j).length + 1 = (saidL s.node ⟨x1, x2, x3⟩ ⟨true, began, parts, works, heard⟩ (j + 1)).length by rw [hsy, List.length_append]; rfl, show saidL s.node ⟨x1, x2, x3⟩ ⟨true, began, parts, works, heard⟩ j ++ [decM s.node ⟨x1, x2, x3⟩ parts[j] true] = saidL s.node ⟨x1, x2, x3⟩ ⟨true, began, parts, works, heard⟩ (j + 1) from hsy.symm]
      refine walk ?_
      exact out_next hL (j + 1, d3, e3, H5) ⟨by simp only; omega, hlK.trans hl5⟩
  · clear hL
    obtain rfl : j = parts.length := by omega
    refine walk ?_
    have hfin : saidL s.node ⟨x1, x2, x3⟩ ⟨true, began, parts, works, heard⟩ parts.length = againL s.node ⟨x1, x2, x3⟩ ⟨true, began, parts, works, heard⟩ := by simp [saidL, againL]
    rw [hfin]
    refine finB [ownS rMessage 19 216 53 HK (.slice d (againL s.node ⟨x1, x2, x3⟩ ⟨true, began, parts, works, heard⟩).length e) (againL s.node ⟨x1, x2, x3⟩ ⟨true, began, parts, works, heard⟩), cRow p mb s, xRowC ep true began (.slice b0 parts.length c0) (.map none) hb, mapO iK rInt false H1 hb heard] ?_
    exact rfl
end Go.Proofs.Ythoafjeampbkeaa
