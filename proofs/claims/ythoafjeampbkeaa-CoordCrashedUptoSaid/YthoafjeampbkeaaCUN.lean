/- CoordHears, walked. -/
import Derived.Test.YthoafjeampbkeaaCUM
import Derived.Test.YthoafjeampbkeaaCTV
set_option linter.unusedVariables false
set_option linter.unusedSimpArgs false
namespace Go.Proofs.Ythoafjeampbkeaa
open Go Go.Sx Go.Proofs
set_option maxHeartbeats 16000000 in
set_option maxRecDepth 20000 in
theorem coordHears_spec {W0 : World} {H : Heap} {v : Value} {node : Int} {script : List Op} (hf : fits node) (h0 : SlB rOp 22 256 H v script) :
    Ct Try.prog 6 #[I node, v] W0 H [] (fun r H' B => r = .bool true ∧ B = []) := by
  refine Ct.go (vs := [I node, v]) fun R => ?_
  obtain ⟨b0, c0, rfl, hc0, hd0⟩ := h0.1.shape
  refine walk ?_
  refine ops_call rfl rfl (cnew_spec (node := node) (life := 1)) fun r1 H1 B hl1 ⟨p, er, eB, eH⟩ => ?_
  subst er eB eH
  refine walk ?_
  refine ops_alloc rfl fun p6 _ => ?_
  refine walk ?_
  refine ops_call (vs := []) rfl rfl cawake_spec fun r2 H2 B hl2 ⟨er, eB⟩ => ?_
  subst er eB
  refine walk ?_
  refine ex_loop (σ := Nat × Nat × CS × Coord × (Option Addr × Nat) × Heap) (fun u => ((u.1 ≤ script.length ∧ u.1 ≤ 60) ∧ u.2.2.1.node = node) ∧ H1.le u.2.2.2.2.2 ∧ PI u.1 u.2.2.1 u.2.2.2.1 ∧ rCoord u.2.2.2.2.2 (CA u.2.2.2.2.1 u.2.2.2.1) u.2.2.2.1) (fun u => [(1, .slice b0 script.length c0), (5, .pointer (some ⟨u.2.1, 0, none⟩)), (6, .pointer (some ⟨p6, 0, none⟩)), (7, I u.1)]) (fun u => u.2.2.2.2.2) (fun u => coordO u.2.2.2.2.2 u.2.1 u.2.2.1 :: row p6 35 (CA u.2.2.2.2.1 u.2.2.2.1) :: R) (fun u => script.length - u.1) (0, p, ⟨node, 1, 0, []⟩, ⟨node, 1, 0, []⟩, (none, 0), H2) ⟨⟨⟨Nat.zero_le _, by omega⟩, rfl⟩, hl2, pi0 hf, ⟨nilS, rfl, hf, fit1c, fits0, SlB.nil⟩⟩ (hs0 := ?_) fun ⟨k, q, s, m, ⟨bm, cm⟩, HK⟩ ⟨⟨⟨hk0, hk60⟩, hnd⟩, hlK, hpi, hrc⟩ K hL => ?_
  rotate_left
  · refine Sub.trans ?_ (coord_up hl2)
    (repeat (first | exact Sub.refl _ | exact Sub.nil _ | (apply sub_pick; (repeat (first | exact Has.here | apply Has.there)); skip) | apply Sub.drop))
  simp only at hk0 hk60 hnd hlK hpi hrc
  dsimp only
  refine walkG ?_
  refine ex_if rfl (fun hk => ?_) (fun hk => ?_)
  · have hk1 : k < script.length := by omega
    refine walk ?_
    refine ex_any 6 [row p6 35 (CA (bm, cm) m)] ?_
    refine stepY 0 ?_; refine stepY 1 ?_; refine stepY 2 ?_; refine stepY 3 ?_
    refine gny_ixp 4 rfl rfl rfl (h0.mono hlK).1 hk1 fun b o cc hr hc => ?_
    have hc0 := hc
    obtain ⟨u1, u2, u3, u4, u5, rfl, _⟩ := hc
    refine gny_ldNH 5 rfl rfl rfl hr rfl ?_
    refine any_stage 13 [] ?_
    refine gny_call 6 rfl rfl rfl (play_spec (W0 := W0) (H := HK) (p := q) (k := k) (s := s) (m := m) (mv := script[k]) (c := CA (bm, cm) m) hpi (by omega) hrc hc0) fun r5 H5 B hl5 ⟨p', s', m', c', er, hc', hpi', hnn, eB⟩ => ?_
    subst er eB
    refine ⟨(by (repeat (first | exact Sub.refl _ | exact Sub.nil _ | (apply sub_pick; (repeat (first | exact Has.here | apply Has.there)); skip) | apply Sub.drop))), ?_⟩
    obtain ⟨⟨bn, cn⟩, rfl⟩ := CA_of hc'
    refine stepY 7 ?_
    refine gny_ext 8 rfl rfl rfl rfl ?_
    refine gny_ext 9 rfl rfl rfl rfl ?_
    refine gny_ext 10 rfl rfl rfl rfl ?_
    refine stepY 11 ?_
    refine any_sta 12 rfl rfl rfl rfl (by simp) rfl ⟨(by (repeat (first | exact Sub.refl _ | exact Sub.nil _ | (apply sub_pick; (repeat (first | exact Has.here | apply Has.there)); skip) | apply Sub.drop))), ?_⟩
    refine any_rest rfl ?_
    refine walk ?_
    exact out_next hL (k + 1, p', s', m', (bn, cn), H5) ⟨⟨⟨by simp only; omega, by simp only; omega⟩, hnn.trans hnd⟩, hlK.trans hl5, hpi', hc'⟩
  clear hL
  refine walk ?_
  refine fin0 ?_
  exact ⟨rfl, rfl⟩
end Go.Proofs.Ythoafjeampbkeaa
