/- The law's tells. -/
import Derived.Test.YthoafjeampbkeaaCTX
import Derived.Test.YthoafjeampbkeaaCTW
import Derived.Test.YthoafjeampbkeaaCTM
set_option linter.unusedVariables false
set_option linter.unusedSimpArgs false
namespace Go.Proofs.Ythoafjeampbkeaa
open Go Go.Sx Go.Proofs
theorem flt_get {α : Type} {p : α → Bool} {l : List α} {k : Nat} (hk : k < l.length) (hp : p l[k] = true) : ∃ h : ((l.take k).filter p).length < (l.filter p).length, (l.filter p)[((l.take k).filter p).length] = l[k] := by
  have h1 : l = l.take k ++ l[k] :: l.drop (k + 1) := by rw [List.getElem_cons_drop, List.take_append_drop]
  have h2 : l.filter p = (l.take k).filter p ++ l[k] :: (l.drop (k + 1)).filter p := by
    conv => lhs; rw [h1]
    rw [List.filter_append, List.filter_cons_of_pos hp]
  have h3 : ((l.take k).filter p).length < (l.filter p).length := by rw [h2]; simp
  refine ⟨h3, ?_⟩
  have : (l.filter p)[((l.take k).filter p).length]? = some l[k] := by rw [h2]; simp
  exact (List.getElem?_eq_some_iff.1 this).2
set_option maxHeartbeats 8000000 in
set_option maxRecDepth 20000 in
theorem ctells_spec {W0 : World} {H : Heap} {p n : Nat} {s : CS} {m : Coord} {c : List Value} (I0 : CInv n s) (hn : n ≤ 1000) (hpl : ∀ k t, mget k s.ts = some t → t.parts.length * 8 ≤ cap47) (r : CRel s m) (h0 : rCoord H c m) :
    Ct Try.prog 23 #[.pointer (some ⟨p, 0, none⟩), .agg c.toArray] W0 H [coordO H p s] (fun v H' B => v = .bool true ∧ B = [coordO H' p s]) := by
  refine Ct.go (vs := [.pointer (some ⟨p, 0, none⟩), .agg c.toArray]) fun R => ?_
  have h00 := h0
  have hv := r.voting I0
  have ho := r.open I0
  have hln : m.Txns.length ≤ 1000 := by
    have h1 := congrArg List.length (r.all I0)
    rw [List.length_map, allC_len] at h1
    have := I0.ln
    omega
  obtain ⟨s1, rfl, f1, f2, f3, hs1⟩ := h0
  obtain ⟨b1, c1, rfl, hc1, hd1⟩ := hs1.1.shape
  obtain ⟨nd, lf, ct, l⟩ := m
  dsimp only at hs1 hc1 hv ho hln
  refine walk ?_
  refine ops_box rfl rfl fun p3 _ => ?_
  refine walk ?_
  refine ops_call rfl rfl (voting_spec (W0 := W0) (H := H) (p := p) I0 hn) fun r1 H1 B hl1 eB => ?_
  subst eB
  rw [hv]
  have hfl : ∀ k, ((l.take k).filter fun t => !t.Open).length ≤ k := fun k => Nat.le_trans (List.length_filter_le _ _) (by rw [List.length_take]; exact Nat.min_le_left _ _)
  refine ops_freeze r1 fun H2 hl2 hsv => ?_
  obtain ⟨bv, cv, rfl, hcv, hdv⟩ := hsv.1.shape
  refine ops_L (L' := coordO H2 p s :: row p3 35 [I nd, I lf, I ct, .slice b1 l.length c1] :: R) ?_ ?_
  · refine Sub.trans ?_ (coord_up hl2)
    (repeat (first | exact Sub.refl _ | exact Sub.nil _ | (apply sub_pick; (repeat (first | exact Has.here | apply Has.there)); skip) | apply Sub.drop))
  have hs2 := (hs1.mono (hl1.trans hl2)).1
  refine walk ?_
  refine ex_loop (σ := Nat) (fun k => k ≤ l.length) (fun k => [(0, .pointer (some ⟨p, 0, none⟩)), (3, .pointer (some ⟨p3, 0, none⟩)), (5, .slice bv ((l.filter fun t => !t.Open).map (·.X)).length cv), (6, I ((l.take k).filter fun t => !t.Open).length), (12, I l.length), (13, I k)]) (fun _ => H2) (fun _ => coordO H2 p s :: row p3 35 [I nd, I lf, I ct, .slice b1 l.length c1] :: R) (fun k => l.length - k) 0 (Nat.zero_le _) fun k hk0 K hL => ?_
  have hfk := hfl k
  refine walk ?_
  refine ex_if rfl (fun hk => ?_) (fun hk => ?_)
  · have hk1 : k < l.length := by omega
    have ht := List.take_succ_eq_append_getElem hk1
    refine walk ?_
    refine ops_ixp rfl rfl hs2 hk1 fun b o cc hr hc => ?_
    obtain ⟨y, hle⟩ : ∃ y, l[k] = y := ⟨_, rfl⟩
    rw [hle] at hc
    obtain ⟨⟨x1, x2, x3⟩, op, bg, ps, wk, hd⟩ := y
    obtain ⟨u1, u2, u3, rfl, g1, g2, g3, g4, g5, g6, g7⟩ := hc
    change HRow H2 b o [I x1, I x2, I x3, .bool op, I bg, u1, u2, u3] at hr
    refine walk ?_
    refine ex_ifb rfl Iff.rfl (fun hq => ?_) (fun hq => ?_)
    · have he : ((l.take (k + 1)).filter fun t => !t.Open) = (l.take k).filter fun t => !t.Open := by
        rw [ht, hle, List.filter_append]
        simp [hq]
      rw [← he]
      refine walk ?_
      exact out_next hL (k + 1) (by omega)
    have hqf : op = false := by simpa using hq
    have he : ((l.take (k + 1)).filter fun t => !t.Open) = ((l.take k).filter fun t => !t.Open) ++ [l[k]] := by
      rw [ht, List.filter_append]
      simp [hle, hqf]
    obtain ⟨hg1, hg2⟩ := flt_get (p := fun t : RTx => !t.Open) hk1 (by rw [hle, hqf]; rfl)
    have hg3 : ((l.take k).filter fun t => !t.Open).length < ((l.filter fun t => !t.Open).map (·.X)).length := by rw [List.length_map]; exact hg1
    have hg4 : ((l.filter fun t => !t.Open).map (·.X))[((l.take k).filter fun t => !t.Open).length] = ⟨x1, x2, x3⟩ := by rw [List.getElem_map, hg2, hle]
    have hg5 : ¬ (((l.filter fun t => !t.Open).map (·.X)).length : Int) ≤ (((l.take k).filter fun t => !t.Open).length : Int) := by omega
    generalize hnn : ((l.take k).filter fun t => !t.Open).length = nn at *
    refine walk ?_
    refine ops_ixp rfl rfl hsv.1 hg3 fun b2 o2 cc2 hr2 hc2 => ?_
    rw [hg4] at hc2
    obtain ⟨rfl, _⟩ := hc2
    change HRow H2 b2 o2 [I x1, I x2, I x3] at hr2
    refine walk ?_
    refine ops_ldNH rfl rfl hr2 rfl ?_
    refine walk ?_
    refine ops_ixp rfl rfl hs2 hk1 fun b3 o3 cc3 hr3 hc3 => ?_
    rw [hle] at hc3
    obtain ⟨v1, v2, v3, rfl, _⟩ := hc3
    have hrt := rx_tx hr3
    change HRow H2 b3 o3 [I x1, I x2, I x3] at hrt
    refine walk ?_
    refine ops_ldNH rfl rfl hrt rfl ?_
    refine walk ?_
    rw [show (nn : Int) + 1 = ((((l.take (k + 1)).filter fun t => !t.Open).length : Nat) : Int) by rw [he, List.length_append, hnn]; rfl]
    exact out_next hL (k + 1) (by omega)
  · clear hL
    obtain rfl : k = l.length := by omega
    rw [List.take_length]
    have heq : (((l.filter fun t => !t.Open).length : Nat) : Int) = ((((l.filter fun t => !t.Open).map (·.X)).length : Nat) : Int) := by rw [List.length_map]
    refine walk ?_
    refine ex_any 12 [row p3 35 [I nd, I lf, I ct, .slice b1 l.length c1]] ?_
    refine stepY 0 ?_; refine stepY 1 ?_; refine stepY 2 ?_; refine stepY 3 ?_; refine stepY 4 ?_; refine stepY 5 ?_; refine stepY 7 ?_
    refine gny_call 6 rfl rfl rfl (open_spec (W0 := W0) (H := H2) (p := p) I0 hn hpl) fun r6 H6 B hl6 eB => ?_
    subst eB
    refine ⟨(by (repeat (first | exact Sub.refl _ | exact Sub.nil _ | (apply sub_pick; (repeat (first | exact Has.here | apply Has.there)); skip) | apply Sub.drop))), ?_⟩
    rw [ho]
    refine any_freeze r6 fun H7 hl7 hso => ?_
    obtain ⟨bo, co, rfl, _, _⟩ := hso.1.shape
    refine gny_call 8 rfl rfl rfl (rOpenC_spec (W0 := W0) (H := H7) (m := ⟨nd, lf, ct, l⟩) (c := [I nd, I lf, I ct, .slice b1 l.length c1]) ⟨_, rfl, f1, f2, f3, hs1.mono (hl1.trans (hl2.trans (hl6.trans hl7)))⟩ (by simp only; omega)) fun r8 H8 B hl8 ⟨eB, eH⟩ => ?_
    subst eB eH
    refine ⟨(by (repeat (first | exact Sub.refl _ | exact Sub.nil _ | (apply sub_pick; (repeat (first | exact Has.here | apply Has.there)); skip) | apply Sub.drop))), ?_⟩
    refine any_freeze r8 fun H9 hl9 hsp => ?_
    obtain ⟨bp, cp, rfl, _, _⟩ := hsp.1.shape
    refine gny_pcall 9 rfl rfl rfl (sameRecs_spec (hso.mono hl9).1 hsp.1) ?_
    refine stepY 10 ?_; refine stepY 11 ?_
    refine any_rest rfl ?_
    refine walk ?_
    refine finB [coordO H9 p s] ?_ (hs := ?_)
    · exact ⟨rfl, rfl⟩
    · refine Sub.trans ?_ (coord_up (hl7.trans hl9))
      (repeat (first | exact Sub.refl _ | exact Sub.nil _ | (apply sub_pick; (repeat (first | exact Has.here | apply Has.there)); skip) | apply Sub.drop))
end Go.Proofs.Ythoafjeampbkeaa
