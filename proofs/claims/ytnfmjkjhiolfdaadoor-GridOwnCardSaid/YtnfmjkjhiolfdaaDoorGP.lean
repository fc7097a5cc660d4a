/- GridNext, walked. -/
import Derived.Test.YtnfmjkjhiolfdaaDoorGM
import Derived.Test.YtnfmjkjhiolfdaaDoorE27
set_option linter.unusedVariables false
set_option linter.unusedSimpArgs false
namespace Go.Proofs.YtnfmjkjhiolfdaaDoor
open Go Go.Sx Go.Proofs
theorem gNext_any {W0 : World} {H : Heap} {p : Value} {m : Map} {x : Int} (h : rG H p m) :
    Ct Tryd.prog 32 #[p, I x] W0 H [] (fun r H' B => B = [ownS rInt 1 8 3 H' r (nextR m x)]) := by
  by_cases hx : freeC m x
  · rw [← next_eq h.good.1.1 hx]; exact gNext_yes h hx
  · rw [nextR_no hx]
    intro w R hS
    refine (gNext_no h hx w R hS).mono fun e w' ⟨r, H', B, h1, h2, ⟨h3, h4, h5⟩, h6⟩ => ?_
    subst h3 h4 h5
    exact ⟨_, _, _, h1, h2, rfl, h6.sub (ownS_nil (R := rInt) (sz := 1) (w := 8) (T := 3) (H := H') (base := none))⟩
set_option maxRecDepth 100000 in
set_option maxHeartbeats 16000000 in
theorem nexts_spec {W0 : World} {H : Heap} {c : List Value} {m : Map} {x y : Int} (hP : PkH H) (h0 : rMap H c m) (fx : fits x) (fy : fits y) :
    Ct Tryd.prog 7 #[.agg c.toArray, I x, I y] W0 H [] (fun r H' B => r = .bool true ∧ B = []) := by
  refine Ct.go (vs := [.agg c.toArray, I x, I y]) fun R => ?_
  have g0 := h0
  obtain ⟨s0, rfl, f1, f2, f3, h0⟩ := h0
  refine walk ?_
  refine ops_box rfl rfl fun p3 _ => ?_
  refine walk ?_
  refine ops_call (vs := []) rfl rfl (awake12_spec hP) fun r1 H1 B hl1 ⟨er, eB⟩ => ?_
  subst er eB
  refine walk ?_
  refine ops_call (vs := [.agg (m.cv s0).toArray]) rfl rfl (own12_spec (RdOk.mono (R := rMap) hl1 g0)) fun r2 H2 B hl2 ⟨v2, er, eB, eH⟩ => ?_
  subst er eB eH
  refine ops_shape v2 fun d2 e2 e _ _ _ => ?_
  subst e
  refine ops_freeze (.slice d2 (clipM m).Blocked.length e2) fun H3 hl3 hv2 => ?_
  refine walk ?_
  have gm : rMap H3 ((clipM m).cv (.slice d2 (clipM m).Blocked.length e2)) (clipM m) := ⟨_, rfl, f1, f2, f3, hv2⟩
  have cm : clipM (clipM m) = clipM m := clipM2
  have hle3 : H.le H3 := hl1.trans hl3
  clear hv2 hl2 hl1 hl3
  generalize clipM m = m' at *
  have ho := own12_spec (W0 := W0) gm
  rw [cm] at ho
  refine ops_call (vs := [.agg (m'.cv (.slice d2 m'.Blocked.length e2)).toArray]) rfl rfl ho fun r4 H4 B hl4 ⟨v4, er, eB, eH⟩ => ?_
  subst er eB eH
  refine ops_freeze v4 fun H5 hl5 hv4 => ?_
  have gm5 := RdOk.mono (R := rMap) hl5 gm
  have fm : (Sx.fits m'.W ∧ Sx.fits m'.H) ∧ Sx.fits m'.Shards := by obtain ⟨_, _, q1, q2, q3, _⟩ := gm; exact ⟨⟨q1, q2⟩, q3⟩
  have gv : rMap H5 (m'.cv v4) m' := ⟨_, rfl, fm.1.1, fm.1.2, fm.2, hv4⟩
  refine walk ?_
  refine ops_call (vs := [.agg (m'.cv v4).toArray]) rfl rfl (gNew_spec gv) fun r6 H6 B hl6 ⟨g, e, er, eB, h⟩ => ?_
  subst er eB
  have gm6 := RdOk.mono (R := rMap) hl6 gm5
  rcases h with ⟨hm, hG, rfl⟩ | ⟨hm, rfl, rfl⟩
  rotate_left
  · refine walkG ?_
    refine ops_pcall rfl rfl (rGood_spec gm6) ?_
    rw [decide_eq_false hm]
    refine walkG ?_
    refine fin0 ?_
    exact ⟨rfl, rfl⟩
  have hGp := hG
  obtain ⟨⟨bg, s', mb, mm, rfl, q1, q2, q3, q4⟩, hgd, hfs⟩ := hGp
  refine walkG ?_
  refine ops_bsN rfl rfl fun pb _ => ?_
  refine walk ?_
  refine ex_frzR .here fun H7 hl7 hr7 => ?_
  have hG7 := hG.mono hl7
  have gm7 := RdOk.mono (R := rMap) hl7 gm6
  obtain ⟨xs, hxs, hxl⟩ : ∃ xs : List Int, xs = [x, y, x.tmod 256, y.tmod 256] ∧ xs.length = 4 := ⟨_, rfl, rfl⟩
  refine ex_loop (σ := Nat × Heap) (fun s => s.1 ≤ 4 ∧ H7.le s.2) (fun s => [(1, I x), (3, .pointer (some ⟨p3, 0, none⟩)), (7, .pointer (some ⟨bg, 0, none⟩)), (40, .slice (some ⟨pb, 0, none⟩) 4 4), (41, I ((4 : Nat) : Int)), (42, I s.1)]) (fun s => s.2) (fun _ => row p3 24 (m'.cv (.slice d2 m'.Blocked.length e2)) :: R) (fun s => 4 - s.1) (0, H7) ⟨Nat.zero_le _, .refl _⟩ fun ⟨k, Hk⟩ ⟨hk0, hlk⟩ K hL => ?_
  simp only at hk0 hlk
  dsimp only
  refine walk ?_
  refine ex_if rfl (fun hk => ?_) (fun hk => ?_)
  · have hk1 : k < xs.length := by omega
    have hr7' : HRow Hk pb 0 (xs.map I) := by rw [hxs]; exact hr7.mono hlk
    refine walk ?_
    refine ops_ldHz rfl rfl hr7' (v := I xs[k]) (by simp [hk1]) ?_
    refine walk ?_
    generalize xs[k] = q at *
    have hGk := hG7.mono hlk
    have gmk := RdOk.mono (R := rMap) hlk gm7
    refine ex_any 30 [row p3 24 (m'.cv (.slice d2 m'.Blocked.length e2))] ?_
    (first | refine gny_p 0 rfl rfl rfl ?_ | refine gny_ld 0 rfl rfl rfl rfl ?_ | refine gny_ldH 0 rfl rfl rfl ‹HRow _ _ 0 _› rfl ?_ | refine gny_T 0 rfl rfl rfl ?_ | refine gny_F 0 rfl rfl rfl ?_ | refine gny_B 0 rfl rfl rfl ?_ | refine gny_skip 0 rfl rfl ?_ | refine gny_sp 0 rfl rfl rfl ?_ | refine gny_sB 0 rfl rfl rfl ?_ | refine gny_sld 0 rfl rfl rfl rfl ?_ | refine gny_sldH 0 rfl rfl rfl ‹HRow _ _ 0 _› rfl ?_ | refine gny_ldN 0 rfl rfl rfl rfl ?_ | refine gny_bld 0 rfl rfl rfl ?_); (first | refine gny_p 1 rfl rfl rfl ?_ | refine gny_ld 1 rfl rfl rfl rfl ?_ | refine gny_ldH 1 rfl rfl rfl ‹HRow _ _ 0 _› rfl ?_ | refine gny_T 1 rfl rfl rfl ?_ | refine gny_F 1 rfl rfl rfl ?_ | refine gny_B 1 rfl rfl rfl ?_ | refine gny_skip 1 rfl rfl ?_ | refine gny_sp 1 rfl rfl rfl ?_ | refine gny_sB 1 rfl rfl rfl ?_ | refine gny_sld 1 rfl rfl rfl rfl ?_ | refine gny_sldH 1 rfl rfl rfl ‹HRow _ _ 0 _› rfl ?_ | refine gny_ldN 1 rfl rfl rfl rfl ?_ | refine gny_bld 1 rfl rfl rfl ?_); (first | refine gny_p 3 rfl rfl rfl ?_ | refine gny_ld 3 rfl rfl rfl rfl ?_ | refine gny_ldH 3 rfl rfl rfl ‹HRow _ _ 0 _› rfl ?_ | refine gny_T 3 rfl rfl rfl ?_ | refine gny_F 3 rfl rfl rfl ?_ | refine gny_B 3 rfl rfl rfl ?_ | refine gny_skip 3 rfl rfl ?_ | refine gny_sp 3 rfl rfl rfl ?_ | refine gny_sB 3 rfl rfl rfl ?_ | refine gny_sld 3 rfl rfl rfl rfl ?_ | refine gny_sldH 3 rfl rfl rfl ‹HRow _ _ 0 _› rfl ?_ | refine gny_ldN 3 rfl rfl rfl rfl ?_ | refine gny_bld 3 rfl rfl rfl ?_); (first | refine gny_p 4 rfl rfl rfl ?_ | refine gny_ld 4 rfl rfl rfl rfl ?_ | refine gny_ldH 4 rfl rfl rfl ‹HRow _ _ 0 _› rfl ?_ | refine gny_T 4 rfl rfl rfl ?_ | refine gny_F 4 rfl rfl rfl ?_ | refine gny_B 4 rfl rfl rfl ?_ | refine gny_skip 4 rfl rfl ?_ | refine gny_sp 4 rfl rfl rfl ?_ | refine gny_sB 4 rfl rfl rfl ?_ | refine gny_sld 4 rfl rfl rfl rfl ?_ | refine gny_sldH 4 rfl rfl rfl ‹HRow _ _ 0 _› rfl ?_ | refine gny_ldN 4 rfl rfl rfl rfl ?_ | refine gny_bld 4 rfl rfl rfl ?_)
    refine gny_call (vs := [.pointer (some ⟨bg, 0, none⟩), I q]) 2 rfl rfl rfl (gNext_any hGk) fun r8 H8 B hl8 eB => ?_
    subst eB
    refine ⟨(by (repeat (first | exact Sub.refl _ | exact Sub.nil _ | (apply sub_pick; (repeat (first | exact Has.here | apply Has.there)); skip) | apply Sub.drop))), ?_⟩
    refine any_freeze r8 fun H9 hl9 hz9 => ?_
    refine gny_call (vs := [.agg (m'.cv (.slice d2 m'.Blocked.length e2)).toArray, I q]) 5 rfl rfl rfl (rNext_spec (RdOk.mono (R := rMap) (hl8.trans hl9) gmk) hm.1) fun r10 H10 B hl10 ⟨eB, eH⟩ => ?_
    subst eB eH
    refine ⟨(by (repeat (first | exact Sub.refl _ | exact Sub.nil _ | (apply sub_pick; (repeat (first | exact Has.here | apply Has.there)); skip) | apply Sub.drop))), ?_⟩
    refine any_freeze r10 fun H11 hl11 hz11 => ?_
    have hle : Hk.le H11 := (hl8.trans hl9).trans hl11
    refine gny_pcall 6 rfl rfl rfl (ints_spec (hz9.mono hl11).1 hz11.1) ?_
    rw [decide_eq_true (p := nextR m' q = nextR m' q) rfl]
    (first | refine gny_p 7 rfl rfl rfl ?_ | refine gny_ld 7 rfl rfl rfl rfl ?_ | refine gny_ldH 7 rfl rfl rfl ‹HRow _ _ 0 _› rfl ?_ | refine gny_T 7 rfl rfl rfl ?_ | refine gny_F 7 rfl rfl rfl ?_ | refine gny_B 7 rfl rfl rfl ?_ | refine gny_skip 7 rfl rfl ?_ | refine gny_sp 7 rfl rfl rfl ?_ | refine gny_sB 7 rfl rfl rfl ?_ | refine gny_sld 7 rfl rfl rfl rfl ?_ | refine gny_sldH 7 rfl rfl rfl ‹HRow _ _ 0 _› rfl ?_ | refine gny_ldN 7 rfl rfl rfl rfl ?_ | refine gny_bld 7 rfl rfl rfl ?_); (first | refine gny_p 8 rfl rfl rfl ?_ | refine gny_ld 8 rfl rfl rfl rfl ?_ | refine gny_ldH 8 rfl rfl rfl ‹HRow _ _ 0 _› rfl ?_ | refine gny_T 8 rfl rfl rfl ?_ | refine gny_F 8 rfl rfl rfl ?_ | refine gny_B 8 rfl rfl rfl ?_ | refine gny_skip 8 rfl rfl ?_ | refine gny_sp 8 rfl rfl rfl ?_ | refine gny_sB 8 rfl rfl rfl ?_ | refine gny_sld 8 rfl rfl rfl rfl ?_ | refine gny_sldH 8 rfl rfl rfl ‹HRow _ _ 0 _› rfl ?_ | refine gny_ldN 8 rfl rfl rfl rfl ?_ | refine gny_bld 8 rfl rfl rfl ?_); (first | refine gny_p 9 rfl rfl rfl ?_ | refine gny_ld 9 rfl rfl rfl rfl ?_ | refine gny_ldH 9 rfl rfl rfl ‹HRow _ _ 0 _› rfl ?_ | refine gny_T 9 rfl rfl rfl ?_ | refine gny_F 9 rfl rfl rfl ?_ | refine gny_B 9 rfl rfl rfl ?_ | refine gny_skip 9 rfl rfl ?_ | refine gny_sp 9 rfl rfl rfl ?_ | refine gny_sB 9 rfl rfl rfl ?_ | refine gny_sld 9 rfl rfl rfl rfl ?_ | refine gny_sldH 9 rfl rfl rfl ‹HRow _ _ 0 _› rfl ?_ | refine gny_ldN 9 rfl rfl rfl rfl ?_ | refine gny_bld 9 rfl rfl rfl ?_); (first | refine gny_p 10 rfl rfl rfl ?_ | refine gny_ld 10 rfl rfl rfl rfl ?_ | refine gny_ldH 10 rfl rfl rfl ‹HRow _ _ 0 _› rfl ?_ | refine gny_T 10 rfl rfl rfl ?_ | refine gny_F 10 rfl rfl rfl ?_ | refine gny_B 10 rfl rfl rfl ?_ | refine gny_skip 10 rfl rfl ?_ | refine gny_sp 10 rfl rfl rfl ?_ | refine gny_sB 10 rfl rfl rfl ?_ | refine gny_sld 10 rfl rfl rfl rfl ?_ | refine gny_sldH 10 rfl rfl rfl ‹HRow _ _ 0 _› rfl ?_ | refine gny_ldN 10 rfl rfl rfl rfl ?_ | refine gny_bld 10 rfl rfl rfl ?_); (first | refine gny_p 11 rfl rfl rfl ?_ | refine gny_ld 11 rfl rfl rfl rfl ?_ | refine gny_ldH 11 rfl rfl rfl ‹HRow _ _ 0 _› rfl ?_ | refine gny_T 11 rfl rfl rfl ?_ | refine gny_F 11 rfl rfl rfl ?_ | refine gny_B 11 rfl rfl rfl ?_ | refine gny_skip 11 rfl rfl ?_ | refine gny_sp 11 rfl rfl rfl ?_ | refine gny_sB 11 rfl rfl rfl ?_ | refine gny_sld 11 rfl rfl rfl rfl ?_ | refine gny_sldH 11 rfl rfl rfl ‹HRow _ _ 0 _› rfl ?_ | refine gny_ldN 11 rfl rfl rfl rfl ?_ | refine gny_bld 11 rfl rfl rfl ?_); (first | refine gny_p 13 rfl rfl rfl ?_ | refine gny_ld 13 rfl rfl rfl rfl ?_ | refine gny_ldH 13 rfl rfl rfl ‹HRow _ _ 0 _› rfl ?_ | refine gny_T 13 rfl rfl rfl ?_ | refine gny_F 13 rfl rfl rfl ?_ | refine gny_B 13 rfl rfl rfl ?_ | refine gny_skip 13 rfl rfl ?_ | refine gny_sp 13 rfl rfl rfl ?_ | refine gny_sB 13 rfl rfl rfl ?_ | refine gny_sld 13 rfl rfl rfl rfl ?_ | refine gny_sldH 13 rfl rfl rfl ‹HRow _ _ 0 _› rfl ?_ | refine gny_ldN 13 rfl rfl rfl rfl ?_ | refine gny_bld 13 rfl rfl rfl ?_); (first | refine gny_p 14 rfl rfl rfl ?_ | refine gny_ld 14 rfl rfl rfl rfl ?_ | refine gny_ldH 14 rfl rfl rfl ‹HRow _ _ 0 _› rfl ?_ | refine gny_T 14 rfl rfl rfl ?_ | refine gny_F 14 rfl rfl rfl ?_ | refine gny_B 14 rfl rfl rfl ?_ | refine gny_skip 14 rfl rfl ?_ | refine gny_sp 14 rfl rfl rfl ?_ | refine gny_sB 14 rfl rfl rfl ?_ | refine gny_sld 14 rfl rfl rfl rfl ?_ | refine gny_sldH 14 rfl rfl rfl ‹HRow _ _ 0 _› rfl ?_ | refine gny_ldN 14 rfl rfl rfl rfl ?_ | refine gny_bld 14 rfl rfl rfl ?_); (first | refine gny_p 15 rfl rfl rfl ?_ | refine gny_ld 15 rfl rfl rfl rfl ?_ | refine gny_ldH 15 rfl rfl rfl ‹HRow _ _ 0 _› rfl ?_ | refine gny_T 15 rfl rfl rfl ?_ | refine gny_F 15 rfl rfl rfl ?_ | refine gny_B 15 rfl rfl rfl ?_ | refine gny_skip 15 rfl rfl ?_ | refine gny_sp 15 rfl rfl rfl ?_ | refine gny_sB 15 rfl rfl rfl ?_ | refine gny_sld 15 rfl rfl rfl rfl ?_ | refine gny_sldH 15 rfl rfl rfl ‹HRow _ _ 0 _› rfl ?_ | refine gny_ldN 15 rfl rfl rfl rfl ?_ | refine gny_bld 15 rfl rfl rfl ?_)
    have hneq : ¬ ¬ decide (nearC m' x q) = decide (nearC m' x q) := fun h => h rfl
    refine gny_call (vs := [.pointer (some ⟨bg, 0, none⟩), I x, I q]) 12 rfl rfl rfl (gNear_spec (hGk.mono hle)) fun r12 H12 B hl12 ⟨er, eB⟩ => ?_
    subst er eB
    refine ⟨(by (repeat (first | exact Sub.refl _ | exact Sub.nil _ | (apply sub_pick; (repeat (first | exact Has.here | apply Has.there)); skip) | apply Sub.drop))), ?_⟩
    refine gny_pcall 16 rfl rfl rfl (rNear_spec (RdOk.mono (R := rMap) (hle.trans hl12) gmk) hm.1.1) ?_
    (first | refine gny_p 17 rfl rfl rfl ?_ | refine gny_ld 17 rfl rfl rfl rfl ?_ | refine gny_ldH 17 rfl rfl rfl ‹HRow _ _ 0 _› rfl ?_ | refine gny_T 17 rfl rfl rfl ?_ | refine gny_F 17 rfl rfl rfl ?_ | refine gny_B 17 rfl rfl rfl ?_ | refine gny_skip 17 rfl rfl ?_ | refine gny_sp 17 rfl rfl rfl ?_ | refine gny_sB 17 rfl rfl rfl ?_ | refine gny_sld 17 rfl rfl rfl rfl ?_ | refine gny_sldH 17 rfl rfl rfl ‹HRow _ _ 0 _› rfl ?_ | refine gny_ldN 17 rfl rfl rfl rfl ?_ | refine gny_bld 17 rfl rfl rfl ?_); (first | refine gny_p 18 rfl rfl rfl ?_ | refine gny_ld 18 rfl rfl rfl rfl ?_ | refine gny_ldH 18 rfl rfl rfl ‹HRow _ _ 0 _› rfl ?_ | refine gny_T 18 rfl rfl rfl ?_ | refine gny_F 18 rfl rfl rfl ?_ | refine gny_B 18 rfl rfl rfl ?_ | refine gny_skip 18 rfl rfl ?_ | refine gny_sp 18 rfl rfl rfl ?_ | refine gny_sB 18 rfl rfl rfl ?_ | refine gny_sld 18 rfl rfl rfl rfl ?_ | refine gny_sldH 18 rfl rfl rfl ‹HRow _ _ 0 _› rfl ?_ | refine gny_ldN 18 rfl rfl rfl rfl ?_ | refine gny_bld 18 rfl rfl rfl ?_); (first | refine gny_p 19 rfl rfl rfl ?_ | refine gny_ld 19 rfl rfl rfl rfl ?_ | refine gny_ldH 19 rfl rfl rfl ‹HRow _ _ 0 _› rfl ?_ | refine gny_T 19 rfl rfl rfl ?_ | refine gny_F 19 rfl rfl rfl ?_ | refine gny_B 19 rfl rfl rfl ?_ | refine gny_skip 19 rfl rfl ?_ | refine gny_sp 19 rfl rfl rfl ?_ | refine gny_sB 19 rfl rfl rfl ?_ | refine gny_sld 19 rfl rfl rfl rfl ?_ | refine gny_sldH 19 rfl rfl rfl ‹HRow _ _ 0 _› rfl ?_ | refine gny_ldN 19 rfl rfl rfl rfl ?_ | refine gny_bld 19 rfl rfl rfl ?_); (first | refine gny_p 20 rfl rfl rfl ?_ | refine gny_ld 20 rfl rfl rfl rfl ?_ | refine gny_ldH 20 rfl rfl rfl ‹HRow _ _ 0 _› rfl ?_ | refine gny_T 20 rfl rfl rfl ?_ | refine gny_F 20 rfl rfl rfl ?_ | refine gny_B 20 rfl rfl rfl ?_ | refine gny_skip 20 rfl rfl ?_ | refine gny_sp 20 rfl rfl rfl ?_ | refine gny_sB 20 rfl rfl rfl ?_ | refine gny_sld 20 rfl rfl rfl rfl ?_ | refine gny_sldH 20 rfl rfl rfl ‹HRow _ _ 0 _› rfl ?_ | refine gny_ldN 20 rfl rfl rfl rfl ?_ | refine gny_bld 20 rfl rfl rfl ?_); (first | refine gny_p 21 rfl rfl rfl ?_ | refine gny_ld 21 rfl rfl rfl rfl ?_ | refine gny_ldH 21 rfl rfl rfl ‹HRow _ _ 0 _› rfl ?_ | refine gny_T 21 rfl rfl rfl ?_ | refine gny_F 21 rfl rfl rfl ?_ | refine gny_B 21 rfl rfl rfl ?_ | refine gny_skip 21 rfl rfl ?_ | refine gny_sp 21 rfl rfl rfl ?_ | refine gny_sB 21 rfl rfl rfl ?_ | refine gny_sld 21 rfl rfl rfl rfl ?_ | refine gny_sldH 21 rfl rfl rfl ‹HRow _ _ 0 _› rfl ?_ | refine gny_ldN 21 rfl rfl rfl rfl ?_ | refine gny_bld 21 rfl rfl rfl ?_); (first | refine gny_p 22 rfl rfl rfl ?_ | refine gny_ld 22 rfl rfl rfl rfl ?_ | refine gny_ldH 22 rfl rfl rfl ‹HRow _ _ 0 _› rfl ?_ | refine gny_T 22 rfl rfl rfl ?_ | refine gny_F 22 rfl rfl rfl ?_ | refine gny_B 22 rfl rfl rfl ?_ | refine gny_skip 22 rfl rfl ?_ | refine gny_sp 22 rfl rfl rfl ?_ | refine gny_sB 22 rfl rfl rfl ?_ | refine gny_sld 22 rfl rfl rfl rfl ?_ | refine gny_sldH 22 rfl rfl rfl ‹HRow _ _ 0 _› rfl ?_ | refine gny_ldN 22 rfl rfl rfl rfl ?_ | refine gny_bld 22 rfl rfl rfl ?_); (first | refine gny_p 24 rfl rfl rfl ?_ | refine gny_ld 24 rfl rfl rfl rfl ?_ | refine gny_ldH 24 rfl rfl rfl ‹HRow _ _ 0 _› rfl ?_ | refine gny_T 24 rfl rfl rfl ?_ | refine gny_F 24 rfl rfl rfl ?_ | refine gny_B 24 rfl rfl rfl ?_ | refine gny_skip 24 rfl rfl ?_ | refine gny_sp 24 rfl rfl rfl ?_ | refine gny_sB 24 rfl rfl rfl ?_ | refine gny_sld 24 rfl rfl rfl rfl ?_ | refine gny_sldH 24 rfl rfl rfl ‹HRow _ _ 0 _› rfl ?_ | refine gny_ldN 24 rfl rfl rfl rfl ?_ | refine gny_bld 24 rfl rfl rfl ?_); (first | refine gny_p 25 rfl rfl rfl ?_ | refine gny_ld 25 rfl rfl rfl rfl ?_ | refine gny_ldH 25 rfl rfl rfl ‹HRow _ _ 0 _› rfl ?_ | refine gny_T 25 rfl rfl rfl ?_ | refine gny_F 25 rfl rfl rfl ?_ | refine gny_B 25 rfl rfl rfl ?_ | refine gny_skip 25 rfl rfl ?_ | refine gny_sp 25 rfl rfl rfl ?_ | refine gny_sB 25 rfl rfl rfl ?_ | refine gny_sld 25 rfl rfl rfl rfl ?_ | refine gny_sldH 25 rfl rfl rfl ‹HRow _ _ 0 _› rfl ?_ | refine gny_ldN 25 rfl rfl rfl rfl ?_ | refine gny_bld 25 rfl rfl rfl ?_); (first | refine gny_p 26 rfl rfl rfl ?_ | refine gny_ld 26 rfl rfl rfl rfl ?_ | refine gny_ldH 26 rfl rfl rfl ‹HRow _ _ 0 _› rfl ?_ | refine gny_T 26 rfl rfl rfl ?_ | refine gny_F 26 rfl rfl rfl ?_ | refine gny_B 26 rfl rfl rfl ?_ | refine gny_skip 26 rfl rfl ?_ | refine gny_sp 26 rfl rfl rfl ?_ | refine gny_sB 26 rfl rfl rfl ?_ | refine gny_sld 26 rfl rfl rfl rfl ?_ | refine gny_sldH 26 rfl rfl rfl ‹HRow _ _ 0 _› rfl ?_ | refine gny_ldN 26 rfl rfl rfl rfl ?_ | refine gny_bld 26 rfl rfl rfl ?_)
    have hs1 := gNear_spec (W0 := W0) (x := q) (y := x) (hGk.mono (hle.trans hl12))
    have hsy : decide (nearC m' q x) = decide (nearC m' x q) := decide_eq_decide.2 near_symm
    rw [hsy] at hs1
    refine gny_call (vs := [.pointer (some ⟨bg, 0, none⟩), I q, I x]) 23 rfl rfl rfl hs1 fun r13 H13 B hl13 ⟨er, eB⟩ => ?_
    subst er eB
    refine ⟨(by (repeat (first | exact Sub.refl _ | exact Sub.nil _ | (apply sub_pick; (repeat (first | exact Has.here | apply Has.there)); skip) | apply Sub.drop))), ?_⟩
    refine gny_call (vs := [.pointer (some ⟨bg, 0, none⟩), I x, I q]) 27 rfl rfl rfl (gNear_spec (hGk.mono ((hle.trans hl12).trans hl13))) fun r14 H14 B hl14 ⟨er, eB⟩ => ?_
    subst er eB
    refine ⟨(by (repeat (first | exact Sub.refl _ | exact Sub.nil _ | (apply sub_pick; (repeat (first | exact Has.here | apply Has.there)); skip) | apply Sub.drop))), ?_⟩
    (first | refine gny_p 28 rfl rfl rfl ?_ | refine gny_ld 28 rfl rfl rfl rfl ?_ | refine gny_ldH 28 rfl rfl rfl ‹HRow _ _ 0 _› rfl ?_ | refine gny_T 28 rfl rfl rfl ?_ | refine gny_F 28 rfl rfl rfl ?_ | refine gny_B 28 rfl rfl rfl ?_ | refine gny_skip 28 rfl rfl ?_ | refine gny_sp 28 rfl rfl rfl ?_ | refine gny_sB 28 rfl rfl rfl ?_ | refine gny_sld 28 rfl rfl rfl rfl ?_ | refine gny_sldH 28 rfl rfl rfl ‹HRow _ _ 0 _› rfl ?_ | refine gny_ldN 28 rfl rfl rfl rfl ?_ | refine gny_bld 28 rfl rfl rfl ?_); (first | refine gny_p 29 rfl rfl rfl ?_ | refine gny_ld 29 rfl rfl rfl rfl ?_ | refine gny_ldH 29 rfl rfl rfl ‹HRow _ _ 0 _› rfl ?_ | refine gny_T 29 rfl rfl rfl ?_ | refine gny_F 29 rfl rfl rfl ?_ | refine gny_B 29 rfl rfl rfl ?_ | refine gny_skip 29 rfl rfl ?_ | refine gny_sp 29 rfl rfl rfl ?_ | refine gny_sB 29 rfl rfl rfl ?_ | refine gny_sld 29 rfl rfl rfl rfl ?_ | refine gny_sldH 29 rfl rfl rfl ‹HRow _ _ 0 _› rfl ?_ | refine gny_ldN 29 rfl rfl rfl rfl ?_ | refine gny_bld 29 rfl rfl rfl ?_)
    refine any_rest rfl ?_
    refine walk ?_
    refine out_next hL (k + 1, H14) ⟨by simp only; omega, hlk.trans (((hle.trans hl12).trans hl13).trans hl14)⟩
  · clear hL
    refine walk ?_
    refine fin0 ?_
    exact ⟨rfl, rfl⟩
end Go.Proofs.YtnfmjkjhiolfdaaDoor
