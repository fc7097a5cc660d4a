/- The reference's answer to a call. -/
import Derived.Test.YtnfmjkjhiolfdaaBV
set_option linter.unusedVariables false
set_option linter.unusedSimpArgs false
namespace Go.Proofs.Ytnfmjkjhiolfdaa
open Go Go.Sx Go.Proofs
def APost (res : List Int × List Route × Reply) (v : Value) (H' : Heap) (B : List HProp) : Prop := ∃ s1 s2 cr, v = .tuple #[.agg [s1, s2].toArray, .agg cr.toArray] ∧ RBk H' s1 s2 res.1 res.2.1 ∧ rReply H' cr res.2.2 ∧ B = []
theorem cellCode_fits {m : Map} : ∀ l : List Int, fits (cellCode m l)
  | [] => fits0
  | c :: r => by
    unfold cellCode
    split
    · unfold fits; omega
    · split
      · unfold fits; omega
      · exact cellCode_fits r
theorem stepCode_fits {m : Map} : ∀ l : List Int, fits (stepCode m l)
  | [] => fits0
  | [_] => fits0
  | a :: b :: r => by
    unfold stepCode
    split
    · exact stepCode_fits (b :: r)
    · unfold fits; omega
theorem checkR_fits {m : Map} {x : Route} : fits (checkR m x) := by
  unfold checkR
  split
  · unfold fits; omega
  · split
    · unfold fits; omega
    · split
      · exact cellCode_fits _
      · exact stepCode_fits _
theorem no_reads {H : Heap} {k : Int} (h : fits k) : rReply H [I k, I 0, I 0, nilS] ⟨k, 0, zRoute⟩ := ⟨nilS, rfl, h, fits0, fits0, SlB.nil⟩
theorem zr_reads {H : Heap} {e : Int} (h : fits e) : rReply H [I 0, I e, I 0, nilS] ⟨0, e, zRoute⟩ := ⟨nilS, rfl, fits0, h, fits0, SlB.nil⟩
theorem rRoute_reply {H : Heap} {v : Value} {x : Route} {k e : Int} (h : rRoute H [I x.Start, v] x) (hk : fits k) (he : fits e) : rReply H [I k, I e, I x.Start, v] ⟨k, e, x⟩ := by
  obtain ⟨s, e1, hf, hs⟩ := h
  obtain rfl : v = s := by injection e1 with _ e2; injection e2
  exact ⟨v, rfl, hk, he, hf, hs⟩
set_option maxRecDepth 100000 in
set_option maxHeartbeats 16000000 in
theorem rApply_spec {W0 : World} {H : Heap} {cm cc : List Value} {s1 s2 : Value} {m : Map} {es : List Int} {rs : List Route} {r : Int} {c : Call} {t : Int} (hm : rMap H cm m) (hsd : sidesM m) (hb : RBk H s1 s2 es rs) (h0 : rCall H cc c) (ht : fits t) (hel : es.length = 16) (hrl : rs.length = 16)
    (hE : ∀ e ∈ es, 0 ≤ e ∧ e ≤ 1000000) (hRl : ∀ x ∈ rs, x.Cells.length ≤ 24) (hC : c.Route.Cells.length ≤ 40) :
    Ct Try.prog 14 #[.agg cm.toArray, .agg [s1, s2].toArray, I r, .agg cc.toArray, I t] W0 H [] (APost (applyC confK m es rs r c t)) := by
  refine Ct.go (vs := [.agg cm.toArray, .agg [s1, s2].toArray, I r, .agg cc.toArray, I t]) fun R => ?_
  have gb := hb
  obtain ⟨h1, h2⟩ := hb
  obtain ⟨b1, c1, rfl, hc1, hd1⟩ := h1.1.shape
  obtain ⟨b2, c2, rfl, hc2, hd2⟩ := h2.1.shape
  have gm := hm
  obtain ⟨sm, rfl, fm1, fm2, fm3, hm⟩ := hm
  obtain ⟨bm, cm, rfl, hcm, hdm⟩ := hm.1.shape
  obtain ⟨s0, rfl, f1, f2, f3, h0⟩ := h0
  obtain ⟨b0, c0, rfl, hc0, hd0⟩ := h0.1.shape
  refine walk ?_
  refine ops_box rfl rfl fun p5 _ => ?_
  refine ops_box rfl rfl fun p6 _ => ?_
  refine ops_box rfl rfl fun p8 _ => ?_
  refine ops_alloc rfl fun p10 _ => ?_
  refine ops_alloc rfl fun p11 _ => ?_
  refine walk ?_
  refine ops_pcall rfl rfl refIs_spec ?_
  refine walkG ?_
  refine ex_if rfl (fun h => ?_) (fun h => ?_)
  · refine walk ?_
    have e : applyC confK m es rs r c t = (es, rs, ⟨1, 0, zRoute⟩) := by unfold applyC; rw [if_pos (by rcases h with (h | h) | h; exact .inl h; exact .inr (.inl h); exact .inr (.inr h))]
    rw [e]
    refine fin0 ?_
    exact ⟨_, _, _, rfl, gb, no_reads (by unfold fits; omega), rfl⟩
  have hn1 : ¬ (¬ robI r ∨ c.Verb < 1 ∨ 6 < c.Verb) := fun e => h (by rcases e with e | e | e; exact .inl (.inl e); exact .inl (.inr e); exact .inr e)
  have hr : robI r := Classical.not_not.1 fun e => hn1 (.inl e)
  obtain ⟨j, rfl⟩ : ∃ j : Nat, r = j := ⟨r.toNat, by simp only [robI] at hr; omega⟩
  have hj : j < 16 := by simp only [robI] at hr; omega
  have hje : j < es.length := by rw [hel]; exact hj
  have hjr : j < rs.length := by rw [hrl]; exact hj
  have hv : 1 ≤ c.Verb ∧ c.Verb ≤ 6 := by omega
  have hge : es.getD j 0 = es[j] := by simp [List.getD, hje]
  have hgr : rs.getD j zRoute = rs[j] := by simp [List.getD, hjr]
  have hap : applyC confK m es rs (j : Int) c t = applyIn confK m es rs j es[j] (cutR rs[j] t) c t := by unfold applyC; rw [if_neg hn1]; simp only [Int.toNat_natCast, hge, hgr]
  have hee := hE _ (List.getElem_mem hje)
  have k1 := h1.1
  refine walk ?_
  refine ops_ixp rfl rfl h2.1 hjr fun q o ck hr hck => ?_
  refine ops_ldNH rfl rfl hr (RdOk.len (R := rRoute) hck) ?_
  refine walk ?_
  refine ops_call (vs := [.agg ck.toArray, I t]) rfl rfl (rcut_spec hck ht) fun r3 H3 B hl3 ⟨v, er, eB⟩ => ?_
  subst er eB
  refine ops_shape v fun d3 e3 e _ _ _ => ?_
  subst e
  refine ops_freeze (.slice d3 (cutR rs[j] t).Cells.length e3) fun H4 hl4 hz => ?_
  have hl34 : H.le H4 := hl3.trans hl4
  have gb4 := gb.mono hl34
  have hnow : rRoute H4 [I (cutR rs[j] t).Start, .slice d3 (cutR rs[j] t).Cells.length e3] (cutR rs[j] t) := ⟨_, rfl, cutR_fits, hz⟩
  have hx4 : rRoute H4 [I c.Route.Start, .slice b0 c.Route.Cells.length c0] c.Route := ⟨_, rfl, f3, h0.mono hl34⟩
  have hm4 := RdOk.mono (R := rMap) hl34 gm
  have hlen := cutR_len (x := rs[j]) (t := t)
  have hlen2 := hRl _ (List.getElem_mem hjr)
  refine ops_alloc rfl fun p14 _ => ?_
  refine walk ?_
  refine ex_if rfl (fun v1 => ?_) (fun v1 => ?_)
  · have e : applyC confK m es rs (j : Int) c t = (es.set j (es[j] + 1), rs, ⟨0, es[j] + 1, cutR rs[j] t⟩) := by rw [hap]; unfold applyIn; rw [if_pos v1]
    refine walk ?_
    refine ex_any 15 [row p6 43 [.slice b1 es.length c1, .slice b2 rs.length c2], row p14 28 [I (cutR rs[j] t).Start, .slice d3 (cutR rs[j] t).Cells.length e3]] ?_
    (first | refine gny_p 0 rfl rfl rfl ?_ | refine gny_ld 0 rfl rfl rfl rfl ?_ | refine gny_ldH 0 rfl rfl rfl ‹HRow _ _ 0 _› rfl ?_ | refine gny_T 0 rfl rfl rfl ?_ | refine gny_F 0 rfl rfl rfl ?_ | refine gny_B 0 rfl rfl rfl ?_ | refine gny_skip 0 rfl rfl ?_ | refine gny_sp 0 rfl rfl rfl ?_ | refine gny_sB 0 rfl rfl rfl ?_ | refine gny_sld 0 rfl rfl rfl rfl ?_ | refine gny_sldH 0 rfl rfl rfl ‹HRow _ _ 0 _› rfl ?_ | refine gny_ldN 0 rfl rfl rfl rfl ?_ | refine gny_bld 0 rfl rfl rfl ?_); (first | refine gny_p 1 rfl rfl rfl ?_ | refine gny_ld 1 rfl rfl rfl rfl ?_ | refine gny_ldH 1 rfl rfl rfl ‹HRow _ _ 0 _› rfl ?_ | refine gny_T 1 rfl rfl rfl ?_ | refine gny_F 1 rfl rfl rfl ?_ | refine gny_B 1 rfl rfl rfl ?_ | refine gny_skip 1 rfl rfl ?_ | refine gny_sp 1 rfl rfl rfl ?_ | refine gny_sB 1 rfl rfl rfl ?_ | refine gny_sld 1 rfl rfl rfl rfl ?_ | refine gny_sldH 1 rfl rfl rfl ‹HRow _ _ 0 _› rfl ?_ | refine gny_ldN 1 rfl rfl rfl rfl ?_ | refine gny_bld 1 rfl rfl rfl ?_); (first | refine gny_p 2 rfl rfl rfl ?_ | refine gny_ld 2 rfl rfl rfl rfl ?_ | refine gny_ldH 2 rfl rfl rfl ‹HRow _ _ 0 _› rfl ?_ | refine gny_T 2 rfl rfl rfl ?_ | refine gny_F 2 rfl rfl rfl ?_ | refine gny_B 2 rfl rfl rfl ?_ | refine gny_skip 2 rfl rfl ?_ | refine gny_sp 2 rfl rfl rfl ?_ | refine gny_sB 2 rfl rfl rfl ?_ | refine gny_sld 2 rfl rfl rfl rfl ?_ | refine gny_sldH 2 rfl rfl rfl ‹HRow _ _ 0 _› rfl ?_ | refine gny_ldN 2 rfl rfl rfl rfl ?_ | refine gny_bld 2 rfl rfl rfl ?_); (first | refine gny_p 3 rfl rfl rfl ?_ | refine gny_ld 3 rfl rfl rfl rfl ?_ | refine gny_ldH 3 rfl rfl rfl ‹HRow _ _ 0 _› rfl ?_ | refine gny_T 3 rfl rfl rfl ?_ | refine gny_F 3 rfl rfl rfl ?_ | refine gny_B 3 rfl rfl rfl ?_ | refine gny_skip 3 rfl rfl ?_ | refine gny_sp 3 rfl rfl rfl ?_ | refine gny_sB 3 rfl rfl rfl ?_ | refine gny_sld 3 rfl rfl rfl rfl ?_ | refine gny_sldH 3 rfl rfl rfl ‹HRow _ _ 0 _› rfl ?_ | refine gny_ldN 3 rfl rfl rfl rfl ?_ | refine gny_bld 3 rfl rfl rfl ?_); (first | refine gny_p 4 rfl rfl rfl ?_ | refine gny_ld 4 rfl rfl rfl rfl ?_ | refine gny_ldH 4 rfl rfl rfl ‹HRow _ _ 0 _› rfl ?_ | refine gny_T 4 rfl rfl rfl ?_ | refine gny_F 4 rfl rfl rfl ?_ | refine gny_B 4 rfl rfl rfl ?_ | refine gny_skip 4 rfl rfl ?_ | refine gny_sp 4 rfl rfl rfl ?_ | refine gny_sB 4 rfl rfl rfl ?_ | refine gny_sld 4 rfl rfl rfl rfl ?_ | refine gny_sldH 4 rfl rfl rfl ‹HRow _ _ 0 _› rfl ?_ | refine gny_ldN 4 rfl rfl rfl rfl ?_ | refine gny_bld 4 rfl rfl rfl ?_); (first | refine gny_p 5 rfl rfl rfl ?_ | refine gny_ld 5 rfl rfl rfl rfl ?_ | refine gny_ldH 5 rfl rfl rfl ‹HRow _ _ 0 _› rfl ?_ | refine gny_T 5 rfl rfl rfl ?_ | refine gny_F 5 rfl rfl rfl ?_ | refine gny_B 5 rfl rfl rfl ?_ | refine gny_skip 5 rfl rfl ?_ | refine gny_sp 5 rfl rfl rfl ?_ | refine gny_sB 5 rfl rfl rfl ?_ | refine gny_sld 5 rfl rfl rfl rfl ?_ | refine gny_sldH 5 rfl rfl rfl ‹HRow _ _ 0 _› rfl ?_ | refine gny_ldN 5 rfl rfl rfl rfl ?_ | refine gny_bld 5 rfl rfl rfl ?_); (first | refine gny_p 6 rfl rfl rfl ?_ | refine gny_ld 6 rfl rfl rfl rfl ?_ | refine gny_ldH 6 rfl rfl rfl ‹HRow _ _ 0 _› rfl ?_ | refine gny_T 6 rfl rfl rfl ?_ | refine gny_F 6 rfl rfl rfl ?_ | refine gny_B 6 rfl rfl rfl ?_ | refine gny_skip 6 rfl rfl ?_ | refine gny_sp 6 rfl rfl rfl ?_ | refine gny_sB 6 rfl rfl rfl ?_ | refine gny_sld 6 rfl rfl rfl rfl ?_ | refine gny_sldH 6 rfl rfl rfl ‹HRow _ _ 0 _› rfl ?_ | refine gny_ldN 6 rfl rfl rfl rfl ?_ | refine gny_bld 6 rfl rfl rfl ?_)
    refine gny_ixp 7 rfl rfl rfl ((h2.mono hl34).1) hjr fun q2 o2 ck2 hr2 hck2 => ?_
    refine gny_ldNH 8 rfl rfl rfl hr2 (RdOk.len (R := rRoute) hck2) ?_
    (first | refine gny_p 10 rfl rfl rfl ?_ | refine gny_ld 10 rfl rfl rfl rfl ?_ | refine gny_ldH 10 rfl rfl rfl ‹HRow _ _ 0 _› rfl ?_ | refine gny_T 10 rfl rfl rfl ?_ | refine gny_F 10 rfl rfl rfl ?_ | refine gny_B 10 rfl rfl rfl ?_ | refine gny_skip 10 rfl rfl ?_ | refine gny_sp 10 rfl rfl rfl ?_ | refine gny_sB 10 rfl rfl rfl ?_ | refine gny_sld 10 rfl rfl rfl rfl ?_ | refine gny_sldH 10 rfl rfl rfl ‹HRow _ _ 0 _› rfl ?_ | refine gny_ldN 10 rfl rfl rfl rfl ?_ | refine gny_bld 10 rfl rfl rfl ?_); (first | refine gny_p 11 rfl rfl rfl ?_ | refine gny_ld 11 rfl rfl rfl rfl ?_ | refine gny_ldH 11 rfl rfl rfl ‹HRow _ _ 0 _› rfl ?_ | refine gny_T 11 rfl rfl rfl ?_ | refine gny_F 11 rfl rfl rfl ?_ | refine gny_B 11 rfl rfl rfl ?_ | refine gny_skip 11 rfl rfl ?_ | refine gny_sp 11 rfl rfl rfl ?_ | refine gny_sB 11 rfl rfl rfl ?_ | refine gny_sld 11 rfl rfl rfl rfl ?_ | refine gny_sldH 11 rfl rfl rfl ‹HRow _ _ 0 _› rfl ?_ | refine gny_ldN 11 rfl rfl rfl rfl ?_ | refine gny_bld 11 rfl rfl rfl ?_); (first | refine gny_p 12 rfl rfl rfl ?_ | refine gny_ld 12 rfl rfl rfl rfl ?_ | refine gny_ldH 12 rfl rfl rfl ‹HRow _ _ 0 _› rfl ?_ | refine gny_T 12 rfl rfl rfl ?_ | refine gny_F 12 rfl rfl rfl ?_ | refine gny_B 12 rfl rfl rfl ?_ | refine gny_skip 12 rfl rfl ?_ | refine gny_sp 12 rfl rfl rfl ?_ | refine gny_sB 12 rfl rfl rfl ?_ | refine gny_sld 12 rfl rfl rfl rfl ?_ | refine gny_sldH 12 rfl rfl rfl ‹HRow _ _ 0 _› rfl ?_ | refine gny_ldN 12 rfl rfl rfl rfl ?_ | refine gny_bld 12 rfl rfl rfl ?_); (first | refine gny_p 13 rfl rfl rfl ?_ | refine gny_ld 13 rfl rfl rfl rfl ?_ | refine gny_ldH 13 rfl rfl rfl ‹HRow _ _ 0 _› rfl ?_ | refine gny_T 13 rfl rfl rfl ?_ | refine gny_F 13 rfl rfl rfl ?_ | refine gny_B 13 rfl rfl rfl ?_ | refine gny_skip 13 rfl rfl ?_ | refine gny_sp 13 rfl rfl rfl ?_ | refine gny_sB 13 rfl rfl rfl ?_ | refine gny_sld 13 rfl rfl rfl rfl ?_ | refine gny_sldH 13 rfl rfl rfl ‹HRow _ _ 0 _› rfl ?_ | refine gny_ldN 13 rfl rfl rfl rfl ?_ | refine gny_bld 13 rfl rfl rfl ?_)
    refine gny_call (vs := [.agg [.slice b1 es.length c1, .slice b2 rs.length c2].toArray, I j, I (es[j] + 1), .agg ck2.toArray]) 9 rfl rfl rfl (with_spec (j := j) (e := es[j] + 1) (x := rs[j]) gb4 hck2 hel hrl hj (by unfold fits; omega)) fun r5 H5 B hl5 ⟨u1, u2, er, hR, eB⟩ => ?_
    subst er eB
    refine ⟨(by (repeat (first | exact Sub.refl _ | exact Sub.nil _ | (apply sub_pick; (repeat (first | exact Has.here | apply Has.there)); skip) | apply Sub.drop))), ?_⟩
    obtain ⟨d5, e5, hu1, _, _⟩ := hR.1.1.shape
    obtain ⟨d6, e6, hu2, _, _⟩ := hR.2.1.shape
    subst hu1 hu2
    refine any_sta 14 rfl rfl rfl rfl (by simp) rfl ⟨(by (repeat (first | exact Sub.refl _ | exact Sub.nil _ | (apply sub_pick; (repeat (first | exact Has.here | apply Has.there)); skip) | apply Sub.drop))), ?_⟩
    refine any_rest rfl ?_
    refine walk ?_
    rw [e]
    refine fin0 ?_
    refine ⟨_, _, _, rfl, ?_, rRoute_reply (rRoute_up hnow hl5) fits0 (by unfold fits; omega), rfl⟩
    simpa [List.set_getElem_self] using hR
  refine walk ?_
  refine ex_if rfl (fun e0 => ?_) (fun e0 => ?_)
  · have e : applyC confK m es rs (j : Int) c t = (es, rs, ⟨4, 0, zRoute⟩) := by rw [hap]; unfold applyIn; rw [if_neg v1, if_pos e0]
    refine walk ?_
    rw [e]
    refine fin0 ?_
    exact ⟨_, _, _, rfl, gb4, no_reads (by unfold fits; omega), rfl⟩
  refine walk ?_
  refine ex_if rfl (fun v6 => ?_) (fun v6 => ?_)
  · have e : applyC confK m es rs (j : Int) c t = (es, rs, ⟨0, es[j], cutR rs[j] t⟩) := by rw [hap]; unfold applyIn; rw [if_neg v1, if_neg e0, if_pos v6]
    refine walk ?_
    refine ex_any 5 [row p6 43 [.slice b1 es.length c1, .slice b2 rs.length c2], row p14 28 [I (cutR rs[j] t).Start, .slice d3 (cutR rs[j] t).Cells.length e3]] ?_
    (first | refine gny_p 0 rfl rfl rfl ?_ | refine gny_ld 0 rfl rfl rfl rfl ?_ | refine gny_ldH 0 rfl rfl rfl ‹HRow _ _ 0 _› rfl ?_ | refine gny_T 0 rfl rfl rfl ?_ | refine gny_F 0 rfl rfl rfl ?_ | refine gny_B 0 rfl rfl rfl ?_ | refine gny_skip 0 rfl rfl ?_ | refine gny_sp 0 rfl rfl rfl ?_ | refine gny_sB 0 rfl rfl rfl ?_ | refine gny_sld 0 rfl rfl rfl rfl ?_ | refine gny_sldH 0 rfl rfl rfl ‹HRow _ _ 0 _› rfl ?_ | refine gny_ldN 0 rfl rfl rfl rfl ?_ | refine gny_bld 0 rfl rfl rfl ?_); (first | refine gny_p 1 rfl rfl rfl ?_ | refine gny_ld 1 rfl rfl rfl rfl ?_ | refine gny_ldH 1 rfl rfl rfl ‹HRow _ _ 0 _› rfl ?_ | refine gny_T 1 rfl rfl rfl ?_ | refine gny_F 1 rfl rfl rfl ?_ | refine gny_B 1 rfl rfl rfl ?_ | refine gny_skip 1 rfl rfl ?_ | refine gny_sp 1 rfl rfl rfl ?_ | refine gny_sB 1 rfl rfl rfl ?_ | refine gny_sld 1 rfl rfl rfl rfl ?_ | refine gny_sldH 1 rfl rfl rfl ‹HRow _ _ 0 _› rfl ?_ | refine gny_ldN 1 rfl rfl rfl rfl ?_ | refine gny_bld 1 rfl rfl rfl ?_); (first | refine gny_p 2 rfl rfl rfl ?_ | refine gny_ld 2 rfl rfl rfl rfl ?_ | refine gny_ldH 2 rfl rfl rfl ‹HRow _ _ 0 _› rfl ?_ | refine gny_T 2 rfl rfl rfl ?_ | refine gny_F 2 rfl rfl rfl ?_ | refine gny_B 2 rfl rfl rfl ?_ | refine gny_skip 2 rfl rfl ?_ | refine gny_sp 2 rfl rfl rfl ?_ | refine gny_sB 2 rfl rfl rfl ?_ | refine gny_sld 2 rfl rfl rfl rfl ?_ | refine gny_sldH 2 rfl rfl rfl ‹HRow _ _ 0 _› rfl ?_ | refine gny_ldN 2 rfl rfl rfl rfl ?_ | refine gny_bld 2 rfl rfl rfl ?_); (first | refine gny_p 3 rfl rfl rfl ?_ | refine gny_ld 3 rfl rfl rfl rfl ?_ | refine gny_ldH 3 rfl rfl rfl ‹HRow _ _ 0 _› rfl ?_ | refine gny_T 3 rfl rfl rfl ?_ | refine gny_F 3 rfl rfl rfl ?_ | refine gny_B 3 rfl rfl rfl ?_ | refine gny_skip 3 rfl rfl ?_ | refine gny_sp 3 rfl rfl rfl ?_ | refine gny_sB 3 rfl rfl rfl ?_ | refine gny_sld 3 rfl rfl rfl rfl ?_ | refine gny_sldH 3 rfl rfl rfl ‹HRow _ _ 0 _› rfl ?_ | refine gny_ldN 3 rfl rfl rfl rfl ?_ | refine gny_bld 3 rfl rfl rfl ?_)
    refine any_sta 4 rfl rfl rfl rfl (by simp) rfl ⟨(by (repeat (first | exact Sub.refl _ | exact Sub.nil _ | (apply sub_pick; (repeat (first | exact Has.here | apply Has.there)); skip) | apply Sub.drop))), ?_⟩
    refine any_rest rfl ?_
    refine walk ?_
    rw [e]
    refine fin0 ?_
    exact ⟨_, _, _, rfl, gb4, rRoute_reply hnow fits0 (by unfold fits; omega), rfl⟩
  refine walk ?_
  refine ex_if rfl (fun ec => ?_) (fun ec => ?_)
  · have e : applyC confK m es rs (j : Int) c t = (es, rs, ⟨190, 0, zRoute⟩) := by rw [hap]; unfold applyIn; rw [if_neg v1, if_neg e0, if_neg v6, if_pos ec]
    refine walk ?_
    rw [e]
    refine fin0 ?_
    exact ⟨_, _, _, rfl, gb4, no_reads (by unfold fits; omega), rfl⟩
  refine walk ?_
  refine ex_if rfl (fun v2 => ?_) (fun v2 => ?_)
  · have e : applyC confK m es rs (j : Int) c t = (es, rs, ⟨0, es[j], zRoute⟩) := by rw [hap]; unfold applyIn; rw [if_neg v1, if_neg e0, if_neg v6, if_neg ec, if_pos v2]
    refine walk ?_
    rw [e]
    refine fin0 ?_
    exact ⟨_, _, _, rfl, gb4, zr_reads (by unfold fits; omega), rfl⟩
  refine walk ?_
  refine ops_alloc rfl fun p15 _ => ?_
  refine walk ?_
  refine ex_if rfl (fun v3 => ?_) (fun v3 => ?_)
  · have ea : applyC confK m es rs (j : Int) c t = (es, resC confK m es rs j c.Route (cutR rs[j] t) t) := by rw [hap]; unfold applyIn; rw [if_neg v1, if_neg e0, if_neg v6, if_neg ec, if_neg v2, if_pos v3]
    refine walk ?_
    refine ops_pcall (vs := [.agg (m.cv (.slice bm m.Blocked.length cm)).toArray, .agg [I c.Route.Start, .slice b0 c.Route.Cells.length c0].toArray]) rfl rfl (rCheck_spec hm4 hx4 hsd) ?_
    have hcf := checkR_fits (m := m) (x := c.Route)
    refine walkG ?_
    refine ex_if rfl (fun hs => ?_) (fun hs => ?_)
    · have e : applyC confK m es rs (j : Int) c t = (es, rs, ⟨7, 0, zRoute⟩) := by rw [ea]; unfold resC; rw [if_neg (by omega), if_pos hs.2]
      refine walk ?_
      rw [e]
      refine fin0 ?_
      exact ⟨_, _, _, rfl, gb4, no_reads (by unfold fits; omega), rfl⟩
    refine walkG ?_
    refine ex_if rfl (fun hn => ?_) (fun hn => ?_)
    · have e : applyC confK m es rs (j : Int) c t = (es, rs, ⟨2, 0, zRoute⟩) := by
        have hn2 : (cutR rs[j] t).Cells ≠ [] := by intro e; rw [e] at hn; simp at hn
        rw [ea]; unfold resC; rw [if_neg (by omega), if_neg (by omega), if_pos hn2]
      refine walk ?_
      rw [e]
      refine fin0 ?_
      exact ⟨_, _, _, rfl, gb4, no_reads (by unfold fits; omega), rfl⟩
    refine walk ?_
    refine ex_if rfl (fun hq => ?_) (fun hq => ?_)
    · have e : applyC confK m es rs (j : Int) c t = (es, rs, ⟨checkR m c.Route, 0, zRoute⟩) := by rw [ea]; unfold resC; rw [if_pos hq]
      refine walk ?_
      rw [e]
      refine fin0 ?_
      exact ⟨_, _, _, rfl, gb4, no_reads hcf, rfl⟩
    have hq0 : ¬ checkR m c.Route ≠ 0 := hq
    have ea2 : applyC confK m es rs (j : Int) c t = (es, takeC confK m es rs j c.Route t) := by
      have hn2 : ¬ (cutR rs[j] t).Cells ≠ [] := by
        intro e
        have : 0 < (cutR rs[j] t).Cells.length := by cases h : (cutR rs[j] t).Cells with | nil => exact absurd h e | cons => simp
        omega
      rw [ea]; unfold resC; rw [if_neg hq0, if_neg (by omega), if_neg hn2]
    refine walk ?_
    refine ops_call (vs := [.agg [.slice b1 es.length c1, .slice b2 rs.length c2].toArray, I j, .agg [I (c.Route).Start, .slice b0 c.Route.Cells.length c0].toArray, I t]) rfl rfl (conflict_spec (x := c.Route) (gb4.mono (Heap.le.refl H4)) hx4 hrl hj ht) fun r20 H20 B hl20 ⟨er, eB⟩ => ?_
    subst er eB
    refine walk ?_
    refine ex_ifb (p := confK rs j (c.Route) t) rfl confKB_iff (fun hk => ?_) (fun hk => ?_)
    · have e : applyC confK m es rs (j : Int) c t = (es, rs, ⟨140, 0, zRoute⟩) := by
        rw [ea2]; unfold takeC; rw [if_neg hq0, if_pos (by exact hk)]
      refine walk ?_
      rw [e]
      refine fin0 ?_
      exact ⟨_, _, _, rfl, (gb4.mono (Heap.le.trans (Heap.le.refl H4) hl20)), no_reads (by unfold fits; omega), rfl⟩
    · have e : applyC confK m es rs (j : Int) c t = (es, rs.set j (c.Route), ⟨0, es[j], (c.Route)⟩) := by
        rw [ea2]; unfold takeC; rw [if_neg hq0, if_neg (by exact hk), hge]
      refine walk ?_
      refine ex_any 9 [row p6 43 [.slice b1 es.length c1, .slice b2 rs.length c2], row p15 28 [I (c.Route).Start, .slice b0 c.Route.Cells.length c0]] ?_
      (first | refine gny_p 0 rfl rfl rfl ?_ | refine gny_ld 0 rfl rfl rfl rfl ?_ | refine gny_ldH 0 rfl rfl rfl ‹HRow _ _ 0 _› rfl ?_ | refine gny_T 0 rfl rfl rfl ?_ | refine gny_F 0 rfl rfl rfl ?_ | refine gny_B 0 rfl rfl rfl ?_ | refine gny_skip 0 rfl rfl ?_ | refine gny_sp 0 rfl rfl rfl ?_ | refine gny_sB 0 rfl rfl rfl ?_ | refine gny_sld 0 rfl rfl rfl rfl ?_ | refine gny_sldH 0 rfl rfl rfl ‹HRow _ _ 0 _› rfl ?_ | refine gny_ldN 0 rfl rfl rfl rfl ?_ | refine gny_bld 0 rfl rfl rfl ?_); (first | refine gny_p 1 rfl rfl rfl ?_ | refine gny_ld 1 rfl rfl rfl rfl ?_ | refine gny_ldH 1 rfl rfl rfl ‹HRow _ _ 0 _› rfl ?_ | refine gny_T 1 rfl rfl rfl ?_ | refine gny_F 1 rfl rfl rfl ?_ | refine gny_B 1 rfl rfl rfl ?_ | refine gny_skip 1 rfl rfl ?_ | refine gny_sp 1 rfl rfl rfl ?_ | refine gny_sB 1 rfl rfl rfl ?_ | refine gny_sld 1 rfl rfl rfl rfl ?_ | refine gny_sldH 1 rfl rfl rfl ‹HRow _ _ 0 _› rfl ?_ | refine gny_ldN 1 rfl rfl rfl rfl ?_ | refine gny_bld 1 rfl rfl rfl ?_); (first | refine gny_p 2 rfl rfl rfl ?_ | refine gny_ld 2 rfl rfl rfl rfl ?_ | refine gny_ldH 2 rfl rfl rfl ‹HRow _ _ 0 _› rfl ?_ | refine gny_T 2 rfl rfl rfl ?_ | refine gny_F 2 rfl rfl rfl ?_ | refine gny_B 2 rfl rfl rfl ?_ | refine gny_skip 2 rfl rfl ?_ | refine gny_sp 2 rfl rfl rfl ?_ | refine gny_sB 2 rfl rfl rfl ?_ | refine gny_sld 2 rfl rfl rfl rfl ?_ | refine gny_sldH 2 rfl rfl rfl ‹HRow _ _ 0 _› rfl ?_ | refine gny_ldN 2 rfl rfl rfl rfl ?_ | refine gny_bld 2 rfl rfl rfl ?_); (first | refine gny_p 3 rfl rfl rfl ?_ | refine gny_ld 3 rfl rfl rfl rfl ?_ | refine gny_ldH 3 rfl rfl rfl ‹HRow _ _ 0 _› rfl ?_ | refine gny_T 3 rfl rfl rfl ?_ | refine gny_F 3 rfl rfl rfl ?_ | refine gny_B 3 rfl rfl rfl ?_ | refine gny_skip 3 rfl rfl ?_ | refine gny_sp 3 rfl rfl rfl ?_ | refine gny_sB 3 rfl rfl rfl ?_ | refine gny_sld 3 rfl rfl rfl rfl ?_ | refine gny_sldH 3 rfl rfl rfl ‹HRow _ _ 0 _› rfl ?_ | refine gny_ldN 3 rfl rfl rfl rfl ?_ | refine gny_bld 3 rfl rfl rfl ?_); (first | refine gny_p 5 rfl rfl rfl ?_ | refine gny_ld 5 rfl rfl rfl rfl ?_ | refine gny_ldH 5 rfl rfl rfl ‹HRow _ _ 0 _› rfl ?_ | refine gny_T 5 rfl rfl rfl ?_ | refine gny_F 5 rfl rfl rfl ?_ | refine gny_B 5 rfl rfl rfl ?_ | refine gny_skip 5 rfl rfl ?_ | refine gny_sp 5 rfl rfl rfl ?_ | refine gny_sB 5 rfl rfl rfl ?_ | refine gny_sld 5 rfl rfl rfl rfl ?_ | refine gny_sldH 5 rfl rfl rfl ‹HRow _ _ 0 _› rfl ?_ | refine gny_ldN 5 rfl rfl rfl rfl ?_ | refine gny_bld 5 rfl rfl rfl ?_); (first | refine gny_p 6 rfl rfl rfl ?_ | refine gny_ld 6 rfl rfl rfl rfl ?_ | refine gny_ldH 6 rfl rfl rfl ‹HRow _ _ 0 _› rfl ?_ | refine gny_T 6 rfl rfl rfl ?_ | refine gny_F 6 rfl rfl rfl ?_ | refine gny_B 6 rfl rfl rfl ?_ | refine gny_skip 6 rfl rfl ?_ | refine gny_sp 6 rfl rfl rfl ?_ | refine gny_sB 6 rfl rfl rfl ?_ | refine gny_sld 6 rfl rfl rfl rfl ?_ | refine gny_sldH 6 rfl rfl rfl ‹HRow _ _ 0 _› rfl ?_ | refine gny_ldN 6 rfl rfl rfl rfl ?_ | refine gny_bld 6 rfl rfl rfl ?_); (first | refine gny_p 7 rfl rfl rfl ?_ | refine gny_ld 7 rfl rfl rfl rfl ?_ | refine gny_ldH 7 rfl rfl rfl ‹HRow _ _ 0 _› rfl ?_ | refine gny_T 7 rfl rfl rfl ?_ | refine gny_F 7 rfl rfl rfl ?_ | refine gny_B 7 rfl rfl rfl ?_ | refine gny_skip 7 rfl rfl ?_ | refine gny_sp 7 rfl rfl rfl ?_ | refine gny_sB 7 rfl rfl rfl ?_ | refine gny_sld 7 rfl rfl rfl rfl ?_ | refine gny_sldH 7 rfl rfl rfl ‹HRow _ _ 0 _› rfl ?_ | refine gny_ldN 7 rfl rfl rfl rfl ?_ | refine gny_bld 7 rfl rfl rfl ?_)
      refine gny_call (vs := [.agg [.slice b1 es.length c1, .slice b2 rs.length c2].toArray, I j, I es[j], .agg [I (c.Route).Start, .slice b0 c.Route.Cells.length c0].toArray]) 4 rfl rfl rfl (with_spec (j := j) (e := es[j]) (x := c.Route) (gb4.mono (Heap.le.trans (Heap.le.refl H4) hl20)) (rRoute_up hx4 hl20) hel hrl hj (by unfold fits; omega)) fun r21 H21 B hl21 ⟨u1, u2, er, hR, eB⟩ => ?_
      subst er eB
      refine ⟨(by (repeat (first | exact Sub.refl _ | exact Sub.nil _ | (apply sub_pick; (repeat (first | exact Has.here | apply Has.there)); skip) | apply Sub.drop))), ?_⟩
      obtain ⟨d21, e21, hu1, _, _⟩ := hR.1.1.shape
      obtain ⟨d22, e22, hu2, _, _⟩ := hR.2.1.shape
      subst hu1 hu2
      refine any_sta 8 rfl rfl rfl rfl (by simp) rfl ⟨(by (repeat (first | exact Sub.refl _ | exact Sub.nil _ | (apply sub_pick; (repeat (first | exact Has.here | apply Has.there)); skip) | apply Sub.drop))), ?_⟩
      refine any_rest rfl ?_
      refine walk ?_
      rw [e]
      refine fin0 ?_
      refine ⟨_, _, _, rfl, ?_, rRoute_reply (rRoute_up hx4 (hl20.trans hl21)) fits0 (by unfold fits; omega), rfl⟩
      simpa [List.set_getElem_self] using hR
  refine walk ?_
  refine ex_if rfl (fun en => ?_) (fun en => ?_)
  · have hnil : (cutR rs[j] t).Cells = [] := List.eq_nil_of_length_eq_zero (by omega)
    have e : applyC confK m es rs (j : Int) c t = (es, rs, ⟨4, 0, zRoute⟩) := by rw [hap]; unfold applyIn; rw [if_neg v1, if_neg e0, if_neg v6, if_neg ec, if_neg v2, if_neg v3, if_pos hnil]
    refine walk ?_
    rw [e]
    refine fin0 ?_
    exact ⟨_, _, _, rfl, gb4, no_reads (by unfold fits; omega), rfl⟩
  have hnn : ¬ (cutR rs[j] t).Cells = [] := fun e => en (by rw [e]; rfl)
  refine walk ?_
  refine ex_if rfl (fun v5 => ?_) (fun v5 => ?_)
  · have e : applyC confK m es rs (j : Int) c t = (es, rs.set j zRoute, ⟨0, es[j], zRoute⟩) := by rw [hap]; unfold applyIn; rw [if_neg v1, if_neg e0, if_neg v6, if_neg ec, if_neg v2, if_neg v3, if_neg hnn, if_pos v5]
    refine walk ?_
    refine ops_call (vs := [.agg [.slice b1 es.length c1, .slice b2 rs.length c2].toArray, I j, I es[j], .agg [I 0, nilS].toArray]) rfl rfl (with_spec (j := j) (e := es[j]) (x := zRoute) gb4 zRoute_reads hel hrl hj (by unfold fits; omega)) fun r5 H5 B hl5 ⟨u1, u2, er, hR, eB⟩ => ?_
    subst er eB
    obtain ⟨d5, e5, hu1, _, _⟩ := hR.1.1.shape
    obtain ⟨d6, e6, hu2, _, _⟩ := hR.2.1.shape
    subst hu1 hu2
    refine walk ?_
    rw [e]
    refine fin0 ?_
    refine ⟨_, _, _, rfl, ?_, zr_reads (by unfold fits; omega), rfl⟩
    simpa [List.set_getElem_self] using hR
  have ea : applyC confK m es rs (j : Int) c t = (es, takeC confK m es rs j ⟨(cutR rs[j] t).Start, (cutR rs[j] t).Cells ++ c.Route.Cells⟩ t) := by rw [hap]; unfold applyIn; rw [if_neg v1, if_neg e0, if_neg v6, if_neg ec, if_neg v2, if_neg v3, if_neg hnn, if_neg v5]
  refine walk ?_
  refine ex_any 11 [row p14 28 [I (cutR rs[j] t).Start, .slice d3 (cutR rs[j] t).Cells.length e3], row p8 30 (c.cv (.slice b0 c.Route.Cells.length c0))] ?_
  (first | refine gny_p 0 rfl rfl rfl ?_ | refine gny_ld 0 rfl rfl rfl rfl ?_ | refine gny_ldH 0 rfl rfl rfl ‹HRow _ _ 0 _› rfl ?_ | refine gny_T 0 rfl rfl rfl ?_ | refine gny_F 0 rfl rfl rfl ?_ | refine gny_B 0 rfl rfl rfl ?_ | refine gny_skip 0 rfl rfl ?_ | refine gny_sp 0 rfl rfl rfl ?_ | refine gny_sB 0 rfl rfl rfl ?_ | refine gny_sld 0 rfl rfl rfl rfl ?_ | refine gny_sldH 0 rfl rfl rfl ‹HRow _ _ 0 _› rfl ?_ | refine gny_ldN 0 rfl rfl rfl rfl ?_ | refine gny_bld 0 rfl rfl rfl ?_); (first | refine gny_p 1 rfl rfl rfl ?_ | refine gny_ld 1 rfl rfl rfl rfl ?_ | refine gny_ldH 1 rfl rfl rfl ‹HRow _ _ 0 _› rfl ?_ | refine gny_T 1 rfl rfl rfl ?_ | refine gny_F 1 rfl rfl rfl ?_ | refine gny_B 1 rfl rfl rfl ?_ | refine gny_skip 1 rfl rfl ?_ | refine gny_sp 1 rfl rfl rfl ?_ | refine gny_sB 1 rfl rfl rfl ?_ | refine gny_sld 1 rfl rfl rfl rfl ?_ | refine gny_sldH 1 rfl rfl rfl ‹HRow _ _ 0 _› rfl ?_ | refine gny_ldN 1 rfl rfl rfl rfl ?_ | refine gny_bld 1 rfl rfl rfl ?_); (first | refine gny_p 3 rfl rfl rfl ?_ | refine gny_ld 3 rfl rfl rfl rfl ?_ | refine gny_ldH 3 rfl rfl rfl ‹HRow _ _ 0 _› rfl ?_ | refine gny_T 3 rfl rfl rfl ?_ | refine gny_F 3 rfl rfl rfl ?_ | refine gny_B 3 rfl rfl rfl ?_ | refine gny_skip 3 rfl rfl ?_ | refine gny_sp 3 rfl rfl rfl ?_ | refine gny_sB 3 rfl rfl rfl ?_ | refine gny_sld 3 rfl rfl rfl rfl ?_ | refine gny_sldH 3 rfl rfl rfl ‹HRow _ _ 0 _› rfl ?_ | refine gny_ldN 3 rfl rfl rfl rfl ?_ | refine gny_bld 3 rfl rfl rfl ?_); (first | refine gny_p 4 rfl rfl rfl ?_ | refine gny_ld 4 rfl rfl rfl rfl ?_ | refine gny_ldH 4 rfl rfl rfl ‹HRow _ _ 0 _› rfl ?_ | refine gny_T 4 rfl rfl rfl ?_ | refine gny_F 4 rfl rfl rfl ?_ | refine gny_B 4 rfl rfl rfl ?_ | refine gny_skip 4 rfl rfl ?_ | refine gny_sp 4 rfl rfl rfl ?_ | refine gny_sB 4 rfl rfl rfl ?_ | refine gny_sld 4 rfl rfl rfl rfl ?_ | refine gny_sldH 4 rfl rfl rfl ‹HRow _ _ 0 _› rfl ?_ | refine gny_ldN 4 rfl rfl rfl rfl ?_ | refine gny_bld 4 rfl rfl rfl ?_); (first | refine gny_p 6 rfl rfl rfl ?_ | refine gny_ld 6 rfl rfl rfl rfl ?_ | refine gny_ldH 6 rfl rfl rfl ‹HRow _ _ 0 _› rfl ?_ | refine gny_T 6 rfl rfl rfl ?_ | refine gny_F 6 rfl rfl rfl ?_ | refine gny_B 6 rfl rfl rfl ?_ | refine gny_skip 6 rfl rfl ?_ | refine gny_sp 6 rfl rfl rfl ?_ | refine gny_sB 6 rfl rfl rfl ?_ | refine gny_sld 6 rfl rfl rfl rfl ?_ | refine gny_sldH 6 rfl rfl rfl ‹HRow _ _ 0 _› rfl ?_ | refine gny_ldN 6 rfl rfl rfl rfl ?_ | refine gny_bld 6 rfl rfl rfl ?_); (first | refine gny_p 7 rfl rfl rfl ?_ | refine gny_ld 7 rfl rfl rfl rfl ?_ | refine gny_ldH 7 rfl rfl rfl ‹HRow _ _ 0 _› rfl ?_ | refine gny_T 7 rfl rfl rfl ?_ | refine gny_F 7 rfl rfl rfl ?_ | refine gny_B 7 rfl rfl rfl ?_ | refine gny_skip 7 rfl rfl ?_ | refine gny_sp 7 rfl rfl rfl ?_ | refine gny_sB 7 rfl rfl rfl ?_ | refine gny_sld 7 rfl rfl rfl rfl ?_ | refine gny_sldH 7 rfl rfl rfl ‹HRow _ _ 0 _› rfl ?_ | refine gny_ldN 7 rfl rfl rfl rfl ?_ | refine gny_bld 7 rfl rfl rfl ?_); (first | refine gny_p 8 rfl rfl rfl ?_ | refine gny_ld 8 rfl rfl rfl rfl ?_ | refine gny_ldH 8 rfl rfl rfl ‹HRow _ _ 0 _› rfl ?_ | refine gny_T 8 rfl rfl rfl ?_ | refine gny_F 8 rfl rfl rfl ?_ | refine gny_B 8 rfl rfl rfl ?_ | refine gny_skip 8 rfl rfl ?_ | refine gny_sp 8 rfl rfl rfl ?_ | refine gny_sB 8 rfl rfl rfl ?_ | refine gny_sld 8 rfl rfl rfl rfl ?_ | refine gny_sldH 8 rfl rfl rfl ‹HRow _ _ 0 _› rfl ?_ | refine gny_ldN 8 rfl rfl rfl rfl ?_ | refine gny_bld 8 rfl rfl rfl ?_)
  refine gny_w 2 rfl rfl (op_mk0S (wd := 8) rInt fun b3 => ⟨.refl _, (by (repeat (first | exact Sub.refl _ | exact Sub.nil _ | (apply sub_pick; (repeat (first | exact Has.here | apply Has.there)); skip) | apply Sub.drop))), ?_⟩)
  refine gny_w 5 rfl rfl (op_appSS (R := rInt) rfl hz.1 (by simp only [List.length_nil, cap47]; omega) fun d7 e7 => ⟨.refl _, (by (repeat (first | exact Sub.refl _ | exact Sub.nil _ | (apply sub_pick; (repeat (first | exact Has.here | apply Has.there)); skip) | apply Sub.drop))), ?_⟩)
  simp only [List.length_nil, Nat.zero_add, List.nil_append]
  refine gny_w 9 rfl rfl (op_appSS (R := rInt) rfl (h0.mono hl34).1 (by simp only [cap47]; omega) fun d8 e8 => ⟨.refl _, (by (repeat (first | exact Sub.refl _ | exact Sub.nil _ | (apply sub_pick; (repeat (first | exact Has.here | apply Has.there)); skip) | apply Sub.drop))), ?_⟩)
  (first | refine gny_p 10 rfl rfl rfl ?_ | refine gny_ld 10 rfl rfl rfl rfl ?_ | refine gny_ldH 10 rfl rfl rfl ‹HRow _ _ 0 _› rfl ?_ | refine gny_T 10 rfl rfl rfl ?_ | refine gny_F 10 rfl rfl rfl ?_ | refine gny_B 10 rfl rfl rfl ?_ | refine gny_skip 10 rfl rfl ?_ | refine gny_sp 10 rfl rfl rfl ?_ | refine gny_sB 10 rfl rfl rfl ?_ | refine gny_sld 10 rfl rfl rfl rfl ?_ | refine gny_sldH 10 rfl rfl rfl ‹HRow _ _ 0 _› rfl ?_ | refine gny_ldN 10 rfl rfl rfl rfl ?_ | refine gny_bld 10 rfl rfl rfl ?_)
  refine any_rest rfl ?_
  refine walk ?_
  refine ops_freeze (.slice d8 ((cutR rs[j] t).Cells.length + c.Route.Cells.length) e8) fun H5 hl5 hz5 => ?_
  have hlapp : ((cutR rs[j] t).Cells ++ c.Route.Cells).length = (cutR rs[j] t).Cells.length + c.Route.Cells.length := by simp
  have hx5 : rRoute H5 [I (cutR rs[j] t).Start, .slice d8 ((cutR rs[j] t).Cells.length + c.Route.Cells.length) e8] ⟨(cutR rs[j] t).Start, (cutR rs[j] t).Cells ++ c.Route.Cells⟩ := ⟨_, rfl, cutR_fits, hz5⟩
  refine ops_pcall (vs := [.agg (m.cv (.slice bm m.Blocked.length cm)).toArray, .agg [I (cutR rs[j] t).Start, .slice d8 ((cutR rs[j] t).Cells.length + c.Route.Cells.length) e8].toArray]) rfl rfl (rCheck_spec (RdOk.mono (R := rMap) hl5 hm4) hx5 hsd) ?_
  have hcf := checkR_fits (m := m) (x := ⟨(cutR rs[j] t).Start, (cutR rs[j] t).Cells ++ c.Route.Cells⟩)
  refine walk ?_
  refine ex_if rfl (fun hq => ?_) (fun hq => ?_)
  · have e : applyC confK m es rs (j : Int) c t = (es, rs, ⟨checkR m ⟨(cutR rs[j] t).Start, (cutR rs[j] t).Cells ++ c.Route.Cells⟩, 0, zRoute⟩) := by rw [ea]; unfold takeC; rw [if_pos hq]
    refine walk ?_
    rw [e]
    refine fin0 ?_
    exact ⟨_, _, _, rfl, (gb4.mono hl5), no_reads hcf, rfl⟩
  have hq0 : ¬ checkR m ⟨(cutR rs[j] t).Start, (cutR rs[j] t).Cells ++ c.Route.Cells⟩ ≠ 0 := hq
  refine walk ?_
  refine ops_call (vs := [.agg [.slice b1 es.length c1, .slice b2 rs.length c2].toArray, I j, .agg [I ((⟨(cutR rs[j] t).Start, (cutR rs[j] t).Cells ++ c.Route.Cells⟩ : Route)).Start, .slice d8 ((cutR rs[j] t).Cells.length + c.Route.Cells.length) e8].toArray, I t]) rfl rfl (conflict_spec (x := (⟨(cutR rs[j] t).Start, (cutR rs[j] t).Cells ++ c.Route.Cells⟩ : Route)) (gb4.mono hl5) hx5 hrl hj ht) fun r20 H20 B hl20 ⟨er, eB⟩ => ?_
  subst er eB
  refine walk ?_
  refine ex_ifb (p := confK rs j ((⟨(cutR rs[j] t).Start, (cutR rs[j] t).Cells ++ c.Route.Cells⟩ : Route)) t) rfl confKB_iff (fun hk => ?_) (fun hk => ?_)
  · have e : applyC confK m es rs (j : Int) c t = (es, rs, ⟨140, 0, zRoute⟩) := by
      rw [ea]; unfold takeC; rw [if_neg hq0, if_pos (by exact hk)]
    refine walk ?_
    rw [e]
    refine fin0 ?_
    exact ⟨_, _, _, rfl, (gb4.mono (Heap.le.trans hl5 hl20)), no_reads (by unfold fits; omega), rfl⟩
  · have e : applyC confK m es rs (j : Int) c t = (es, rs.set j ((⟨(cutR rs[j] t).Start, (cutR rs[j] t).Cells ++ c.Route.Cells⟩ : Route)), ⟨0, es[j], ((⟨(cutR rs[j] t).Start, (cutR rs[j] t).Cells ++ c.Route.Cells⟩ : Route))⟩) := by
      rw [ea]; unfold takeC; rw [if_neg hq0, if_neg (by exact hk), hge]
    refine walk ?_
    refine ex_any 9 [row p6 43 [.slice b1 es.length c1, .slice b2 rs.length c2], row p15 28 [I ((⟨(cutR rs[j] t).Start, (cutR rs[j] t).Cells ++ c.Route.Cells⟩ : Route)).Start, .slice d8 ((cutR rs[j] t).Cells.length + c.Route.Cells.length) e8]] ?_
    (first | refine gny_p 0 rfl rfl rfl ?_ | refine gny_ld 0 rfl rfl rfl rfl ?_ | refine gny_ldH 0 rfl rfl rfl ‹HRow _ _ 0 _› rfl ?_ | refine gny_T 0 rfl rfl rfl ?_ | refine gny_F 0 rfl rfl rfl ?_ | refine gny_B 0 rfl rfl rfl ?_ | refine gny_skip 0 rfl rfl ?_ | refine gny_sp 0 rfl rfl rfl ?_ | refine gny_sB 0 rfl rfl rfl ?_ | refine gny_sld 0 rfl rfl rfl rfl ?_ | refine gny_sldH 0 rfl rfl rfl ‹HRow _ _ 0 _› rfl ?_ | refine gny_ldN 0 rfl rfl rfl rfl ?_ | refine gny_bld 0 rfl rfl rfl ?_); (first | refine gny_p 1 rfl rfl rfl ?_ | refine gny_ld 1 rfl rfl rfl rfl ?_ | refine gny_ldH 1 rfl rfl rfl ‹HRow _ _ 0 _› rfl ?_ | refine gny_T 1 rfl rfl rfl ?_ | refine gny_F 1 rfl rfl rfl ?_ | refine gny_B 1 rfl rfl rfl ?_ | refine gny_skip 1 rfl rfl ?_ | refine gny_sp 1 rfl rfl rfl ?_ | refine gny_sB 1 rfl rfl rfl ?_ | refine gny_sld 1 rfl rfl rfl rfl ?_ | refine gny_sldH 1 rfl rfl rfl ‹HRow _ _ 0 _› rfl ?_ | refine gny_ldN 1 rfl rfl rfl rfl ?_ | refine gny_bld 1 rfl rfl rfl ?_); (first | refine gny_p 2 rfl rfl rfl ?_ | refine gny_ld 2 rfl rfl rfl rfl ?_ | refine gny_ldH 2 rfl rfl rfl ‹HRow _ _ 0 _› rfl ?_ | refine gny_T 2 rfl rfl rfl ?_ | refine gny_F 2 rfl rfl rfl ?_ | refine gny_B 2 rfl rfl rfl ?_ | refine gny_skip 2 rfl rfl ?_ | refine gny_sp 2 rfl rfl rfl ?_ | refine gny_sB 2 rfl rfl rfl ?_ | refine gny_sld 2 rfl rfl rfl rfl ?_ | refine gny_sldH 2 rfl rfl rfl ‹HRow _ _ 0 _› rfl ?_ | refine gny_ldN 2 rfl rfl rfl rfl ?_ | refine gny_bld 2 rfl rfl rfl ?_); (first | refine gny_p 3 rfl rfl rfl ?_ | refine gny_ld 3 rfl rfl rfl rfl ?_ | refine gny_ldH 3 rfl rfl rfl ‹HRow _ _ 0 _› rfl ?_ | refine gny_T 3 rfl rfl rfl ?_ | refine gny_F 3 rfl rfl rfl ?_ | refine gny_B 3 rfl rfl rfl ?_ | refine gny_skip 3 rfl rfl ?_ | refine gny_sp 3 rfl rfl rfl ?_ | refine gny_sB 3 rfl rfl rfl ?_ | refine gny_sld 3 rfl rfl rfl rfl ?_ | refine gny_sldH 3 rfl rfl rfl ‹HRow _ _ 0 _› rfl ?_ | refine gny_ldN 3 rfl rfl rfl rfl ?_ | refine gny_bld 3 rfl rfl rfl ?_); (first | refine gny_p 5 rfl rfl rfl ?_ | refine gny_ld 5 rfl rfl rfl rfl ?_ | refine gny_ldH 5 rfl rfl rfl ‹HRow _ _ 0 _› rfl ?_ | refine gny_T 5 rfl rfl rfl ?_ | refine gny_F 5 rfl rfl rfl ?_ | refine gny_B 5 rfl rfl rfl ?_ | refine gny_skip 5 rfl rfl ?_ | refine gny_sp 5 rfl rfl rfl ?_ | refine gny_sB 5 rfl rfl rfl ?_ | refine gny_sld 5 rfl rfl rfl rfl ?_ | refine gny_sldH 5 rfl rfl rfl ‹HRow _ _ 0 _› rfl ?_ | refine gny_ldN 5 rfl rfl rfl rfl ?_ | refine gny_bld 5 rfl rfl rfl ?_); (first | refine gny_p 6 rfl rfl rfl ?_ | refine gny_ld 6 rfl rfl rfl rfl ?_ | refine gny_ldH 6 rfl rfl rfl ‹HRow _ _ 0 _› rfl ?_ | refine gny_T 6 rfl rfl rfl ?_ | refine gny_F 6 rfl rfl rfl ?_ | refine gny_B 6 rfl rfl rfl ?_ | refine gny_skip 6 rfl rfl ?_ | refine gny_sp 6 rfl rfl rfl ?_ | refine gny_sB 6 rfl rfl rfl ?_ | refine gny_sld 6 rfl rfl rfl rfl ?_ | refine gny_sldH 6 rfl rfl rfl ‹HRow _ _ 0 _› rfl ?_ | refine gny_ldN 6 rfl rfl rfl rfl ?_ | refine gny_bld 6 rfl rfl rfl ?_); (first | refine gny_p 7 rfl rfl rfl ?_ | refine gny_ld 7 rfl rfl rfl rfl ?_ | refine gny_ldH 7 rfl rfl rfl ‹HRow _ _ 0 _› rfl ?_ | refine gny_T 7 rfl rfl rfl ?_ | refine gny_F 7 rfl rfl rfl ?_ | refine gny_B 7 rfl rfl rfl ?_ | refine gny_skip 7 rfl rfl ?_ | refine gny_sp 7 rfl rfl rfl ?_ | refine gny_sB 7 rfl rfl rfl ?_ | refine gny_sld 7 rfl rfl rfl rfl ?_ | refine gny_sldH 7 rfl rfl rfl ‹HRow _ _ 0 _› rfl ?_ | refine gny_ldN 7 rfl rfl rfl rfl ?_ | refine gny_bld 7 rfl rfl rfl ?_)
    refine gny_call (vs := [.agg [.slice b1 es.length c1, .slice b2 rs.length c2].toArray, I j, I es[j], .agg [I ((⟨(cutR rs[j] t).Start, (cutR rs[j] t).Cells ++ c.Route.Cells⟩ : Route)).Start, .slice d8 ((cutR rs[j] t).Cells.length + c.Route.Cells.length) e8].toArray]) 4 rfl rfl rfl (with_spec (j := j) (e := es[j]) (x := (⟨(cutR rs[j] t).Start, (cutR rs[j] t).Cells ++ c.Route.Cells⟩ : Route)) (gb4.mono (Heap.le.trans hl5 hl20)) (rRoute_up hx5 hl20) hel hrl hj (by unfold fits; omega)) fun r21 H21 B hl21 ⟨u1, u2, er, hR, eB⟩ => ?_
    subst er eB
    refine ⟨(by (repeat (first | exact Sub.refl _ | exact Sub.nil _ | (apply sub_pick; (repeat (first | exact Has.here | apply Has.there)); skip) | apply Sub.drop))), ?_⟩
    obtain ⟨d21, e21, hu1, _, _⟩ := hR.1.1.shape
    obtain ⟨d22, e22, hu2, _, _⟩ := hR.2.1.shape
    subst hu1 hu2
    refine any_sta 8 rfl rfl rfl rfl (by simp) rfl ⟨(by (repeat (first | exact Sub.refl _ | exact Sub.nil _ | (apply sub_pick; (repeat (first | exact Has.here | apply Has.there)); skip) | apply Sub.drop))), ?_⟩
    refine any_rest rfl ?_
    refine walk ?_
    rw [e]
    refine fin0 ?_
    refine ⟨_, _, _, rfl, ?_, rRoute_reply (rRoute_up hx5 (hl20.trans hl21)) fits0 (by unfold fits; omega), rfl⟩
    simpa [List.set_getElem_self] using hR
end Go.Proofs.Ytnfmjkjhiolfdaa
