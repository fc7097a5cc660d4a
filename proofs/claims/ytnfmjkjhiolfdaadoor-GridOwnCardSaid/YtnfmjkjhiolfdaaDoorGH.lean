/- A map with a list of its own; GridHomes, walked. -/
import Derived.Test.YtnfmjkjhiolfdaaDoorGF
import Derived.Test.YtnfmjkjhiolfdaaDoorBC
set_option linter.unusedVariables false
set_option linter.unusedSimpArgs false
namespace Go.Proofs.YtnfmjkjhiolfdaaDoor
open Go Go.Sx Go.Proofs
instance : TAr Tryd.prog 59 3 3 := ⟨Tryd.underlying59⟩
/-- a map with a list of its own, not too long -/
def clipM (m : Map) : Map := ⟨m.W, m.H, m.Shards, m.Blocked.take 300⟩
theorem clipM2 {m : Map} : clipM (clipM m) = clipM m := by simp [clipM, List.take_take]
theorem own12_spec {W0 : World} {H : Heap} {c : List Value} {m : Map} (h0 : rMap H c m) :
    Ct Tryd.prog 30 #[.agg c.toArray] W0 H [] (fun r H' B => ∃ s, r = .agg ((clipM m).cv s).toArray ∧ B = [ownS rInt 1 8 3 H s (clipM m).Blocked] ∧ H' = H) := by
  refine Ct.go (vs := [.agg c.toArray]) fun R => ?_
  obtain ⟨s0, rfl, f1, f2, f3, h0⟩ := h0
  obtain ⟨b0, c0, rfl, hc0, hd0⟩ := h0.1.shape
  have hk : (min (m.Blocked.length : Int) 300).toNat = (clipM m).Blocked.length := by simp [clipM]; omega
  have hs := slr_take (k := (clipM m).Blocked.length) h0.1 (by simp [clipM]; omega)
  rw [show m.Blocked.take (clipM m).Blocked.length = (clipM m).Blocked by simp [clipM, List.take_take]] at hs
  refine walk ?_
  refine ops_box rfl rfl fun p1 _ => ?_
  refine ops_alloc rfl fun p2 _ => ?_
  refine walk ?_
  refine ops_mk0 (w := 8) rInt rfl fun b1 => ?_
  refine walk ?_
  rw [hk]
  refine ops_appS rfl rfl hs (by simp [clipM, cap47]; omega) fun d1 e1 => ?_
  simp only [List.length_nil, Nat.zero_add, List.nil_append]
  refine walk ?_
  refine finB [ownS rInt 1 8 3 H (.slice d1 (clipM m).Blocked.length e1) (clipM m).Blocked] ?_
  exact ⟨_, rfl, rfl, rfl⟩
theorem rArr3 {H : Heap} {cs : List Value} {xs : List Int} (h : rArrI 3 H cs xs) : ∃ a b c, xs = [a, b, c] ∧ cs = [I a, I b, I c] ∧ fits a ∧ fits b ∧ fits c := by
  obtain ⟨rfl, hl, hf⟩ := h
  match xs, hl with
  | [a, b, c], _ => exact ⟨a, b, c, rfl, rfl, hf a (by simp), hf b (by simp), hf c (by simp)⟩
set_option maxRecDepth 100000 in
set_option maxHeartbeats 16000000 in
theorem homes_spec {W0 : World} {H : Heap} {c e : List Value} {m : Map} {s : ByteArray} {ks : List Int} (hP : PkH H) (h0 : rMap H c m) (hs : s.size ≤ cap47) (h2 : rArrI 3 H e ks) :
    Ct Tryd.prog 10 #[.agg c.toArray, .string s, .agg e.toArray] W0 H [] (fun r H' B => r = .bool true ∧ B = []) := by
  refine Ct.go (vs := [.agg c.toArray, .string s, .agg e.toArray]) fun R => ?_
  have g0 := h0
  obtain ⟨x, y, z, rfl, rfl, fx, fy, fz⟩ := rArr3 h2
  obtain ⟨s0, rfl, f1, f2, f3, h0⟩ := h0
  refine walk ?_
  refine ops_box rfl rfl fun p3 _ => ?_
  refine ops_box rfl rfl fun p5 _ => ?_
  refine walk ?_
  refine ops_call (vs := []) rfl rfl (awake12_spec hP) fun r1 H1 B hl1 ⟨er, eB⟩ => ?_
  subst er eB
  refine walk ?_
  refine ops_call (vs := [.agg (m.cv s0).toArray]) rfl rfl (own12_spec (RdOk.mono (R := rMap) hl1 g0)) fun r2 H2 B hl2 ⟨v2, er, eB, eH⟩ => ?_
  subst er eB eH
  refine ops_shape v2 fun d2 e2 e _ _ _ => ?_
  subst e
  refine ops_freeze (.slice d2 (clipM m).Blocked.length e2) fun H3 hl3 hv2 => ?_
  refine walk ?_
  have gm : rMap H3 ((clipM m).cv (.slice d2 (clipM m).Blocked.length e2)) (clipM m) := ⟨_, rfl, f1, f2, f3, hv2⟩
  have cm : clipM (clipM m) = clipM m := clipM2
  have hle3 : H.le H3 := hl1.trans hl3
  clear hv2 hl2 hl1 hl3
  generalize clipM m = m' at *
  have ho := own12_spec (W0 := W0) gm
  rw [cm] at ho
  refine ops_call (vs := [.agg (m'.cv (.slice d2 m'.Blocked.length e2)).toArray]) rfl rfl ho fun r4 H4 B hl4 ⟨v4, er, eB, eH⟩ => ?_
  subst er eB eH
  refine ops_freeze v4 fun H5 hl5 hv4 => ?_
  have gm5 := RdOk.mono (R := rMap) hl5 gm
  have fm : (Sx.fits m'.W ∧ Sx.fits m'.H) ∧ Sx.fits m'.Shards := by obtain ⟨_, _, q1, q2, q3, _⟩ := gm; exact ⟨⟨q1, q2⟩, q3⟩
  have gv : rMap H5 (m'.cv v4) m' := ⟨_, rfl, fm.1.1, fm.1.2, fm.2, hv4⟩
  refine walk ?_
  refine ops_call (vs := [.agg (m'.cv v4).toArray]) rfl rfl (gNew_spec gv) fun r6 H6 B hl6 ⟨g, e, er, eB, h⟩ => ?_
  subst er eB
  have gm6 := RdOk.mono (R := rMap) hl6 gm5
  rcases h with ⟨hm, hG, rfl⟩ | ⟨hm, rfl, rfl⟩
  rotate_left
  · refine walkG ?_
    refine ops_pcall rfl rfl (rGood_spec gm6) ?_
    rw [decide_eq_false hm]
    refine walkG ?_
    refine fin0 ?_
    exact ⟨rfl, rfl⟩
  have hGp := hG
  obtain ⟨⟨bg, s', mb, mm, rfl, q1, q2, q3, q4⟩, hgd, hfs⟩ := hGp
  have hP6 := hP.mono (hle3.trans (hl5.trans hl6))
  refine walkG ?_
  refine ex_any 16 [row p5 59 [I x, I y, I z]] ?_
  (first | refine gny_p 0 rfl rfl rfl ?_ | refine gny_ld 0 rfl rfl rfl rfl ?_ | refine gny_ldH 0 rfl rfl rfl ‹HRow _ _ 0 _› rfl ?_ | refine gny_T 0 rfl rfl rfl ?_ | refine gny_F 0 rfl rfl rfl ?_ | refine gny_B 0 rfl rfl rfl ?_ | refine gny_skip 0 rfl rfl ?_ | refine gny_sp 0 rfl rfl rfl ?_ | refine gny_sB 0 rfl rfl rfl ?_ | refine gny_sld 0 rfl rfl rfl rfl ?_ | refine gny_sldH 0 rfl rfl rfl ‹HRow _ _ 0 _› rfl ?_ | refine gny_ldN 0 rfl rfl rfl rfl ?_ | refine gny_bld 0 rfl rfl rfl ?_); (first | refine gny_p 1 rfl rfl rfl ?_ | refine gny_ld 1 rfl rfl rfl rfl ?_ | refine gny_ldH 1 rfl rfl rfl ‹HRow _ _ 0 _› rfl ?_ | refine gny_T 1 rfl rfl rfl ?_ | refine gny_F 1 rfl rfl rfl ?_ | refine gny_B 1 rfl rfl rfl ?_ | refine gny_skip 1 rfl rfl ?_ | refine gny_sp 1 rfl rfl rfl ?_ | refine gny_sB 1 rfl rfl rfl ?_ | refine gny_sld 1 rfl rfl rfl rfl ?_ | refine gny_sldH 1 rfl rfl rfl ‹HRow _ _ 0 _› rfl ?_ | refine gny_ldN 1 rfl rfl rfl rfl ?_ | refine gny_bld 1 rfl rfl rfl ?_); (first | refine gny_p 2 rfl rfl rfl ?_ | refine gny_ld 2 rfl rfl rfl rfl ?_ | refine gny_ldH 2 rfl rfl rfl ‹HRow _ _ 0 _› rfl ?_ | refine gny_T 2 rfl rfl rfl ?_ | refine gny_F 2 rfl rfl rfl ?_ | refine gny_B 2 rfl rfl rfl ?_ | refine gny_skip 2 rfl rfl ?_ | refine gny_sp 2 rfl rfl rfl ?_ | refine gny_sB 2 rfl rfl rfl ?_ | refine gny_sld 2 rfl rfl rfl rfl ?_ | refine gny_sldH 2 rfl rfl rfl ‹HRow _ _ 0 _› rfl ?_ | refine gny_ldN 2 rfl rfl rfl rfl ?_ | refine gny_bld 2 rfl rfl rfl ?_); (first | refine gny_p 3 rfl rfl rfl ?_ | refine gny_ld 3 rfl rfl rfl rfl ?_ | refine gny_ldH 3 rfl rfl rfl ‹HRow _ _ 0 _› rfl ?_ | refine gny_T 3 rfl rfl rfl ?_ | refine gny_F 3 rfl rfl rfl ?_ | refine gny_B 3 rfl rfl rfl ?_ | refine gny_skip 3 rfl rfl ?_ | refine gny_sp 3 rfl rfl rfl ?_ | refine gny_sB 3 rfl rfl rfl ?_ | refine gny_sld 3 rfl rfl rfl rfl ?_ | refine gny_sldH 3 rfl rfl rfl ‹HRow _ _ 0 _› rfl ?_ | refine gny_ldN 3 rfl rfl rfl rfl ?_ | refine gny_bld 3 rfl rfl rfl ?_); (first | refine gny_p 4 rfl rfl rfl ?_ | refine gny_ld 4 rfl rfl rfl rfl ?_ | refine gny_ldH 4 rfl rfl rfl ‹HRow _ _ 0 _› rfl ?_ | refine gny_T 4 rfl rfl rfl ?_ | refine gny_F 4 rfl rfl rfl ?_ | refine gny_B 4 rfl rfl rfl ?_ | refine gny_skip 4 rfl rfl ?_ | refine gny_sp 4 rfl rfl rfl ?_ | refine gny_sB 4 rfl rfl rfl ?_ | refine gny_sld 4 rfl rfl rfl rfl ?_ | refine gny_sldH 4 rfl rfl rfl ‹HRow _ _ 0 _› rfl ?_ | refine gny_ldN 4 rfl rfl rfl rfl ?_ | refine gny_bld 4 rfl rfl rfl ?_); (first | refine gny_p 6 rfl rfl rfl ?_ | refine gny_ld 6 rfl rfl rfl rfl ?_ | refine gny_ldH 6 rfl rfl rfl ‹HRow _ _ 0 _› rfl ?_ | refine gny_T 6 rfl rfl rfl ?_ | refine gny_F 6 rfl rfl rfl ?_ | refine gny_B 6 rfl rfl rfl ?_ | refine gny_skip 6 rfl rfl ?_ | refine gny_sp 6 rfl rfl rfl ?_ | refine gny_sB 6 rfl rfl rfl ?_ | refine gny_sld 6 rfl rfl rfl rfl ?_ | refine gny_sldH 6 rfl rfl rfl ‹HRow _ _ 0 _› rfl ?_ | refine gny_ldN 6 rfl rfl rfl rfl ?_ | refine gny_bld 6 rfl rfl rfl ?_); (first | refine gny_p 7 rfl rfl rfl ?_ | refine gny_ld 7 rfl rfl rfl rfl ?_ | refine gny_ldH 7 rfl rfl rfl ‹HRow _ _ 0 _› rfl ?_ | refine gny_T 7 rfl rfl rfl ?_ | refine gny_F 7 rfl rfl rfl ?_ | refine gny_B 7 rfl rfl rfl ?_ | refine gny_skip 7 rfl rfl ?_ | refine gny_sp 7 rfl rfl rfl ?_ | refine gny_sB 7 rfl rfl rfl ?_ | refine gny_sld 7 rfl rfl rfl rfl ?_ | refine gny_sldH 7 rfl rfl rfl ‹HRow _ _ 0 _› rfl ?_ | refine gny_ldN 7 rfl rfl rfl rfl ?_ | refine gny_bld 7 rfl rfl rfl ?_); (first | refine gny_p 8 rfl rfl rfl ?_ | refine gny_ld 8 rfl rfl rfl rfl ?_ | refine gny_ldH 8 rfl rfl rfl ‹HRow _ _ 0 _› rfl ?_ | refine gny_T 8 rfl rfl rfl ?_ | refine gny_F 8 rfl rfl rfl ?_ | refine gny_B 8 rfl rfl rfl ?_ | refine gny_skip 8 rfl rfl ?_ | refine gny_sp 8 rfl rfl rfl ?_ | refine gny_sB 8 rfl rfl rfl ?_ | refine gny_sld 8 rfl rfl rfl rfl ?_ | refine gny_sldH 8 rfl rfl rfl ‹HRow _ _ 0 _› rfl ?_ | refine gny_ldN 8 rfl rfl rfl rfl ?_ | refine gny_bld 8 rfl rfl rfl ?_); (first | refine gny_p 9 rfl rfl rfl ?_ | refine gny_ld 9 rfl rfl rfl rfl ?_ | refine gny_ldH 9 rfl rfl rfl ‹HRow _ _ 0 _› rfl ?_ | refine gny_T 9 rfl rfl rfl ?_ | refine gny_F 9 rfl rfl rfl ?_ | refine gny_B 9 rfl rfl rfl ?_ | refine gny_skip 9 rfl rfl ?_ | refine gny_sp 9 rfl rfl rfl ?_ | refine gny_sB 9 rfl rfl rfl ?_ | refine gny_sld 9 rfl rfl rfl rfl ?_ | refine gny_sldH 9 rfl rfl rfl ‹HRow _ _ 0 _› rfl ?_ | refine gny_ldN 9 rfl rfl rfl rfl ?_ | refine gny_bld 9 rfl rfl rfl ?_); (first | refine gny_p 10 rfl rfl rfl ?_ | refine gny_ld 10 rfl rfl rfl rfl ?_ | refine gny_ldH 10 rfl rfl rfl ‹HRow _ _ 0 _› rfl ?_ | refine gny_T 10 rfl rfl rfl ?_ | refine gny_F 10 rfl rfl rfl ?_ | refine gny_B 10 rfl rfl rfl ?_ | refine gny_skip 10 rfl rfl ?_ | refine gny_sp 10 rfl rfl rfl ?_ | refine gny_sB 10 rfl rfl rfl ?_ | refine gny_sld 10 rfl rfl rfl rfl ?_ | refine gny_sldH 10 rfl rfl rfl ‹HRow _ _ 0 _› rfl ?_ | refine gny_ldN 10 rfl rfl rfl rfl ?_ | refine gny_bld 10 rfl rfl rfl ?_); (first | refine gny_p 11 rfl rfl rfl ?_ | refine gny_ld 11 rfl rfl rfl rfl ?_ | refine gny_ldH 11 rfl rfl rfl ‹HRow _ _ 0 _› rfl ?_ | refine gny_T 11 rfl rfl rfl ?_ | refine gny_F 11 rfl rfl rfl ?_ | refine gny_B 11 rfl rfl rfl ?_ | refine gny_skip 11 rfl rfl ?_ | refine gny_sp 11 rfl rfl rfl ?_ | refine gny_sB 11 rfl rfl rfl ?_ | refine gny_sld 11 rfl rfl rfl rfl ?_ | refine gny_sldH 11 rfl rfl rfl ‹HRow _ _ 0 _› rfl ?_ | refine gny_ldN 11 rfl rfl rfl rfl ?_ | refine gny_bld 11 rfl rfl rfl ?_); (first | refine gny_p 15 rfl rfl rfl ?_ | refine gny_ld 15 rfl rfl rfl rfl ?_ | refine gny_ldH 15 rfl rfl rfl ‹HRow _ _ 0 _› rfl ?_ | refine gny_T 15 rfl rfl rfl ?_ | refine gny_F 15 rfl rfl rfl ?_ | refine gny_B 15 rfl rfl rfl ?_ | refine gny_skip 15 rfl rfl ?_ | refine gny_sp 15 rfl rfl rfl ?_ | refine gny_sB 15 rfl rfl rfl ?_ | refine gny_sld 15 rfl rfl rfl rfl ?_ | refine gny_sldH 15 rfl rfl rfl ‹HRow _ _ 0 _› rfl ?_ | refine gny_ldN 15 rfl rfl rfl rfl ?_ | refine gny_bld 15 rfl rfl rfl ?_)
  refine gny_pcall 5 rfl rfl rfl (gSlot_spec hP6.tab fx fz) ?_
  refine gny_pcall 12 rfl rfl rfl (gPass_spec hP6.tab fx fy fz) ?_
  refine gny_bsN 13 rfl rfl rfl fun pb hb => ?_
  (first | refine gny_p 14 rfl rfl rfl ?_ | refine gny_ld 14 rfl rfl rfl rfl ?_ | refine gny_ldH 14 rfl rfl rfl ‹HRow _ _ 0 _› rfl ?_ | refine gny_T 14 rfl rfl rfl ?_ | refine gny_F 14 rfl rfl rfl ?_ | refine gny_B 14 rfl rfl rfl ?_ | refine gny_skip 14 rfl rfl ?_ | refine gny_sp 14 rfl rfl rfl ?_ | refine gny_sB 14 rfl rfl rfl ?_ | refine gny_sld 14 rfl rfl rfl rfl ?_ | refine gny_sldH 14 rfl rfl rfl ‹HRow _ _ 0 _› rfl ?_ | refine gny_ldN 14 rfl rfl rfl rfl ?_ | refine gny_bld 14 rfl rfl rfl ?_)
  refine any_rest rfl ?_
  refine walk ?_
  refine ex_frzR .here fun H7 hl7 hr7 => ?_
  obtain ⟨xs, hxs, hxl⟩ : ∃ xs : List ByteArray, xs = [s, sb (slotL x z), sb (passL x y z)] ∧ xs.length = 3 := ⟨_, rfl, rfl⟩
  have hcap : ∀ q ∈ xs, q.size ≤ cap47 := fun q hq => by
    rw [hxs] at hq
    have k1 := slotL_len fx fz
    have k2 := passL_len fx fy fz
    simp only [List.mem_cons, List.not_mem_nil, or_false] at hq
    rcases hq with rfl | rfl | rfl
    · exact hs
    · rw [sb_size]; simp only [cap47]; omega
    · rw [sb_size]; simp only [cap47]; omega
  have hsl : SlR rStr 1 H7 (.slice (some ⟨pb, 0, none⟩) 3 3) xs := by
    have h := (strs_lit (xs := xs) (by rw [hxs]; exact hr7) hcap (by omega)).1
    rwa [hxl] at h
  refine ex_loop (σ := Nat) (fun k => k ≤ 3) (fun k => [(3, .pointer (some ⟨p3, 0, none⟩)), (7, .pointer (some ⟨bg, 0, none⟩)), (46, .slice (some ⟨pb, 0, none⟩) 3 3), (47, I ((3 : Nat) : Int)), (48, I k)]) (fun _ => H7) (fun _ => row p3 24 (m'.cv (.slice d2 m'.Blocked.length e2)) :: R) (fun k => 3 - k) 0 (Nat.zero_le _) fun k hk0 K hL => ?_
  refine walk ?_
  refine ex_if rfl (fun hk => ?_) (fun hk => ?_)
  · have hk1 : k < xs.length := by omega
    have hq := hcap _ (List.getElem_mem hk1)
    have hr7' : HRow H7 pb 0 (xs.map Value.string) := by rw [hxs]; exact hr7
    refine walk ?_
    refine ops_ldHz rfl rfl hr7' (v := .string xs[k]) (by simp [hk1]) ?_
    refine walk ?_
    generalize xs[k] = q at *
    rw [sb_of q]
    have hql : q.data.toList.length ≤ cap47 := by rw [← Lib.size_eq]; exact hq
    generalize q.data.toList = l at *
    refine ops_call rfl rfl (home_spec (hP6.mono hl7) (hG.mono hl7) hql) fun r8 H8 B hl8 ⟨hr8, eB, eH⟩ => ?_
    subst eB eH
    have g8 := RdOk.mono (R := rMap) hl7 gm6
    rcases hr8 with ⟨k1, hk1', rfl⟩ | ⟨hno, rfl⟩
    · refine walk ?_
      refine ops_call (vs := [.agg (m'.cv (.slice d2 m'.Blocked.length e2)).toArray, .string (sb l)]) rfl rfl (rHome_spec g8 hm.1 hql) fun r9 H9 B hl9 ⟨hr9, eB, eH⟩ => ?_
      subst eB eH
      rcases hr9 with ⟨k2, hk2', rfl⟩ | ⟨hno, _⟩
      · obtain rfl := hk1'.uniq hk2'.1
        have hs0 := (shard_facts hm.1 hk2'.2.1).2
        refine walk ?_
        refine out_next hL (k + 1) (by omega)
      · exact absurd hk1' (hno _)
    · refine walk ?_
      refine ops_call (vs := [.agg (m'.cv (.slice d2 m'.Blocked.length e2)).toArray, .string (sb l)]) rfl rfl (rHome_spec g8 hm.1 hql) fun r9 H9 B hl9 ⟨hr9, eB, eH⟩ => ?_
      subst eB eH
      rcases hr9 with ⟨k2, hk2', _⟩ | ⟨_, rfl⟩
      · exact absurd hk2' (hno _)
      · refine walk ?_
        refine out_next hL (k + 1) (by omega)
  · clear hL
    refine walk ?_
    refine fin0 ?_
    exact ⟨rfl, rfl⟩
end Go.Proofs.YtnfmjkjhiolfdaaDoor
