/- All prepared transactions. -/
import Derived.Test.YtkhbfjkioehgfaaGreatDoorLE
set_option linter.unusedVariables false
set_option linter.unusedSimpArgs false
namespace Go.Proofs.YtkhbfjkioehgfaaGreatDoor
open Go Go.Sx Go.Proofs
/-- all prepared transactions, in order -/
def recOf (s : TS) (k : K3) : Rec := ⟨2, toTx k, ((mget k s.works).getD zCW).2, false, []⟩
def prepL (s : TS) : List Rec := (sort3 (s.works.map (·.1))).map (recOf s)
theorem mem_sort3 {l : List K3} {k : K3} : k ∈ sort3 l ↔ k ∈ l := by unfold sort3; exact List.mem_mergeSort
theorem zCW_reads {H : Heap} : rCW H zCW.1 zCW := ⟨rfl, zWork_reads⟩
set_option maxHeartbeats 4000000 in
theorem prepared_spec {W0 : World} {H : Heap} {p : Nat} {s : TS} (hs : TsOk s) :
    Ct Tryz.prog 15 #[.pointer (some ⟨p, 0, none⟩)] W0 H [tabO H p s] (fun r H' B => B = [ownS rRec 9 120 47 H' r (prepL s), tabO H' p s]) := by
  refine Ct.go (vs := [.pointer (some ⟨p, 0, none⟩)]) fun R => ?_
  have hn := hs.wn
  have hcap : (1000000 : Nat) * 120 ≤ cap47 := by decide
  refine ex_open (A := tabO H p s) (σ := Nat × Nat × Nat) (B := fun a => [tRow p a.1 a.2.1 a.2.2, hMap H a.1 s, lMap H a.2.1 s, wMap H a.2.2 s]) (p := fun _ => True) (by repeat (first | exact Has.here | apply Has.there)) (fun h ⟨hb, lb, wb, hbig⟩ => ⟨(hb, lb, wb), trivial, hbig⟩) fun ⟨hb, lb, wb⟩ _ => ?_
  dsimp only
  refine ex_know (A := wMap H wb s) (by repeat (first | exact Has.here | apply Has.there)) (fun h ho => mapO_know ho) fun hkw => ?_
  refine walk ?_
  refine ops_call rfl rfl ct_keys3 fun r1 H1 B hl1 ⟨pk, er, eB, eH⟩ => ?_
  subst er eB eH
  have hc := ct_sorted3 (W0 := W0) (H := H1) (H0 := H1) (RV := rCW) (ag := true) (p := pk) (b := wb) (ms := s.works) hs.wf (by simp only [cap47]; omega)
  refine ops_call rfl rfl hc fun r2 H2 B hl2 ⟨eB, eH⟩ => ?_
  subst eB eH
  have hlen : (sort3 (s.works.map (·.1))).length = s.works.length := by rw [sort3_len, List.length_map]
  have hmem : ∀ k ∈ sort3 (s.works.map (·.1)), fits k.1 ∧ fits k.2.1 ∧ fits k.2.2 := fun k hk => by
    obtain ⟨q, hq, rfl⟩ := List.mem_map.1 (mem_sort3.1 hk)
    exact hs.wf q hq
  have hread : ∀ k, rCW H2 ((mget k s.works).getD zCW).1 ((mget k s.works).getD zCW) := fun k => by
    cases hg : mget k s.works with
    | none => exact zCW_reads
    | some v => obtain ⟨cs, e, h⟩ := hkw.1 (k, v) (mget_mem hg); exact ⟨rfl, by subst e; exact h⟩
  unfold prepL
  generalize sort3 (s.works.map (·.1)) = ks at *
  refine ops_freeze r2 fun H3 hl3 hsl => ?_
  obtain ⟨b0, c0, rfl, hc0, hd0⟩ := hsl.1.shape
  have hlx : (ks.map toTx).length = ks.length := by simp
  refine walk ?_
  refine ex_loop (σ := Nat × Option Addr × Nat × Heap) (fun u => u.1 ≤ ks.length ∧ H3.le u.2.2.2) (fun u => [(0, .pointer (some ⟨p, 0, none⟩)), (11, .slice b0 (ks.map toTx).length c0), (12, I (ks.map toTx).length), (13, I u.1), (3, .slice u.2.1 ((ks.take u.1).map (recOf s)).length u.2.2.1)]) (fun u => u.2.2.2)
    (fun u => ownS rRec 9 120 47 u.2.2.2 (.slice u.2.1 ((ks.take u.1).map (recOf s)).length u.2.2.1) ((ks.take u.1).map (recOf s)) :: wMap H2 wb s :: tRow p hb lb wb :: hMap H2 hb s :: lMap H2 lb s :: R) (fun u => ks.length - u.1) (0, none, 0, H3) ⟨Nat.zero_le _, .refl _⟩ (hs0 := ?_) fun ⟨k, d, e, HK⟩ ⟨hk0, hlK⟩ K hL => ?_
  rotate_left
  · simp only [List.take_zero, List.map_nil, List.length_nil]
    refine Sub.trans ?_ ownS_nil
    (repeat (first | exact Sub.refl _ | exact Sub.nil _ | (apply sub_pick; (repeat (first | exact Has.here | apply Has.there)); skip) | apply Sub.drop))
  simp only at hk0 hlK
  dsimp only
  have hll : ((ks.take k).map (recOf s)).length = k := by simp; omega
  refine walk ?_
  refine ex_if rfl (fun hk => ?_) (fun hk => ?_)
  · have hk1 : k < ks.length := by omega
    have ht := List.take_succ_eq_append_getElem hk1
    refine walk ?_
    refine ops_ixp rfl rfl (hsl.mono hlK).1 (show k < (ks.map toTx).length by simpa using hk1) fun b o c hr hc => ?_
    have hx : (ks.map toTx)[k]'(by simpa using hk1) = toTx ks[k] := by simp
    rw [hx] at hc
    have hkm := hmem ks[k] (List.getElem_mem hk1)
    have hrd := hread ks[k]
    have hse : (ks.take k).map (recOf s) ++ [recOf s ks[k]] = (ks.take (k + 1)).map (recOf s) := by rw [ht, List.map_append]; rfl
    have hsl2 : ((ks.take k).map (recOf s)).length + 1 = ((ks.take (k + 1)).map (recOf s)).length := by rw [← hse]; simp
    obtain ⟨rfl, _⟩ := hc
    generalize ks[k] = kk at *
    obtain ⟨ka, kb, kc⟩ := kk
    dsimp only at hkm
    change HRow HK b o [I ka, I kb, I kc] at hr
    refine walk ?_
    refine ops_ldNH rfl rfl hr rfl ?_
    refine ops_alloc rfl fun p5 _ => ?_
    refine walk ?_
    refine ex_any 12 [wMap H2 wb s, tRow p hb lb wb, row p5 27 [I ka, I kb, I kc]] ?_
    (first | refine gny_p 0 rfl rfl rfl ?_ | refine gny_ld 0 rfl rfl rfl rfl ?_ | refine gny_ldH 0 rfl rfl rfl ‹HRow _ _ 0 _› rfl ?_ | refine gny_T 0 rfl rfl rfl ?_ | refine gny_F 0 rfl rfl rfl ?_ | refine gny_B 0 rfl rfl rfl ?_ | refine gny_skip 0 rfl rfl ?_ | refine gny_sp 0 rfl rfl rfl ?_ | refine gny_sB 0 rfl rfl rfl ?_ | refine gny_sld 0 rfl rfl rfl rfl ?_ | refine gny_sldH 0 rfl rfl rfl ‹HRow _ _ 0 _› rfl ?_ | refine gny_ldN 0 rfl rfl rfl rfl ?_ | refine gny_bld 0 rfl rfl rfl ?_); (first | refine gny_p 1 rfl rfl rfl ?_ | refine gny_ld 1 rfl rfl rfl rfl ?_ | refine gny_ldH 1 rfl rfl rfl ‹HRow _ _ 0 _› rfl ?_ | refine gny_T 1 rfl rfl rfl ?_ | refine gny_F 1 rfl rfl rfl ?_ | refine gny_B 1 rfl rfl rfl ?_ | refine gny_skip 1 rfl rfl ?_ | refine gny_sp 1 rfl rfl rfl ?_ | refine gny_sB 1 rfl rfl rfl ?_ | refine gny_sld 1 rfl rfl rfl rfl ?_ | refine gny_sldH 1 rfl rfl rfl ‹HRow _ _ 0 _› rfl ?_ | refine gny_ldN 1 rfl rfl rfl rfl ?_ | refine gny_bld 1 rfl rfl rfl ?_); (first | refine gny_p 2 rfl rfl rfl ?_ | refine gny_ld 2 rfl rfl rfl rfl ?_ | refine gny_ldH 2 rfl rfl rfl ‹HRow _ _ 0 _› rfl ?_ | refine gny_T 2 rfl rfl rfl ?_ | refine gny_F 2 rfl rfl rfl ?_ | refine gny_B 2 rfl rfl rfl ?_ | refine gny_skip 2 rfl rfl ?_ | refine gny_sp 2 rfl rfl rfl ?_ | refine gny_sB 2 rfl rfl rfl ?_ | refine gny_sld 2 rfl rfl rfl rfl ?_ | refine gny_sldH 2 rfl rfl rfl ‹HRow _ _ 0 _› rfl ?_ | refine gny_ldN 2 rfl rfl rfl rfl ?_ | refine gny_bld 2 rfl rfl rfl ?_); (first | refine gny_p 3 rfl rfl rfl ?_ | refine gny_ld 3 rfl rfl rfl rfl ?_ | refine gny_ldH 3 rfl rfl rfl ‹HRow _ _ 0 _› rfl ?_ | refine gny_T 3 rfl rfl rfl ?_ | refine gny_F 3 rfl rfl rfl ?_ | refine gny_B 3 rfl rfl rfl ?_ | refine gny_skip 3 rfl rfl ?_ | refine gny_sp 3 rfl rfl rfl ?_ | refine gny_sB 3 rfl rfl rfl ?_ | refine gny_sld 3 rfl rfl rfl rfl ?_ | refine gny_sldH 3 rfl rfl rfl ‹HRow _ _ 0 _› rfl ?_ | refine gny_ldN 3 rfl rfl rfl rfl ?_ | refine gny_bld 3 rfl rfl rfl ?_); (first | refine gny_p 4 rfl rfl rfl ?_ | refine gny_ld 4 rfl rfl rfl rfl ?_ | refine gny_ldH 4 rfl rfl rfl ‹HRow _ _ 0 _› rfl ?_ | refine gny_T 4 rfl rfl rfl ?_ | refine gny_F 4 rfl rfl rfl ?_ | refine gny_B 4 rfl rfl rfl ?_ | refine gny_skip 4 rfl rfl ?_ | refine gny_sp 4 rfl rfl rfl ?_ | refine gny_sB 4 rfl rfl rfl ?_ | refine gny_sld 4 rfl rfl rfl rfl ?_ | refine gny_sldH 4 rfl rfl rfl ‹HRow _ _ 0 _› rfl ?_ | refine gny_ldN 4 rfl rfl rfl rfl ?_ | refine gny_bld 4 rfl rfl rfl ?_); (first | refine gny_p 5 rfl rfl rfl ?_ | refine gny_ld 5 rfl rfl rfl rfl ?_ | refine gny_ldH 5 rfl rfl rfl ‹HRow _ _ 0 _› rfl ?_ | refine gny_T 5 rfl rfl rfl ?_ | refine gny_F 5 rfl rfl rfl ?_ | refine gny_B 5 rfl rfl rfl ?_ | refine gny_skip 5 rfl rfl ?_ | refine gny_sp 5 rfl rfl rfl ?_ | refine gny_sB 5 rfl rfl rfl ?_ | refine gny_sld 5 rfl rfl rfl rfl ?_ | refine gny_sldH 5 rfl rfl rfl ‹HRow _ _ 0 _› rfl ?_ | refine gny_ldN 5 rfl rfl rfl rfl ?_ | refine gny_bld 5 rfl rfl rfl ?_); (first | refine gny_p 6 rfl rfl rfl ?_ | refine gny_ld 6 rfl rfl rfl rfl ?_ | refine gny_ldH 6 rfl rfl rfl ‹HRow _ _ 0 _› rfl ?_ | refine gny_T 6 rfl rfl rfl ?_ | refine gny_F 6 rfl rfl rfl ?_ | refine gny_B 6 rfl rfl rfl ?_ | refine gny_skip 6 rfl rfl ?_ | refine gny_sp 6 rfl rfl rfl ?_ | refine gny_sB 6 rfl rfl rfl ?_ | refine gny_sld 6 rfl rfl rfl rfl ?_ | refine gny_sldH 6 rfl rfl rfl ‹HRow _ _ 0 _› rfl ?_ | refine gny_ldN 6 rfl rfl rfl rfl ?_ | refine gny_bld 6 rfl rfl rfl ?_)
    refine gny_lkA (RV := rCW) (ag := true) (z := zCW) 7 rfl rfl rfl (by repeat (first | exact Has.here | apply Has.there)) ?_
    refine gny_call 8 rfl rfl rfl (own_spec (RdOk.mono (R := rWork) (hl3.trans hlK) hrd.2)) fun r4 H4 B hl4 ⟨cs, er, hcs, eB⟩ => ?_
    subst er eB
    refine ⟨(by (repeat (first | exact Sub.refl _ | exact Sub.nil _ | (apply sub_pick; (repeat (first | exact Has.here | apply Has.there)); skip) | apply Sub.drop))), ?_⟩
    obtain ⟨s1, s2, rfl, hrob, hs1, hs2⟩ := hcs
    (first | refine gny_p 9 rfl rfl rfl ?_ | refine gny_ld 9 rfl rfl rfl rfl ?_ | refine gny_ldH 9 rfl rfl rfl ‹HRow _ _ 0 _› rfl ?_ | refine gny_T 9 rfl rfl rfl ?_ | refine gny_F 9 rfl rfl rfl ?_ | refine gny_B 9 rfl rfl rfl ?_ | refine gny_skip 9 rfl rfl ?_ | refine gny_sp 9 rfl rfl rfl ?_ | refine gny_sB 9 rfl rfl rfl ?_ | refine gny_sld 9 rfl rfl rfl rfl ?_ | refine gny_sldH 9 rfl rfl rfl ‹HRow _ _ 0 _› rfl ?_ | refine gny_ldN 9 rfl rfl rfl rfl ?_ | refine gny_bld 9 rfl rfl rfl ?_)
    have fk2 : fits (2 : Int) := by unfold fits; omega
    refine any_app1 (y := recOf s (ka, kb, kc)) 10 11 rfl rfl rfl ⟨s1, s2, nilS, rfl, fk2, hkm.1, hkm.2.1, hkm.2.2, hrob, hs1, hs2, SlB.nil⟩ (by rw [hll]; simp only [cap47]; omega) fun d3 e3 => ⟨(by (repeat (first | exact Sub.refl _ | exact Sub.nil _ | (apply sub_pick; (repeat (first | exact Has.here | apply Has.there)); skip) | apply Sub.drop))), ?_⟩
    rw [hsl2, hse]
    refine any_rest rfl ?_
    refine walk ?_
    exact out_next hL (k + 1, d3, e3, H4) ⟨by simp only; omega, hlK.trans hl4⟩
  · clear hL
    obtain rfl : k = ks.length := by omega
    refine walk ?_
    rw [List.take_length] at *
    refine finB [ownS rRec 9 120 47 HK (.slice d (ks.map (recOf s)).length e) (ks.map (recOf s)), tabO HK p s] ?_ (hs := ?_)
    · exact rfl
    · refine Sub.trans ?_ (Sub.cons (Sub.trans (tab_fold (H := H2) (hb := hb) (lb := lb) (wb := wb)) (tab_up (hl3.trans hlK))))
      (repeat (first | exact Sub.refl _ | exact Sub.nil _ | (apply sub_pick; (repeat (first | exact Has.here | apply Has.there)); skip) | apply Sub.drop))
end Go.Proofs.YtkhbfjkioehgfaaGreatDoor
