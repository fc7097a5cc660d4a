/- RouteSplits, walked. -/
import Derived.Test.YtnfmjkjhiolfdaaGreatDoorRQ
set_option linter.unusedVariables false
set_option linter.unusedSimpArgs false
namespace Go.Proofs.YtnfmjkjhiolfdaaGreatDoor
open Go Go.Sx Go.Proofs
theorem keysFrom_len : ∀ {l : List Int} {s : Int}, (keysFrom s l).length ≤ 2 * l.length
  | [], s => by simp [keysFrom]
  | [c], s => by simp [keysFrom]
  | c :: d :: l, s => by
    have := keysFrom_len (l := d :: l) (s := s + 1)
    simp only [keysFrom]
    split <;> simp at * <;> omega
theorem keysL_len {x : Route} : (keysL x).length ≤ 48 := by
  unfold keysL
  split
  · next h =>
    have := keysFrom_len (l := x.Cells) (s := x.Start)
    have h := h.1.1
    omega
  · simp
theorem bigL_reads {ι : Type} {A : ι → HProp} : ∀ {l : List ι} {h : Heap}, bigL A l h → ∀ x ∈ l, ∃ h', A x h' ∧ h'.le h
  | [], _, _, x, hx => by cases hx
  | y :: l, h, hb, x, hx => by
    obtain ⟨h1, h2, a, b, _, l1, l2⟩ := hb
    rcases List.mem_cons.1 hx with e | e
    · subst e; exact ⟨h1, a, l1⟩
    · obtain ⟨h', p, q⟩ := bigL_reads (l := l) b x e
      exact ⟨h', p, q.trans l2⟩
theorem dA_reads {H H' D : Heap} {zs : List (Value × List ByteArray)} (hb : bigL (dA H) zs D) (hl : D.le H') {i : Nat} (hi : i < zs.length) : SlR rStr 1 H' zs[i].1 zs[i].2 := by
  obtain ⟨h', a, b⟩ := bigL_reads hb zs[i] (List.getElem_mem hi)
  exact (ownS_reads (ownS_flat (H' := Heap.empty) a) (empty_le _) (b.trans hl)).1
set_option maxRecDepth 100000 in
set_option maxHeartbeats 16000000 in
theorem splits_spec {W0 : World} {H : Heap} {c d : List Value} {v : Value} {m : Map} {x : Route} {more : List ByteArray} (hP : PkH H) (h0 : rMap H c m) (h1 : rRoute H d x) (h2 : SlB rStr 1 16 H v more) :
    Ct Tryz.prog 3 #[.agg c.toArray, .agg d.toArray, v] W0 H [] (fun r H' B => r = .bool true ∧ B = []) := by
  refine Ct.go (vs := [.agg c.toArray, .agg d.toArray, v]) fun R => ?_
  have g0 := h0
  have g1 := h1
  obtain ⟨s0, rfl, f1, f2, f3, h0⟩ := h0
  obtain ⟨s1, rfl, t1, h1⟩ := h1
  obtain ⟨bm, cm, rfl, _, _⟩ := h2.1.shape
  refine walk ?_
  refine ops_box rfl rfl fun p3 _ => ?_
  refine ops_box rfl rfl fun p4 _ => ?_
  refine walk ?_
  refine ops_call (vs := []) rfl rfl (awake13_spec hP.tab) fun r1 H1 B hl1 ⟨er, eB⟩ => ?_
  subst er eB
  refine walk ?_
  have gm1 := RdOk.mono (R := rMap) hl1 g0
  refine ops_call (vs := [.agg (m.cv s0).toArray]) rfl rfl (gNew_spec gm1) fun r2 H2 B hl2 ⟨g, e, er, eB, h⟩ => ?_
  subst er eB
  have gm2 := RdOk.mono (R := rMap) hl2 gm1
  rcases h with ⟨hm, hG, rfl⟩ | ⟨hm, rfl, rfl⟩
  rotate_left
  · refine walk ?_
    refine ops_pcall rfl rfl (rGood_spec gm2) ?_
    rw [decide_eq_false hm]
    refine walk ?_
    refine fin0 ?_
    exact ⟨rfl, rfl⟩
  have hGp := hG
  obtain ⟨⟨bg, s', mb, mm, rfl, q1, q2, q3, q4⟩, hgd, hfs⟩ := hGp
  have hP2 := hP.mono (hl1.trans hl2)
  have g12 := RdOk.mono (R := rRoute) (hl1.trans hl2) g1
  refine walk ?_
  refine ex_any 10 [row p4 26 (x.cv s1)] ?_
  (first | refine gny_p 0 rfl rfl rfl ?_ | refine gny_ld 0 rfl rfl rfl rfl ?_ | refine gny_ldH 0 rfl rfl rfl ‹HRow _ _ 0 _› rfl ?_ | refine gny_T 0 rfl rfl rfl ?_ | refine gny_F 0 rfl rfl rfl ?_ | refine gny_B 0 rfl rfl rfl ?_ | refine gny_skip 0 rfl rfl ?_ | refine gny_sp 0 rfl rfl rfl ?_ | refine gny_sB 0 rfl rfl rfl ?_ | refine gny_sld 0 rfl rfl rfl rfl ?_ | refine gny_sldH 0 rfl rfl rfl ‹HRow _ _ 0 _› rfl ?_ | refine gny_ldN 0 rfl rfl rfl rfl ?_ | refine gny_bld 0 rfl rfl rfl ?_); (first | refine gny_p 3 rfl rfl rfl ?_ | refine gny_ld 3 rfl rfl rfl rfl ?_ | refine gny_ldH 3 rfl rfl rfl ‹HRow _ _ 0 _› rfl ?_ | refine gny_T 3 rfl rfl rfl ?_ | refine gny_F 3 rfl rfl rfl ?_ | refine gny_B 3 rfl rfl rfl ?_ | refine gny_skip 3 rfl rfl ?_ | refine gny_sp 3 rfl rfl rfl ?_ | refine gny_sB 3 rfl rfl rfl ?_ | refine gny_sld 3 rfl rfl rfl rfl ?_ | refine gny_sldH 3 rfl rfl rfl ‹HRow _ _ 0 _› rfl ?_ | refine gny_ldN 3 rfl rfl rfl rfl ?_ | refine gny_bld 3 rfl rfl rfl ?_); (first | refine gny_p 4 rfl rfl rfl ?_ | refine gny_ld 4 rfl rfl rfl rfl ?_ | refine gny_ldH 4 rfl rfl rfl ‹HRow _ _ 0 _› rfl ?_ | refine gny_T 4 rfl rfl rfl ?_ | refine gny_F 4 rfl rfl rfl ?_ | refine gny_B 4 rfl rfl rfl ?_ | refine gny_skip 4 rfl rfl ?_ | refine gny_sp 4 rfl rfl rfl ?_ | refine gny_sB 4 rfl rfl rfl ?_ | refine gny_sld 4 rfl rfl rfl rfl ?_ | refine gny_sldH 4 rfl rfl rfl ‹HRow _ _ 0 _› rfl ?_ | refine gny_ldN 4 rfl rfl rfl rfl ?_ | refine gny_bld 4 rfl rfl rfl ?_); (first | refine gny_p 5 rfl rfl rfl ?_ | refine gny_ld 5 rfl rfl rfl rfl ?_ | refine gny_ldH 5 rfl rfl rfl ‹HRow _ _ 0 _› rfl ?_ | refine gny_T 5 rfl rfl rfl ?_ | refine gny_F 5 rfl rfl rfl ?_ | refine gny_B 5 rfl rfl rfl ?_ | refine gny_skip 5 rfl rfl ?_ | refine gny_sp 5 rfl rfl rfl ?_ | refine gny_sB 5 rfl rfl rfl ?_ | refine gny_sld 5 rfl rfl rfl rfl ?_ | refine gny_sldH 5 rfl rfl rfl ‹HRow _ _ 0 _› rfl ?_ | refine gny_ldN 5 rfl rfl rfl rfl ?_ | refine gny_bld 5 rfl rfl rfl ?_); (first | refine gny_p 6 rfl rfl rfl ?_ | refine gny_ld 6 rfl rfl rfl rfl ?_ | refine gny_ldH 6 rfl rfl rfl ‹HRow _ _ 0 _› rfl ?_ | refine gny_T 6 rfl rfl rfl ?_ | refine gny_F 6 rfl rfl rfl ?_ | refine gny_B 6 rfl rfl rfl ?_ | refine gny_skip 6 rfl rfl ?_ | refine gny_sp 6 rfl rfl rfl ?_ | refine gny_sB 6 rfl rfl rfl ?_ | refine gny_sld 6 rfl rfl rfl rfl ?_ | refine gny_sldH 6 rfl rfl rfl ‹HRow _ _ 0 _› rfl ?_ | refine gny_ldN 6 rfl rfl rfl rfl ?_ | refine gny_bld 6 rfl rfl rfl ?_); (first | refine gny_p 7 rfl rfl rfl ?_ | refine gny_ld 7 rfl rfl rfl rfl ?_ | refine gny_ldH 7 rfl rfl rfl ‹HRow _ _ 0 _› rfl ?_ | refine gny_T 7 rfl rfl rfl ?_ | refine gny_F 7 rfl rfl rfl ?_ | refine gny_B 7 rfl rfl rfl ?_ | refine gny_skip 7 rfl rfl ?_ | refine gny_sp 7 rfl rfl rfl ?_ | refine gny_sB 7 rfl rfl rfl ?_ | refine gny_sld 7 rfl rfl rfl rfl ?_ | refine gny_sldH 7 rfl rfl rfl ‹HRow _ _ 0 _› rfl ?_ | refine gny_ldN 7 rfl rfl rfl rfl ?_ | refine gny_bld 7 rfl rfl rfl ?_)
  have hkm : (min (more.length : Int) 20).toNat = (more.take 20).length := by simp; omega
  rw [hkm]
  have h22 := (h2.mono (hl1.trans hl2)).1
  have hmr := slr_take (k := (more.take 20).length) h22 (by simp; omega)
  rw [show more.take (more.take 20).length = more.take 20 by simp [List.take_take]] at hmr
  have hml : (more.take 20).length ≤ 20 := by simp; omega
  generalize more.take 20 = mt at *
  refine gny_call (vs := [.agg (x.cv s1).toArray]) 1 rfl rfl rfl (own13_spec g12) fun r6 H6 B hl6 ⟨v6, er, eB, eH⟩ => ?_
  subst er eB eH
  refine ⟨(by (repeat (first | exact Sub.refl _ | exact Sub.nil _ | (apply sub_pick; (repeat (first | exact Has.here | apply Has.there)); skip) | apply Sub.drop))), ?_⟩
  refine any_freeze v6 fun H7 hl7 hz7 => ?_
  have gx : rRoute H7 [I x.Start, v6] (clipR x) := ⟨v6, rfl, t1, hz7⟩
  refine gny_call (vs := [.agg [I x.Start, v6].toArray]) 2 rfl rfl rfl (keysO_spec gx) fun r8 H8 B hl8 ⟨eB, eH⟩ => ?_
  subst eB eH
  refine ⟨(by (repeat (first | exact Sub.refl _ | exact Sub.nil _ | (apply sub_pick; (repeat (first | exact Has.here | apply Has.there)); skip) | apply Sub.drop))), ?_⟩
  have hkl := keysL_len (x := clipR x)
  generalize keysL (clipR x) = ks at *
  refine gny_w 8 rfl rfl (op_appSS (R := rStr) rfl (hmr.mono hl7) (by simp only [List.length_map, cap47]; omega) fun d9 e9 => ⟨hl7, (by (repeat (first | exact Sub.refl _ | exact Sub.nil _ | (apply sub_pick; (repeat (first | exact Has.here | apply Has.there)); skip) | apply Sub.drop))), ?_⟩)
  (first | refine gny_p 9 rfl rfl rfl ?_ | refine gny_ld 9 rfl rfl rfl rfl ?_ | refine gny_ldH 9 rfl rfl rfl ‹HRow _ _ 0 _› rfl ?_ | refine gny_T 9 rfl rfl rfl ?_ | refine gny_F 9 rfl rfl rfl ?_ | refine gny_B 9 rfl rfl rfl ?_ | refine gny_skip 9 rfl rfl ?_ | refine gny_sp 9 rfl rfl rfl ?_ | refine gny_sB 9 rfl rfl rfl ?_ | refine gny_sld 9 rfl rfl rfl rfl ?_ | refine gny_sldH 9 rfl rfl rfl ‹HRow _ _ 0 _› rfl ?_ | refine gny_ldN 9 rfl rfl rfl rfl ?_ | refine gny_bld 9 rfl rfl rfl ?_)
  refine any_rest rfl ?_
  refine walk ?_
  refine ops_freeze (.slice d9 ((ks.map sb).length + mt.length) e9) fun H9 hl9 hk9 => ?_
  obtain ⟨keys, hkeys⟩ : ∃ keys, keys = ks.map sb ++ mt := ⟨_, rfl⟩
  have hn9 : (ks.map sb).length + mt.length = keys.length := by rw [hkeys, List.length_append]
  have hkn : keys.length ≤ 68 := by rw [← hn9, List.length_map]; omega
  rw [← hkeys, hn9] at hk9
  rw [hn9]
  have hle9 := hl7.trans hl9
  refine ops_mk0 (w := 16) rStr rfl fun b10 => ?_
  refine walk ?_
  refine ops_appS rfl rfl hk9.1 (by simp only [List.length_nil, cap47]; omega) fun d10 e10 => ?_
  simp only [List.length_nil, Nat.zero_add, List.nil_append]
  refine ops_freeze (.slice d10 keys.length e10) fun H10 hl10 hk10 => ?_
  have hle10 := hle9.trans hl10
  have gm10 := RdOk.mono (R := rMap) hle10 gm2
  refine ops_call (vs := [.pointer (some ⟨bg, 0, none⟩), .slice d10 keys.length e10]) rfl rfl (split_spec (hP2.mono hle10) (hG.mono hle10) hk10) fun r11 H11 B hl11 ⟨hs, eH⟩ => ?_
  subst eH
  rcases hs with ⟨hh, vo, zs, rfl, rfl, hz⟩ | ⟨hno, rfl, rfl⟩
  rotate_left
  · refine walk ?_
    refine ops_call (vs := [.agg (m.cv s0).toArray, .slice d9 keys.length e9]) rfl rfl (rSplit_spec gm10 hm (hk9.mono hl10)) fun r12 H12 B hl12 ⟨hs2, eH⟩ => ?_
    subst eH
    rcases hs2 with ⟨hh, _⟩ | ⟨_, rfl, rfl⟩
    · exact absurd hh hno
    · refine walk ?_
      refine fin0 ?_
      exact ⟨rfl, rfl⟩
  refine walk ?_
  refine ops_call (vs := [.agg (m.cv s0).toArray, .slice d9 keys.length e9]) rfl rfl (rSplit_spec gm10 hm (hk9.mono hl10)) fun r12 H12 B hl12 ⟨hs2, eH⟩ => ?_
  subst eH
  rcases hs2 with ⟨_, wo, ws, rfl, rfl, hw⟩ | ⟨hno, _⟩
  rotate_left
  · exact absurd hh hno
  have hsh := hm.1
  simp only [headM, sidesM] at hsh
  have hzl : zs.length = m.Shards.toNat := by have := congrArg List.length hz; rw [dealt_len] at this; simpa using this
  have hwl : ws.length = m.Shards.toNat := by have := congrArg List.length hw; rw [dealt_len] at this; simpa using this
  have heq : ∀ i (h1 : i < zs.length) (h2 : i < ws.length), zs[i].2 = ws[i].2 := by
    intro i h1 h2
    have e := hz.trans hw.symm
    have e1 : (zs.map Prod.snd)[i]'(by simpa using h1) = (ws.map Prod.snd)[i]'(by simpa using h2) := by simp only [e]
    simpa using e1
  refine ops_shape vo fun do1 eo1 e _ _ _ => ?_
  subst e
  refine ops_shape wo fun do2 eo2 e _ _ _ => ?_
  subst e
  refine ops_freeze (.slice do1 (zs.map Prod.fst).length eo1) fun H13 hl13 hv13 => ?_
  refine ops_freeze (.slice do2 (ws.map Prod.fst).length eo2) fun H14 hl14 hv14 => ?_
  refine ops_lend (A := bigL (dA H12) zs) (by repeat (first | exact Has.here | apply Has.there)) fun D1 hD1 _ hle1 hD1le => ?_
  refine ops_lend (A := bigL (dA H12) ws) (by repeat (first | exact Has.here | apply Has.there)) fun D2 hD2 _ hle2 hD2le => ?_
  have hr1 : ∀ i (h : i < zs.length), SlR rStr 1 (union (union H14 D1) D2) zs[i].1 zs[i].2 := fun i h => dA_reads hD1 (hD1le.trans hle2) h
  have hr2 : ∀ i (h : i < ws.length), SlR rStr 1 (union (union H14 D1) D2) ws[i].1 ws[i].2 := fun i h => dA_reads hD2 hD2le h
  have hv13r := (hv13.mono (hl14.trans (hle1.trans hle2))).1
  have hv14r := (hv14.mono (hle1.trans hle2)).1
  rw [List.length_map] at hv13r hv14r ⊢
  rw [List.length_map]
  have hleF := (((hl1.trans hl2).trans hle10).trans hl13).trans (hl14.trans (hle1.trans hle2))
  generalize union (union H14 D1) D2 = H15 at *
  refine walk ?_
  refine ex_loop (σ := Nat) (fun j => j ≤ zs.length) (fun j => [(10, .slice do1 zs.length eo1), (12, .slice do2 ws.length eo2), (73, I zs.length), (74, I j)]) (fun _ => H15) (fun _ => R) (fun j => zs.length - j) 0 (Nat.zero_le _) fun j hj0 K hL => ?_
  refine walk ?_
  refine ex_if rfl (fun hj => ?_) (fun hj => ?_)
  · have hj1 : j < zs.length := by omega
    have hj2 : j < ws.length := by omega
    have te := texts_spec (W0 := W0) (hr1 j hj1) (hr2 j hj2)
    rw [decide_eq_true (heq j hj1 hj2)] at te
    refine walk ?_
    refine ex_any 10 [] ?_
    (first | refine gny_p 0 rfl rfl rfl ?_ | refine gny_ld 0 rfl rfl rfl rfl ?_ | refine gny_ldH 0 rfl rfl rfl ‹HRow _ _ 0 _› rfl ?_ | refine gny_T 0 rfl rfl rfl ?_ | refine gny_F 0 rfl rfl rfl ?_ | refine gny_B 0 rfl rfl rfl ?_ | refine gny_skip 0 rfl rfl ?_ | refine gny_sp 0 rfl rfl rfl ?_ | refine gny_sB 0 rfl rfl rfl ?_ | refine gny_sld 0 rfl rfl rfl rfl ?_ | refine gny_sldH 0 rfl rfl rfl ‹HRow _ _ 0 _› rfl ?_ | refine gny_ldN 0 rfl rfl rfl rfl ?_ | refine gny_bld 0 rfl rfl rfl ?_); (first | refine gny_p 1 rfl rfl rfl ?_ | refine gny_ld 1 rfl rfl rfl rfl ?_ | refine gny_ldH 1 rfl rfl rfl ‹HRow _ _ 0 _› rfl ?_ | refine gny_T 1 rfl rfl rfl ?_ | refine gny_F 1 rfl rfl rfl ?_ | refine gny_B 1 rfl rfl rfl ?_ | refine gny_skip 1 rfl rfl ?_ | refine gny_sp 1 rfl rfl rfl ?_ | refine gny_sB 1 rfl rfl rfl ?_ | refine gny_sld 1 rfl rfl rfl rfl ?_ | refine gny_sldH 1 rfl rfl rfl ‹HRow _ _ 0 _› rfl ?_ | refine gny_ldN 1 rfl rfl rfl rfl ?_ | refine gny_bld 1 rfl rfl rfl ?_); (first | refine gny_p 4 rfl rfl rfl ?_ | refine gny_ld 4 rfl rfl rfl rfl ?_ | refine gny_ldH 4 rfl rfl rfl ‹HRow _ _ 0 _› rfl ?_ | refine gny_T 4 rfl rfl rfl ?_ | refine gny_F 4 rfl rfl rfl ?_ | refine gny_B 4 rfl rfl rfl ?_ | refine gny_skip 4 rfl rfl ?_ | refine gny_sp 4 rfl rfl rfl ?_ | refine gny_sB 4 rfl rfl rfl ?_ | refine gny_sld 4 rfl rfl rfl rfl ?_ | refine gny_sldH 4 rfl rfl rfl ‹HRow _ _ 0 _› rfl ?_ | refine gny_ldN 4 rfl rfl rfl rfl ?_ | refine gny_bld 4 rfl rfl rfl ?_); (first | refine gny_p 5 rfl rfl rfl ?_ | refine gny_ld 5 rfl rfl rfl rfl ?_ | refine gny_ldH 5 rfl rfl rfl ‹HRow _ _ 0 _› rfl ?_ | refine gny_T 5 rfl rfl rfl ?_ | refine gny_F 5 rfl rfl rfl ?_ | refine gny_B 5 rfl rfl rfl ?_ | refine gny_skip 5 rfl rfl ?_ | refine gny_sp 5 rfl rfl rfl ?_ | refine gny_sB 5 rfl rfl rfl ?_ | refine gny_sld 5 rfl rfl rfl rfl ?_ | refine gny_sldH 5 rfl rfl rfl ‹HRow _ _ 0 _› rfl ?_ | refine gny_ldN 5 rfl rfl rfl rfl ?_ | refine gny_bld 5 rfl rfl rfl ?_)
    refine gny_el 2 3 (jj := j) rfl rfl rfl rfl rfl hv13r (by simpa using hj1) ?_
    refine gny_el 6 7 (jj := j) rfl rfl rfl rfl rfl hv14r (by simpa using hj2) ?_
    rw [List.getElem_map, List.getElem_map]
    refine gny_pcall 8 rfl rfl rfl te ?_
    (first | refine gny_p 9 rfl rfl rfl ?_ | refine gny_ld 9 rfl rfl rfl rfl ?_ | refine gny_ldH 9 rfl rfl rfl ‹HRow _ _ 0 _› rfl ?_ | refine gny_T 9 rfl rfl rfl ?_ | refine gny_F 9 rfl rfl rfl ?_ | refine gny_B 9 rfl rfl rfl ?_ | refine gny_skip 9 rfl rfl ?_ | refine gny_sp 9 rfl rfl rfl ?_ | refine gny_sB 9 rfl rfl rfl ?_ | refine gny_sld 9 rfl rfl rfl rfl ?_ | refine gny_sldH 9 rfl rfl rfl ‹HRow _ _ 0 _› rfl ?_ | refine gny_ldN 9 rfl rfl rfl rfl ?_ | refine gny_bld 9 rfl rfl rfl ?_)
    refine any_rest rfl ?_
    refine walk ?_
    refine out_next hL (j + 1) (by omega)
  · clear hL
    refine walk ?_
    refine fin0 ?_
    exact ⟨rfl, rfl⟩
end Go.Proofs.YtnfmjkjhiolfdaaGreatDoor
