/- A coordinator: Begin. -/
import Derived.Test.YtpphdbnifbjfmaaGreatDoorJTL
set_option linter.unusedVariables false
set_option linter.unusedSimpArgs false
namespace Go.Proofs.YtpphdbnifbjfmaaGreatDoor
open Go Go.Sx Go.Proofs
def stepF (ts : List (K3 × TX)) (now : Int) (ks : List K3) : List (K3 × TX) := ts.filter fun q => !decide (gaveUp q.2 now ∧ q.1 ∈ ks)
theorem mdel_filter {ν : Type} {k : K3} : ∀ {m : List (K3 × ν)}, (m.map (·.1)).Nodup → mdel k m = m.filter fun q => !decide (q.1 = k)
  | [], _ => rfl
  | (a, v) :: m, hn => by
    simp only [List.map_cons, List.nodup_cons] at hn
    unfold mdel
    by_cases h : k = a
    · subst h
      simp only [if_true, List.filter_cons]
      rw [List.filter_eq_self.2 fun q hq => ?_]
      · simp
      · have : q.1 ≠ k := fun e => hn.1 (by rw [← e]; exact List.mem_map.2 ⟨q, hq, rfl⟩)
        simp [this]
    · rw [if_neg h, List.filter_cons, mdel_filter hn.2]
      have : ¬ a = k := fun e => h e.symm
      simp [this]
theorem stepF_nil {ts : List (K3 × TX)} {now : Int} : stepF ts now [] = ts := by unfold stepF; rw [List.filter_eq_self.2]; intro q _; simp
theorem stepF_no {ts : List (K3 × TX)} {now : Int} {ks : List K3} {k : K3} {t : TX} (hn : (ts.map (·.1)).Nodup) (hk : mget k ts = some t) (h : ¬ gaveUp t now) : stepF ts now (ks ++ [k]) = stepF ts now ks := by
  unfold stepF
  refine List.filter_congr fun q hq => ?_
  have hg := mget_of_mem hn hq
  by_cases e : q.1 = k
  · rw [e] at hg; rw [hk] at hg; cases hg
    simp [h]
  · simp [List.mem_append, e]
theorem stepF_yes {ts : List (K3 × TX)} {now : Int} {ks : List K3} {k : K3} {t : TX} (hn : (ts.map (·.1)).Nodup) (hk : mget k ts = some t) (h : gaveUp t now) : stepF ts now (ks ++ [k]) = mdel k (stepF ts now ks) := by
  have hn2 : ((stepF ts now ks).map (·.1)).Nodup := hn.sublist ((List.filter_sublist).map _)
  rw [mdel_filter hn2]
  unfold stepF
  rw [List.filter_filter]
  refine List.filter_congr fun q hq => ?_
  have hg := mget_of_mem hn hq
  by_cases e : q.1 = k
  · rw [e] at hg; rw [hk] at hg; cases hg
    simp [h, e]
  · simp [List.mem_append, e]
theorem stepF_all {s : CS} {now : Int} : stepF s.ts now (allC s) = (stepS s now).ts := by
  unfold stepF stepS
  refine List.filter_congr fun q hq => ?_
  have : q.1 ∈ allC s := by unfold allC; rw [mem_sort3]; exact List.mem_map.2 ⟨q, hq, rfl⟩
  simp [this]
theorem stepF_get {ts : List (K3 × TX)} {now : Int} {ks : List K3} {k : K3} {t : TX} (hn : (ts.map (·.1)).Nodup) (hk : mget k ts = some t) (h : k ∉ ks) : mget k (stepF ts now ks) = some t := by
  have hn2 : ((stepF ts now ks).map (·.1)).Nodup := hn.sublist ((List.filter_sublist).map _)
  rw [mget_iff hn2]
  unfold stepF
  rw [List.mem_filter]
  exact ⟨(mget_iff hn).1 hk, by simp [h]⟩
theorem stepOut1_len {s : CS} {now : Int} {k : K3} {t : TX} (hk : mget k s.ts = some t) : (stepOut1 s now k).length ≤ t.parts.length := by
  unfold stepOut1
  rw [hk, Option.getD_some]
  split
  · unfold noL; simp
  · unfold againL; rw [List.length_map]; exact List.length_filter_le _ _
set_option maxHeartbeats 16000000 in
set_option maxRecDepth 20000 in
theorem step_spec {W0 : World} {H : Heap} {p n : Nat} {s : CS} {now : Int} (I0 : CInv n s) (hn : n ≤ 1000) (hnow : fits now) (hpl : ∀ k t, mget k s.ts = some t → t.parts.length ≤ 1000000) :
    Ct Tryz.prog 22 #[.pointer (some ⟨p, 0, none⟩), I now] W0 H [coordO H p s] (fun r H' B => ∃ v1 v2, r = .tuple #[v1, v2] ∧ B = [ownS rMessage 19 216 81 H' v1 (stepOut s now), ownS rCoordOutcome 5 32 136 H' v2 (stepOc s now), coordO H' p (stepS s now)]) := by
  refine Ct.go (vs := [.pointer (some ⟨p, 0, none⟩), I now]) fun R => ?_
  have hln := I0.ln
  refine ex_open (A := coordO H p s) (σ := Nat × List CE) (B := fun a => [cRow p a.1 s, cMap a.1 a.2, bigL (xA H) a.2]) (p := fun a => CS.ts s = tsC a.2) (by repeat (first | exact Has.here | apply Has.there)) (fun h ⟨mb, zs, hb, hk⟩ => ⟨(mb, zs), hk, hb⟩) fun ⟨mb, zs⟩ hts => ?_
  dsimp only at hts ⊢
  obtain ⟨hnd, hent⟩ := I0.entry hts
  refine walk ?_
  refine ops_call rfl rfl (all_spec (p := p) (mb := mb) hts I0.keyfit (by simp only [cap47]; omega)) fun r1 H1 B hl1 ⟨eB, eH⟩ => ?_
  subst eB eH
  refine ops_freeze r1 fun H2 hl2 hsl => ?_
  have hal : (allC s).length ≤ n := by rw [allC_len]; exact hln
  have hmem : ∀ k ∈ allC s, ∃ t, mget k s.ts = some t := fun k hk => by
    rw [mem_allC] at hk
    cases hg : mget k s.ts with
    | none => rw [hg] at hk; cases hk
    | some t => exact ⟨t, rfl⟩
  have hksn : (allC s).Nodup := by
    rw [List.nodup_iff_pairwise_ne]
    exact (sort3_rise I0.nd).imp fun h e => by rw [e] at h; exact ltK_irr h
  have hall := stepF_all (s := s) (now := now)
  unfold stepOut stepOc
  generalize allC s = ks at *
  have hlx : (ks.map toTx).length = ks.length := by simp
  obtain ⟨b0, c0, rfl, hc0, hd0⟩ := hsl.1.shape
  let Oo : Nat → List Message := fun j => (ks.take j).flatMap (stepOut1 s now)
  let Oc : Nat → List CoordOutcome := fun j => ((ks.take j).filter fun k => decide (gaveUp ((mget k s.ts).getD zTX) now)).map fun k => outcM (toTx k) false false
  have hcap : (1001 : Nat) * 1000000 * 216 ≤ cap47 := by decide
  have hOl : ∀ j, j ≤ ks.length → (Oo j).length ≤ j * 1000000 := fun j => by
    induction j with
    | zero => intro _; simp [Oo]
    | succ j ih =>
      intro hj
      have hj1 : j < ks.length := hj
      simp only [Oo] at ih ⊢
      rw [List.take_succ_eq_append_getElem hj1, List.flatMap_append, List.length_append]
      obtain ⟨t, ht⟩ := hmem _ (List.getElem_mem hj1)
      have h1 := stepOut1_len (now := now) ht
      have h2 := hpl _ _ ht
      have h3 := ih (by omega)
      simp only [List.flatMap_cons, List.flatMap_nil, List.append_nil]
      omega
  have hOcl : ∀ j, (Oc j).length ≤ j := fun j => by
    simp only [Oc, List.length_map]
    exact Nat.le_trans (List.length_filter_le _ _) (by rw [List.length_take]; exact Nat.min_le_left _ _)
  refine walk ?_
  refine ex_L (L' := cRow p mb s :: cMap mb zs :: bigL (xA H1) zs :: R) subA ?_
  refine ex_loop (σ := Nat × (Option Addr × Nat) × (Option Addr × Nat) × List CE × Heap) (fun u => u.1 ≤ ks.length ∧ H2.le u.2.2.2.2 ∧ tsC u.2.2.2.1 = stepF s.ts now (ks.take u.1)) (fun u => [(0, .pointer (some ⟨p, 0, none⟩)), (1, I now), (6, .slice u.2.1.1 (Oo u.1).length u.2.1.2), (7, .slice u.2.2.1.1 (Oc u.1).length u.2.2.1.2), (14, .slice b0 (ks.map toTx).length c0), (15, I (ks.map toTx).length), (16, I u.1)]) (fun u => u.2.2.2.2)
    (fun u => ownS rMessage 19 216 81 u.2.2.2.2 (.slice u.2.1.1 (Oo u.1).length u.2.1.2) (Oo u.1) :: ownS rCoordOutcome 5 32 136 u.2.2.2.2 (.slice u.2.2.1.1 (Oc u.1).length u.2.2.1.2) (Oc u.1) :: cRow p mb s :: cMap mb u.2.2.2.1 :: bigL (xA u.2.2.2.2) u.2.2.2.1 :: R) (fun u => ks.length - u.1) (0, (none, 0), (none, 0), zs, H2) ⟨Nat.zero_le _, .refl _, by show tsC zs = stepF s.ts now []; rw [stepF_nil]; exact hts.symm⟩ (hs0 := ?_) fun ⟨j, ⟨d1, e1⟩, ⟨d2, e2⟩, zs', HK⟩ ⟨hj0, hlK, hF⟩ K hL => ?_
  rotate_left
  · show Sub _ (ownS rMessage 19 216 81 H2 (.slice none 0 0) [] :: ownS rCoordOutcome 5 32 136 H2 (.slice none 0 0) [] :: _)
    refine Sub.trans ?_ (ownS_nil.trans (Sub.cons ownS_nil))
    refine Sub.trans (B := bigL (xA H1) zs :: cRow p mb s :: cMap mb zs :: R) subA ?_
    refine (xL_up hl2).trans ?_
    exact subA
  simp only at hj0 hlK hF
  dsimp only
  have hO1 := hOl j hj0
  have hOc1 := hOcl j
  refine walk ?_
  refine ex_if rfl (fun hj => ?_) (fun hj => ?_)
  · have hj1 : j < ks.length := by omega
    have htk := List.take_succ_eq_append_getElem hj1
    obtain ⟨t, hgt⟩ := hmem _ (List.getElem_mem hj1)
    have hkn : ks[j] ∉ ks.take j := fun h => by
      have h2 : (ks.take (j + 1)).Nodup := hksn.sublist (List.take_sublist _ _)
      rw [htk, List.nodup_append] at h2
      exact h2.2.2 _ h _ (by simp) rfl
    have hg' : mget ks[j] (tsC zs') = some t := by rw [hF]; exact stepF_get I0.nd hgt hkn
    have hnd' : (zs'.map CE.k).Nodup := by rw [← kv_keys (f := CE.x)]; show ((tsC zs').map (·.1)).Nodup; rw [hF]; exact I0.nd.sublist ((List.filter_sublist).map _)
    have ti := I0.ti _ _ hgt
    have hplt := hpl _ _ hgt
    have hkf := I0.keyfit (ks[j], t) (mget_mem hgt)
    have hOs : Oo (j + 1) = Oo j ++ stepOut1 s now ks[j] := by simp only [Oo]; rw [htk, List.flatMap_append]; simp
    have hOcs : Oc (j + 1) = if gaveUp t now then Oc j ++ [outcM (toTx ks[j]) false false] else Oc j := by
      simp only [Oc]; rw [htk, List.filter_append, List.map_append]
      by_cases h : gaveUp t now
      · simp [hgt, h]
      · simp [hgt, h]
    have hFy := fun h => stepF_yes (ks := ks.take j) I0.nd hgt (now := now) h
    have hFn := fun h => stepF_no (ks := ks.take j) I0.nd hgt (now := now) h
    rw [← htk] at hFy hFn
    have hs1 : stepOut1 s now ks[j] = if gaveUp t now then noL s.node (toTx ks[j]) t else againL s.node (toTx ks[j]) t := by unfold stepOut1; rw [hgt, Option.getD_some]
    rw [hs1] at hOs
    rcases c_cases zs' ks[j] with ⟨l1, ee, l2, rfl, hek⟩ | hno
    rotate_left
    · rw [kv_out (f := CE.x) hno] at hg'; cases hg'
    have het : ee.x = t := by
      have h2 : mget ee.k (tsC (l1 ++ ee :: l2)) = some ee.x := kv_in (f := CE.x) hnd' (by simp)
      rw [hek, hg'] at h2
      exact (Option.some.inj h2).symm
    have hmp : mget ks[j] (msC (l1 ++ ee :: l2)) = some (ptrC ee.p) := by rw [← hek]; exact kv_in (f := fun e => ptrC e.p) hnd' (by simp)
    refine walk ?_
    refine ops_ixp rfl rfl (hsl.mono hlK).1 (show j < (ks.map toTx).length by simpa using hj1) fun b o c hr hc => ?_
    have hx : (ks.map toTx)[j]'(by simpa using hj1) = toTx ks[j] := by simp
    rw [hx] at hc
    obtain ⟨rfl, _⟩ := hc
    generalize ks[j] = kk at *
    subst hek het
    obtain ⟨⟨ka, kb, kc⟩, ep, ev, ⟨op, began, parts, works, heard⟩⟩ := ee
    dsimp only at hkf hgt hmp hFy hFn hOs hOcs hplt hkn
    change HRow HK b o [I ka, I kb, I kc] at hr
    refine walk ?_
    refine ops_ldNH rfl rfl hr rfl ?_
    refine ops_alloc rfl fun p9 _ => ?_
    refine walk ?_
    refine ops_lkO (RV := rVal) (val := fun x : Value => x) (z := .pointer none) rfl rfl ((by repeat (first | exact Has.here | apply Has.there))) ?_
    rw [hmp, Option.getD_some]
    refine walk ?_
    have hbf := ti.bg
    refine ops_L (L' := xA HK ⟨(ka, kb, kc), ep, ev, ⟨op, began, parts, works, heard⟩⟩ :: bigL (xA HK) (l1 ++ l2) :: row p9 45 [I ka, I kb, I kc] :: ownS rMessage 19 216 81 HK (.slice d1 (Oo j).length e1) (Oo j) :: ownS rCoordOutcome 5 32 136 HK (.slice d2 (Oc j).length e2) (Oc j) :: cRow p mb s :: cMap mb (l1 ++ ⟨(ka, kb, kc), ep, ev, ⟨op, began, parts, works, heard⟩⟩ :: l2) :: R) (Sub.trans subA bigL_out) ?_
    refine ops_open (A := xA HK ⟨(ka, kb, kc), ep, ev, ⟨op, began, parts, works, heard⟩⟩) (σ := Value × Nat) (B := fun a => [xRow ⟨(ka, kb, kc), ep, ev, ⟨op, began, parts, works, heard⟩⟩ a.1 a.2, xWorks HK ⟨(ka, kb, kc), ep, ev, ⟨op, began, parts, works, heard⟩⟩ a.1, xHeard HK ⟨(ka, kb, kc), ep, ev, ⟨op, began, parts, works, heard⟩⟩ a.2]) (p := fun a => SlB rInt 1 8 HK (CE.v ⟨(ka, kb, kc), ep, ev, ⟨op, began, parts, works, heard⟩⟩) (CE.x ⟨(ka, kb, kc), ep, ev, ⟨op, began, parts, works, heard⟩⟩).parts) (by repeat (first | exact Has.here | apply Has.there)) (fun h ⟨hs, wv, hb, hbig⟩ => ⟨(wv, hb), hs, hbig⟩) fun ⟨wv, hb⟩ hsl2 => ?_
    dsimp only at hsl2 ⊢
    obtain ⟨bs, cs, rfl, hcs, hds⟩ := hsl2.1.shape
    have hv1 : ∀ q ∈ heard, q.2 = 1 := fun q hq => (ti.hp q hq).2
    have hpf : ∀ q ∈ parts, fits q := fun q hq => (ti.nn q hq).2
    have hsh : Sub ([xRow ⟨(ka, kb, kc), ep, .slice bs parts.length cs, ⟨op, began, parts, works, heard⟩⟩ wv hb, xWorks HK ⟨(ka, kb, kc), ep, .slice bs parts.length cs, ⟨op, began, parts, works, heard⟩⟩ wv, xHeard HK ⟨(ka, kb, kc), ep, .slice bs parts.length cs, ⟨op, began, parts, works, heard⟩⟩ hb] ++ bigL (xA HK) (l1 ++ l2) :: row p9 45 [I ka, I kb, I kc] :: ownS rMessage 19 216 81 HK (.slice d1 (Oo j).length e1) (Oo j) :: ownS rCoordOutcome 5 32 136 HK (.slice d2 (Oc j).length e2) (Oc j) :: cRow p mb s :: cMap mb (l1 ++ ⟨(ka, kb, kc), ep, .slice bs parts.length cs, ⟨op, began, parts, works, heard⟩⟩ :: l2) :: R) (xA HK ⟨(ka, kb, kc), ep, .slice bs parts.length cs, ⟨op, began, parts, works, heard⟩⟩ :: bigL (xA HK) (l1 ++ l2) :: row p9 45 [I ka, I kb, I kc] :: ownS rMessage 19 216 81 HK (.slice d1 (Oo j).length e1) (Oo j) :: ownS rCoordOutcome 5 32 136 HK (.slice d2 (Oc j).length e2) (Oc j) :: cRow p mb s :: cMap mb (l1 ++ ⟨(ka, kb, kc), ep, .slice bs parts.length cs, ⟨op, began, parts, works, heard⟩⟩ :: l2) :: R) := by
      refine Sub.trans ?_ (xA_shut (H := HK) (wv := wv) (hb := hb) hsl2 (.refl _))
      exact subA
    cases op with
    | true =>
      have hng : ¬ gaveUp ⟨true, began, parts, works, heard⟩ now := fun h => by cases h.1
      rw [if_neg hng] at hOs hOcs
      have hFj := hFn hng
      refine walk ?_
      refine ops_L hsh ?_
      have hH3 : HK = HK := rfl
      generalize HK = H3 at *
      refine ops_call rfl rfl (again_spec (W0 := W0) (H := H3) (H1 := H3) (p := p) (mb := mb) (s := s) (x := ⟨ka, kb, kc⟩) (e := ⟨(ka, kb, kc), ep, .slice bs parts.length cs, ⟨true, began, parts, works, heard⟩⟩) (.refl _) I0.fn hkf hv1 hpf hplt) fun r4 H4 B hl4 eB => ?_
      subst eB
      refine ops_freeze r4 fun H5 hl5 hr4 => ?_
      obtain ⟨rb, rc, rfl, _, _⟩ := hr4.1.shape
      have hlA : (againL s.node ⟨ka, kb, kc⟩ ⟨true, began, parts, works, heard⟩).length ≤ 1000000 := by unfold againL; rw [List.length_map]; exact Nat.le_trans (List.length_filter_le _ _) hplt
      refine walk ?_
      refine ops_appS rfl rfl hr4.1 (by simp only [cap47] at hcap ⊢; have := Nat.mul_le_mul_right 1000000 (show j ≤ 1000 by omega); omega) fun d3 e3 => ?_
      rw [← List.length_append, show Oo j ++ againL s.node ⟨ka, kb, kc⟩ ⟨true, began, parts, works, heard⟩ = Oo (j + 1) from hOs.symm]
      refine walk ?_
      rw [← hOcs]
      refine out_next hL (j + 1, (d3, e3), (d2, e2), l1 ++ ⟨(ka, kb, kc), ep, .slice bs parts.length cs, ⟨true, began, parts, works, heard⟩⟩ :: l2, H5) ⟨by simp only; omega, hlK.trans (hl4.trans hl5), by simp only; rw [hFj]; exact hF⟩ (hs := ?_)
      dsimp only
      refine Sub.trans (B := xA H4 ⟨(ka, kb, kc), ep, .slice bs parts.length cs, ⟨true, began, parts, works, heard⟩⟩ :: bigL (xA H3) (l1 ++ l2) :: ownS rCoordOutcome 5 32 136 H3 (.slice d2 (Oc (j + 1)).length e2) (Oc (j + 1)) :: ownS rMessage 19 216 81 H5 (.slice d3 (Oo (j + 1)).length e3) (Oo (j + 1)) :: cRow p mb s :: cMap mb (l1 ++ ⟨(ka, kb, kc), ep, .slice bs parts.length cs, ⟨true, began, parts, works, heard⟩⟩ :: l2) :: R) subA ?_
      refine (xA_up hl5).trans ?_
      refine (Sub.cons (xL_up (hl4.trans hl5))).trans ?_
      refine bigL_in.trans ?_
      refine (Sub.cons (ownS_up (hl4.trans hl5))).trans ?_
      exact subA
    | false =>
      refine walk ?_
      refine ops_call rfl rfl (late_spec (b := began) (n := now) hbf hnow) fun r3 H3 B hl3 ⟨er, eB, eH⟩ => ?_
      subst er eB eH
      by_cases hlt : lateT began now
      · have hgu : gaveUp ⟨false, began, parts, works, heard⟩ now := ⟨rfl, hlt⟩
        rw [if_pos hgu] at hOs hOcs
        have hFj := hFy hgu
        rw [decide_eq_true hlt]
        refine walk ?_
        refine ops_L hsh ?_
        have hlN : (noL s.node ⟨ka, kb, kc⟩ ⟨false, began, parts, works, heard⟩).length ≤ 1000000 := by unfold noL; rw [List.length_map]; exact hplt
        refine ops_call rfl rfl (against_spec (W0 := W0) (H := H3) (H1 := H3) (p := p) (mb := mb) (s := s) (x := ⟨ka, kb, kc⟩) (e := ⟨(ka, kb, kc), ep, .slice bs parts.length cs, ⟨false, began, parts, works, heard⟩⟩) (ms := msC (l1 ++ ⟨(ka, kb, kc), ep, .slice bs parts.length cs, ⟨false, began, parts, works, heard⟩⟩ :: l2)) (.refl _) I0.fn hkf hpf hplt) fun r4 H4 B hl4 ⟨v4, er, eB, eH⟩ => ?_
        subst er eB eH
        rw [show mdel (⟨ka, kb, kc⟩ : Txn).k (msC (l1 ++ ⟨(ka, kb, kc), ep, .slice bs parts.length cs, ⟨false, began, parts, works, heard⟩⟩ :: l2)) = msC (l1 ++ l2) from kv_del (f := fun e => ptrC e.p) (e := ⟨(ka, kb, kc), ep, .slice bs parts.length cs, ⟨false, began, parts, works, heard⟩⟩) hnd']
        refine ops_freeze v4 fun H5 hl5 hr4 => ?_
        obtain ⟨rb, rc, rfl, _, _⟩ := hr4.1.shape
        refine walk ?_
        refine ops_alloc rfl fun p12 _ => ?_
        refine walk ?_
        refine ex_any 8 [row p12 136 [I ka, I kb, I kc, .bool false, .bool false]] ?_
        refine stepY 0 ?_; refine stepY 1 ?_; refine stepY 3 ?_; refine stepY 4 ?_
        have hb1 : ((Oo j).length + (noL s.node ⟨ka, kb, kc⟩ ⟨false, began, parts, works, heard⟩).length) * 216 ≤ cap47 := by
          simp only [cap47] at hcap ⊢
          have := Nat.mul_le_mul_right 1000000 (show j ≤ 1000 by omega)
          omega
        have hb2 : ((Oc j).length + 1) * 32 ≤ cap47 := by simp only [cap47]; omega
        have hor : rCoordOutcome H5 [I ka, I kb, I kc, .bool false, .bool false] (outcM ⟨ka, kb, kc⟩ false false) := ⟨rfl, hkf.1, hkf.2.1, hkf.2.2⟩
        refine any_w2 2 5 rfl rfl (op_appSS rfl hr4.1 hb1 fun d3 e3 => ⟨.refl _, subA, ?_⟩) (op_bs1 rfl rfl rfl fun b2 => ⟨.refl _, subA, ?_⟩)
        · refine any_w 5 rfl (op_bs1 rfl rfl rfl fun b2 => ⟨.refl _, subA, ?_⟩)
          refine any_w 6 rfl (op_appRS rfl hor hb2 fun d4 e4 => ⟨.refl _, subA, ?_⟩)
          refine stepY 7 ?_
          refine any_rest rfl ?_
          rw [show (Oo j).length + (noL s.node ⟨ka, kb, kc⟩ ⟨false, began, parts, works, heard⟩).length = (Oo (j + 1)).length by rw [hOs, List.length_append]; rfl, show (Oc j).length + 1 = (Oc (j + 1)).length by rw [hOcs, List.length_append]; rfl]
          refine walk ?_
          refine out_next hL (j + 1, (d3, e3), (d4, e4), l1 ++ l2, H5) ⟨by simp only; omega, hlK.trans hl5, by simp only; rw [hFj, ← hF]; exact (kv_del (f := CE.x) (e := ⟨(ka, kb, kc), ep, .slice bs parts.length cs, ⟨false, began, parts, works, heard⟩⟩) hnd').symm⟩ (hs := ?_)
          dsimp only
          refine Sub.trans (B := ownS rMessage 19 216 81 H5 (.slice d3 (Oo (j + 1)).length e3) (Oo j ++ noL s.node ⟨ka, kb, kc⟩ ⟨false, began, parts, works, heard⟩) :: ownS rCoordOutcome 5 32 136 H5 (.slice d4 (Oc (j + 1)).length e4) (Oc j ++ [outcM ⟨ka, kb, kc⟩ false false]) :: bigL (xA H4) (l1 ++ l2) :: cRow p mb s :: cMap mb (l1 ++ l2) :: R) subA ?_
          rw [show Oo j ++ noL s.node ⟨ka, kb, kc⟩ ⟨false, began, parts, works, heard⟩ = Oo (j + 1) from hOs.symm, show Oc j ++ [outcM ⟨ka, kb, kc⟩ false false] = Oc (j + 1) from hOcs.symm]
          refine (Sub.cons (Sub.cons (xL_up hl5))).trans ?_
          exact subA
        · refine any_w 2 rfl (op_appSS rfl hr4.1 hb1 fun d3 e3 => ⟨.refl _, subA, ?_⟩)
          refine any_w 6 rfl (op_appRS rfl hor hb2 fun d4 e4 => ⟨.refl _, subA, ?_⟩)
          refine stepY 7 ?_
          refine any_rest rfl ?_
          rw [show (Oo j).length + (noL s.node ⟨ka, kb, kc⟩ ⟨false, began, parts, works, heard⟩).length = (Oo (j + 1)).length by rw [hOs, List.length_append]; rfl, show (Oc j).length + 1 = (Oc (j + 1)).length by rw [hOcs, List.length_append]; rfl]
          refine walk ?_
          refine out_next hL (j + 1, (d3, e3), (d4, e4), l1 ++ l2, H5) ⟨by simp only; omega, hlK.trans hl5, by simp only; rw [hFj, ← hF]; exact (kv_del (f := CE.x) (e := ⟨(ka, kb, kc), ep, .slice bs parts.length cs, ⟨false, began, parts, works, heard⟩⟩) hnd').symm⟩ (hs := ?_)
          dsimp only
          refine Sub.trans (B := ownS rMessage 19 216 81 H5 (.slice d3 (Oo (j + 1)).length e3) (Oo j ++ noL s.node ⟨ka, kb, kc⟩ ⟨false, began, parts, works, heard⟩) :: ownS rCoordOutcome 5 32 136 H5 (.slice d4 (Oc (j + 1)).length e4) (Oc j ++ [outcM ⟨ka, kb, kc⟩ false false]) :: bigL (xA H4) (l1 ++ l2) :: cRow p mb s :: cMap mb (l1 ++ l2) :: R) subA ?_
          rw [show Oo j ++ noL s.node ⟨ka, kb, kc⟩ ⟨false, began, parts, works, heard⟩ = Oo (j + 1) from hOs.symm, show Oc j ++ [outcM ⟨ka, kb, kc⟩ false false] = Oc (j + 1) from hOcs.symm]
          refine (Sub.cons (Sub.cons (xL_up hl5))).trans ?_
          exact subA
      · have hng : ¬ gaveUp ⟨false, began, parts, works, heard⟩ now := fun h => hlt h.2
        rw [if_neg hng] at hOs hOcs
        have hFj := hFn hng
        rw [decide_eq_false hlt]
        refine walk ?_
        refine ops_L hsh ?_
        refine ops_call rfl rfl (again_spec (W0 := W0) (H := H3) (H1 := H3) (p := p) (mb := mb) (s := s) (x := ⟨ka, kb, kc⟩) (e := ⟨(ka, kb, kc), ep, .slice bs parts.length cs, ⟨false, began, parts, works, heard⟩⟩) (.refl _) I0.fn hkf hv1 hpf hplt) fun r4 H4 B hl4 eB => ?_
        subst eB
        refine ops_freeze r4 fun H5 hl5 hr4 => ?_
        obtain ⟨rb, rc, rfl, _, _⟩ := hr4.1.shape
        have hlA : (againL s.node ⟨ka, kb, kc⟩ ⟨false, began, parts, works, heard⟩).length ≤ 1000000 := by unfold againL; rw [List.length_map]; exact Nat.le_trans (List.length_filter_le _ _) hplt
        refine walk ?_
        refine ops_appS rfl rfl hr4.1 (by simp only [cap47] at hcap ⊢; have := Nat.mul_le_mul_right 1000000 (show j ≤ 1000 by omega); omega) fun d3 e3 => ?_
        rw [← List.length_append, show Oo j ++ againL s.node ⟨ka, kb, kc⟩ ⟨false, began, parts, works, heard⟩ = Oo (j + 1) from hOs.symm]
        refine walk ?_
        rw [← hOcs]
        refine out_next hL (j + 1, (d3, e3), (d2, e2), l1 ++ ⟨(ka, kb, kc), ep, .slice bs parts.length cs, ⟨false, began, parts, works, heard⟩⟩ :: l2, H5) ⟨by simp only; omega, hlK.trans (hl4.trans hl5), by simp only; rw [hFj]; exact hF⟩ (hs := ?_)
        dsimp only
        refine Sub.trans (B := xA H4 ⟨(ka, kb, kc), ep, .slice bs parts.length cs, ⟨false, began, parts, works, heard⟩⟩ :: bigL (xA H3) (l1 ++ l2) :: ownS rCoordOutcome 5 32 136 H3 (.slice d2 (Oc (j + 1)).length e2) (Oc (j + 1)) :: ownS rMessage 19 216 81 H5 (.slice d3 (Oo (j + 1)).length e3) (Oo (j + 1)) :: cRow p mb s :: cMap mb (l1 ++ ⟨(ka, kb, kc), ep, .slice bs parts.length cs, ⟨false, began, parts, works, heard⟩⟩ :: l2) :: R) subA ?_
        refine (xA_up hl5).trans ?_
        refine (Sub.cons (xL_up (hl4.trans hl5))).trans ?_
        refine bigL_in.trans ?_
        refine (Sub.cons (ownS_up (hl4.trans hl5))).trans ?_
        exact subA
  · clear hL
    obtain rfl : j = ks.length := by omega
    have eO : Oo ks.length = ks.flatMap (stepOut1 s now) := by simp only [Oo]; rw [List.take_length]
    have eC : Oc ks.length = (ks.filter fun k => decide (gaveUp ((mget k s.ts).getD zTX) now)).map fun k => outcM (toTx k) false false := by simp only [Oc]; rw [List.take_length]
    rw [List.take_length, hall] at hF
    rw [← eO, ← eC]
    refine walk ?_
    refine finB [ownS rMessage 19 216 81 HK (.slice d1 (Oo ks.length).length e1) (Oo ks.length), ownS rCoordOutcome 5 32 136 HK (.slice d2 (Oc ks.length).length e2) (Oc ks.length), coordO HK p (stepS s now)] ?_ (hs := ?_)
    · exact ⟨_, _, rfl, rfl⟩
    · refine Sub.trans ?_ (Sub.cons (Sub.cons (coord_shut (H := HK) (mb := mb) (s := stepS s now) hF.symm (.refl _))))
      exact subA
theorem works0_snoc {w : Work} : ∀ {l : List Work} {i : Int}, works0 i (l ++ [w]) = works0 i l ++ if 0 < w.Take.length + w.Drop.length then [(i + l.length, w)] else []
  | [], i => by simp [works0]
  | a :: l, i => by
    rw [List.cons_append]
    have ih := works0_snoc (w := w) (l := l) (i := i + 1)
    have e : i + ((l.length + 1 : Nat) : Int) = i + 1 + l.length := by omega
    unfold works0
    rw [List.length_cons, e]
    split
    · rw [ih, List.cons_append]
    · exact ih
theorem mset_fresh {κ ν : Type} [DecidableEq κ] {k : κ} {v : ν} : ∀ {m : List (κ × ν)}, mget k m = none → mset k v m = m ++ [(k, v)]
  | [], _ => rfl
  | (k', v') :: m, h => by
    unfold mget at h
    split at h
    · cases h
    next hk => unfold mset; rw [if_neg hk, mset_fresh h, List.cons_append]
def pq (ws : List (Int × CW)) : List (Int × Work) := ws.map fun q => (q.1, q.2.2)
theorem pq_fst {ws : List (Int × CW)} : (pq ws).map (·.1) = ws.map (·.1) := by unfold pq; rw [List.map_map]; rfl
set_option maxHeartbeats 8000000 in
set_option maxRecDepth 20000 in
theorem begin_spec {W0 : World} {H : Heap} {p n : Nat} {s : CS} {v : Value} {l : List Work} {now : Int} (I0 : CInv n s) (hn : n ≤ 1000) (hnow : fits now) (hw : SlB rWork 3 56 H v l) (hl : l.length ≤ 1000) :
    Ct Tryz.prog 15 #[.pointer (some ⟨p, 0, none⟩), v, I now] W0 H [coordO H p s]
      (fun r H' B => ∃ ws, pq ws = works0 0 l ∧ ((ws = [] ∧ r = .tuple #[.agg #[I 0, I 0, I 0], nilS, I 4] ∧ B = [coordO H' p s]) ∨
        (ws ≠ [] ∧ ∃ v1, r = .tuple #[.agg (newX s).cv.toArray, v1, I 0] ∧ B = [ownS rMessage 19 216 81 H' v1 (againL s.node (newX s) (beganT now ws)), coordO H' p (beginS s now ws)]))) := by
  refine Ct.go (vs := [.pointer (some ⟨p, 0, none⟩), v, I now]) fun R => ?_
  obtain ⟨b0, c0, rfl, hc0, hd0⟩ := hw.1.shape
  have hcap : (1001 : Nat) * 8 ≤ cap47 := by decide
  refine walk ?_
  refine ops_alloc rfl fun p6 _ => ?_
  refine walk ?_
  refine ops_makeMap iK rCW true rfl fun wb _ => ?_
  refine walk ?_
  refine ops_makeMap iK rInt false rfl fun hb _ => ?_
  refine walk ?_
  refine ops_box rfl rfl fun ep _ => ?_
  refine walk ?_
  refine ex_loop (σ := Nat × (Option Addr × Nat) × List (Int × CW) × Heap) (fun u => u.1 ≤ l.length ∧ H.le u.2.2.2 ∧ pq u.2.2.1 = works0 0 (l.take u.1)) (fun u => [(0, .pointer (some ⟨p, 0, none⟩)), (6, .pointer (some ⟨p6, 0, none⟩)), (7, nilS), (8, I 0), (9, .pointer (some ⟨ep, 0, none⟩)), (18, .slice b0 l.length c0), (19, I l.length), (20, I u.1)]) (fun u => u.2.2.2)
    (fun u => ownS rInt 1 8 3 H (.slice u.2.1.1 (u.2.2.1.map (·.1)).length u.2.1.2) (u.2.2.1.map (·.1)) :: xRowC ep false now (.slice u.2.1.1 (u.2.2.1.map (·.1)).length u.2.1.2) (.map (some wb)) hb :: mapO iK rCW true u.2.2.2 wb u.2.2.1 :: mapO iK rInt false H hb [] :: row p6 45 [I 0, I 0, I 0] :: coordO H p s :: R) (fun u => l.length - u.1) (0, (none, 0), [], H) ⟨Nat.zero_le _, .refl _, rfl⟩ (hs0 := ?_) fun ⟨j, ⟨d, e⟩, ws, HK⟩ ⟨hj0, hlK, hws⟩ K hL => ?_
  rotate_left
  · show Sub _ (ownS rInt 1 8 3 H (.slice none 0 0) [] :: _)
    refine Sub.trans ?_ ownS_nil
    exact subA
  simp only at hj0 hlK hws
  dsimp only
  have hwl : (ws.map (·.1)).length ≤ j := by
    have h1 := works0_len (i := 0) (l := l.take j)
    rw [← hws, List.length_take] at h1
    unfold pq at h1
    simp only [List.length_map] at h1 ⊢
    omega
  refine walk ?_
  refine ex_if rfl (fun hk => ?_) (fun hk => ?_)
  · have hk1 : j < l.length := by omega
    have ht := List.take_succ_eq_append_getElem hk1
    have hsn := works0_snoc (w := l[j]) (l := l.take j) (i := 0)
    rw [← ht, ← hws, List.length_take, Nat.min_eq_left hj0, Int.zero_add] at hsn
    refine walk ?_
    refine ops_ixp rfl rfl (hw.1.mono hlK) hk1 fun b o cc hr hc => ?_
    generalize l[j] = w at hr hc hsn
    have hcc := hc
    obtain ⟨wr, wt, wd⟩ := w
    obtain ⟨u1, u2, rfl, g1, g2, g3⟩ := hc
    obtain ⟨b1, c1, rfl, hc1, hd1⟩ := g2.1.shape
    obtain ⟨b2, c2, rfl, hc2, hd2⟩ := g3.1.shape
    dsimp only at g1 g2 g3 hsn hc1 hc2
    change HRow HK b o [I wr, .slice b1 wt.length c1, .slice b2 wd.length c2] at hr
    refine walk ?_
    refine ops_ldNH rfl rfl hr rfl ?_
    refine ops_alloc rfl fun p11 _ => ?_
    have hgs1 := g2.2
    have hgs2 := g3.2
    simp only [cap47] at hgs1 hgs2
    refine walk ?_
    refine ex_if rfl (fun hq => ?_) (fun hq => ?_)
    · have hq1 : 0 < wt.length + wd.length := by omega
      rw [if_pos hq1] at hsn
      have hfj : fits (j : Int) := by unfold fits; omega
      refine walk ?_
      refine ops_app1 (y := (j : Int)) rfl rfl rfl ⟨rfl, hfj⟩ (by simp only [cap47] at hcap ⊢; omega) fun d3 e3 => ?_
      refine walk ?_
      refine ex_any 7 [row p11 38 [I wr, .slice b1 wt.length c1, .slice b2 wd.length c2], xRowC ep false now (.slice d3 ((ws.map (·.1)).length + 1) e3) (.map (some wb)) hb] ?_
      refine stepY 0 ?_; refine stepY 1 ?_; refine stepY 2 ?_; refine stepY 3 ?_; refine stepY 4 ?_; refine stepY 5 ?_
      refine gny_call 6 rfl rfl rfl (cOwn_spec (W0 := W0) (H := HK) (m := ⟨wr, wt, wd⟩) (c := [I wr, .slice b1 wt.length c1, .slice b2 wd.length c2]) hcc) fun r5 H5 B hl5 ⟨cs5, er, hcs5, eB⟩ => ?_
      subst er eB
      refine ⟨subA, ?_⟩
      refine any_rest rfl ?_
      refine ops_L (L' := mapO iK rCW true H5 wb ws :: ownS rInt 1 8 3 HK (.slice d3 ((ws.map (·.1)).length + 1) e3) (ws.map (·.1) ++ [(j : Int)]) :: xRowC ep false now (.slice d3 ((ws.map (·.1)).length + 1) e3) (.map (some wb)) hb :: mapO iK rInt false H hb [] :: row p6 45 [I 0, I 0, I 0] :: coordO H p s :: R) ?_ ?_
      · refine Sub.trans ?_ (mapO_up hl5)
        exact subA
      refine ops_update (RV := rCW) (ag := true) (cs := cs5) (u := (cs5, (⟨wr, wt, wd⟩ : Work))) rfl rfl ⟨rfl, hcs5⟩ (by repeat (first | exact Has.here | apply Has.there)) ?_
      have hfr : mget (j : Int) ws = none := by
        rw [mget_none]
        intro hm
        have h2 : (j : Int) ∈ (pq ws).map (·.1) := by rw [pq_fst]; exact hm
        rw [hws] at h2
        obtain ⟨q, hq3, hq4⟩ := List.mem_map.1 h2
        have := works0_lt (i := 0) (Int.le_refl _) q hq3
        rw [List.length_take] at this
        omega
      rw [mset_fresh hfr]
      have e1 : ws.map (·.1) ++ [(j : Int)] = (ws ++ [((j : Int), (cs5, (⟨wr, wt, wd⟩ : Work)))]).map (·.1) := by rw [List.map_append]; rfl
      rw [show (ws.map (·.1)).length + 1 = ((ws ++ [((j : Int), (cs5, (⟨wr, wt, wd⟩ : Work)))]).map (·.1)).length by simp, e1]
      refine walk ?_
      refine out_next hL (j + 1, (d3, e3), ws ++ [((j : Int), (cs5, (⟨wr, wt, wd⟩ : Work)))], H5) ⟨by simp only; omega, hlK.trans hl5, ?_⟩ (hs := ?_)
      · simp only
        rw [hsn]
        unfold pq
        rw [List.map_append]
        rfl
      · refine Sub.trans ?_ (sub_flat (R := rInt) HK H)
        exact subA
    · have hq1 : ¬ 0 < wt.length + wd.length := by omega
      rw [if_neg hq1, List.append_nil] at hsn
      refine walk ?_
      exact out_next hL (j + 1, (d, e), ws, HK) ⟨by simp only; omega, hlK, hsn.symm⟩
  · clear hL
    obtain rfl : j = l.length := by omega
    rw [List.take_length] at hws
    refine walk ?_
    refine ex_if rfl (fun hq => ?_) (fun hq => ?_)
    · have hws0 : ws = [] := by
        cases ws with
        | nil => rfl
        | cons a r => simp at hq; omega
      refine walk ?_
      refine finB [coordO HK p s] ?_ (hs := ?_)
      · exact ⟨ws, hws, .inl ⟨hws0, rfl, rfl⟩⟩
      · refine Sub.trans ?_ (coord_up hlK)
        exact subA
    have hne : ws ≠ [] := fun h => hq (by rw [h]; rfl)
    have hcb := I0.c0
    have hfn := I0.fn
    have hfl := I0.fl
    refine ex_open (A := coordO H p s) (σ := Nat × List CE) (B := fun a => [cRow p a.1 s, cMap a.1 a.2, bigL (xA H) a.2]) (p := fun a => CS.ts s = tsC a.2) (by repeat (first | exact Has.here | apply Has.there)) (fun h ⟨mb, zs, hb, hk⟩ => ⟨(mb, zs), hk, hb⟩) fun ⟨mb, zs⟩ hts => ?_
    dsimp only at hts ⊢
    refine walk ?_
    refine ex_any 14 [row p 106 [I s.node, I s.life, I (s.count + 1), .map (some mb)]] ?_
    refine stepY 0 ?_; refine stepY 1 ?_; refine stepY 2 ?_; refine stepY 3 ?_; refine stepY 4 ?_; refine stepY 5 ?_; refine stepY 6 ?_; refine stepY 7 ?_; refine stepY 8 ?_; refine stepY 9 ?_; refine stepY 10 ?_; refine stepY 11 ?_; refine stepY 12 ?_
    refine gny_alloc 13 rfl rfl fun p12 _ => ?_
    refine any_rest rfl ?_
    refine walk ?_
    obtain ⟨hnd, hent⟩ := I0.entry hts
    have hfr : ∀ z ∈ zs, z.k ≠ (newX s).k := fun z hz hk => by
      have h2 := (hent z hz).1
      rw [hk, I0.fresh] at h2; cases h2
    refine ex_any 6 [row p 106 [I s.node, I s.life, I (s.count + 1), .map (some mb)], row p12 45 [I s.node, I s.life, I (s.count + 1)]] ?_
    refine stepY 0 ?_; refine stepY 1 ?_; refine stepY 2 ?_; refine stepY 3 ?_; refine stepY 4 ?_; refine stepY 5 ?_
    refine any_rest rfl ?_
    refine ops_update (RV := rVal) (ag := false) (cs := [ptrC ep]) (u := ptrC ep) rfl rfl (show rVal Heap.empty [ptrC ep] (ptrC ep) from ⟨rfl, rfl⟩) (by repeat (first | exact Has.here | apply Has.there)) ?_
    obtain ⟨ee, hee⟩ : ∃ ee : CE, ee = ⟨(newX s).k, ep, .slice d (ws.map (fun q : Int × CW => q.1)).length e, beganT now ws⟩ := ⟨_, rfl⟩
    rw [show mset (s.node, s.life, s.count + 1) (ptrC ep) (msC zs) = msC (zs ++ [ee]) by subst hee; exact kv_new (f := fun e => ptrC e.p) (e := ⟨(newX s).k, ep, .slice d (ws.map (fun q : Int × CW => q.1)).length e, beganT now ws⟩) hfr]
    refine ops_freeze (.slice d (ws.map (·.1)).length e) fun H2 hl2 hsp => ?_
    refine walk ?_
    have hts2 : (beginS s now ws).ts = tsC (zs ++ [ee]) := by
      unfold beginS
      rw [if_neg hne]
      show mset (newX s).k (beganT now ws) s.ts = _
      rw [hts]
      subst hee
      exact kv_new (f := CE.x) (e := ⟨(newX s).k, ep, .slice d (ws.map (fun q : Int × CW => q.1)).length e, beganT now ws⟩) hfr
    have hbn : (beginS s now ws).node = s.node ∧ (beginS s now ws).life = s.life ∧ (beginS s now ws).count = s.count + 1 := by unfold beginS; rw [if_neg hne]; exact ⟨rfl, rfl, rfl⟩
    have hTI := TInv.began (now := now) (l := l) hws (by omega) hne hnow
    refine ex_L (L' := xA H2 ee :: cRow p mb (beginS s now ws) :: cMap mb (zs ++ [ee]) :: bigL (xA H) zs :: row p12 45 [I s.node, I s.life, I (s.count + 1)] :: row p6 45 [I 0, I 0, I 0] :: R) ?_ ?_
    · refine Sub.trans (B := xRow ee (.map (some wb)) hb :: xWorks HK ee (.map (some wb)) :: xHeard HK ee hb :: cRow p mb (beginS s now ws) :: cMap mb (zs ++ [ee]) :: bigL (xA H) zs :: row p12 45 [I s.node, I s.life, I (s.count + 1)] :: row p6 45 [I 0, I 0, I 0] :: R) ?_ (xA_shut (by subst hee; exact hsp) hl2)
      subst hee
      unfold cRow
      rw [hbn.1, hbn.2.1, hbn.2.2]
      refine Sub.trans (B := xHeard H ⟨(newX s).k, ep, .slice d (ws.map (·.1)).length e, beganT now ws⟩ hb :: mapO iK rCW true HK wb ws :: xRowC ep false now (.slice d (ws.map (·.1)).length e) (.map (some wb)) hb :: row p 106 [I s.node, I s.life, I (s.count + 1), .map (some mb)] :: cMap mb (zs ++ [⟨(newX s).k, ep, .slice d (ws.map (·.1)).length e, beganT now ws⟩]) :: bigL (xA H) zs :: row p12 45 [I s.node, I s.life, I (s.count + 1)] :: row p6 45 [I 0, I 0, I 0] :: R) subA ?_
      refine Sub.trans (mapO_up hlK) ?_
      refine Sub.trans (Sub.cons (show Sub _ (xWorks HK ⟨(newX s).k, ep, .slice d (ws.map (·.1)).length e, beganT now ws⟩ (.map (some wb)) :: _) from fun h ⟨h1, h2, a, r⟩ => ⟨h1, h2, .inr ⟨rfl, wb, rfl, a⟩, r⟩)) ?_
      exact subA
    refine ex_any 5 [row p12 45 [I s.node, I s.life, I (s.count + 1)]] ?_
    refine stepY 0 ?_; refine stepY 1 ?_; refine stepY 2 ?_; refine stepY 3 ?_
    have hnk : fits (newX s).Node ∧ fits (newX s).Life ∧ fits (newX s).Count := ⟨hfn, hfl, by show fits (s.count + 1); unfold fits; omega⟩
    have hag := again_spec (W0 := W0) (H := H2) (H1 := H2) (p := p) (mb := mb) (s := beginS s now ws) (x := newX s) (e := ee) (.refl _) (by rw [hbn.1]; exact hfn) hnk (by subst hee; exact fun q hq => (hTI.hp q hq).2) (by subst hee; exact fun q hq => (hTI.nn q hq).2) (by subst hee; show (ws.map (·.1)).length ≤ 1000000; omega)
    rw [hbn.1] at hag
    have hep : ee.p = ep := by subst hee; rfl
    have hex : ee.x = beganT now ws := by subst hee; rfl
    rw [hep, hex] at hag
    refine gny_call 4 rfl rfl rfl hag fun r5 H5 B hl5 eB => ?_
    subst eB
    refine ⟨subA, ?_⟩
    refine any_rest rfl ?_
    refine walk ?_
    refine finB [ownS rMessage 19 216 81 H5 r5 (againL s.node (newX s) (beganT now ws)), coordO H5 p (beginS s now ws)] ?_ (hs := ?_)
    · exact ⟨ws, hws, .inr ⟨hne, r5, rfl, rfl⟩⟩
    · refine Sub.trans (B := xA H5 ee :: bigL (xA H) zs :: ownS rMessage 19 216 81 H5 r5 (againL s.node (newX s) (beganT now ws)) :: cRow p mb (beginS s now ws) :: cMap mb (zs ++ [ee]) :: R) subA ?_
      refine Sub.trans (Sub.cons (xL_up (hlK.trans (hl2.trans hl5)))) ?_
      refine Sub.trans (show Sub _ (xA H5 ee :: bigL (xA H5) (zs ++ []) :: _) by rw [List.append_nil]; exact Sub.refl _) ?_
      refine bigL_in.trans ?_
      refine Sub.trans ?_ (Sub.cons (coord_fold (H := H5) (mb := mb) (s := beginS s now ws) hts2))
      exact subA
end Go.Proofs.YtpphdbnifbjfmaaGreatDoor
