/- A coordinator: which are voting. -/
import Derived.Test.YtpphdbnifbjfmaaGreatDoorJTR
set_option linter.unusedVariables false
set_option linter.unusedSimpArgs false
namespace Go.Proofs.YtpphdbnifbjfmaaGreatDoor
open Go Go.Sx Go.Proofs
theorem again_spec {W0 : World} {H H1 : Heap} {p mb : Nat} {s : CS} {x : Txn} {e : CE} (hl1 : H1.le H) (hn : fits s.node) (hx : fits x.Node ∧ fits x.Life ∧ fits x.Count) (hv : ∀ q ∈ e.x.heard, q.2 = 1) (hp : ∀ q ∈ e.x.parts, fits q) (hpl : e.x.parts.length ≤ 1000000) :
    Ct Tryz.prog 32 #[.pointer (some ⟨p, 0, none⟩), .agg x.cv.toArray, .pointer (some ⟨e.p, 0, none⟩)] W0 H [cRow p mb s, xA H1 e] (fun r H' B => B = [ownS rMessage 19 216 81 H' r (againL s.node x e.x), cRow p mb s, xA H' e]) := by
  cases h : e.x.op with
  | true => exact againO_spec h hl1 hn hx hv hp hpl
  | false => exact againV_spec h hl1 hn hx hv hp hpl
set_option maxHeartbeats 4000000 in
set_option maxRecDepth 20000 in
theorem against_spec {W0 : World} {H H1 : Heap} {p mb : Nat} {s : CS} {x : Txn} {e : CE} {ms : List (K3 × Value)} (hl1 : H1.le H) (hn : fits s.node) (hx : fits x.Node ∧ fits x.Life ∧ fits x.Count) (hp : ∀ q ∈ e.x.parts, fits q) (hpl : e.x.parts.length ≤ 1000000) :
    Ct Tryz.prog 46 #[.pointer (some ⟨p, 0, none⟩), .agg x.cv.toArray, .pointer (some ⟨e.p, 0, none⟩)] W0 H [cRow p mb s, mapO ek3 rVal false Heap.empty mb ms, xA H1 e]
      (fun r H' B => ∃ v, r = .tuple #[v, .agg (outcM x false false).cv.toArray] ∧ B = [ownS rMessage 19 216 81 H' v (noL s.node x e.x), cRow p mb s, mapO ek3 rVal false Heap.empty mb (mdel x.k ms), xA H1 e] ∧ H' = H) := by
  refine Ct.go (vs := [.pointer (some ⟨p, 0, none⟩), .agg x.cv.toArray, .pointer (some ⟨e.p, 0, none⟩)]) fun R => ?_
  obtain ⟨x1, x2, x3⟩ := x
  have hcap : (1000001 : Nat) * 216 ≤ cap47 := by decide
  refine walk ?_
  refine ops_box rfl rfl fun p4 _ => ?_
  refine walk ?_
  refine ops_alloc rfl fun p7 _ => ?_
  refine walk ?_
  refine ex_any 5 [row p4 45 [I x1, I x2, I x3], cRow p mb s] ?_
  refine stepY 0 ?_; refine stepY 1 ?_; refine stepY 2 ?_; refine stepY 3 ?_; refine stepY 4 ?_
  refine any_rest rfl ?_
  refine ops_delete (RV := rVal) rfl ((by repeat (first | exact Has.here | apply Has.there))) ?_
  refine walk ?_
  refine ops_open (A := xA H1 e) (σ := Value × Nat) (B := fun a => [xRow e a.1 a.2, xWorks H1 e a.1, xHeard H1 e a.2]) (p := fun a => SlB rInt 1 8 H1 (CE.v e) (CE.x e).parts) (by repeat (first | exact Has.here | apply Has.there)) (fun h ⟨hs, wv, hb, hbig⟩ => ⟨(wv, hb), hs, hbig⟩) fun ⟨wv, hb⟩ hsl2 => ?_
  dsimp only at hsl2 ⊢
  obtain ⟨k, ep, v, ⟨op, began, parts, works, heard⟩⟩ := e
  dsimp only at hp hpl hsl2
  obtain ⟨b0, c0, rfl, hc0, hd0⟩ := hsl2.1.shape
  dsimp only
  have hnl : ∀ {j : Nat} (hj : j < parts.length), (parts.take (j + 1)).map (fun q => decM s.node ⟨x1, x2, x3⟩ q false) = (parts.take j).map (fun q => decM s.node ⟨x1, x2, x3⟩ q false) ++ [decM s.node ⟨x1, x2, x3⟩ parts[j] false] := fun {j} hj => by rw [List.take_succ_eq_append_getElem hj, List.map_append]; rfl
  refine walk ?_
  refine ex_L (L' := xA H1 ⟨k, ep, .slice b0 parts.length c0, ⟨op, began, parts, works, heard⟩⟩ :: mapO ek3 rVal false Heap.empty mb (mdel (x1, x2, x3) ms) :: row p7 136 [I 0, I 0, I 0, .bool false, .bool false] :: row p4 45 [I x1, I x2, I x3] :: cRow p mb s :: R) ?_ ?_
  · refine Sub.trans ?_ (xA_shut (H := H1) (wv := wv) (hb := hb) (e := ⟨k, ep, .slice b0 parts.length c0, ⟨op, began, parts, works, heard⟩⟩) hsl2 (.refl _))
    exact subA
  refine ex_loop (σ := Nat × Option Addr × Nat) (fun u => u.1 ≤ parts.length) (fun u => [(0, .pointer (some ⟨p, 0, none⟩)), (4, .pointer (some ⟨p4, 0, none⟩)), (7, .pointer (some ⟨p7, 0, none⟩)), (8, .slice u.2.1 ((parts.take u.1).map (fun q => decM s.node ⟨x1, x2, x3⟩ q false)).length u.2.2), (19, .slice b0 parts.length c0), (20, I parts.length), (21, I u.1)]) (fun _ => H)
    (fun u => ownS rMessage 19 216 81 H (.slice u.2.1 ((parts.take u.1).map (fun q => decM s.node ⟨x1, x2, x3⟩ q false)).length u.2.2) ((parts.take u.1).map (fun q => decM s.node ⟨x1, x2, x3⟩ q false)) :: xA H1 ⟨k, ep, .slice b0 parts.length c0, ⟨op, began, parts, works, heard⟩⟩ :: mapO ek3 rVal false Heap.empty mb (mdel (x1, x2, x3) ms) :: row p7 136 [I 0, I 0, I 0, .bool false, .bool false] :: row p4 45 [I x1, I x2, I x3] :: cRow p mb s :: R) (fun u => parts.length - u.1) (0, none, 0) (Nat.zero_le _) (hs0 := ?_) fun ⟨j, d, e⟩ hj0 K hL => ?_
  rotate_left
  · show Sub _ (ownS rMessage 19 216 81 H (.slice none 0 0) [] :: _)
    refine Sub.trans ?_ ownS_nil
    exact subA
  simp only at hj0
  dsimp only
  refine walk ?_
  refine ex_if rfl (fun hj => ?_) (fun hj => ?_)
  · have hj1 : j < parts.length := by omega
    have hfp := hp _ (List.getElem_mem hj1)
    have hslK : SlR rInt 1 H (.slice b0 parts.length c0) parts := (hsl2.mono hl1).1
    have hll : ((parts.take j).map (fun q => decM s.node ⟨x1, x2, x3⟩ q false)).length = j := by simp; omega
    refine walk ?_
    refine ex_any 10 [row p4 45 [I x1, I x2, I x3], cRow p mb s] ?_
    refine stepY 0 ?_; refine stepY 1 ?_; refine stepY 2 ?_; refine stepY 3 ?_; refine stepY 4 ?_; refine stepY 5 ?_; refine stepY 6 ?_; refine stepY 7 ?_
    refine any_app1 (y := decM s.node ⟨x1, x2, x3⟩ parts[j] false) 8 9 rfl rfl rfl (decM_reads hn hfp hx) (by rw [hll]; simp only [cap47] at hcap ⊢; omega) fun d3 e3 => ⟨subA, ?_⟩
    rw [show ((parts.take j).map (fun q => decM s.node ⟨x1, x2, x3⟩ q false)).length + 1 = ((parts.take (j + 1)).map (fun q => decM s.node ⟨x1, x2, x3⟩ q false)).length by rw [hnl hj1, List.length_append]; rfl, ← hnl hj1]
    refine any_rest rfl ?_
    refine walk ?_
    exact out_next hL (j + 1, d3, e3) (by simp only; omega)
  · clear hL
    obtain rfl : j = parts.length := by omega
    rw [List.take_length]
    refine walk ?_
    refine ex_any 4 [row p4 45 [I x1, I x2, I x3]] ?_
    refine stepY 0 ?_; refine stepY 1 ?_; refine stepY 2 ?_; refine stepY 3 ?_
    refine any_rest rfl ?_
    refine walk ?_
    refine finB [ownS rMessage 19 216 81 H (.slice d (parts.map (fun q => decM s.node ⟨x1, x2, x3⟩ q false)).length e) (parts.map (fun q => decM s.node ⟨x1, x2, x3⟩ q false)), cRow p mb s, mapO ek3 rVal false Heap.empty mb (mdel (x1, x2, x3) ms), xA H1 ⟨k, ep, .slice b0 parts.length c0, ⟨op, began, parts, works, heard⟩⟩] ?_
    exact ⟨_, rfl, rfl, rfl⟩
theorem all_spec {W0 : World} {H : Heap} {p mb : Nat} {s : CS} {zs : List CE} (hts : s.ts = tsC zs) (hk : ∀ q ∈ s.ts, fits q.1.1 ∧ fits q.1.2.1 ∧ fits q.1.2.2) (hl : s.ts.length * 24 ≤ cap47) :
    Ct Tryz.prog 44 #[.pointer (some ⟨p, 0, none⟩)] W0 H [cRow p mb s, cMap mb zs] (fun r H' B => B = [ownS rTxn 3 24 45 H' r ((allC s).map toTx), cRow p mb s, cMap mb zs] ∧ H' = H) := by
  refine Ct.go (vs := [.pointer (some ⟨p, 0, none⟩)]) fun R => ?_
  have hkeys : (msC zs).map (·.1) = s.ts.map (·.1) := by rw [hts, kv_keys, kv_keys]
  have hk' : ∀ q ∈ msC zs, fits q.1.1 ∧ fits q.1.2.1 ∧ fits q.1.2.2 := fun q hq => by
    have : q.1 ∈ s.ts.map (·.1) := by rw [← hkeys]; exact List.mem_map.2 ⟨q, hq, rfl⟩
    obtain ⟨q', hq', e⟩ := List.mem_map.1 this
    rw [← e]; exact hk q' hq'
  have hlen : (msC zs).length = s.ts.length := by have := congrArg List.length hkeys; simpa using this
  refine walk ?_
  refine ops_call rfl rfl ct_keys3C fun r1 H1 B hl1 ⟨pk, er, eB, eH⟩ => ?_
  subst er eB eH
  have hc := ct_sorted3C (W0 := W0) (H := H1) (H0 := Heap.empty) (RV := rVal) (ag := false) (p := pk) (b := mb) (ms := msC zs) hk' (by rw [hlen]; exact hl)
  rw [hkeys] at hc
  refine ops_call rfl rfl hc fun r2 H2 B hl2 ⟨eB, eH⟩ => ?_
  subst eB eH
  refine walk ?_
  refine finB [ownS rTxn 3 24 45 H2 r2 ((allC s).map toTx), cRow p mb s, cMap mb zs] ?_
  exact ⟨rfl, rfl⟩
theorem CInv.keyfit {n : Nat} {s : CS} (I : CInv n s) : ∀ q ∈ s.ts, fits q.1.1 ∧ fits q.1.2.1 ∧ fits q.1.2.2 := fun q hq => by
  obtain ⟨h1, h2, h3, _⟩ := I.kn q.1 q.2 (mget_of_mem I.nd hq)
  exact ⟨by rw [h1]; exact I.fn, h2, h3⟩
theorem CInv.entry {n : Nat} {s : CS} (I : CInv n s) {zs : List CE} (hts : s.ts = tsC zs) : (zs.map CE.k).Nodup ∧ ∀ e ∈ zs, mget e.k s.ts = some e.x ∧ TInv e.x := by
  have hn : (zs.map CE.k).Nodup := by have := I.nd; rw [hts, kv_keys] at this; exact this
  refine ⟨hn, fun e he => ?_⟩
  have hg : mget e.k s.ts = some e.x := by rw [hts]; exact kv_in (f := CE.x) hn he
  exact ⟨hg, I.ti _ _ hg⟩
theorem recC_reads {H : Heap} {x : Txn} {ps : List Int} {v : Value} (hx : fits x.Node ∧ fits x.Life ∧ fits x.Count) (h : SlB rInt 1 8 H v ps) : rRec H [I 4, I x.Node, I x.Life, I x.Count, I 0, nilS, nilS, .bool false, v] (recC x ps) :=
  ⟨nilS, nilS, v, rfl, by unfold fits; simp [recC], hx.1, hx.2.1, hx.2.2, fits0, SlB.nil, SlB.nil, h⟩
set_option maxHeartbeats 8000000 in
set_option maxRecDepth 20000 in
theorem open_spec {W0 : World} {H : Heap} {p n : Nat} {s : CS} (I0 : CInv n s) (hn : n ≤ 1000) (hpl : ∀ k t, mget k s.ts = some t → t.parts.length * 8 ≤ cap47) :
    Ct Tryz.prog 42 #[.pointer (some ⟨p, 0, none⟩)] W0 H [coordO H p s] (fun r H' B => B = [ownS rRec 9 120 48 H' r (openL s), coordO H' p s]) := by
  refine Ct.go (vs := [.pointer (some ⟨p, 0, none⟩)]) fun R => ?_
  have hln := I0.ln
  refine ex_open (A := coordO H p s) (σ := Nat × List CE) (B := fun a => [cRow p a.1 s, cMap a.1 a.2, bigL (xA H) a.2]) (p := fun a => CS.ts s = tsC a.2) (by repeat (first | exact Has.here | apply Has.there)) (fun h ⟨mb, zs, hb, hk⟩ => ⟨(mb, zs), hk, hb⟩) fun ⟨mb, zs⟩ hts => ?_
  dsimp only at hts ⊢
  obtain ⟨hnd, hent⟩ := I0.entry hts
  refine walk ?_
  refine ops_call rfl rfl (all_spec (p := p) (mb := mb) hts I0.keyfit (by simp only [cap47]; omega)) fun r1 H1 B hl1 ⟨eB, eH⟩ => ?_
  subst eB eH
  refine ops_freeze r1 fun H2 hl2 hsl => ?_
  have hal : (allC s).length ≤ n := by rw [allC_len]; exact hln
  have hmem : ∀ k ∈ allC s, ∃ l1 e l2, zs = l1 ++ e :: l2 ∧ e.k = k := fun k hk => by
    rw [mem_allC] at hk
    rcases c_cases zs k with h | h
    · exact h
    · rw [hts, kv_out (f := CE.x) h] at hk; cases hk
  unfold openL
  generalize allC s = ks at *
  have hlx : (ks.map toTx).length = ks.length := by simp
  obtain ⟨b0, c0, rfl, hc0, hd0⟩ := hsl.1.shape
  let g : List K3 → List Rec := fun l => (l.filter fun k => ((mget k s.ts).getD zTX).op).map fun k => recC (toTx k) ((mget k s.ts).getD zTX).parts
  have hgs : ∀ (l : List K3) (k : K3), g (l ++ [k]) = if ((mget k s.ts).getD zTX).op = true then g l ++ [recC (toTx k) ((mget k s.ts).getD zTX).parts] else g l := fun l k => by
    simp only [g, List.filter_append, List.map_append]
    by_cases h : ((mget k s.ts).getD zTX).op = true
    · simp [h]
    · simp [h]
  have hgl : ∀ l : List K3, (g l).length ≤ l.length := fun l => by simp only [g, List.length_map]; exact List.length_filter_le _ _
  have hcap : (1001 : Nat) * 120 ≤ cap47 := by decide
  refine walk ?_
  refine ex_loop (σ := Nat × Option Addr × Nat × Heap) (fun u => u.1 ≤ ks.length ∧ H2.le u.2.2.2) (fun u => [(0, .pointer (some ⟨p, 0, none⟩)), (3, .slice u.2.1 (g (ks.take u.1)).length u.2.2.1), (8, .slice b0 (ks.map toTx).length c0), (9, I (ks.map toTx).length), (10, I u.1)]) (fun u => u.2.2.2)
    (fun u => ownS rRec 9 120 48 u.2.2.2 (.slice u.2.1 (g (ks.take u.1)).length u.2.2.1) (g (ks.take u.1)) :: cRow p mb s :: cMap mb zs :: bigL (xA H1) zs :: R) (fun u => ks.length - u.1) (0, none, 0, H2) ⟨Nat.zero_le _, .refl _⟩ (hs0 := ?_) fun ⟨j, d, e, HK⟩ ⟨hj0, hlK⟩ K hL => ?_
  rotate_left
  · show Sub _ (ownS rRec 9 120 48 H2 (.slice none 0 0) [] :: _)
    refine Sub.trans ?_ ownS_nil
    exact subA
  simp only at hj0 hlK
  dsimp only
  refine walk ?_
  refine ex_if rfl (fun hj => ?_) (fun hj => ?_)
  · have hj1 : j < ks.length := by omega
    have htk := List.take_succ_eq_append_getElem hj1
    obtain ⟨l1, e1, l2, hz, hek⟩ := hmem _ (List.getElem_mem hj1)
    have he1 : e1 ∈ zs := by rw [hz]; simp
    obtain ⟨hg1, ti⟩ := hent e1 he1
    have hmp : mget ks[j] (msC zs) = some (ptrC e1.p) := by rw [← hek]; exact kv_in (f := fun e => ptrC e.p) hnd he1
    have hgt : (mget ks[j] s.ts).getD zTX = e1.x := by rw [← hek, hg1]; rfl
    have hpl1 := hpl _ _ hg1
    have hkf := (I0.keyfit (e1.k, e1.x) (mget_mem hg1))
    have hstep := hgs (ks.take j) ks[j]
    rw [← htk, hgt] at hstep
    refine walk ?_
    refine ops_ixp rfl rfl (hsl.mono hlK).1 (show j < (ks.map toTx).length by simpa using hj1) fun b o c hr hc => ?_
    have hx : (ks.map toTx)[j]'(by simpa using hj1) = toTx ks[j] := by simp
    rw [hx] at hc
    obtain ⟨rfl, _⟩ := hc
    generalize ks[j] = kk at *
    subst hek
    obtain ⟨⟨ka, kb, kc⟩, ep, ev, ⟨op, began, parts, works, heard⟩⟩ := e1
    dsimp only at hkf hg1 hmp hgt hstep ti hpl1
    change HRow HK b o [I ka, I kb, I kc] at hr
    refine walk ?_
    refine ops_ldNH rfl rfl hr rfl ?_
    refine ops_alloc rfl fun p5 _ => ?_
    refine walk ?_
    refine ops_lkO (RV := rVal) (val := fun x : Value => x) (z := .pointer none) rfl rfl ((by repeat (first | exact Has.here | apply Has.there))) ?_
    rw [hmp, Option.getD_some]
    refine walk ?_
    subst hz
    refine ops_L (L' := xA H1 ⟨(ka, kb, kc), ep, ev, ⟨op, began, parts, works, heard⟩⟩ :: bigL (xA H1) (l1 ++ l2) :: row p5 45 [I ka, I kb, I kc] :: ownS rRec 9 120 48 HK (.slice d (g (ks.take j)).length e) (g (ks.take j)) :: cRow p mb s :: cMap mb (l1 ++ ⟨(ka, kb, kc), ep, ev, ⟨op, began, parts, works, heard⟩⟩ :: l2) :: R) (Sub.trans subA bigL_out) ?_
    refine ops_open (A := xA H1 ⟨(ka, kb, kc), ep, ev, ⟨op, began, parts, works, heard⟩⟩) (σ := Value × Nat) (B := fun a => [xRow ⟨(ka, kb, kc), ep, ev, ⟨op, began, parts, works, heard⟩⟩ a.1 a.2, xWorks H1 ⟨(ka, kb, kc), ep, ev, ⟨op, began, parts, works, heard⟩⟩ a.1, xHeard H1 ⟨(ka, kb, kc), ep, ev, ⟨op, began, parts, works, heard⟩⟩ a.2]) (p := fun a => SlB rInt 1 8 H1 (CE.v ⟨(ka, kb, kc), ep, ev, ⟨op, began, parts, works, heard⟩⟩) (CE.x ⟨(ka, kb, kc), ep, ev, ⟨op, began, parts, works, heard⟩⟩).parts) (by repeat (first | exact Has.here | apply Has.there)) (fun h ⟨hs, wv, hb, hbig⟩ => ⟨(wv, hb), hs, hbig⟩) fun ⟨wv, hb⟩ hsl2 => ?_
    dsimp only at hsl2 ⊢
    obtain ⟨bs, cs, rfl, hcs, hds⟩ := hsl2.1.shape
    refine walk ?_
    refine ex_ifb rfl Iff.rfl (fun ho => ?_) (fun ho => ?_)
    · refine walk ?_
      refine ex_any 10 [row p5 45 [I ka, I kb, I kc], xRowC ep op began (.slice bs parts.length cs) wv hb] ?_
      refine stepY 0 ?_; refine stepY 1 ?_; refine stepY 2 ?_; refine stepY 3 ?_; refine stepY 4 ?_; refine stepY 5 ?_
      have hcl := cloneI_spec (W0 := W0) (H := HK) (xs := parts) (v := .slice bs parts.length cs) (hsl2.mono (hl2.trans hlK))
      refine gny_call 6 rfl rfl rfl hcl fun r6 H6 B hl6 ⟨eB, eH⟩ => ?_
      subst eB eH
      refine ⟨subA, ?_⟩
      refine any_freeze r6 fun H7 hl7 hsc => ?_
      obtain ⟨bc, cc, rfl, _, _⟩ := hsc.1.shape
      refine stepY 7 ?_
      rw [if_pos ho] at hstep
      have hgl2 := hgl (ks.take j)
      refine any_app1 (y := recC ⟨ka, kb, kc⟩ parts) 8 9 rfl rfl rfl (recC_reads hkf hsc) (by rw [List.length_take] at hgl2; simp only [cap47] at hcap ⊢; omega) fun d3 e3 => ⟨subA, ?_⟩
      rw [show (g (ks.take j)).length + 1 = (g (ks.take (j + 1))).length by rw [hstep, List.length_append]; rfl, show g (ks.take j) ++ [recC ⟨ka, kb, kc⟩ parts] = g (ks.take (j + 1)) from hstep.symm]
      refine any_rest rfl ?_
      refine walk ?_
      refine out_next hL (j + 1, d3, e3, H7) ⟨by simp only; omega, hlK.trans hl7⟩ (hs := ?_)
      refine Sub.trans (B := xRow ⟨(ka, kb, kc), ep, .slice bs parts.length cs, ⟨op, began, parts, works, heard⟩⟩ wv hb :: xWorks H1 ⟨(ka, kb, kc), ep, .slice bs parts.length cs, ⟨op, began, parts, works, heard⟩⟩ wv :: xHeard H1 ⟨(ka, kb, kc), ep, .slice bs parts.length cs, ⟨op, began, parts, works, heard⟩⟩ hb :: _) subA ?_
      refine (xA_shut hsl2 (.refl _)).trans ?_
      refine Sub.trans (show Sub _ (xA H1 ⟨(ka, kb, kc), ep, .slice bs parts.length cs, ⟨op, began, parts, works, heard⟩⟩ :: bigL (xA H1) (l1 ++ l2) :: _) from subA) ?_
      refine bigL_in.trans ?_
      exact subA
    · rw [if_neg (by simpa using ho)] at hstep
      rw [← hstep]
      refine walk ?_
      refine out_next hL (j + 1, d, e, HK) ⟨by simp only; omega, hlK⟩ (hs := ?_)
      refine Sub.trans (B := xRow ⟨(ka, kb, kc), ep, .slice bs parts.length cs, ⟨op, began, parts, works, heard⟩⟩ wv hb :: xWorks H1 ⟨(ka, kb, kc), ep, .slice bs parts.length cs, ⟨op, began, parts, works, heard⟩⟩ wv :: xHeard H1 ⟨(ka, kb, kc), ep, .slice bs parts.length cs, ⟨op, began, parts, works, heard⟩⟩ hb :: _) subA ?_
      refine (xA_shut hsl2 (.refl _)).trans ?_
      refine Sub.trans (show Sub _ (xA H1 ⟨(ka, kb, kc), ep, .slice bs parts.length cs, ⟨op, began, parts, works, heard⟩⟩ :: bigL (xA H1) (l1 ++ l2) :: _) from subA) ?_
      refine bigL_in.trans ?_
      exact subA
  · clear hL
    obtain rfl : j = ks.length := by omega
    rw [List.take_length]
    refine walk ?_
    refine finB [ownS rRec 9 120 48 HK (.slice d (g ks).length e) (g ks), coordO HK p s] ?_ (hs := ?_)
    · exact rfl
    · refine Sub.trans ?_ (Sub.cons (coord_shut (H := H1) (mb := mb) hts (hl2.trans hlK)))
      exact subA
section
variable {C : Txn → Prop}
end
end Go.Proofs.YtpphdbnifbjfmaaGreatDoor
