/- Open, its lists handed back owned. -/
import Derived.Test.YthoafjeampbkeaaCWC
set_option linter.unusedVariables false
set_option linter.unusedSimpArgs false
namespace Go.Proofs.Ythoafjeampbkeaa
open Go Go.Sx Go.Proofs
/-- a record, where its parts' list lies -/
structure PV where
  r : Rec
  a : Option Addr × Nat
abbrev PV.cv (v : PV) : List Value := v.r.cv nilS nilS (.slice v.a.1 v.r.Parts.length v.a.2)
def rPV : Rd PV := fun _ cs v => cs = v.cv
instance : RdOk rPV 9 := ⟨fun h => by subst h; rfl, fun h => by subst h; rfl, fun hl h => h⟩
instance : RdFlat rPV := ⟨fun h => h⟩
def ownP (v : PV) : HProp := ownS rInt 1 8 3 Heap.empty (.slice v.a.1 v.r.Parts.length v.a.2) v.r.Parts
set_option maxHeartbeats 8000000 in
set_option maxRecDepth 20000 in
theorem openO_spec {W0 : World} {H : Heap} {p n : Nat} {s : CS} (I0 : CInv n s) (hn : n ≤ 1000) (hpl : ∀ k t, mget k s.ts = some t → t.parts.length * 8 ≤ cap47) :
    Ct Try.prog 17 #[.pointer (some ⟨p, 0, none⟩)] W0 H [coordO H p s] (fun r H' B => ∃ ys : List PV, ys.map (·.r) = openL s ∧ B = [ownS rPV 9 120 63 H' r ys, bigL ownP ys, coordO H' p s]) := by
  refine Ct.go (vs := [.pointer (some ⟨p, 0, none⟩)]) fun R => ?_
  have hln := I0.ln
  refine ex_open (A := coordO H p s) (σ := Nat × List CE) (B := fun a => [cRow p a.1 s, cMap a.1 a.2, bigL (xA H) a.2]) (p := fun a => CS.ts s = tsC a.2) (by repeat (first | exact Has.here | apply Has.there)) (fun h ⟨mb, zs, hb, hk⟩ => ⟨(mb, zs), hk, hb⟩) fun ⟨mb, zs⟩ hts => ?_
  dsimp only at hts ⊢
  obtain ⟨hnd, hent⟩ := I0.entry hts
  refine walk ?_
  refine ops_call rfl rfl (all_spec (p := p) (mb := mb) hts I0.keyfit (by simp only [cap47]; omega)) fun r1 H1 B hl1 ⟨eB, eH⟩ => ?_
  subst eB eH
  refine ops_freeze r1 fun H2 hl2 hsl => ?_
  have hal : (allC s).length ≤ n := by rw [allC_len]; exact hln
  have hmem : ∀ k ∈ allC s, ∃ l1 e l2, zs = l1 ++ e :: l2 ∧ e.k = k := fun k hk => by
    rw [mem_allC] at hk
    rcases c_cases zs k with h | h
    · exact h
    · rw [hts, kv_out (f := CE.x) h] at hk; cases hk
  unfold openL
  generalize allC s = ks at *
  have hlx : (ks.map toTx).length = ks.length := by simp
  obtain ⟨b0, c0, rfl, hc0, hd0⟩ := hsl.1.shape
  let g : List K3 → List Rec := fun l => (l.filter fun k => ((mget k s.ts).getD zTX).op).map fun k => recC (toTx k) ((mget k s.ts).getD zTX).parts
  have hgs : ∀ (l : List K3) (k : K3), g (l ++ [k]) = if ((mget k s.ts).getD zTX).op = true then g l ++ [recC (toTx k) ((mget k s.ts).getD zTX).parts] else g l := fun l k => by
    simp only [g, List.filter_append, List.map_append]
    by_cases h : ((mget k s.ts).getD zTX).op = true
    · simp [h]
    · simp [h]
  have hgl : ∀ l : List K3, (g l).length ≤ l.length := fun l => by simp only [g, List.length_map]; exact List.length_filter_le _ _
  have hcap : (1001 : Nat) * 120 ≤ cap47 := by decide
  refine walk ?_
  refine ex_loop (σ := Nat × List PV × Option Addr × Nat) (fun u => u.1 ≤ ks.length ∧ u.2.1.map (·.r) = g (ks.take u.1)) (fun u => [(0, .pointer (some ⟨p, 0, none⟩)), (3, .slice u.2.2.1 u.2.1.length u.2.2.2), (8, .slice b0 (ks.map toTx).length c0), (9, I (ks.map toTx).length), (10, I u.1)]) (fun _ => H2)
    (fun u => ownS rPV 9 120 63 H2 (.slice u.2.2.1 u.2.1.length u.2.2.2) u.2.1 :: bigL ownP u.2.1 :: cRow p mb s :: cMap mb zs :: bigL (xA H1) zs :: R) (fun u => ks.length - u.1) (0, [], none, 0) ⟨Nat.zero_le _, rfl⟩ (hs0 := ?_) fun ⟨j, ys, d, e⟩ ⟨hj0, hys⟩ K hL => ?_
  rotate_left
  · show Sub _ (ownS rPV 9 120 63 H2 (.slice none 0 0) [] :: _)
    refine Sub.trans ?_ (ownS_nil.trans (Sub.cons bigL_nil))
    (repeat (first | exact Sub.refl _ | exact Sub.nil _ | (apply sub_pick; (repeat (first | exact Has.here | apply Has.there)); skip) | apply Sub.drop))
  simp only at hj0 hys
  dsimp only
  refine walk ?_
  refine ex_if rfl (fun hj => ?_) (fun hj => ?_)
  · have hj1 : j < ks.length := by omega
    have htk := List.take_succ_eq_append_getElem hj1
    obtain ⟨l1, e1, l2, hz, hek⟩ := hmem _ (List.getElem_mem hj1)
    have he1 : e1 ∈ zs := by rw [hz]; simp
    obtain ⟨hg1, ti⟩ := hent e1 he1
    have hmp : mget ks[j] (msC zs) = some (ptrC e1.p) := by rw [← hek]; exact kv_in (f := fun e => ptrC e.p) hnd he1
    have hgt : (mget ks[j] s.ts).getD zTX = e1.x := by rw [← hek, hg1]; rfl
    have hpl1 := hpl _ _ hg1
    have hkf := (I0.keyfit (e1.k, e1.x) (mget_mem hg1))
    have hstep := hgs (ks.take j) ks[j]
    rw [← htk, hgt] at hstep
    refine walk ?_
    refine ops_ixp rfl rfl hsl.1 (show j < (ks.map toTx).length by simpa using hj1) fun b o c hr hc => ?_
    have hx : (ks.map toTx)[j]'(by simpa using hj1) = toTx ks[j] := by simp
    rw [hx] at hc
    obtain ⟨rfl, _⟩ := hc
    generalize ks[j] = kk at *
    subst hek
    obtain ⟨⟨ka, kb, kc⟩, ep, ev, ⟨op, began, parts, works, heard⟩⟩ := e1
    dsimp only at hkf hg1 hmp hgt hstep ti hpl1
    change HRow H2 b o [I ka, I kb, I kc] at hr
    refine walk ?_
    refine ops_ldNH rfl rfl hr rfl ?_
    refine ops_alloc rfl fun p5 _ => ?_
    refine walk ?_
    refine ops_lkO (RV := rVal) (val := fun x : Value => x) (z := .pointer none) rfl rfl ((by repeat (first | exact Has.here | apply Has.there))) ?_
    rw [hmp, Option.getD_some]
    refine walk ?_
    subst hz
    refine ops_L (L' := xA H1 ⟨(ka, kb, kc), ep, ev, ⟨op, began, parts, works, heard⟩⟩ :: bigL (xA H1) (l1 ++ l2) :: row p5 28 [I ka, I kb, I kc] :: ownS rPV 9 120 63 H2 (.slice d ys.length e) ys :: bigL ownP ys :: cRow p mb s :: cMap mb (l1 ++ ⟨(ka, kb, kc), ep, ev, ⟨op, began, parts, works, heard⟩⟩ :: l2) :: R) (Sub.trans (by (repeat (first | exact Sub.refl _ | exact Sub.nil _ | (apply sub_pick; (repeat (first | exact Has.here | apply Has.there)); skip) | apply Sub.drop))) bigL_out) ?_
    refine ops_open (A := xA H1 ⟨(ka, kb, kc), ep, ev, ⟨op, began, parts, works, heard⟩⟩) (σ := Value × Nat) (B := fun a => [xRow ⟨(ka, kb, kc), ep, ev, ⟨op, began, parts, works, heard⟩⟩ a.1 a.2, xWorks H1 ⟨(ka, kb, kc), ep, ev, ⟨op, began, parts, works, heard⟩⟩ a.1, xHeard H1 ⟨(ka, kb, kc), ep, ev, ⟨op, began, parts, works, heard⟩⟩ a.2]) (p := fun a => SlB rInt 1 8 H1 (CE.v ⟨(ka, kb, kc), ep, ev, ⟨op, began, parts, works, heard⟩⟩) (CE.x ⟨(ka, kb, kc), ep, ev, ⟨op, began, parts, works, heard⟩⟩).parts) (by repeat (first | exact Has.here | apply Has.there)) (fun h ⟨hs, wv, hb, hbig⟩ => ⟨(wv, hb), hs, hbig⟩) fun ⟨wv, hb⟩ hsl2 => ?_
    dsimp only at hsl2 ⊢
    obtain ⟨bs, cs, rfl, hcs, hds⟩ := hsl2.1.shape
    refine walk ?_
    refine ex_ifb rfl Iff.rfl (fun ho => ?_) (fun ho => ?_)
    · refine walk ?_
      refine ex_any 10 [row p5 28 [I ka, I kb, I kc], xRowC ep op began (.slice bs parts.length cs) wv hb] ?_
      refine stepY 0 ?_; refine stepY 1 ?_; refine stepY 2 ?_; refine stepY 3 ?_; refine stepY 4 ?_; refine stepY 5 ?_
      have hcl := cloneI_spec (W0 := W0) (H := H2) (xs := parts) (v := .slice bs parts.length cs) (hsl2.mono hl2)
      refine gny_call 6 rfl rfl rfl hcl fun r6 H6 B hl6 ⟨eB, eH⟩ => ?_
      subst eB eH
      refine ⟨(by (repeat (first | exact Sub.refl _ | exact Sub.nil _ | (apply sub_pick; (repeat (first | exact Has.here | apply Has.there)); skip) | apply Sub.drop))), ?_⟩
      refine any_shape r6 fun bc cc ec _ _ _ => ?_
      subst ec
      refine stepY 7 ?_
      rw [if_pos ho] at hstep
      have hgl2 := hgl (ks.take j)
      have hyl : ys.length ≤ j := by have h1 := congrArg List.length hys; rw [List.length_map] at h1; rw [h1]; rw [List.length_take] at hgl2; omega
      refine any_app1 (y := (⟨recC ⟨ka, kb, kc⟩ parts, (bc, cc)⟩ : PV)) 8 9 rfl rfl rfl rfl (by simp only [cap47] at hcap ⊢; omega) fun d3 e3 => ⟨(by (repeat (first | exact Sub.refl _ | exact Sub.nil _ | (apply sub_pick; (repeat (first | exact Has.here | apply Has.there)); skip) | apply Sub.drop))), ?_⟩
      rw [show ys.length + 1 = (ys ++ [(⟨recC ⟨ka, kb, kc⟩ parts, (bc, cc)⟩ : PV)]).length by rw [List.length_append]; rfl]
      refine any_rest rfl ?_
      refine walk ?_
      refine out_next hL (j + 1, ys ++ [⟨recC ⟨ka, kb, kc⟩ parts, (bc, cc)⟩], d3, e3) ⟨by simp only; omega, ?_⟩ (hs := ?_)
      · simp only
        rw [List.map_append, hys, hstep]; rfl
      dsimp only
      refine Sub.trans ?_ (Sub.cons (bigL_snoc (x := (⟨recC ⟨ka, kb, kc⟩ parts, (bc, cc)⟩ : PV))))
      refine Sub.trans ?_ (Sub.cons (sub_flat (R := rInt) H6 Heap.empty))
      refine Sub.trans (B := xRow ⟨(ka, kb, kc), ep, .slice bs parts.length cs, ⟨op, began, parts, works, heard⟩⟩ wv hb :: xWorks H1 ⟨(ka, kb, kc), ep, .slice bs parts.length cs, ⟨op, began, parts, works, heard⟩⟩ wv :: xHeard H1 ⟨(ka, kb, kc), ep, .slice bs parts.length cs, ⟨op, began, parts, works, heard⟩⟩ hb :: _) (by (repeat (first | exact Sub.refl _ | exact Sub.nil _ | (apply sub_pick; (repeat (first | exact Has.here | apply Has.there)); skip) | apply Sub.drop))) ?_
      refine (xA_shut hsl2 (.refl _)).trans ?_
      refine Sub.trans (show Sub _ (xA H1 ⟨(ka, kb, kc), ep, .slice bs parts.length cs, ⟨op, began, parts, works, heard⟩⟩ :: bigL (xA H1) (l1 ++ l2) :: _) from (by (repeat (first | exact Sub.refl _ | exact Sub.nil _ | (apply sub_pick; (repeat (first | exact Has.here | apply Has.there)); skip) | apply Sub.drop)))) ?_
      refine bigL_in.trans ?_
      (repeat (first | exact Sub.refl _ | exact Sub.nil _ | (apply sub_pick; (repeat (first | exact Has.here | apply Has.there)); skip) | apply Sub.drop))
    · rw [if_neg (by simpa using ho)] at hstep
      refine walk ?_
      refine out_next hL (j + 1, ys, d, e) ⟨by simp only; omega, by simp only; rw [hstep]; exact hys⟩ (hs := ?_)
      refine Sub.trans (B := xRow ⟨(ka, kb, kc), ep, .slice bs parts.length cs, ⟨op, began, parts, works, heard⟩⟩ wv hb :: xWorks H1 ⟨(ka, kb, kc), ep, .slice bs parts.length cs, ⟨op, began, parts, works, heard⟩⟩ wv :: xHeard H1 ⟨(ka, kb, kc), ep, .slice bs parts.length cs, ⟨op, began, parts, works, heard⟩⟩ hb :: _) (by (repeat (first | exact Sub.refl _ | exact Sub.nil _ | (apply sub_pick; (repeat (first | exact Has.here | apply Has.there)); skip) | apply Sub.drop))) ?_
      refine (xA_shut hsl2 (.refl _)).trans ?_
      refine Sub.trans (show Sub _ (xA H1 ⟨(ka, kb, kc), ep, .slice bs parts.length cs, ⟨op, began, parts, works, heard⟩⟩ :: bigL (xA H1) (l1 ++ l2) :: _) from (by (repeat (first | exact Sub.refl _ | exact Sub.nil _ | (apply sub_pick; (repeat (first | exact Has.here | apply Has.there)); skip) | apply Sub.drop)))) ?_
      refine bigL_in.trans ?_
      (repeat (first | exact Sub.refl _ | exact Sub.nil _ | (apply sub_pick; (repeat (first | exact Has.here | apply Has.there)); skip) | apply Sub.drop))
  · clear hL
    obtain rfl : j = ks.length := by omega
    rw [List.take_length] at hys
    refine walk ?_
    refine finB [ownS rPV 9 120 63 H2 (.slice d ys.length e) ys, bigL ownP ys, coordO H2 p s] ?_ (hs := ?_)
    · exact ⟨ys, hys, rfl⟩
    · refine Sub.trans ?_ (Sub.cons (Sub.cons (coord_shut (H := H1) (mb := mb) hts hl2)))
      (repeat (first | exact Sub.refl _ | exact Sub.nil _ | (apply sub_pick; (repeat (first | exact Has.here | apply Has.there)); skip) | apply Sub.drop))
end Go.Proofs.Ythoafjeampbkeaa
