/- A coordinator: what is said again by an open one, its parts kept apart. -/
import Derived.Test.YtpphdbnifbjfmaaGreatDoorJE48
import Derived.Test.YtpphdbnifbjfmaaGreatDoorJTH
set_option linter.unusedVariables false
set_option linter.unusedSimpArgs false
namespace Go.Proofs.YtpphdbnifbjfmaaGreatDoor
open Go Go.Sx Go.Proofs
theorem cnew_spec {W0 : World} {H : Heap} {node life : Int} :
    Ct Tryz.prog 13 #[I node, I life] W0 H [] (fun r H' B => ∃ p, r = .pointer (some ⟨p, 0, none⟩) ∧ B = [coordO H p ⟨node, life, 0, []⟩] ∧ H' = H) := by
  refine Ct.go (vs := [I node, I life]) fun R => ?_
  refine walk ?_
  refine ops_makeMap ek3 rVal false rfl fun mb _ => ?_
  refine walk ?_
  refine ops_box rfl rfl fun p _ => ?_
  refine walk ?_
  refine finB [coordO H p ⟨node, life, 0, []⟩] ?_ (hs := ?_)
  · exact ⟨p, rfl, rfl, rfl⟩
  · refine Sub.trans (B := mapO ek3 rVal false H mb [] :: row p 106 [I node, I life, I 0, .map (some mb)] :: R) subA ?_
    refine Sub.trans (show Sub _ (cMap mb [] :: row p 106 [I node, I life, I 0, .map (some mb)] :: R) from fun h ⟨h1, h2, a, r⟩ => ⟨h1, h2, mapO_flat a, r⟩) ?_
    refine Sub.trans (bigL_nil (A := xA H)) ?_
    refine Sub.trans ?_ (coord_fold (mb := mb) (zs := []) (s := ⟨node, life, 0, []⟩) rfl)
    exact subA
theorem TX.hd0 {t : TX} (hv : ∀ q ∈ t.heard, q.2 = 1) (p : Int) : ((mget p t.heard).getD 0 = 0) ↔ t.hd p = false := by
  unfold TX.hd
  cases hg : mget p t.heard with
  | none => simp
  | some v =>
    have := hv _ (mget_mem hg)
    simp at this
    simp [this]
theorem zWork_rd {H : Heap} : rWork H [I 0, nilS, nilS] zWork := zWork_reads
abbrev xRowC (ep : Nat) (op : Bool) (began : Int) (v wv : Value) (hb : Nat) : HProp := row ep 111 [.bool op, I began, v, wv, .map (some hb)]
abbrev saidL (n : Int) (x : Txn) (t : TX) (j : Nat) : List Message := ((t.parts.take j).filter fun q => !t.hd q).map (saidM n x t)
theorem saidL_no {n : Int} {x : Txn} {t : TX} {j : Nat} (hj : j < t.parts.length) (h : t.hd t.parts[j] = true) : saidL n x t (j + 1) = saidL n x t j := by
  unfold saidL; rw [List.take_succ_eq_append_getElem hj, List.filter_append]; simp [h]
theorem saidL_yes {n : Int} {x : Txn} {t : TX} {j : Nat} (hj : j < t.parts.length) (h : t.hd t.parts[j] = false) : saidL n x t (j + 1) = saidL n x t j ++ [saidM n x t t.parts[j]] := by
  unfold saidL; rw [List.take_succ_eq_append_getElem hj, List.filter_append, List.map_append]; simp [h]
theorem saidL_len {n : Int} {x : Txn} {t : TX} {j : Nat} : (saidL n x t j).length ≤ t.parts.length := by
  unfold saidL; rw [List.length_map]
  exact Nat.le_trans (List.length_filter_le _ _) (by rw [List.length_take]; exact Nat.min_le_right _ _)
theorem decM_reads {H : Heap} {n p : Int} {x : Txn} {y : Bool} (hn : fits n) (hp : fits p) (hx : fits x.Node ∧ fits x.Life ∧ fits x.Count) : rMessage H [I n, I p, I 3, I x.Node, I x.Life, I x.Count, I 0, nilS, nilS, .bool y, I 0, I 0, I 0, I 0, nilS, I 0, I 0, I 0, nilS] (decM n x p y) :=
  ⟨nilS, nilS, nilS, nilS, rfl, hn, hp, by unfold fits; simp [decM], hx.1, hx.2.1, hx.2.2, fits0, SlB.nil, SlB.nil, fits0, fits0, fits0, fits0, SlB.nil, fits0, fits0, fits0, SlB.nil⟩
theorem prepM_reads {H : Heap} {n p : Int} {x : Txn} {w : Work} {s1 s2 : Value} (hn : fits n) (hp : fits p) (hx : fits x.Node ∧ fits x.Life ∧ fits x.Count) (hw : rWork H [I w.Robot, s1, s2] w) : rMessage H [I n, I p, I 1, I x.Node, I x.Life, I x.Count, I w.Robot, s1, s2, .bool false, I 0, I 0, I 0, I 0, nilS, I 0, I 0, I 0, nilS] (prepM n x p w) := by
  obtain ⟨u1, u2, e, hr, h1, h2⟩ := hw
  cases e
  exact ⟨_, _, nilS, nilS, rfl, hn, hp, by unfold fits; simp [prepM], hx.1, hx.2.1, hx.2.2, hr, h1, h2, fits0, fits0, fits0, fits0, SlB.nil, fits0, fits0, fits0, SlB.nil⟩
set_option maxHeartbeats 8000000 in
set_option maxRecDepth 20000 in
theorem againO_spec {W0 : World} {H H1 : Heap} {p mb : Nat} {s : CS} {x : Txn} {e : CE} (hop : e.x.op = true) (hl1 : H1.le H) (hn : fits s.node) (hx : fits x.Node ∧ fits x.Life ∧ fits x.Count) (hv : ∀ q ∈ e.x.heard, q.2 = 1) (hp : ∀ q ∈ e.x.parts, fits q) (hpl : e.x.parts.length ≤ 1000000) :
    Ct Tryz.prog 32 #[.pointer (some ⟨p, 0, none⟩), .agg x.cv.toArray, .pointer (some ⟨e.p, 0, none⟩)] W0 H [cRow p mb s, xA H1 e] (fun r H' B => B = [ownS rMessage 19 216 81 H' r (againL s.node x e.x), cRow p mb s, xA H' e]) := by
  refine Ct.go (vs := [.pointer (some ⟨p, 0, none⟩), .agg x.cv.toArray, .pointer (some ⟨e.p, 0, none⟩)]) fun R => ?_
  obtain ⟨x1, x2, x3⟩ := x
  obtain ⟨k, ep, v, ⟨op, began, parts, works, heard⟩⟩ := e
  dsimp only at hv hp hpl hop
  subst hop
  have hcap : (1000001 : Nat) * 216 ≤ cap47 := by decide
  refine walk ?_
  refine ops_box rfl rfl fun p4 _ => ?_
  refine ops_open (A := xA H1 ⟨k, ep, v, ⟨true, began, parts, works, heard⟩⟩) (σ := Value × Nat) (B := fun a => [xRow ⟨k, ep, v, ⟨true, began, parts, works, heard⟩⟩ a.1 a.2, xWorks H1 ⟨k, ep, v, ⟨true, began, parts, works, heard⟩⟩ a.1, xHeard H1 ⟨k, ep, v, ⟨true, began, parts, works, heard⟩⟩ a.2]) (p := fun a => SlB rInt 1 8 H1 (CE.v ⟨k, ep, v, ⟨true, began, parts, works, heard⟩⟩) (CE.x ⟨k, ep, v, ⟨true, began, parts, works, heard⟩⟩).parts) (by repeat (first | exact Has.here | apply Has.there)) (fun h ⟨hs, wv, hb, hbig⟩ => ⟨(wv, hb), hs, hbig⟩) fun ⟨wv, hb⟩ hsl2 => ?_
  dsimp only at hsl2 ⊢
  obtain ⟨b0, c0, rfl, hc0, hd0⟩ := hsl2.1.shape
  refine ops_know (A := xWorks H1 ⟨k, ep, .slice b0 parts.length c0, ⟨true, began, parts, works, heard⟩⟩ wv) (p := wv = .map none) (by repeat (first | exact Has.here | apply Has.there)) (fun h hw => hw.elim (fun h => h.2.2.1) fun h => by cases h.1) fun hwv => ?_
  subst hwv
  refine walk ?_
  refine ex_L (L' := xRowC ep true began (.slice b0 parts.length c0) (.map none) hb :: xWorks H1 ⟨k, ep, .slice b0 parts.length c0, ⟨true, began, parts, works, heard⟩⟩ (.map none) :: mapO iK rInt false H1 hb heard :: row p4 45 [I x1, I x2, I x3] :: cRow p mb s :: R) subA ?_
  have hdd := TX.hd0 (t := ⟨true, began, parts, works, heard⟩) hv
  refine ex_loop (σ := Nat × Option Addr × Nat × Heap) (fun u => u.1 ≤ parts.length ∧ H.le u.2.2.2) (fun u => [(0, .pointer (some ⟨p, 0, none⟩)), (2, .pointer (some ⟨ep, 0, none⟩)), (4, .pointer (some ⟨p4, 0, none⟩)), (7, .slice u.2.1 (saidL s.node ⟨x1, x2, x3⟩ ⟨true, began, parts, works, heard⟩ u.1).length u.2.2.1), (14, .slice b0 parts.length c0), (15, I parts.length), (16, I u.1)]) (fun u => u.2.2.2)
    (fun u => ownS rMessage 19 216 81 u.2.2.2 (.slice u.2.1 (saidL s.node ⟨x1, x2, x3⟩ ⟨true, began, parts, works, heard⟩ u.1).length u.2.2.1) (saidL s.node ⟨x1, x2, x3⟩ ⟨true, began, parts, works, heard⟩ u.1) :: xRowC ep true began (.slice b0 parts.length c0) (.map none) hb :: xWorks H1 ⟨k, ep, .slice b0 parts.length c0, ⟨true, began, parts, works, heard⟩⟩ (.map none) :: mapO iK rInt false H1 hb heard :: row p4 45 [I x1, I x2, I x3] :: cRow p mb s :: R) (fun u => parts.length - u.1) (0, none, 0, H) ⟨Nat.zero_le _, .refl _⟩ (hs0 := ?_) fun ⟨j, d, e, HK⟩ ⟨hj0, hlK⟩ K hL => ?_
  rotate_left
  · show Sub _ (ownS rMessage 19 216 81 H (.slice none 0 0) [] :: _)
    refine Sub.trans ?_ ownS_nil
    exact subA
  simp only at hj0 hlK
  dsimp only
  refine walk ?_
  refine ex_if rfl (fun hj => ?_) (fun hj => ?_)
  · have hj1 : j < parts.length := by omega
    have hfp := hp _ (List.getElem_mem hj1)
    have hslK : SlR rInt 1 HK (.slice b0 parts.length c0) parts := (hsl2.mono (hl1.trans hlK)).1
    refine walk ?_
    refine ops_lkA (RV := rInt) (ag := false) (z := 0) rfl rfl (by repeat (first | exact Has.here | apply Has.there)) ?_
    refine walk ?_
    refine ex_if rfl (fun hq => ?_) (fun hq => ?_)
    · have hh : (⟨true, began, parts, works, heard⟩ : TX).hd parts[j] = true := by
        cases hh : (⟨true, began, parts, works, heard⟩ : TX).hd parts[j] with
        | true => rfl
        | false => exact absurd ((hdd _).2 hh) hq
      rw [← saidL_no (n := s.node) (x := ⟨x1, x2, x3⟩) (t := ⟨true, began, parts, works, heard⟩) hj1 hh]
      refine walk ?_
      exact out_next hL (j + 1, d, e, HK) ⟨by simp only; omega, hlK⟩
    have hh : (⟨true, began, parts, works, heard⟩ : TX).hd parts[j] = false := (hdd _).1 (Classical.not_not.1 hq)
    refine walk ?_
    refine ex_any 15 [row p4 45 [I x1, I x2, I x3], xRowC ep true began (.slice b0 parts.length c0) (.map none) hb, cRow p mb s] ?_
    refine stepY 0 ?_; refine stepY 1 ?_; refine stepY 2 ?_; refine stepY 3 ?_; refine stepY 4 ?_; refine stepY 5 ?_; refine stepY 6 ?_; refine stepY 7 ?_; refine stepY 8 ?_; refine stepY 9 ?_; refine stepY 10 ?_
    refine gny_lkNil 11 (ek := iK) (z := .agg #[I 0, nilS, nilS]) rfl rfl rfl ?_
    refine any_ca 12 14 rfl rfl rfl (cOwn_spec (W0 := W0) (H := HK) (m := zWork) (c := [I 0, nilS, nilS]) zWork_rd) (fun r5 H5 B hl5 ⟨cs5, er, hcs5, eB⟩ => ?_) (fun p10 _ => ?_)
    · subst er eB
      refine ⟨subA, ?_⟩
      obtain ⟨u1, u2, rfl, _, hu1, hu2⟩ := hcs5
      obtain ⟨ub1, uc1, rfl, _, _⟩ := hu1.1.shape
      obtain ⟨ub2, uc2, rfl, _, _⟩ := hu2.1.shape
      refine stepY 13 ?_
      refine gny_alloc 14 rfl rfl fun p10 _ => ?_
      refine any_rest rfl ?_
      refine walk ?_
      refine ex_any 7 [row p4 45 [I x1, I x2, I x3], cRow p mb s] ?_
      refine stepY 0 ?_; refine stepY 1 ?_; refine stepY 2 ?_; refine stepY 3 ?_; refine stepY 4 ?_; refine stepY 5 ?_; refine stepY 6 ?_
      refine any_rest rfl ?_
      refine walk ?_
      have hsy := saidL_yes (n := s.node) (x := ⟨x1, x2, x3⟩) (t := ⟨true, began, parts, works, heard⟩) hj1 hh
      have hln := saidL_len (n := s.node) (x := ⟨x1, x2, x3⟩) (t := ⟨true, began, parts, works, heard⟩) (j := j)
      refine ops_app1 (y := decM s.node ⟨x1, x2, x3⟩ parts[j] true) rfl rfl rfl (decM_reads hn hfp hx) (by simp only at hln; simp only [cap47] at hcap ⊢; omega) fun d3 e3 => ?_
      rw [show (saidL s.node ⟨x1, x2, x3⟩ ⟨true, began, parts, works, heard⟩ j).length + 1 = (saidL s.node ⟨x1, x2, x3⟩ ⟨true, began, parts, works, heard⟩ (j + 1)).length by rw [hsy, List.length_append]; rfl, show saidL s.node ⟨x1, x2, x3⟩ ⟨true, began, parts, works, heard⟩ j ++ [decM s.node ⟨x1, x2, x3⟩ parts[j] true] = saidL s.node ⟨x1, x2, x3⟩ ⟨true, began, parts, works, heard⟩ (j + 1) from hsy.symm]
      refine walk ?_
      exact out_next hL (j + 1, d3, e3, H5) ⟨by simp only; omega, hlK.trans hl5⟩
    · refine any_call 12 rfl rfl (cOwn_spec (W0 := W0) (H := HK) (m := zWork) (c := [I 0, nilS, nilS]) zWork_rd) fun r5 H5 B hl5 ⟨cs5, er, hcs5, eB⟩ => ?_
      subst er eB
      refine ⟨subA, ?_⟩
      obtain ⟨u1, u2, rfl, _, hu1, hu2⟩ := hcs5
      obtain ⟨ub1, uc1, rfl, _, _⟩ := hu1.1.shape
      obtain ⟨ub2, uc2, rfl, _, _⟩ := hu2.1.shape
      refine stepY 13 ?_
      refine any_rest rfl ?_
      refine walk ?_
      refine ex_any 7 [row p4 45 [I x1, I x2, I x3], cRow p mb s] ?_
      refine stepY 0 ?_; refine stepY 1 ?_; refine stepY 2 ?_; refine stepY 3 ?_; refine stepY 4 ?_; refine stepY 5 ?_; refine stepY 6 ?_
      refine any_rest rfl ?_
      refine walk ?_
      have hsy := saidL_yes (n := s.node) (x := ⟨x1, x2, x3⟩) (t := ⟨true, began, parts, works, heard⟩) hj1 hh
      have hln := saidL_len (n := s.node) (x := ⟨x1, x2, x3⟩) (t := ⟨true, began, parts, works, heard⟩) (j := j)
      refine ops_app1 (y := decM s.node ⟨x1, x2, x3⟩ parts[j] true) rfl rfl rfl (decM_reads hn hfp hx) (by simp only at hln; simp only [cap47] at hcap ⊢; omega) fun d3 e3 => ?_
      rw [show (saidL s.node ⟨x1, x2, x3⟩ ⟨true, began, parts, works, heard⟩ j).length + 1 = (saidL s.node ⟨x1, x2, x3⟩ ⟨true, began, parts, works, heard⟩ (j + 1)).length by rw [hsy, List.length_append]; rfl, show saidL s.node ⟨x1, x2, x3⟩ ⟨true, began, parts, works, heard⟩ j ++ [decM s.node ⟨x1, x2, x3⟩ parts[j] true] = saidL s.node ⟨x1, x2, x3⟩ ⟨true, began, parts, works, heard⟩ (j + 1) from hsy.symm]
      refine walk ?_
      exact out_next hL (j + 1, d3, e3, H5) ⟨by simp only; omega, hlK.trans hl5⟩
  · clear hL
    obtain rfl : j = parts.length := by omega
    refine walk ?_
    have hfin : saidL s.node ⟨x1, x2, x3⟩ ⟨true, began, parts, works, heard⟩ parts.length = againL s.node ⟨x1, x2, x3⟩ ⟨true, began, parts, works, heard⟩ := by simp [saidL, againL]
    rw [hfin]
    refine finB [ownS rMessage 19 216 81 HK (.slice d (againL s.node ⟨x1, x2, x3⟩ ⟨true, began, parts, works, heard⟩).length e) (againL s.node ⟨x1, x2, x3⟩ ⟨true, began, parts, works, heard⟩), cRow p mb s, xA HK ⟨k, ep, .slice b0 parts.length c0, ⟨true, began, parts, works, heard⟩⟩] ?_ (hs := ?_)
    · exact rfl
    · refine Sub.trans (B := xRow ⟨k, ep, .slice b0 parts.length c0, ⟨true, began, parts, works, heard⟩⟩ (.map none) hb :: xWorks H1 ⟨k, ep, .slice b0 parts.length c0, ⟨true, began, parts, works, heard⟩⟩ (.map none) :: xHeard H1 ⟨k, ep, .slice b0 parts.length c0, ⟨true, began, parts, works, heard⟩⟩ hb :: ownS rMessage 19 216 81 HK (.slice d (againL s.node ⟨x1, x2, x3⟩ ⟨true, began, parts, works, heard⟩).length e) (againL s.node ⟨x1, x2, x3⟩ ⟨true, began, parts, works, heard⟩) :: cRow p mb s :: R) subA ?_
      refine (xA_shut (hsl2.mono (hl1.trans hlK)) (hl1.trans hlK)).trans ?_
      exact subA
theorem cw_read {H H' : Heap} {works : List (Int × CW)} (hl : H.le H') (hw : ∀ q ∈ works, ∃ cs, rCW H cs q.2) (p : Int) : rWork H' ((mget p works).getD zCW).1 ((mget p works).getD zCW).2 := by
  cases hg : mget p works with
  | none => exact RdOk.mono (R := rWork) (Heap.le.refl _) zWork_reads
  | some v =>
    obtain ⟨cs, e, h⟩ := hw _ (mget_mem hg)
    dsimp only at e h
    subst e
    exact RdOk.mono (R := rWork) hl h
set_option maxHeartbeats 8000000 in
set_option maxRecDepth 20000 in
theorem againV_spec {W0 : World} {H H1 : Heap} {p mb : Nat} {s : CS} {x : Txn} {e : CE} (hop : e.x.op = false) (hl1 : H1.le H) (hn : fits s.node) (hx : fits x.Node ∧ fits x.Life ∧ fits x.Count) (hv : ∀ q ∈ e.x.heard, q.2 = 1) (hp : ∀ q ∈ e.x.parts, fits q) (hpl : e.x.parts.length ≤ 1000000) :
    Ct Tryz.prog 32 #[.pointer (some ⟨p, 0, none⟩), .agg x.cv.toArray, .pointer (some ⟨e.p, 0, none⟩)] W0 H [cRow p mb s, xA H1 e] (fun r H' B => B = [ownS rMessage 19 216 81 H' r (againL s.node x e.x), cRow p mb s, xA H' e]) := by
  refine Ct.go (vs := [.pointer (some ⟨p, 0, none⟩), .agg x.cv.toArray, .pointer (some ⟨e.p, 0, none⟩)]) fun R => ?_
  obtain ⟨x1, x2, x3⟩ := x
  obtain ⟨k, ep, v, ⟨op, began, parts, works, heard⟩⟩ := e
  dsimp only at hv hp hpl hop
  subst hop
  have hcap : (1000001 : Nat) * 216 ≤ cap47 := by decide
  refine walk ?_
  refine ops_box rfl rfl fun p4 _ => ?_
  refine ops_open (A := xA H1 ⟨k, ep, v, ⟨false, began, parts, works, heard⟩⟩) (σ := Value × Nat) (B := fun a => [xRow ⟨k, ep, v, ⟨false, began, parts, works, heard⟩⟩ a.1 a.2, xWorks H1 ⟨k, ep, v, ⟨false, began, parts, works, heard⟩⟩ a.1, xHeard H1 ⟨k, ep, v, ⟨false, began, parts, works, heard⟩⟩ a.2]) (p := fun a => SlB rInt 1 8 H1 (CE.v ⟨k, ep, v, ⟨false, began, parts, works, heard⟩⟩) (CE.x ⟨k, ep, v, ⟨false, began, parts, works, heard⟩⟩).parts) (by repeat (first | exact Has.here | apply Has.there)) (fun h ⟨hs, wv, hb, hbig⟩ => ⟨(wv, hb), hs, hbig⟩) fun ⟨wv, hb⟩ hsl2 => ?_
  dsimp only at hsl2 ⊢
  obtain ⟨b0, c0, rfl, hc0, hd0⟩ := hsl2.1.shape
  refine ops_open (A := xWorks H1 ⟨k, ep, .slice b0 parts.length c0, ⟨false, began, parts, works, heard⟩⟩ wv) (σ := Nat) (B := fun wb => [mapO iK rCW true H1 wb works]) (p := fun wb => wv = .map (some wb)) (by repeat (first | exact Has.here | apply Has.there)) (fun h hw => hw.elim (fun h => by cases h.1) fun ⟨_, wb, e, hm⟩ => ⟨wb, e, big_one hm⟩) fun wb hwv => ?_
  subst hwv
  refine ops_know (A := mapO iK rCW true H1 wb works) (p := ∀ q ∈ works, ∃ cs, rCW H1 cs q.2) (by repeat (first | exact Has.here | apply Has.there)) (fun h hm => (mapO_know hm).1) fun hwl => ?_
  refine walk ?_
  refine ex_L (L' := xRowC ep false began (.slice b0 parts.length c0) (.map (some wb)) hb :: mapO iK rCW true H1 wb works :: mapO iK rInt false H1 hb heard :: row p4 45 [I x1, I x2, I x3] :: cRow p mb s :: R) subA ?_
  have hdd := TX.hd0 (t := ⟨false, began, parts, works, heard⟩) hv
  refine ex_loop (σ := Nat × Option Addr × Nat × Heap) (fun u => u.1 ≤ parts.length ∧ H.le u.2.2.2) (fun u => [(0, .pointer (some ⟨p, 0, none⟩)), (2, .pointer (some ⟨ep, 0, none⟩)), (4, .pointer (some ⟨p4, 0, none⟩)), (7, .slice u.2.1 (saidL s.node ⟨x1, x2, x3⟩ ⟨false, began, parts, works, heard⟩ u.1).length u.2.2.1), (14, .slice b0 parts.length c0), (15, I parts.length), (16, I u.1)]) (fun u => u.2.2.2)
    (fun u => ownS rMessage 19 216 81 u.2.2.2 (.slice u.2.1 (saidL s.node ⟨x1, x2, x3⟩ ⟨false, began, parts, works, heard⟩ u.1).length u.2.2.1) (saidL s.node ⟨x1, x2, x3⟩ ⟨false, began, parts, works, heard⟩ u.1) :: xRowC ep false began (.slice b0 parts.length c0) (.map (some wb)) hb :: mapO iK rCW true H1 wb works :: mapO iK rInt false H1 hb heard :: row p4 45 [I x1, I x2, I x3] :: cRow p mb s :: R) (fun u => parts.length - u.1) (0, none, 0, H) ⟨Nat.zero_le _, .refl _⟩ (hs0 := ?_) fun ⟨j, d, e, HK⟩ ⟨hj0, hlK⟩ K hL => ?_
  rotate_left
  · show Sub _ (ownS rMessage 19 216 81 H (.slice none 0 0) [] :: _)
    refine Sub.trans ?_ ownS_nil
    exact subA
  simp only at hj0 hlK
  dsimp only
  refine walk ?_
  refine ex_if rfl (fun hj => ?_) (fun hj => ?_)
  · have hj1 : j < parts.length := by omega
    have hfp := hp _ (List.getElem_mem hj1)
    have hslK : SlR rInt 1 HK (.slice b0 parts.length c0) parts := (hsl2.mono (hl1.trans hlK)).1
    refine walk ?_
    refine ops_lkA (RV := rInt) (ag := false) (z := 0) rfl rfl (by repeat (first | exact Has.here | apply Has.there)) ?_
    refine walk ?_
    refine ex_if rfl (fun hq => ?_) (fun hq => ?_)
    · have hh : (⟨false, began, parts, works, heard⟩ : TX).hd parts[j] = true := by
        cases hh : (⟨false, began, parts, works, heard⟩ : TX).hd parts[j] with
        | true => rfl
        | false => exact absurd ((hdd _).2 hh) hq
      rw [← saidL_no (n := s.node) (x := ⟨x1, x2, x3⟩) (t := ⟨false, began, parts, works, heard⟩) hj1 hh]
      refine walk ?_
      exact out_next hL (j + 1, d, e, HK) ⟨by simp only; omega, hlK⟩
    have hh : (⟨false, began, parts, works, heard⟩ : TX).hd parts[j] = false := (hdd _).1 (Classical.not_not.1 hq)
    refine walk ?_
    refine ex_any 15 [row p4 45 [I x1, I x2, I x3], xRowC ep false began (.slice b0 parts.length c0) (.map (some wb)) hb, cRow p mb s, mapO iK rCW true H1 wb works] ?_
    refine stepY 0 ?_; refine stepY 1 ?_; refine stepY 2 ?_; refine stepY 3 ?_; refine stepY 4 ?_; refine stepY 5 ?_; refine stepY 6 ?_; refine stepY 7 ?_; refine stepY 8 ?_; refine stepY 9 ?_; refine stepY 10 ?_
    refine gny_lkA (RV := rCW) (ag := true) (z := zCW) 11 rfl rfl rfl (by repeat (first | exact Has.here | apply Has.there)) ?_
    have hwr := cw_read (H := H1) (H' := HK) (hl1.trans hlK) hwl parts[j]
    refine any_ca 12 14 rfl rfl rfl (cOwn_spec (W0 := W0) (H := HK) (m := ((mget parts[j] works).getD zCW).2) (c := ((mget parts[j] works).getD zCW).1) hwr) (fun r5 H5 B hl5 ⟨cs5, er, hcs5, eB⟩ => ?g1) (fun p10 _ => ?g2)
    case g1 =>
      subst er eB
      refine ⟨subA, ?_⟩
      obtain ⟨u1, u2, rfl, hu0, hu1, hu2⟩ := hcs5
      obtain ⟨ub1, uc1, rfl, _, _⟩ := hu1.1.shape
      obtain ⟨ub2, uc2, rfl, _, _⟩ := hu2.1.shape
      refine stepY 13 ?_
      refine gny_alloc 14 rfl rfl fun p10 _ => ?_
      refine any_rest rfl ?_
      refine walk ?_
      have hsy := saidL_yes (n := s.node) (x := ⟨x1, x2, x3⟩) (t := ⟨false, began, parts, works, heard⟩) hj1 hh
      have hln := saidL_len (n := s.node) (x := ⟨x1, x2, x3⟩) (t := ⟨false, began, parts, works, heard⟩) (j := j)
      have hsm : saidM s.node ⟨x1, x2, x3⟩ ⟨false, began, parts, works, heard⟩ parts[j] = prepM s.node ⟨x1, x2, x3⟩ parts[j] ((mget parts[j] works).getD zCW).2 := rfl
      rw [hsm] at hsy
      refine ops_app1 (y := prepM s.node ⟨x1, x2, x3⟩ parts[j] ((mget parts[j] works).getD zCW).2) rfl rfl rfl (prepM_reads hn hfp hx ⟨_, _, rfl, hu0, hu1, hu2⟩) (by simp only at hln; simp only [cap47] at hcap ⊢; omega) fun d3 e3 => ?_
      rw [show (saidL s.node ⟨x1, x2, x3⟩ ⟨false, began, parts, works, heard⟩ j).length + 1 = (saidL s.node ⟨x1, x2, x3⟩ ⟨false, began, parts, works, heard⟩ (j + 1)).length by rw [hsy, List.length_append]; rfl, show saidL s.node ⟨x1, x2, x3⟩ ⟨false, began, parts, works, heard⟩ j ++ [prepM s.node ⟨x1, x2, x3⟩ parts[j] ((mget parts[j] works).getD zCW).2] = saidL s.node ⟨x1, x2, x3⟩ ⟨false, began, parts, works, heard⟩ (j + 1) from hsy.symm]
      refine walk ?_
      exact out_next hL (j + 1, d3, e3, H5) ⟨by simp only; omega, hlK.trans hl5⟩
    case g2 =>
      refine any_call 12 rfl rfl (cOwn_spec (W0 := W0) (H := HK) (m := ((mget parts[j] works).getD zCW).2) (c := ((mget parts[j] works).getD zCW).1) hwr) fun r5 H5 B hl5 ⟨cs5, er, hcs5, eB⟩ => ?_
      subst er eB
      refine ⟨subA, ?_⟩
      obtain ⟨u1, u2, rfl, hu0, hu1, hu2⟩ := hcs5
      obtain ⟨ub1, uc1, rfl, _, _⟩ := hu1.1.shape
      obtain ⟨ub2, uc2, rfl, _, _⟩ := hu2.1.shape
      refine stepY 13 ?_
      refine any_rest rfl ?_
      refine walk ?_
      have hsy := saidL_yes (n := s.node) (x := ⟨x1, x2, x3⟩) (t := ⟨false, began, parts, works, heard⟩) hj1 hh
      have hln := saidL_len (n := s.node) (x := ⟨x1, x2, x3⟩) (t := ⟨false, began, parts, works, heard⟩) (j := j)
      have hsm : saidM s.node ⟨x1, x2, x3⟩ ⟨false, began, parts, works, heard⟩ parts[j] = prepM s.node ⟨x1, x2, x3⟩ parts[j] ((mget parts[j] works).getD zCW).2 := rfl
      rw [hsm] at hsy
      refine ops_app1 (y := prepM s.node ⟨x1, x2, x3⟩ parts[j] ((mget parts[j] works).getD zCW).2) rfl rfl rfl (prepM_reads hn hfp hx ⟨_, _, rfl, hu0, hu1, hu2⟩) (by simp only at hln; simp only [cap47] at hcap ⊢; omega) fun d3 e3 => ?_
      rw [show (saidL s.node ⟨x1, x2, x3⟩ ⟨false, began, parts, works, heard⟩ j).length + 1 = (saidL s.node ⟨x1, x2, x3⟩ ⟨false, began, parts, works, heard⟩ (j + 1)).length by rw [hsy, List.length_append]; rfl, show saidL s.node ⟨x1, x2, x3⟩ ⟨false, began, parts, works, heard⟩ j ++ [prepM s.node ⟨x1, x2, x3⟩ parts[j] ((mget parts[j] works).getD zCW).2] = saidL s.node ⟨x1, x2, x3⟩ ⟨false, began, parts, works, heard⟩ (j + 1) from hsy.symm]
      refine walk ?_
      exact out_next hL (j + 1, d3, e3, H5) ⟨by simp only; omega, hlK.trans hl5⟩
  · clear hL
    obtain rfl : j = parts.length := by omega
    refine walk ?_
    have hfin : saidL s.node ⟨x1, x2, x3⟩ ⟨false, began, parts, works, heard⟩ parts.length = againL s.node ⟨x1, x2, x3⟩ ⟨false, began, parts, works, heard⟩ := by simp [saidL, againL]
    rw [hfin]
    refine finB [ownS rMessage 19 216 81 HK (.slice d (againL s.node ⟨x1, x2, x3⟩ ⟨false, began, parts, works, heard⟩).length e) (againL s.node ⟨x1, x2, x3⟩ ⟨false, began, parts, works, heard⟩), cRow p mb s, xA HK ⟨k, ep, .slice b0 parts.length c0, ⟨false, began, parts, works, heard⟩⟩] ?_ (hs := ?_)
    · exact rfl
    · refine Sub.trans (B := xRow ⟨k, ep, .slice b0 parts.length c0, ⟨false, began, parts, works, heard⟩⟩ (.map (some wb)) hb :: xWorks H1 ⟨k, ep, .slice b0 parts.length c0, ⟨false, began, parts, works, heard⟩⟩ (.map (some wb)) :: xHeard H1 ⟨k, ep, .slice b0 parts.length c0, ⟨false, began, parts, works, heard⟩⟩ hb :: ownS rMessage 19 216 81 HK (.slice d (againL s.node ⟨x1, x2, x3⟩ ⟨false, began, parts, works, heard⟩).length e) (againL s.node ⟨x1, x2, x3⟩ ⟨false, began, parts, works, heard⟩) :: cRow p mb s :: R) ?_ ?_
      · refine Sub.trans (B := mapO iK rCW true H1 wb works :: xRow ⟨k, ep, .slice b0 parts.length c0, ⟨false, began, parts, works, heard⟩⟩ (.map (some wb)) hb :: xHeard H1 ⟨k, ep, .slice b0 parts.length c0, ⟨false, began, parts, works, heard⟩⟩ hb :: ownS rMessage 19 216 81 HK (.slice d (againL s.node ⟨x1, x2, x3⟩ ⟨false, began, parts, works, heard⟩).length e) (againL s.node ⟨x1, x2, x3⟩ ⟨false, began, parts, works, heard⟩) :: cRow p mb s :: R) subA ?_
        refine Sub.trans (show Sub _ (xWorks H1 ⟨k, ep, .slice b0 parts.length c0, ⟨false, began, parts, works, heard⟩⟩ (.map (some wb)) :: _) from fun h ⟨h1, h2, a, r⟩ => ⟨h1, h2, .inr ⟨rfl, wb, rfl, a⟩, r⟩) ?_
        exact subA
      refine (xA_shut (hsl2.mono (hl1.trans hlK)) (hl1.trans hlK)).trans ?_
      exact subA
set_option maxHeartbeats 8000000 in
set_option maxRecDepth 20000 in
theorem againP_spec {W0 : World} {H H1 : Heap} {p mb ep hb : Nat} {s : CS} {x : Txn} {began : Int} {parts : List Int} {works : List (Int × CW)} {heard : List (Int × Int)} {b0 : Option Addr} {c0 : Nat} (hl1 : H1.le H) (hn : fits s.node) (hx : fits x.Node ∧ fits x.Life ∧ fits x.Count) (hv : ∀ q ∈ heard, q.2 = 1) (hp : ∀ q ∈ parts, fits q) (hpl : parts.length ≤ 1000000) (hsl2 : SlB rInt 1 8 H1 (.slice b0 parts.length c0) parts) :
    Ct Tryz.prog 32 #[.pointer (some ⟨p, 0, none⟩), .agg x.cv.toArray, .pointer (some ⟨ep, 0, none⟩)] W0 H [cRow p mb s, xRowC ep true began (.slice b0 parts.length c0) (.map none) hb, mapO iK rInt false H1 hb heard] (fun r H' B => B = [ownS rMessage 19 216 81 H' r (againL s.node x ⟨true, began, parts, works, heard⟩), cRow p mb s, xRowC ep true began (.slice b0 parts.length c0) (.map none) hb, mapO iK rInt false H1 hb heard]) := by
  refine Ct.go (vs := [.pointer (some ⟨p, 0, none⟩), .agg x.cv.toArray, .pointer (some ⟨ep, 0, none⟩)]) fun R => ?_
  obtain ⟨x1, x2, x3⟩ := x
  have hcap : (1000001 : Nat) * 216 ≤ cap47 := by decide
  obtain ⟨_, _, e0, hc0, hd0⟩ := hsl2.1.shape
  cases e0
  refine walk ?_
  refine ops_box rfl rfl fun p4 _ => ?_
  refine walk ?_
  refine ex_L (L' := xRowC ep true began (.slice b0 parts.length c0) (.map none) hb :: mapO iK rInt false H1 hb heard :: row p4 45 [I x1, I x2, I x3] :: cRow p mb s :: R) subA ?_
  have hdd := TX.hd0 (t := ⟨true, began, parts, works, heard⟩) hv
  refine ex_loop (σ := Nat × Option Addr × Nat × Heap) (fun u => u.1 ≤ parts.length ∧ H.le u.2.2.2) (fun u => [(0, .pointer (some ⟨p, 0, none⟩)), (2, .pointer (some ⟨ep, 0, none⟩)), (4, .pointer (some ⟨p4, 0, none⟩)), (7, .slice u.2.1 (saidL s.node ⟨x1, x2, x3⟩ ⟨true, began, parts, works, heard⟩ u.1).length u.2.2.1), (14, .slice b0 parts.length c0), (15, I parts.length), (16, I u.1)]) (fun u => u.2.2.2)
    (fun u => ownS rMessage 19 216 81 u.2.2.2 (.slice u.2.1 (saidL s.node ⟨x1, x2, x3⟩ ⟨true, began, parts, works, heard⟩ u.1).length u.2.2.1) (saidL s.node ⟨x1, x2, x3⟩ ⟨true, began, parts, works, heard⟩ u.1) :: xRowC ep true began (.slice b0 parts.length c0) (.map none) hb :: mapO iK rInt false H1 hb heard :: row p4 45 [I x1, I x2, I x3] :: cRow p mb s :: R) (fun u => parts.length - u.1) (0, none, 0, H) ⟨Nat.zero_le _, .refl _⟩ (hs0 := ?_) fun ⟨j, d, e, HK⟩ ⟨hj0, hlK⟩ K hL => ?_
  rotate_left
  · show Sub _ (ownS rMessage 19 216 81 H (.slice none 0 0) [] :: _)
    refine Sub.trans ?_ ownS_nil
    exact subA
  simp only at hj0 hlK
  dsimp only
  refine walk ?_
  refine ex_if rfl (fun hj => ?_) (fun hj => ?_)
  · have hj1 : j < parts.length := by omega
    have hfp := hp _ (List.getElem_mem hj1)
    have hslK : SlR rInt 1 HK (.slice b0 parts.length c0) parts := (hsl2.mono (hl1.trans hlK)).1
    refine walk ?_
    refine ops_lkA (RV := rInt) (ag := false) (z := 0) rfl rfl (by repeat (first | exact Has.here | apply Has.there)) ?_
    refine walk ?_
    refine ex_if rfl (fun hq => ?_) (fun hq => ?_)
    · have hh : (⟨true, began, parts, works, heard⟩ : TX).hd parts[j] = true := by
        cases hh : (⟨true, began, parts, works, heard⟩ : TX).hd parts[j] with
        | true => rfl
        | false => exact absurd ((hdd _).2 hh) hq
      rw [← saidL_no (n := s.node) (x := ⟨x1, x2, x3⟩) (t := ⟨true, began, parts, works, heard⟩) hj1 hh]
      refine walk ?_
      exact out_next hL (j + 1, d, e, HK) ⟨by simp only; omega, hlK⟩
    have hh : (⟨true, began, parts, works, heard⟩ : TX).hd parts[j] = false := (hdd _).1 (Classical.not_not.1 hq)
    refine walk ?_
    refine ex_any 15 [row p4 45 [I x1, I x2, I x3], xRowC ep true began (.slice b0 parts.length c0) (.map none) hb, cRow p mb s] ?_
    refine stepY 0 ?_; refine stepY 1 ?_; refine stepY 2 ?_; refine stepY 3 ?_; refine stepY 4 ?_; refine stepY 5 ?_; refine stepY 6 ?_; refine stepY 7 ?_; refine stepY 8 ?_; refine stepY 9 ?_; refine stepY 10 ?_
    refine gny_lkNil 11 (ek := iK) (z := .agg #[I 0, nilS, nilS]) rfl rfl rfl ?_
    refine any_ca 12 14 rfl rfl rfl (cOwn_spec (W0 := W0) (H := HK) (m := zWork) (c := [I 0, nilS, nilS]) zWork_rd) (fun r5 H5 B hl5 ⟨cs5, er, hcs5, eB⟩ => ?_) (fun p10 _ => ?_)
    · subst er eB
      refine ⟨subA, ?_⟩
      obtain ⟨u1, u2, rfl, _, hu1, hu2⟩ := hcs5
      obtain ⟨ub1, uc1, rfl, _, _⟩ := hu1.1.shape
      obtain ⟨ub2, uc2, rfl, _, _⟩ := hu2.1.shape
      refine stepY 13 ?_
      refine gny_alloc 14 rfl rfl fun p10 _ => ?_
      refine any_rest rfl ?_
      refine walk ?_
      refine ex_any 7 [row p4 45 [I x1, I x2, I x3], cRow p mb s] ?_
      refine stepY 0 ?_; refine stepY 1 ?_; refine stepY 2 ?_; refine stepY 3 ?_; refine stepY 4 ?_; refine stepY 5 ?_; refine stepY 6 ?_
      refine any_rest rfl ?_
      refine walk ?_
      have hsy := saidL_yes (n := s.node) (x := ⟨x1, x2, x3⟩) (t := ⟨true, began, parts, works, heard⟩) hj1 hh
      have hln := saidL_len (n := s.node) (x := ⟨x1, x2, x3⟩) (t := ⟨true, began, parts, works, heard⟩) (j := j)
      refine ops_app1 (y := decM s.node ⟨x1, x2, x3⟩ parts[j] true) rfl rfl rfl (decM_reads hn hfp hx) (by simp only at hln; simp only [cap47] at hcap ⊢; omega) fun d3 e3 => ?_
      rw [show (saidL s.node ⟨x1, x2, x3⟩ ⟨true, began, parts, works, heard⟩ j).length + 1 = (saidL s.node ⟨x1, x2, x3⟩ ⟨true, began, parts, works, heard⟩ (j + 1)).length by rw [hsy, List.length_append]; rfl, show saidL s.node ⟨x1, x2, x3⟩ ⟨true, began, parts, works, heard⟩ j ++ [decM s.node ⟨x1, x2, x3⟩ parts[j] true] = saidL s.node ⟨x1, x2, x3⟩ ⟨true, began, parts, works, heard⟩ (j + 1) from hsy.symm]
      refine walk ?_
      exact out_next hL (j + 1, d3, e3, H5) ⟨by simp only; omega, hlK.trans hl5⟩
    · refine any_call 12 rfl rfl (cOwn_spec (W0 := W0) (H := HK) (m := zWork) (c := [I 0, nilS, nilS]) zWork_rd) fun r5 H5 B hl5 ⟨cs5, er, hcs5, eB⟩ => ?_
      subst er eB
      refine ⟨subA, ?_⟩
      obtain ⟨u1, u2, rfl, _, hu1, hu2⟩ := hcs5
      obtain ⟨ub1, uc1, rfl, _, _⟩ := hu1.1.shape
      obtain ⟨ub2, uc2, rfl, _, _⟩ := hu2.1.shape
      refine stepY 13 ?_
      refine any_rest rfl ?_
      refine walk ?_
      refine ex_any 7 [row p4 45 [I x1, I x2, I x3], cRow p mb s] ?_
      refine stepY 0 ?_; refine stepY 1 ?_; refine stepY 2 ?_; refine stepY 3 ?_; refine stepY 4 ?_; refine stepY 5 ?_; refine stepY 6 ?_
      refine any_rest rfl ?_
      refine walk ?_
      have hsy := saidL_yes (n := s.node) (x := ⟨x1, x2, x3⟩) (t := ⟨true, began, parts, works, heard⟩) hj1 hh
      have hln := saidL_len (n := s.node) (x := ⟨x1, x2, x3⟩) (t := ⟨true, began, parts, works, heard⟩) (j := j)
      refine ops_app1 (y := decM s.node ⟨x1, x2, x3⟩ parts[j] true) rfl rfl rfl (decM_reads hn hfp hx) (by simp only at hln; simp only [cap47] at hcap ⊢; omega) fun d3 e3 => ?_
      rw [show (saidL s.node ⟨x1, x2, x3⟩ ⟨true, began, parts, works, heard⟩ j).length + 1 = (saidL s.node ⟨x1, x2, x3⟩ ⟨true, began, parts, works, heard⟩ (j + 1)).length by rw [hsy, List.length_append]; rfl, show saidL s.node ⟨x1, x2, x3⟩ ⟨true, began, parts, works, heard⟩ j ++ [decM s.node ⟨x1, x2, x3⟩ parts[j] true] = saidL s.node ⟨x1, x2, x3⟩ ⟨true, began, parts, works, heard⟩ (j + 1) from hsy.symm]
      refine walk ?_
      exact out_next hL (j + 1, d3, e3, H5) ⟨by simp only; omega, hlK.trans hl5⟩
  · clear hL
    obtain rfl : j = parts.length := by omega
    refine walk ?_
    have hfin : saidL s.node ⟨x1, x2, x3⟩ ⟨true, began, parts, works, heard⟩ parts.length = againL s.node ⟨x1, x2, x3⟩ ⟨true, began, parts, works, heard⟩ := by simp [saidL, againL]
    rw [hfin]
    refine finB [ownS rMessage 19 216 81 HK (.slice d (againL s.node ⟨x1, x2, x3⟩ ⟨true, began, parts, works, heard⟩).length e) (againL s.node ⟨x1, x2, x3⟩ ⟨true, began, parts, works, heard⟩), cRow p mb s, xRowC ep true began (.slice b0 parts.length c0) (.map none) hb, mapO iK rInt false H1 hb heard] ?_
    exact rfl
end Go.Proofs.YtpphdbnifbjfmaaGreatDoor
