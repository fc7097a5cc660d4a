/- A fresh coordinator's Begin, all that it makes handed back owned. -/
import Derived.Test.YthoafjeampbkeaaCWB
set_option linter.unusedVariables false
set_option linter.unusedSimpArgs false
namespace Go.Proofs.Ythoafjeampbkeaa
open Go Go.Sx Go.Proofs
/-- a voting transaction, what its works' lists hold left open -/
def rawX (e : CE) : HProp := fun h => ∃ wb hb, big [xRow e (.map (some wb)) hb, mapO iK rC true Heap.empty wb e.x.works, mapO iK rInt false Heap.empty hb e.x.heard] h
theorem rc_weak {H H' : Heap} {wb : Nat} {l : List (Int × CW)} : ∀ x, mapO iK rC true H wb l x → mapO iK rC true H' wb l x := mapO_weaken (RV := rC) (RV' := rC) fun q _ cs h => h
theorem ri_weak {H H' : Heap} {wb : Nat} {l : List (Int × Int)} : ∀ x, mapO iK rInt false H wb l x → mapO iK rInt false H' wb l x := mapO_weaken (RV := rInt) (RV' := rInt) fun q _ cs h => h
theorem cw_rc {H H' : Heap} {wb : Nat} {l : List (Int × CW)} : ∀ x, mapO iK rCW true H wb l x → mapO iK rC true H' wb l x := mapO_weaken (RV := rCW) (RV' := rC) fun q _ cs h => by
  obtain ⟨e, h⟩ := (h : cs = q.2.1 ∧ rWork H cs q.2.2)
  exact ⟨e, RdOk.len (R := rWork) h, RdOk.one (R := rWork) h⟩
theorem rc_cw {H H' : Heap} {wb : Nat} {l : List (Int × CW)} (hw : ∀ q ∈ l, rWork H' q.2.1 q.2.2) : ∀ x, mapO iK rC true H wb l x → mapO iK rCW true H' wb l x := mapO_weaken (RV := rC) (RV' := rCW) fun q hq cs h => by
  obtain ⟨e, _⟩ := (h : cs = q.2.1 ∧ _)
  subst e
  exact ⟨rfl, hw q hq⟩
theorem xA_raw {H : Heap} {e : CE} (hop : e.x.op = false) : ∀ h, xA H e h → rawX e h := fun h ⟨hs, wv, hb, a1, a2, x1, ⟨b1, b2, x2, ⟨c1, c2, x3, y3⟩, y2⟩, y1⟩ => by
  rcases x2 with ⟨ho, _⟩ | ⟨_, wb, rfl, hm⟩
  · rw [hop] at ho; cases ho
  · exact ⟨wb, hb, a1, a2, x1, ⟨b1, b2, cw_rc _ hm, ⟨c1, c2, ri_weak _ x3, y3⟩, y2⟩, y1⟩
theorem raw_xA {H : Heap} {e : CE} (hop : e.x.op = false) (hs : SlB rInt 1 8 H e.v e.x.parts) (hw : ∀ q ∈ e.x.works, rWork H q.2.1 q.2.2) : ∀ h, rawX e h → xA H e h := fun h ⟨wb, hb, a1, a2, x1, ⟨b1, b2, x2, ⟨c1, c2, x3, y3⟩, y2⟩, y1⟩ =>
  ⟨hs, .map (some wb), hb, a1, a2, x1, ⟨b1, b2, .inr ⟨hop, wb, rfl, rc_cw hw _ x2⟩, ⟨c1, c2, ri_weak _ x3, y3⟩, y2⟩, y1⟩
/-- works by their parts, as the map holds them -/
def wsV (vs : List (Int × WV)) : List (Int × CW) := vs.map fun q => (q.1, (q.2.cv, q.2.w))
def pqV (vs : List (Int × WV)) : List (Int × Work) := vs.map fun q => (q.1, q.2.w)
theorem pq_wsV {vs : List (Int × WV)} : pq (wsV vs) = pqV vs := by unfold pq wsV pqV; rw [List.map_map]; rfl
theorem wsV_fst {vs : List (Int × WV)} : (wsV vs).map (·.1) = vs.map (·.1) := by unfold wsV; rw [List.map_map]; rfl
abbrev s0C (node : Int) : CS := ⟨node, 1, 0, []⟩
theorem work_of {v : WV} {H : Heap} (hr : fits v.w.Robot) (h : SlB rStr 1 16 H (.slice v.a.1 v.w.Take.length v.a.2) v.w.Take ∧ SlB rStr 1 16 H (.slice v.b.1 v.w.Drop.length v.b.2) v.w.Drop) : rWork H v.cv v.w := ⟨_, _, rfl, hr, h.1, h.2⟩
set_option maxHeartbeats 16000000 in
set_option maxRecDepth 20000 in
theorem beginO_spec {W0 : World} {H : Heap} {p mb : Nat} {node now : Int} {v : Value} {l : List Work} (hfn : fits node) (hnow : fits now) (hw : SlB rWork 3 56 H v l) (hl : l.length ≤ 1000) :
    Ct Try.prog 11 #[.pointer (some ⟨p, 0, none⟩), v, I now] W0 H [row p 86 [I node, I 1, I 0, .map (some mb)], cMap mb []]
      (fun r H' B => H' = H ∧ ∃ vs : List (Int × WV), pqV vs = works0 0 l ∧ (∀ q ∈ vs, fits q.2.w.Robot) ∧ ((vs = [] ∧ r = .tuple #[.agg #[I 0, I 0, I 0], nilS, I 4] ∧ B = [row p 86 [I node, I 1, I 0, .map (some mb)], cMap mb []]) ∨
        (vs ≠ [] ∧ ∃ (v1 : Value) (ys : List MV) (ep : Nat) (pv : Value), r = .tuple #[.agg (newX (s0C node)).cv.toArray, v1, I 0] ∧ ys.map (·.m) = againL node (newX (s0C node)) (beganT now (wsV vs)) ∧ (∀ y ∈ ys, OkMV y) ∧
          B = [ownS rMV 19 216 53 H v1 ys, bigL ownMV ys, cRow p mb (beginS (s0C node) now (wsV vs)), cMap mb [⟨(newX (s0C node)).k, ep, pv, beganT now (wsV vs)⟩], rawX ⟨(newX (s0C node)).k, ep, pv, beganT now (wsV vs)⟩, bigL ownW (vs.map (·.2)), ownS rInt 1 8 3 H pv (vs.map (·.1))]))) := by
  refine Ct.go (vs := [.pointer (some ⟨p, 0, none⟩), v, I now]) fun R => ?_
  obtain ⟨b0, c0, rfl, hc0, hd0⟩ := hw.1.shape
  have hcap : (1001 : Nat) * 8 ≤ cap47 := by decide
  refine walk ?_
  refine ops_alloc rfl fun p6 _ => ?_
  refine walk ?_
  refine ops_makeMap iK rC true rfl fun wb _ => ?_
  refine walk ?_
  refine ops_makeMap iK rInt false rfl fun hb _ => ?_
  refine walk ?_
  refine ops_box rfl rfl fun ep _ => ?_
  refine walk ?_
  refine ex_loop (σ := Nat × (Option Addr × Nat) × List (Int × WV)) (fun u => u.1 ≤ l.length ∧ pqV u.2.2 = works0 0 (l.take u.1) ∧ ∀ q ∈ u.2.2, fits q.2.w.Robot) (fun u => [(0, .pointer (some ⟨p, 0, none⟩)), (6, .pointer (some ⟨p6, 0, none⟩)), (7, nilS), (8, I 0), (9, .pointer (some ⟨ep, 0, none⟩)), (18, .slice b0 l.length c0), (19, I l.length), (20, I u.1)]) (fun _ => H)
    (fun u => ownS rInt 1 8 3 H (.slice u.2.1.1 (u.2.2.map (·.1)).length u.2.1.2) (u.2.2.map (·.1)) :: bigL ownW (u.2.2.map (·.2)) :: xRowC ep false now (.slice u.2.1.1 (u.2.2.map (·.1)).length u.2.1.2) (.map (some wb)) hb :: mapO iK rC true H wb (wsV u.2.2) :: mapO iK rInt false H hb [] :: row p6 28 [I 0, I 0, I 0] :: row p 86 [I node, I 1, I 0, .map (some mb)] :: cMap mb [] :: R) (fun u => l.length - u.1) (0, (none, 0), []) ⟨Nat.zero_le _, rfl, fun q h => (by cases h)⟩ (hs0 := ?_) fun ⟨j, ⟨d, e⟩, vs⟩ ⟨hj0, hws, hrb⟩ K hL => ?_
  rotate_left
  · show Sub _ (ownS rInt 1 8 3 H (.slice none 0 0) [] :: _)
    refine Sub.trans ?_ (ownS_nil.trans (Sub.cons bigL_nil))
    show Sub _ (xRowC ep false now (.slice none 0 0) (.map (some wb)) hb :: mapO iK rC true H wb [] :: _)
    (repeat (first | exact Sub.refl _ | exact Sub.nil _ | (apply sub_pick; (repeat (first | exact Has.here | apply Has.there)); skip) | apply Sub.drop))
  simp only at hj0 hws hrb
  dsimp only
  have hwl : (vs.map (·.1)).length ≤ j := by
    have h1 := works0_len (i := 0) (l := l.take j)
    rw [← hws, List.length_take] at h1
    unfold pqV at h1
    simp only [List.length_map] at h1 ⊢
    omega
  refine walk ?_
  refine ex_if rfl (fun hk => ?_) (fun hk => ?_)
  · have hk1 : j < l.length := by omega
    have ht := List.take_succ_eq_append_getElem hk1
    have hsn := works0_snoc (w := l[j]) (l := l.take j) (i := 0)
    rw [← ht, ← hws, List.length_take, Nat.min_eq_left hj0, Int.zero_add] at hsn
    refine walk ?_
    refine ops_ixp rfl rfl hw.1 hk1 fun b o cc hr hc => ?_
    generalize l[j] = w at hr hc hsn
    have hcc := hc
    obtain ⟨wr, wt, wd⟩ := w
    obtain ⟨u1, u2, rfl, g1, g2, g3⟩ := hc
    obtain ⟨b1, c1, rfl, hc1, hd1⟩ := g2.1.shape
    obtain ⟨b2, c2, rfl, hc2, hd2⟩ := g3.1.shape
    dsimp only at g1 g2 g3 hsn hc1 hc2
    change HRow H b o [I wr, .slice b1 wt.length c1, .slice b2 wd.length c2] at hr
    refine walk ?_
    refine ops_ldNH rfl rfl hr rfl ?_
    refine ops_alloc rfl fun p11 _ => ?_
    have hgs1 := g2.2
    have hgs2 := g3.2
    simp only [cap47] at hgs1 hgs2
    refine walk ?_
    refine ex_if rfl (fun hq => ?_) (fun hq => ?_)
    · have hq1 : 0 < wt.length + wd.length := by omega
      rw [if_pos hq1] at hsn
      have hfj : fits (j : Int) := by unfold fits; omega
      refine walk ?_
      refine ops_app1 (y := (j : Int)) rfl rfl rfl ⟨rfl, hfj⟩ (by simp only [cap47] at hcap ⊢; omega) fun d3 e3 => ?_
      refine walk ?_
      refine ex_any 7 [row p11 41 [I wr, .slice b1 wt.length c1, .slice b2 wd.length c2], xRowC ep false now (.slice d3 ((vs.map (·.1)).length + 1) e3) (.map (some wb)) hb] ?_
      refine stepY 0 ?_; refine stepY 1 ?_; refine stepY 2 ?_; refine stepY 3 ?_; refine stepY 4 ?_; refine stepY 5 ?_
      refine gny_call 6 rfl rfl rfl (cOwnO_spec (W0 := W0) (H := H) (m := ⟨wr, wt, wd⟩) (c := [I wr, .slice b1 wt.length c1, .slice b2 wd.length c2]) hcc) fun r5 H5 B hl5 ⟨w5, hw5, er, eB, eH⟩ => ?_
      subst er eB eH
      refine ⟨(by (repeat (first | exact Sub.refl _ | exact Sub.nil _ | (apply sub_pick; (repeat (first | exact Has.here | apply Has.there)); skip) | apply Sub.drop))), ?_⟩
      refine any_rest rfl ?_
      refine ops_update (RV := rC) (ag := true) (cs := w5.cv) (u := ((w5.cv, w5.w) : CW)) rfl rfl ⟨rfl, rfl, rfl⟩ (by repeat (first | exact Has.here | apply Has.there)) ?_
      have hfr : mget (j : Int) (wsV vs) = none := by
        rw [mget_none]
        intro hm
        rw [← pq_fst, pq_wsV, hws] at hm
        obtain ⟨q, hq3, hq4⟩ := List.mem_map.1 hm
        have := works0_lt (i := 0) (Int.le_refl _) q hq3
        rw [List.length_take] at this
        omega
      rw [mset_fresh hfr]
      have e1 : vs.map (·.1) ++ [(j : Int)] = (vs ++ [((j : Int), w5)]).map (·.1) := by rw [List.map_append]; rfl
      rw [show (vs.map (·.1)).length + 1 = ((vs ++ [((j : Int), w5)]).map (·.1)).length by simp, e1]
      rw [show wsV vs ++ [((j : Int), ((w5.cv, w5.w) : CW))] = wsV (vs ++ [((j : Int), w5)]) by unfold wsV; rw [List.map_append]; rfl]
      refine walk ?_
      refine out_next hL (j + 1, (d3, e3), vs ++ [((j : Int), w5)]) ⟨by simp only; omega, ?_, ?_⟩ (hs := ?_)
      · simp only
        rw [hsn]
        unfold pqV
        rw [List.map_append]
        simp only [List.map_cons, List.map_nil]
        rw [hw5]
      · intro q hq
        rcases List.mem_append.1 hq with hq | hq
        · exact hrb q hq
        · rw [List.mem_singleton.1 hq]; show fits w5.w.Robot; rw [hw5]; exact g1
      · dsimp only
        rw [show (vs ++ [((j : Int), w5)]).map (·.2) = vs.map (·.2) ++ [w5] by rw [List.map_append]; rfl]
        refine Sub.trans ?_ (Sub.cons bigL_snoc)
        (repeat (first | exact Sub.refl _ | exact Sub.nil _ | (apply sub_pick; (repeat (first | exact Has.here | apply Has.there)); skip) | apply Sub.drop))
    · have hq1 : ¬ 0 < wt.length + wd.length := by omega
      rw [if_neg hq1, List.append_nil] at hsn
      refine walk ?_
      exact out_next hL (j + 1, (d, e), vs) ⟨by simp only; omega, hsn.symm, hrb⟩
  · clear hL
    obtain rfl : j = l.length := by omega
    rw [List.take_length] at hws
    refine walk ?_
    refine ex_if rfl (fun hq => ?_) (fun hq => ?_)
    · have hws0 : vs = [] := by
        cases vs with
        | nil => rfl
        | cons a r => simp at hq; omega
      refine walk ?_
      refine finB [row p 86 [I node, I 1, I 0, .map (some mb)], cMap mb []] ?_
      exact ⟨rfl, vs, hws, hrb, .inl ⟨hws0, rfl, rfl⟩⟩
    have hne : vs ≠ [] := fun h => hq (by rw [h]; rfl)
    have hnw : wsV vs ≠ [] := fun h => hne (by unfold wsV at h; exact List.map_eq_nil_iff.1 h)
    refine walk ?_
    refine ex_any 14 [row p 86 [I node, I 1, I 1, .map (some mb)]] ?_
    refine stepY 0 ?_; refine stepY 1 ?_; refine stepY 2 ?_; refine stepY 3 ?_; refine stepY 4 ?_; refine stepY 5 ?_; refine stepY 6 ?_; refine stepY 7 ?_; refine stepY 8 ?_; refine stepY 9 ?_; refine stepY 10 ?_; refine stepY 11 ?_; refine stepY 12 ?_
    refine gny_alloc 13 rfl rfl fun p12 _ => ?_
    refine any_rest rfl ?_
    refine walk ?_
    refine ex_any 6 [row p 86 [I node, I 1, I 1, .map (some mb)], row p12 28 [I node, I 1, I 1]] ?_
    refine stepY 0 ?_; refine stepY 1 ?_; refine stepY 2 ?_; refine stepY 3 ?_; refine stepY 4 ?_; refine stepY 5 ?_
    refine any_rest rfl ?_
    refine ops_update (RV := rVal) (ag := false) (cs := [ptrC ep]) (u := ptrC ep) rfl rfl (show rVal Heap.empty [ptrC ep] (ptrC ep) from ⟨rfl, rfl⟩) (by repeat (first | exact Has.here | apply Has.there)) ?_
    obtain ⟨ee, hee⟩ : ∃ ee : CE, ee = ⟨(newX (s0C node)).k, ep, .slice d (vs.map (·.1)).length e, beganT now (wsV vs)⟩ := ⟨_, rfl⟩
    have hmp : mset (node, 1, 1) (ptrC ep) (msC []) = msC [ee] := by subst hee; rfl
    rw [hmp]
    refine walk ?_
    have hbn : (beginS (s0C node) now (wsV vs)).node = node ∧ (beginS (s0C node) now (wsV vs)).life = 1 ∧ (beginS (s0C node) now (wsV vs)).count = 1 := by unfold beginS; rw [if_neg hnw]; exact ⟨rfl, rfl, rfl⟩
    have hTI := TInv.began (now := now) (l := l) (ws := wsV vs) (pq_wsV.trans hws) (by omega) hnw hnow
    refine ex_lendS (.slice d (vs.map (·.1)).length e) fun D1 hD1 hdj1 hle1 hsp => ?_
    refine ex_lend (A := bigL ownW (vs.map (·.2))) (by repeat (first | exact Has.here | apply Has.there)) fun D2 hD2 hdj2 hle2 hD2l => ?_
    have hrd : ∀ q ∈ wsV vs, rWork (union (union H D1) D2) q.2.1 q.2.2 := fun q hq => by
      obtain ⟨q0, hq0, rfl⟩ := List.mem_map.1 hq
      exact work_of (hrb q0 hq0) (ownWs_reads hD2 hD2l q0.2 (List.mem_map.2 ⟨q0, hq0, rfl⟩))
    have hspX := hsp.mono hle2
    have hop : ee.x.op = false := by subst hee; rfl
    refine ex_L (L' := xA (union (union H D1) D2) ee :: cRow p mb (beginS (s0C node) now (wsV vs)) :: cMap mb [ee] :: row p12 28 [I node, I 1, I 1] :: row p6 28 [I 0, I 0, I 0] :: R) ?_ ?_
    · refine Sub.trans ?_ (sub_head (A := rawX ee) (raw_xA hop (by subst hee; rw [show (beganT now (wsV vs)).parts = vs.map (·.1) from wsV_fst]; exact hspX) (by subst hee; exact hrd)))
      refine Sub.trans ?_ (sub_fold (B := [xRow ee (.map (some wb)) hb, mapO iK rC true Heap.empty wb ee.x.works, mapO iK rInt false Heap.empty hb ee.x.heard]) (Sub.refl _) fun h hb' => ⟨wb, hb, hb'⟩)
      subst hee
      unfold cRow
      rw [hbn.1, hbn.2.1, hbn.2.2]
      refine Sub.trans (B := mapO iK rC true H wb (wsV vs) :: mapO iK rInt false H hb [] :: xRowC ep false now (.slice d (vs.map (·.1)).length e) (.map (some wb)) hb :: row p 86 [I node, I 1, I 1, .map (some mb)] :: cMap mb [⟨(newX (s0C node)).k, ep, .slice d (vs.map (·.1)).length e, beganT now (wsV vs)⟩] :: row p12 28 [I node, I 1, I 1] :: row p6 28 [I 0, I 0, I 0] :: R) (by (repeat (first | exact Sub.refl _ | exact Sub.nil _ | (apply sub_pick; (repeat (first | exact Has.here | apply Has.there)); skip) | apply Sub.drop))) ?_
      refine Sub.trans (sub_head (B := mapO iK rC true Heap.empty wb (wsV vs)) rc_weak) ?_
      refine Sub.trans (Sub.cons (sub_head (B := mapO iK rInt false Heap.empty hb []) ri_weak)) ?_
      (repeat (first | exact Sub.refl _ | exact Sub.nil _ | (apply sub_pick; (repeat (first | exact Has.here | apply Has.there)); skip) | apply Sub.drop))
    refine ex_any 5 [row p12 28 [I node, I 1, I 1]] ?_
    refine stepY 0 ?_; refine stepY 1 ?_; refine stepY 2 ?_; refine stepY 3 ?_
    have hnk : fits (newX (s0C node)).Node ∧ fits (newX (s0C node)).Life ∧ fits (newX (s0C node)).Count := ⟨hfn, by show fits (1 : Int); exact fit1c, by show fits ((0 : Int) + 1); exact fit1c⟩
    have hag := againVO_spec (W0 := W0) (H := union (union H D1) D2) (H1 := union (union H D1) D2) (p := p) (mb := mb) (s := beginS (s0C node) now (wsV vs)) (x := newX (s0C node)) (e := ee) hop (.refl _) (by rw [hbn.1]; exact hfn) hnk (by subst hee; exact fun q hq => (hTI.hp q hq).2) (by subst hee; exact fun q hq => (hTI.nn q hq).2) (by subst hee; show ((wsV vs).map (·.1)).length ≤ 1000000; rw [wsV_fst]; omega)
    rw [hbn.1] at hag
    have hep : ee.p = ep := by subst hee; rfl
    have hex : ee.x = beganT now (wsV vs) := by subst hee; rfl
    rw [hep, hex] at hag
    refine gny_call 4 rfl rfl rfl hag fun r5 H5 B hl5 ⟨ys, hys, hok, eB, eH⟩ => ?_
    subst eB eH
    refine ⟨(by (repeat (first | exact Sub.refl _ | exact Sub.nil _ | (apply sub_pick; (repeat (first | exact Has.here | apply Has.there)); skip) | apply Sub.drop))), ?_⟩
    refine any_rest rfl ?_
    refine ops_back hD2 hdj2 (.refl _) ?_
    refine ops_back hD1 hdj1 (.refl _) ?_
    refine walk ?_
    refine finB [ownS rMV 19 216 53 H r5 ys, bigL ownMV ys, cRow p mb (beginS (s0C node) now (wsV vs)), cMap mb [ee], rawX ee, bigL ownW (vs.map (·.2)), ownS rInt 1 8 3 H (.slice d (vs.map (·.1)).length e) (vs.map (·.1))] ?_ (hs := ?_)
    · subst hee
      exact ⟨rfl, vs, hws, hrb, .inr ⟨hne, r5, ys, ep, _, rfl, hys, hok, rfl⟩⟩
    · refine Sub.trans (B := ownS rMV 19 216 53 (union (union H D1) D2) r5 ys :: xA (union (union H D1) D2) ee :: bigL ownMV ys :: cRow p mb (beginS (s0C node) now (wsV vs)) :: cMap mb [ee] :: bigL ownW (vs.map (·.2)) :: ownS rInt 1 8 3 H (.slice d (vs.map (·.1)).length e) (vs.map (·.1)) :: R) (by (repeat (first | exact Sub.refl _ | exact Sub.nil _ | (apply sub_pick; (repeat (first | exact Has.here | apply Has.there)); skip) | apply Sub.drop))) ?_
      refine Sub.trans (sub_flat (union (union H D1) D2) H) ?_
      refine Sub.trans (Sub.cons (sub_head (xA_raw hop))) ?_
      (repeat (first | exact Sub.refl _ | exact Sub.nil _ | (apply sub_pick; (repeat (first | exact Has.here | apply Has.there)); skip) | apply Sub.drop))
end Go.Proofs.Ythoafjeampbkeaa
