/- A coordinator: Begin. -/
import Derived.Test.YthoafjeampbkeaaCTM
set_option linter.unusedVariables false
set_option linter.unusedSimpArgs false
namespace Go.Proofs.Ythoafjeampbkeaa
open Go Go.Sx Go.Proofs
theorem works0_snoc {w : Work} : ∀ {l : List Work} {i : Int}, works0 i (l ++ [w]) = works0 i l ++ if 0 < w.Take.length + w.Drop.length then [(i + l.length, w)] else []
  | [], i => by simp [works0]
  | a :: l, i => by
    rw [List.cons_append]
    have ih := works0_snoc (w := w) (l := l) (i := i + 1)
    have e : i + ((l.length + 1 : Nat) : Int) = i + 1 + l.length := by omega
    unfold works0
    rw [List.length_cons, e]
    split
    · rw [ih, List.cons_append]
    · exact ih
theorem mset_fresh {κ ν : Type} [DecidableEq κ] {k : κ} {v : ν} : ∀ {m : List (κ × ν)}, mget k m = none → mset k v m = m ++ [(k, v)]
  | [], _ => rfl
  | (k', v') :: m, h => by
    unfold mget at h
    split at h
    · cases h
    next hk => unfold mset; rw [if_neg hk, mset_fresh h, List.cons_append]
def pq (ws : List (Int × CW)) : List (Int × Work) := ws.map fun q => (q.1, q.2.2)
theorem pq_fst {ws : List (Int × CW)} : (pq ws).map (·.1) = ws.map (·.1) := by unfold pq; rw [List.map_map]; rfl
set_option maxHeartbeats 8000000 in
set_option maxRecDepth 20000 in
theorem begin_spec {W0 : World} {H : Heap} {p n : Nat} {s : CS} {v : Value} {l : List Work} {now : Int} (I0 : CInv n s) (hn : n ≤ 1000) (hnow : fits now) (hw : SlB rWork 3 56 H v l) (hl : l.length ≤ 1000) :
    Ct Try.prog 11 #[.pointer (some ⟨p, 0, none⟩), v, I now] W0 H [coordO H p s]
      (fun r H' B => ∃ ws, pq ws = works0 0 l ∧ ((ws = [] ∧ r = .tuple #[.agg #[I 0, I 0, I 0], nilS, I 4] ∧ B = [coordO H' p s]) ∨
        (ws ≠ [] ∧ ∃ v1, r = .tuple #[.agg (newX s).cv.toArray, v1, I 0] ∧ B = [ownS rMessage 19 216 53 H' v1 (againL s.node (newX s) (beganT now ws)), coordO H' p (beginS s now ws)]))) := by
  refine Ct.go (vs := [.pointer (some ⟨p, 0, none⟩), v, I now]) fun R => ?_
  obtain ⟨b0, c0, rfl, hc0, hd0⟩ := hw.1.shape
  have hcap : (1001 : Nat) * 8 ≤ cap47 := by decide
  refine walk ?_
  refine ops_alloc rfl fun p6 _ => ?_
  refine walk ?_
  refine ops_makeMap iK rCW true rfl fun wb _ => ?_
  refine walk ?_
  refine ops_makeMap iK rInt false rfl fun hb _ => ?_
  refine walk ?_
  refine ops_box rfl rfl fun ep _ => ?_
  refine walk ?_
  refine ex_loop (σ := Nat × (Option Addr × Nat) × List (Int × CW) × Heap) (fun u => u.1 ≤ l.length ∧ H.le u.2.2.2 ∧ pq u.2.2.1 = works0 0 (l.take u.1)) (fun u => [(0, .pointer (some ⟨p, 0, none⟩)), (6, .pointer (some ⟨p6, 0, none⟩)), (7, nilS), (8, I 0), (9, .pointer (some ⟨ep, 0, none⟩)), (18, .slice b0 l.length c0), (19, I l.length), (20, I u.1)]) (fun u => u.2.2.2)
    (fun u => ownS rInt 1 8 3 H (.slice u.2.1.1 (u.2.2.1.map (·.1)).length u.2.1.2) (u.2.2.1.map (·.1)) :: xRowC ep false now (.slice u.2.1.1 (u.2.2.1.map (·.1)).length u.2.1.2) (.map (some wb)) hb :: mapO iK rCW true u.2.2.2 wb u.2.2.1 :: mapO iK rInt false H hb [] :: row p6 28 [I 0, I 0, I 0] :: coordO H p s :: R) (fun u => l.length - u.1) (0, (none, 0), [], H) ⟨Nat.zero_le _, .refl _, rfl⟩ (hs0 := ?_) fun ⟨j, ⟨d, e⟩, ws, HK⟩ ⟨hj0, hlK, hws⟩ K hL => ?_
  rotate_left
  · show Sub _ (ownS rInt 1 8 3 H (.slice none 0 0) [] :: _)
    refine Sub.trans ?_ ownS_nil
    (repeat (first | exact Sub.refl _ | exact Sub.nil _ | (apply sub_pick; (repeat (first | exact Has.here | apply Has.there)); skip) | apply Sub.drop))
  simp only at hj0 hlK hws
  dsimp only
  have hwl : (ws.map (·.1)).length ≤ j := by
    have h1 := works0_len (i := 0) (l := l.take j)
    rw [← hws, List.length_take] at h1
    unfold pq at h1
    simp only [List.length_map] at h1 ⊢
    omega
  refine walk ?_
  refine ex_if rfl (fun hk => ?_) (fun hk => ?_)
  · have hk1 : j < l.length := by omega
    have ht := List.take_succ_eq_append_getElem hk1
    have hsn := works0_snoc (w := l[j]) (l := l.take j) (i := 0)
    rw [← ht, ← hws, List.length_take, Nat.min_eq_left hj0, Int.zero_add] at hsn
    refine walk ?_
    refine ops_ixp rfl rfl (hw.1.mono hlK) hk1 fun b o cc hr hc => ?_
    generalize l[j] = w at hr hc hsn
    have hcc := hc
    obtain ⟨wr, wt, wd⟩ := w
    obtain ⟨u1, u2, rfl, g1, g2, g3⟩ := hc
    obtain ⟨b1, c1, rfl, hc1, hd1⟩ := g2.1.shape
    obtain ⟨b2, c2, rfl, hc2, hd2⟩ := g3.1.shape
    dsimp only at g1 g2 g3 hsn hc1 hc2
    change HRow HK b o [I wr, .slice b1 wt.length c1, .slice b2 wd.length c2] at hr
    refine walk ?_
    refine ops_ldNH rfl rfl hr rfl ?_
    refine ops_alloc rfl fun p11 _ => ?_
    have hgs1 := g2.2
    have hgs2 := g3.2
    simp only [cap47] at hgs1 hgs2
    refine walk ?_
    refine ex_if rfl (fun hq => ?_) (fun hq => ?_)
    · have hq1 : 0 < wt.length + wd.length := by omega
      rw [if_pos hq1] at hsn
      have hfj : fits (j : Int) := by unfold fits; omega
      refine walk ?_
      refine ops_app1 (y := (j : Int)) rfl rfl rfl ⟨rfl, hfj⟩ (by simp only [cap47] at hcap ⊢; omega) fun d3 e3 => ?_
      refine walk ?_
      refine ex_any 7 [row p11 41 [I wr, .slice b1 wt.length c1, .slice b2 wd.length c2], xRowC ep false now (.slice d3 ((ws.map (·.1)).length + 1) e3) (.map (some wb)) hb] ?_
      refine stepY 0 ?_; refine stepY 1 ?_; refine stepY 2 ?_; refine stepY 3 ?_; refine stepY 4 ?_; refine stepY 5 ?_
      refine gny_call 6 rfl rfl rfl (cOwn_spec (W0 := W0) (H := HK) (m := ⟨wr, wt, wd⟩) (c := [I wr, .slice b1 wt.length c1, .slice b2 wd.length c2]) hcc) fun r5 H5 B hl5 ⟨cs5, er, hcs5, eB⟩ => ?_
      subst er eB
      refine ⟨(by (repeat (first | exact Sub.refl _ | exact Sub.nil _ | (apply sub_pick; (repeat (first | exact Has.here | apply Has.there)); skip) | apply Sub.drop))), ?_⟩
      refine any_rest rfl ?_
      refine ops_L (L' := mapO iK rCW true H5 wb ws :: ownS rInt 1 8 3 HK (.slice d3 ((ws.map (·.1)).length + 1) e3) (ws.map (·.1) ++ [(j : Int)]) :: xRowC ep false now (.slice d3 ((ws.map (·.1)).length + 1) e3) (.map (some wb)) hb :: mapO iK rInt false H hb [] :: row p6 28 [I 0, I 0, I 0] :: coordO H p s :: R) ?_ ?_
      · refine Sub.trans ?_ (mapO_up hl5)
        (repeat (first | exact Sub.refl _ | exact Sub.nil _ | (apply sub_pick; (repeat (first | exact Has.here | apply Has.there)); skip) | apply Sub.drop))
      refine ops_update (RV := rCW) (ag := true) (cs := cs5) (u := (cs5, (⟨wr, wt, wd⟩ : Work))) rfl rfl ⟨rfl, hcs5⟩ (by repeat (first | exact Has.here | apply Has.there)) ?_
      have hfr : mget (j : Int) ws = none := by
        rw [mget_none]
        intro hm
        have h2 : (j : Int) ∈ (pq ws).map (·.1) := by rw [pq_fst]; exact hm
        rw [hws] at h2
        obtain ⟨q, hq3, hq4⟩ := List.mem_map.1 h2
        have := works0_lt (i := 0) (Int.le_refl _) q hq3
        rw [List.length_take] at this
        omega
      rw [mset_fresh hfr]
      have e1 : ws.map (·.1) ++ [(j : Int)] = (ws ++ [((j : Int), (cs5, (⟨wr, wt, wd⟩ : Work)))]).map (·.1) := by rw [List.map_append]; rfl
      rw [show (ws.map (·.1)).length + 1 = ((ws ++ [((j : Int), (cs5, (⟨wr, wt, wd⟩ : Work)))]).map (·.1)).length by simp, e1]
      refine walk ?_
      refine out_next hL (j + 1, (d3, e3), ws ++ [((j : Int), (cs5, (⟨wr, wt, wd⟩ : Work)))], H5) ⟨by simp only; omega, hlK.trans hl5, ?_⟩ (hs := ?_)
      · simp only
        rw [hsn]
        unfold pq
        rw [List.map_append]
        rfl
      · refine Sub.trans ?_ (sub_flat (R := rInt) HK H)
        (repeat (first | exact Sub.refl _ | exact Sub.nil _ | (apply sub_pick; (repeat (first | exact Has.here | apply Has.there)); skip) | apply Sub.drop))
    · have hq1 : ¬ 0 < wt.length + wd.length := by omega
      rw [if_neg hq1, List.append_nil] at hsn
      refine walk ?_
      exact out_next hL (j + 1, (d, e), ws, HK) ⟨by simp only; omega, hlK, hsn.symm⟩
  · clear hL
    obtain rfl : j = l.length := by omega
    rw [List.take_length] at hws
    refine walk ?_
    refine ex_if rfl (fun hq => ?_) (fun hq => ?_)
    · have hws0 : ws = [] := by
        cases ws with
        | nil => rfl
        | cons a r => simp at hq; omega
      refine walk ?_
      refine finB [coordO HK p s] ?_ (hs := ?_)
      · exact ⟨ws, hws, .inl ⟨hws0, rfl, rfl⟩⟩
      · refine Sub.trans ?_ (coord_up hlK)
        (repeat (first | exact Sub.refl _ | exact Sub.nil _ | (apply sub_pick; (repeat (first | exact Has.here | apply Has.there)); skip) | apply Sub.drop))
    have hne : ws ≠ [] := fun h => hq (by rw [h]; rfl)
    have hcb := I0.c0
    have hfn := I0.fn
    have hfl := I0.fl
    refine ex_open (A := coordO H p s) (σ := Nat × List CE) (B := fun a => [cRow p a.1 s, cMap a.1 a.2, bigL (xA H) a.2]) (p := fun a => CS.ts s = tsC a.2) (by repeat (first | exact Has.here | apply Has.there)) (fun h ⟨mb, zs, hb, hk⟩ => ⟨(mb, zs), hk, hb⟩) fun ⟨mb, zs⟩ hts => ?_
    dsimp only at hts ⊢
    refine walk ?_
    refine ex_any 14 [row p 86 [I s.node, I s.life, I (s.count + 1), .map (some mb)]] ?_
    refine stepY 0 ?_; refine stepY 1 ?_; refine stepY 2 ?_; refine stepY 3 ?_; refine stepY 4 ?_; refine stepY 5 ?_; refine stepY 6 ?_; refine stepY 7 ?_; refine stepY 8 ?_; refine stepY 9 ?_; refine stepY 10 ?_; refine stepY 11 ?_; refine stepY 12 ?_
    refine gny_alloc 13 rfl rfl fun p12 _ => ?_
    refine any_rest rfl ?_
    refine walk ?_
    obtain ⟨hnd, hent⟩ := I0.entry hts
    have hfr : ∀ z ∈ zs, z.k ≠ (newX s).k := fun z hz hk => by
      have h2 := (hent z hz).1
      rw [hk, I0.fresh] at h2; cases h2
    refine ex_any 6 [row p 86 [I s.node, I s.life, I (s.count + 1), .map (some mb)], row p12 28 [I s.node, I s.life, I (s.count + 1)]] ?_
    refine stepY 0 ?_; refine stepY 1 ?_; refine stepY 2 ?_; refine stepY 3 ?_; refine stepY 4 ?_; refine stepY 5 ?_
    refine any_rest rfl ?_
    refine ops_update (RV := rVal) (ag := false) (cs := [ptrC ep]) (u := ptrC ep) rfl rfl (show rVal Heap.empty [ptrC ep] (ptrC ep) from ⟨rfl, rfl⟩) (by repeat (first | exact Has.here | apply Has.there)) ?_
    obtain ⟨ee, hee⟩ : ∃ ee : CE, ee = ⟨(newX s).k, ep, .slice d (ws.map (fun q : Int × CW => q.1)).length e, beganT now ws⟩ := ⟨_, rfl⟩
    rw [show mset (s.node, s.life, s.count + 1) (ptrC ep) (msC zs) = msC (zs ++ [ee]) by subst hee; exact kv_new (f := fun e => ptrC e.p) (e := ⟨(newX s).k, ep, .slice d (ws.map (fun q : Int × CW => q.1)).length e, beganT now ws⟩) hfr]
    refine ops_freeze (.slice d (ws.map (·.1)).length e) fun H2 hl2 hsp => ?_
    refine walk ?_
    have hts2 : (beginS s now ws).ts = tsC (zs ++ [ee]) := by
      unfold beginS
      rw [if_neg hne]
      show mset (newX s).k (beganT now ws) s.ts = _
      rw [hts]
      subst hee
      exact kv_new (f := CE.x) (e := ⟨(newX s).k, ep, .slice d (ws.map (fun q : Int × CW => q.1)).length e, beganT now ws⟩) hfr
    have hbn : (beginS s now ws).node = s.node ∧ (beginS s now ws).life = s.life ∧ (beginS s now ws).count = s.count + 1 := by unfold beginS; rw [if_neg hne]; exact ⟨rfl, rfl, rfl⟩
    have hTI := TInv.began (now := now) (l := l) hws (by omega) hne hnow
    refine ex_L (L' := xA H2 ee :: cRow p mb (beginS s now ws) :: cMap mb (zs ++ [ee]) :: bigL (xA H) zs :: row p12 28 [I s.node, I s.life, I (s.count + 1)] :: row p6 28 [I 0, I 0, I 0] :: R) ?_ ?_
    · refine Sub.trans (B := xRow ee (.map (some wb)) hb :: xWorks HK ee (.map (some wb)) :: xHeard HK ee hb :: cRow p mb (beginS s now ws) :: cMap mb (zs ++ [ee]) :: bigL (xA H) zs :: row p12 28 [I s.node, I s.life, I (s.count + 1)] :: row p6 28 [I 0, I 0, I 0] :: R) ?_ (xA_shut (by subst hee; exact hsp) hl2)
      subst hee
      unfold cRow
      rw [hbn.1, hbn.2.1, hbn.2.2]
      refine Sub.trans (B := xHeard H ⟨(newX s).k, ep, .slice d (ws.map (·.1)).length e, beganT now ws⟩ hb :: mapO iK rCW true HK wb ws :: xRowC ep false now (.slice d (ws.map (·.1)).length e) (.map (some wb)) hb :: row p 86 [I s.node, I s.life, I (s.count + 1), .map (some mb)] :: cMap mb (zs ++ [⟨(newX s).k, ep, .slice d (ws.map (·.1)).length e, beganT now ws⟩]) :: bigL (xA H) zs :: row p12 28 [I s.node, I s.life, I (s.count + 1)] :: row p6 28 [I 0, I 0, I 0] :: R) (by (repeat (first | exact Sub.refl _ | exact Sub.nil _ | (apply sub_pick; (repeat (first | exact Has.here | apply Has.there)); skip) | apply Sub.drop))) ?_
      refine Sub.trans (mapO_up hlK) ?_
      refine Sub.trans (Sub.cons (show Sub _ (xWorks HK ⟨(newX s).k, ep, .slice d (ws.map (·.1)).length e, beganT now ws⟩ (.map (some wb)) :: _) from fun h ⟨h1, h2, a, r⟩ => ⟨h1, h2, .inr ⟨rfl, wb, rfl, a⟩, r⟩)) ?_
      (repeat (first | exact Sub.refl _ | exact Sub.nil _ | (apply sub_pick; (repeat (first | exact Has.here | apply Has.there)); skip) | apply Sub.drop))
    refine ex_any 5 [row p12 28 [I s.node, I s.life, I (s.count + 1)]] ?_
    refine stepY 0 ?_; refine stepY 1 ?_; refine stepY 2 ?_; refine stepY 3 ?_
    have hnk : fits (newX s).Node ∧ fits (newX s).Life ∧ fits (newX s).Count := ⟨hfn, hfl, by show fits (s.count + 1); unfold fits; omega⟩
    have hag := again_spec (W0 := W0) (H := H2) (H1 := H2) (p := p) (mb := mb) (s := beginS s now ws) (x := newX s) (e := ee) (.refl _) (by rw [hbn.1]; exact hfn) hnk (by subst hee; exact fun q hq => (hTI.hp q hq).2) (by subst hee; exact fun q hq => (hTI.nn q hq).2) (by subst hee; show (ws.map (·.1)).length ≤ 1000000; omega)
    rw [hbn.1] at hag
    have hep : ee.p = ep := by subst hee; rfl
    have hex : ee.x = beganT now ws := by subst hee; rfl
    rw [hep, hex] at hag
    refine gny_call 4 rfl rfl rfl hag fun r5 H5 B hl5 eB => ?_
    subst eB
    refine ⟨(by (repeat (first | exact Sub.refl _ | exact Sub.nil _ | (apply sub_pick; (repeat (first | exact Has.here | apply Has.there)); skip) | apply Sub.drop))), ?_⟩
    refine any_rest rfl ?_
    refine walk ?_
    refine finB [ownS rMessage 19 216 53 H5 r5 (againL s.node (newX s) (beganT now ws)), coordO H5 p (beginS s now ws)] ?_ (hs := ?_)
    · exact ⟨ws, hws, .inr ⟨hne, r5, rfl, rfl⟩⟩
    · refine Sub.trans (B := xA H5 ee :: bigL (xA H) zs :: ownS rMessage 19 216 53 H5 r5 (againL s.node (newX s) (beganT now ws)) :: cRow p mb (beginS s now ws) :: cMap mb (zs ++ [ee]) :: R) (by (repeat (first | exact Sub.refl _ | exact Sub.nil _ | (apply sub_pick; (repeat (first | exact Has.here | apply Has.there)); skip) | apply Sub.drop))) ?_
      refine Sub.trans (Sub.cons (xL_up (hlK.trans (hl2.trans hl5)))) ?_
      refine Sub.trans (show Sub _ (xA H5 ee :: bigL (xA H5) (zs ++ []) :: _) by rw [List.append_nil]; exact Sub.refl _) ?_
      refine bigL_in.trans ?_
      refine Sub.trans ?_ (Sub.cons (coord_fold (H := H5) (mb := mb) (s := beginS s now ws) hts2))
      (repeat (first | exact Sub.refl _ | exact Sub.nil _ | (apply sub_pick; (repeat (first | exact Has.here | apply Has.there)); skip) | apply Sub.drop))
end Go.Proofs.Ythoafjeampbkeaa
