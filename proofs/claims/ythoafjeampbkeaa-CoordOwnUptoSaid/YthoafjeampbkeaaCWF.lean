/- CoordOwn, walked: works that are handed in aren't kept, answers share no memory with the coordinator. -/
import Derived.Test.YthoafjeampbkeaaCWE
import Derived.Test.YthoafjeampbkeaaE45
set_option linter.unusedVariables false
set_option linter.unusedSimpArgs false
namespace Go.Proofs.Ythoafjeampbkeaa
open Go Go.Sx Go.Proofs
theorem ins_work {H : Heap} {y : WV} {c : List Value} (hr : fits y.w.Robot) (h : SlB rStr 1 16 H (.slice y.a.1 y.w.Take.length y.a.2) y.w.Take ∧ SlB rStr 1 16 H (.slice y.b.1 y.w.Drop.length y.b.2) y.w.Drop) (hc : rWV H c y) : rWork H c y.w := by
  obtain rfl : c = y.cv := hc
  exact ⟨_, _, rfl, hr, h.1, h.2⟩
theorem own_robots {H : Heap} {v : Value} {l : List Work} (h0 : SlB rWork 3 56 H v l) : ∀ w ∈ ownC l, fits w.Robot := fun w hw => by
  unfold ownC at hw
  obtain ⟨w0, hw0, rfl⟩ := List.mem_map.1 hw
  obtain ⟨c, hc⟩ := slr_mem h0.1 (List.mem_of_mem_take hw0)
  obtain ⟨_, _, _, hr, _⟩ := hc
  exact hr
theorem ownMVs_reads {H : Heap} : ∀ {ys : List MV} {D : Heap}, bigL ownMV ys D → D.le H → ∀ y ∈ ys, SlB rStr 1 16 H (.slice y.a.1 y.m.Work.Take.length y.a.2) y.m.Work.Take ∧ SlB rStr 1 16 H (.slice y.b.1 y.m.Work.Drop.length y.b.2) y.m.Work.Drop
  | [], _, _, _, y, hy => by cases hy
  | x :: ys, D, ⟨a1, a2, x1, y1, _, le1, le2⟩, hl, y, hy => by
    rcases List.mem_cons.1 hy with rfl | hy
    · exact ownW_reads (v := y.wv) x1 (le1.trans hl)
    · exact ownMVs_reads (ys := ys) y1 (le2.trans hl) y hy
theorem ownMV_open {v : MV} {L : List HProp} : Sub (ownMV v :: L) (ownS rStr 1 16 9 Heap.empty (.slice v.a.1 v.m.Work.Take.length v.a.2) v.m.Work.Take :: ownS rStr 1 16 9 Heap.empty (.slice v.b.1 v.m.Work.Drop.length v.b.2) v.m.Work.Drop :: L) := ownW_open (v := v.wv)
theorem St_pl {node : Int} {ws : List (Int × CW)} {i : Nat} (h : ws.length ≤ 8) : ∀ key t, mget key (StC node ws i).ts = some t → t.parts.length ≤ 8 := fun key t hg => by
  have hg' : mget key [((node, (1 : Int), (1 : Int)), txI ws i)] = some t := hg
  simp only [mget] at hg'
  split at hg'
  · cases hg'
    unfold txI
    split <;> simpa using h
  · cases hg'
theorem voteC_reads {H : Heap} {node p : Int} (hn : fits node) (hp : fits p) : rMessage H [I p, I node, I 2, I node, I 1, I 1, I 0, nilS, nilS, .bool true, I 0, I 0, I 0, I 0, nilS, I 0, I 0, I 0, nilS] (voteC node p) :=
  ⟨nilS, nilS, nilS, nilS, rfl, hp, hn, by unfold fits; simp [voteC], hn, by unfold fits; simp [voteC, xO], by unfold fits; simp [voteC, xO], fits0, SlB.nil, SlB.nil, fits0, fits0, fits0, fits0, SlB.nil, fits0, fits0, fits0, SlB.nil⟩
set_option maxHeartbeats 32000000 in
set_option maxRecDepth 20000 in
theorem coordOwn_spec {W0 : World} {H : Heap} {v : Value} {node : Int} {works : List Work} (hf : fits node) (h0 : SlB rWork 3 56 H v works) :
    Ct Try.prog 3 #[I node, v] W0 H [] (fun r H' B => r = .bool true ∧ B = []) := by
  refine Ct.go (vs := [I node, v]) fun R => ?_
  obtain ⟨b0, c0, rfl, hc0, hd0⟩ := h0.1.shape
  have hor := own_robots h0
  have ho8 : (ownC works).length ≤ 8 := ownC_len
  refine walk ?_
  refine ops_call rfl rfl (cnew_spec (node := node) (life := 1)) fun r1 H1 B hl1 ⟨p, er, eB, eH⟩ => ?_
  subst er eB eH
  refine walk ?_
  refine ops_call (vs := []) rfl rfl cawake_spec fun r2 H2 B hl2 ⟨er, eB⟩ => ?_
  subst er eB
  refine walk ?_
  refine ops_call rfl rfl (ownCO_spec (W0 := W0) (H := H2) (h0.mono hl2)) fun r3 H3 B hl3 ⟨ins, hins, eB, eH⟩ => ?_
  subst eB eH
  refine ops_freeze r3 fun H4 hl4 hsi => ?_
  obtain ⟨bi, ci, rfl, _, _⟩ := hsi.1.shape
  have hil : ins.length ≤ 8 := by have := congrArg List.length hins; rw [List.length_map] at this; omega
  have hir : ∀ y ∈ ins, fits y.w.Robot := fun y hy => hor _ (by rw [← hins]; exact List.mem_map.2 ⟨y, hy, rfl⟩)
  refine walk ?_
  refine ops_L (L' := coordO H1 p ⟨node, 1, 0, []⟩ :: bigL ownW ins :: R) (by (repeat (first | exact Sub.refl _ | exact Sub.nil _ | (apply sub_pick; (repeat (first | exact Has.here | apply Has.there)); skip) | apply Sub.drop))) ?_
  refine ops_open (A := coordO H1 p (CS.mk node 1 0 [])) (σ := Nat × List CE) (B := fun a => [cRow p a.1 (CS.mk node 1 0 []), cMap a.1 a.2, bigL (xA H1) a.2]) (p := fun a => CS.ts (CS.mk node 1 0 []) = tsC a.2) (by repeat (first | exact Has.here | apply Has.there)) (fun h ⟨mb, zs, hb, hk⟩ => ⟨(mb, zs), hk, hb⟩) fun ⟨mb, zs⟩ hts => ?_
  dsimp only at hts ⊢
  have hz : zs = [] := by cases zs with
    | nil => rfl
    | cons a r => cases hts
  subst hz
  refine ops_lend (A := bigL ownW ins) (by repeat (first | exact Has.here | apply Has.there)) fun D hD hdj hle hDle => ?_
  have hsw : SlB rWork 3 56 (union H4 D) (.slice bi ins.length ci) (ins.map (·.w)) := ⟨slr_map (R := rWV) (R' := rWork) (f := (·.w)) (fun y hy c hc => ins_work (hir y hy) (ownWs_reads hD hDle y hy) hc) (hsi.mono hle).1, by rw [List.length_map]; exact hsi.2⟩
  rw [hins] at hsw
  refine ops_call rfl rfl (beginO_spec (W0 := W0) (H := union H4 D) (p := p) (mb := mb) (node := node) (now := 0) hf fits0 hsw (by omega)) fun r5 H5 B hl5 ⟨eH, vs, hws, hrb, hcase⟩ => ?_
  subst eH
  refine ops_back hD hdj (.refl _) ?_
  rcases hcase with ⟨hv0, er, eB⟩ | ⟨hne, v1, ys, ep, pv, er, hys, hok, eB⟩
  · subst er eB
    refine ops_L (L' := coordO H4 p ⟨node, 1, 0, []⟩ :: bigL ownW ins :: R) ?_ ?_
    · refine Sub.trans (B := cRow p mb ⟨node, 1, 0, []⟩ :: cMap mb [] :: bigL ownW ins :: R) (by (repeat (first | exact Sub.refl _ | exact Sub.nil _ | (apply sub_pick; (repeat (first | exact Has.here | apply Has.there)); skip) | apply Sub.drop))) ?_
      refine Sub.trans (B := cRow p mb ⟨node, 1, 0, []⟩ :: cMap mb [] :: bigL (xA H4) [] :: bigL ownW ins :: R) (Sub.cons (Sub.cons bigL_nil)) ?_
      exact coord_fold (H := H4) (mb := mb) (zs := []) (s := ⟨node, 1, 0, []⟩) rfl
    refine walk ?_
    refine ops_alloc rfl fun p7 _ => ?_
    refine walk ?_
    refine ops_call rfl rfl (ownC_spec (W0 := W0) (H := H4) (h0.mono (hl2.trans hl4))) fun r9 H9 B hl9 eB => ?_
    subst eB
    refine ops_freeze r9 fun H10 hl10 hs10 => ?_
    refine walk ?_
    refine ops_call rfl rfl (rBegin2_spec (W0 := W0) (H := H10) (m := ⟨node, 1, 0, []⟩) (c := [I node, I 1, I 0, nilS]) (now := 0) ⟨nilS, rfl, hf, fit1c, fits0, SlB.nil⟩ hs10 (by omega) fits0 (by show fits ((0 : Int) + 1); exact fit1c) (by simp)) fun r11 H11 B hl11 ⟨c2, y, v2, e2, out2, m2, er, hR, hrc2, eB⟩ => ?_
    subst er eB
    obtain ⟨rfl, rfl, rfl, hpi⟩ := (pi0 hf).begin (by omega) ho8 fits0 (begA_nil hws hv0) hR
    refine ops_freeze v2 fun H12 hl12 hs12 => ?_
    obtain ⟨⟨bd, cd⟩, rfl⟩ := CA_of hrc2
    have hl8 := hl9.trans (hl10.trans (hl11.trans hl12))
    have hsiB := hsi.mono hl8
    refine walk ?_
    refine ops_alloc rfl fun p10 _ => ?_
    refine ops_alloc rfl fun p11 _ => ?_
    refine walk ?_
    refine ex_loop (σ := Nat) (fun j => j ≤ ins.length) (fun j => [(0, I node), (5, .pointer (some ⟨p, 0, none⟩)), (6, .slice bi ins.length ci), (7, .pointer (some ⟨p7, 0, none⟩)), (8, nilS), (9, I 4), (12, v2), (51, I ins.length), (52, I j)]) (fun _ => H12) (fun j => bigL ownW (ins.drop j) :: coordO H4 p ⟨node, 1, 0, []⟩ :: row p7 28 [I 0, I 0, I 0] :: R) (fun j => ins.length - j) 0 (Nat.zero_le _) fun j hj0 K hL => ?_
    refine walk ?_
    refine ex_if rfl (fun hj => ?_) (fun hj => ?_)
    · have hj1 : j < ins.length := by omega
      have hdr := List.drop_eq_getElem_cons hj1
      refine walk ?_
      refine ops_ixp rfl rfl hsiB.1 hj1 fun b o cc hr hc => ?_
      rw [hdr]
      generalize ins[j] = y at hr hc ⊢
      obtain rfl : cc = y.cv := hc
      obtain ⟨⟨yr, yt, yd⟩, ⟨d1, e1'⟩, ⟨d2, e2'⟩⟩ := y
      change HRow H12 b o [I yr, .slice d1 yt.length e1', .slice d2 yd.length e2'] at hr
      refine walk ?_
      refine ops_ldNH rfl rfl hr rfl ?_
      refine ops_L (L' := ownS rStr 1 16 9 Heap.empty (.slice d1 yt.length e1') yt :: ownS rStr 1 16 9 Heap.empty (.slice d2 yd.length e2') yd :: bigL ownW (ins.drop (j + 1)) :: coordO H4 p ⟨node, 1, 0, []⟩ :: row p7 28 [I 0, I 0, I 0] :: R) ?_ ?_
      · refine Sub.trans ?_ (Sub.trans (bigL_out (l1 := []) (x := (⟨⟨yr, yt, yd⟩, (d1, e1'), (d2, e2')⟩ : WV)) (l2 := ins.drop (j + 1))) ownW_open)
        exact tsA
      refine ops_call rfl rfl (spoil_spec (W0 := W0) (HS1 := Heap.empty) (HS2 := Heap.empty) (rob := yr) (d1 := d1) (e1 := e1') (d2 := d2) (e2 := e2') (t := yt) (dd := yd)) fun r9 HC B hl9 ⟨eB, eH⟩ => ?_
      subst eB eH
      refine walk ?_
      exact out_next hL (j + 1) (by omega)
    clear hL
    refine walk ?_
    refine ops_pcall rfl rfl (sameAll_spec (l := []) (show SlB rMessage 19 216 H12 nilS [] from SlB.nil).1 hs12.1) ?_
    refine walk ?_
    refine ex_loop (σ := Unit) (fun _ => True) (fun _ => [(0, I node), (5, .pointer (some ⟨p, 0, none⟩)), (7, .pointer (some ⟨p7, 0, none⟩)), (8, nilS), (9, I 4), (12, v2), (15, .bool true), (65, I 0), (66, I 0)]) (fun _ => H12) (fun _ => coordO H4 p ⟨node, 1, 0, []⟩ :: row p7 28 [I 0, I 0, I 0] :: R) (fun _ => 0) () trivial fun _ _ K hL => ?_
    refine walk ?_
    clear hL
    refine ops_call rfl rfl (ct_up (step_spec (W0 := W0) (H := H12) (p := p) (n := 0) (s := ⟨node, 1, 0, []⟩) (now := 1) (cinv0 hf fit1c) (by omega) fit1c (fun k t h => (by cases h))) (fun _ hc => coord_mono hl8 hc)) fun r15 H15 B hl15 ⟨q1, q2, er, eB⟩ => ?_
    subst er eB
    refine walk ?_
    refine fin0 ?_
    exact ⟨rfl, rfl⟩
  subst er eB
  have hnw : wsV vs ≠ [] := fun h => hne (by unfold wsV at h; exact List.map_eq_nil_iff.1 h)
  rw [begin_St hnw]
  refine ops_L (L' := ownS rMV 19 216 53 H4 v1 ys :: ownS rInt 1 8 3 H4 pv (vs.map (·.1)) :: bigL ownMV ys :: cRow p mb (StC node (wsV vs) 0) :: cMap mb [⟨(newX (s0C node)).k, ep, pv, beganT 0 (wsV vs)⟩] :: rawX ⟨(newX (s0C node)).k, ep, pv, beganT 0 (wsV vs)⟩ :: bigL ownW (vs.map (·.2)) :: bigL ownW ins :: R) ?_ ?_
  · refine Sub.trans (B := ownS rMV 19 216 53 (union H4 D) v1 ys :: ownS rInt 1 8 3 (union H4 D) pv (vs.map (·.1)) :: bigL ownMV ys :: cRow p mb (StC node (wsV vs) 0) :: cMap mb [⟨(newX (s0C node)).k, ep, pv, beganT 0 (wsV vs)⟩] :: rawX ⟨(newX (s0C node)).k, ep, pv, beganT 0 (wsV vs)⟩ :: bigL ownW (vs.map (·.2)) :: bigL ownW ins :: R) (by (repeat (first | exact Sub.refl _ | exact Sub.nil _ | (apply sub_pick; (repeat (first | exact Has.here | apply Has.there)); skip) | apply Sub.drop))) ?_
    exact (sub_flat (union H4 D) H4).trans (Sub.cons (sub_flat (union H4 D) H4))
  refine ops_freeze v1 fun H6 hl6 hsv => ?_
  obtain ⟨bv, cv', rfl, _, _⟩ := hsv.1.shape
  refine ops_freeze pv fun H7 hl7 hsp => ?_
  refine ops_lend (A := bigL ownW (vs.map (·.2))) (by repeat (first | exact Has.here | apply Has.there)) fun D2 hD2 hdj2 hle2 hD2l => ?_
  have hrd : ∀ q ∈ wsV vs, rWork (union H7 D2) q.2.1 q.2.2 := fun q hq => by
    obtain ⟨q0, hq0, rfl⟩ := List.mem_map.1 hq
    exact work_of (hrb q0 hq0) (ownWs_reads hD2 hD2l q0.2 (List.mem_map.2 ⟨q0, hq0, rfl⟩))
  have hsp8 := hsp.mono hle2
  have hl48 := hl6.trans (hl7.trans hle2)
  generalize union H7 D2 = H8 at *
  refine ops_L (L' := coordO H8 p (StC node (wsV vs) 0) :: bigL ownMV ys :: bigL ownW ins :: R) ?_ ?_
  · refine Sub.trans (B := rawX ⟨(newX (s0C node)).k, ep, pv, beganT 0 (wsV vs)⟩ :: cRow p mb (StC node (wsV vs) 0) :: cMap mb [⟨(newX (s0C node)).k, ep, pv, beganT 0 (wsV vs)⟩] :: bigL ownMV ys :: bigL ownW ins :: R) (by (repeat (first | exact Sub.refl _ | exact Sub.nil _ | (apply sub_pick; (repeat (first | exact Has.here | apply Has.there)); skip) | apply Sub.drop))) ?_
    refine Sub.trans (sub_head (raw_xA (H := H8) rfl (by rw [show (beganT 0 (wsV vs)).parts = vs.map (·.1) from wsV_fst]; exact hsp8) hrd)) ?_
    refine Sub.trans (Sub.cons (bigL_nil (A := xA H8))) ?_
    refine Sub.trans (bigL_snoc (A := xA H8) (l := [])) ?_
    refine Sub.trans ?_ (coord_fold (H := H8) (mb := mb) (zs := [⟨(newX (s0C node)).k, ep, pv, beganT 0 (wsV vs)⟩]) (s := StC node (wsV vs) 0) (by unfold StC txI; rw [if_pos (List.length_pos_iff.2 hnw)]; rfl))
    (repeat (first | exact Sub.refl _ | exact Sub.nil _ | (apply sub_pick; (repeat (first | exact Has.here | apply Has.there)); skip) | apply Sub.drop))
  refine walk ?_
  refine ops_alloc rfl fun p7 _ => ?_
  refine walk ?_
  refine ops_call rfl rfl (ownC_spec (W0 := W0) (H := H8) (h0.mono (hl2.trans (hl4.trans hl48)))) fun r9 H9 B hl9 eB => ?_
  subst eB
  refine ops_freeze r9 fun H10 hl10 hs10 => ?_
  refine walk ?_
  refine ops_call rfl rfl (rBegin2_spec (W0 := W0) (H := H10) (m := ⟨node, 1, 0, []⟩) (c := [I node, I 1, I 0, nilS]) (now := 0) ⟨nilS, rfl, hf, fit1c, fits0, SlB.nil⟩ hs10 (by omega) fits0 (by show fits ((0 : Int) + 1); exact fit1c) (by simp)) fun r11 H11 B hl11 ⟨c2, y, v2, e2, out2, m2, er, hR, hrc2, eB⟩ => ?_
  subst er eB
  obtain ⟨rfl, rfl, rfl, hpi⟩ := (pi0 hf).begin (by omega) ho8 fits0 (begA_of hws hne) hR
  rw [begin_St hnw] at hpi
  refine ops_freeze v2 fun H12 hl12 hs12 => ?_
  obtain ⟨⟨bd, cd⟩, rfl⟩ := CA_of hrc2
  have hl8 := hl9.trans (hl10.trans (hl11.trans hl12))
  have hsiB := hsi.mono (hl48.trans hl8)
  have hsvB := hsv.mono (hl7.trans (hle2.trans hl8))
  refine walk ?_
  refine ops_alloc rfl fun p10 _ => ?_
  refine ops_alloc rfl fun p11 _ => ?_
  refine walk ?_
  rw [show newX (s0C node) = (⟨node, 1, 1⟩ : Txn) from rfl]
  dsimp only
  refine ex_loop (σ := Nat) (fun j => j ≤ ins.length) (fun j => [(0, I node), (5, .pointer (some ⟨p, 0, none⟩)), (6, .slice bi ins.length ci), (7, .pointer (some ⟨p7, 0, none⟩)), (8, .slice bv ys.length cv'), (9, I 0), (12, v2), (51, I ins.length), (52, I j)]) (fun _ => H12) (fun j => bigL ownW (ins.drop j) :: coordO H8 p (StC node (wsV vs) 0) :: bigL ownMV ys ::row p7 28 [I node, I 1, I 1] :: R) (fun j => ins.length - j) 0 (Nat.zero_le _) fun j hj0 K hL => ?_
  refine walk ?_
  refine ex_if rfl (fun hj => ?_) (fun hj => ?_)
  · have hj1 : j < ins.length := by omega
    have hdr := List.drop_eq_getElem_cons hj1
    refine walk ?_
    refine ops_ixp rfl rfl hsiB.1 hj1 fun b o cc hr hc => ?_
    rw [hdr]
    generalize ins[j] = y at hr hc ⊢
    obtain rfl : cc = y.cv := hc
    obtain ⟨⟨yr, yt, yd⟩, ⟨d1, e1'⟩, ⟨d2, e2'⟩⟩ := y
    change HRow H12 b o [I yr, .slice d1 yt.length e1', .slice d2 yd.length e2'] at hr
    refine walk ?_
    refine ops_ldNH rfl rfl hr rfl ?_
    refine ops_L (L' := ownS rStr 1 16 9 Heap.empty (.slice d1 yt.length e1') yt :: ownS rStr 1 16 9 Heap.empty (.slice d2 yd.length e2') yd :: bigL ownW (ins.drop (j + 1)) :: coordO H8 p (StC node (wsV vs) 0) :: bigL ownMV ys ::row p7 28 [I node, I 1, I 1] :: R) ?_ ?_
    · refine Sub.trans ?_ (Sub.trans (bigL_out (l1 := []) (x := (⟨⟨yr, yt, yd⟩, (d1, e1'), (d2, e2')⟩ : WV)) (l2 := ins.drop (j + 1))) ownW_open)
      exact tsA
    refine ops_call rfl rfl (spoil_spec (W0 := W0) (HS1 := Heap.empty) (HS2 := Heap.empty) (rob := yr) (d1 := d1) (e1 := e1') (d2 := d2) (e2 := e2') (t := yt) (dd := yd)) fun r9 HC B hl9 ⟨eB, eH⟩ => ?_
    subst eB eH
    refine walk ?_
    exact out_next hL (j + 1) (by omega)
  clear hL
  refine walk ?_
  refine ops_lend (A := bigL ownMV ys) (by repeat (first | exact Has.here | apply Has.there)) fun D3 hD3 hdj3 hle3 hD3l => ?_
  have hrr : SlR rMessage 19 (union H12 D3) (.slice bv ys.length cv') (ys.map (·.m)) := slr_map (R := rMV) (R' := rMessage) (f := (·.m)) (fun y hy c hc => by
    obtain rfl : c = y.cv := hc
    obtain ⟨g1, g2⟩ := ownMVs_reads hD3 hD3l y hy
    exact hok y hy _ g1 g2) (hsvB.mono hle3).1
  rw [hys] at hrr
  refine ops_call rfl rfl (sameAll_spec hrr (hs12.mono hle3).1) fun r13 H13 B hl13 ⟨er, eB, eH⟩ => ?_
  subst er eB eH
  refine ops_back hD3 hdj3 (.refl _) ?_
  refine walk ?_
  refine ex_loop (σ := Nat) (fun j => j ≤ ys.length) (fun j => [(0, I node), (5, .pointer (some ⟨p, 0, none⟩)), (7, .pointer (some ⟨p7, 0, none⟩)), (8, .slice bv ys.length cv'), (9, I 0), (12, v2), (15, .bool true), (65, I ys.length), (66, I j)]) (fun _ => H12) (fun j => bigL ownMV (ys.drop j) :: coordO H8 p (StC node (wsV vs) 0) :: row p7 28 [I node, I 1, I 1] :: R) (fun j => ys.length - j) 0 (Nat.zero_le _) fun j hj0 K hL => ?_
  refine walk ?_
  refine ex_if rfl (fun hj => ?_) (fun hj => ?_)
  · have hj1 : j < ys.length := by omega
    have hdr := List.drop_eq_getElem_cons hj1
    refine walk ?_
    refine ops_ixp rfl rfl hsvB.1 hj1 fun b o cc hr hc => ?_
    rw [hdr]
    generalize ys[j] = y at hr hc ⊢
    obtain rfl : cc = y.cv := hc
    obtain ⟨⟨mf, mt, mk, mx, ⟨yr, yt, yd⟩, my, mi, mc, mr⟩, ⟨d1, e1'⟩, ⟨d2, e2'⟩⟩ := y
    have hr6 : HRow H12 b (o + 6) [I yr, .slice d1 yt.length e1', .slice d2 yd.length e2'] := HRow.take (k := 3) (HRow.drop (k := 6) hr)
    refine walk ?_
    refine ops_ldNH rfl rfl hr6 rfl ?_
    refine ops_L (L' := ownS rStr 1 16 9 Heap.empty (.slice d1 yt.length e1') yt :: ownS rStr 1 16 9 Heap.empty (.slice d2 yd.length e2') yd :: bigL ownMV (ys.drop (j + 1)) :: coordO H8 p (StC node (wsV vs) 0) :: row p7 28 [I node, I 1, I 1] :: R) ?_ ?_
    · refine Sub.trans ?_ (Sub.trans (bigL_out (l1 := []) (x := (⟨⟨mf, mt, mk, mx, ⟨yr, yt, yd⟩, my, mi, mc, mr⟩, (d1, e1'), (d2, e2')⟩ : MV)) (l2 := ys.drop (j + 1))) ownMV_open)
      exact tsA
    refine ops_call rfl rfl (spoil_spec (W0 := W0) (HS1 := Heap.empty) (HS2 := Heap.empty) (rob := yr) (d1 := d1) (e1 := e1') (d2 := d2) (e2 := e2') (t := yt) (dd := yd)) fun r14 HC B hl14 ⟨eB, eH⟩ => ?_
    subst eB eH
    refine walk ?_
    exact out_next hL (j + 1) (by omega)
  clear hL
  have hnd := vs_nodup hws
  have hvl : (wsV vs).length = vs.length := by unfold wsV; rw [List.length_map]
  have hyl : ys.length = vs.length := by
    have h1 := congrArg List.length (begun_to (node := node) hnd)
    rw [← hys, List.length_map, List.length_map, List.length_map] at h1
    omega
  have hv8 : (wsV vs).length ≤ 8 := by
    have h1 := congrArg List.length hws
    have h2 := works0_len (i := 0) (l := ownC works)
    unfold pqV at h1
    rw [List.length_map] at h1
    omega
  have hol : (againL node (newX (s0C node)) (beganT 0 (wsV vs))).length = ys.length := by rw [← hys, List.length_map]
  have hI0 : CInv 1 (StC node (wsV vs) 0) := hpi.I
  have hw12 := hs12
  rw [← St0_say hnw] at hw12
  obtain ⟨bw, cw, rfl, _, _⟩ := hw12.1.shape
  refine walk ?_
  refine ops_call rfl rfl (ct_up (step_spec (W0 := W0) (H := H12) (p := p) (n := 1) (s := StC node (wsV vs) 0) (now := 1) hI0 (by omega) fit1c (fun k t h => Nat.le_trans (St_pl hv8 k t h) (by omega))) (fun _ hc => coord_mono hl8 hc)) fun r15 H15 B hl15 ⟨q1, q2, er, eB⟩ => ?_
  subst er eB
  rw [St_step, St_out]
  refine ops_freeze q1 fun H16 hl16 hq1 => ?_
  have hl2f := hl15.trans hl16
  refine walk ?_
  refine ops_pcall rfl rfl (sameAll_spec hq1.1 (hw12.mono hl2f).1) ?_
  refine walk ?_
  have hto := begun_to (node := node) hnd
  rw [← hys, List.map_map] at hto
  have hml : ((wsV vs).map (·.1)).length = ys.length := by rw [List.length_map, hvl, hyl]
  refine ex_loop (σ := Nat × Heap) (fun u => u.1 ≤ ys.length ∧ H16.le u.2 ∧ CInv 1 (StC node (wsV vs) u.1)) (fun u => [(0, I node), (5, .pointer (some ⟨p, 0, none⟩)), (7, .pointer (some ⟨p7, 0, none⟩)), (8, .slice bv ys.length cv'), (12, .slice bw (againL node (xO node) (txI (wsV vs) 0)).length cw), (99, I ys.length), (100, I u.1)]) (fun u => u.2) (fun u => coordO u.2 p (StC node (wsV vs) u.1) :: row p7 28 [I node, I 1, I 1] :: R) (fun u => ys.length - u.1) (0, H16) ⟨Nat.zero_le _, .refl _, hI0⟩ (hs0 := ?_) fun ⟨i, HI⟩ ⟨hi0, hlI, hII⟩ K hL => ?_
  rotate_left
  · refine Sub.trans ?_ (coord_up hl16)
    exact tsA
  simp only at hi0 hlI hII
  dsimp only
  refine walk ?_
  refine ex_if rfl (fun hi => ?_) (fun hi => ?_)
  · have hi1 : i < ys.length := by omega
    have hpi' : i < ((wsV vs).map (·.1)).length := by omega
    have hyt : ys[i].m.To = ((wsV vs).map (·.1))[i] := by
      have : (ys.map ((·.To) ∘ fun y : MV => y.m))[i]'(by rw [List.length_map]; exact hi1) = ((wsV vs).map (·.1))[i] := by simp only [hto]
      simpa using this
    have hft : fits ys[i].m.To := by
      rw [hyt]
      have hti := hpi.I.ti (xO node).k _ St_get
      refine (hti.nn _ ?_).2
      unfold txI
      rw [if_pos (List.length_pos_iff.2 hnw)]
      exact List.getElem_mem _
    have hhs := hear_St (node := node) hnd hpi'
    rw [← hyt] at hhs
    generalize hy : ys[i] = y at hhs hft
    refine walk ?_
    refine ex_any 9 [row p7 28 [I node, I 1, I 1]] ?_
    refine stepY 0 ?_; refine stepY 1 ?_; refine stepY 2 ?_
    refine gny_ixp 3 rfl rfl rfl (hsvB.mono (hl2f.trans hlI)).1 hi1 fun b o cc hr hc => ?_
    rw [hy] at hc
    obtain rfl : cc = y.cv := hc
    refine stepY 4 ?_
    refine gny_ldHo 5 1 rfl rfl hr rfl rfl ?_
    refine stepY 6 ?_; refine stepY 7 ?_; refine stepY 8 ?_
    refine any_rest rfl ?_
    have hh := chear_spec (W0 := W0) (H := HI) (p := p) (n := 1) (s := StC node (wsV vs) i) (m := voteC node y.m.To) hII (by omega) (fun k t h => Nat.le_trans (St_pl hv8 k t h) (by omega)) (voteC_reads hf hft)
    have hI2 := hII.hear (m := voteC node y.m.To)
    unfold CHearQ at hh
    rw [hhs] at hh hI2
    refine ops_call rfl rfl hh fun r17 H17 B hl17 ⟨w1, w2, w3, er, eB⟩ => ?_
    subst er eB
    refine walk ?_
    exact out_next hL (i + 1, H17) ⟨by simp only; omega, hlI.trans hl17, hI2⟩
  clear hL
  obtain rfl : i = ys.length := by omega
  rw [show ys.length = (wsV vs).length by rw [hyl, hvl]] at hII ⊢
  have hcap7 : ∀ k t, mget k (StC node (wsV vs) (wsV vs).length).ts = some t → t.parts.length * 8 ≤ cap47 := fun k t h => by have := St_pl hv8 k t h; simp only [cap47]; omega
  refine walk ?_
  refine ops_call rfl rfl (openO_spec (W0 := W0) (H := HI) (p := p) (n := 1) (s := StC node (wsV vs) (wsV vs).length) hII (by omega) hcap7) fun r18 H18 B hl18 ⟨zz, hzz, eB⟩ => ?_
  subst eB
  rw [St_open] at hzz
  obtain ⟨z, rfl⟩ : ∃ z, zz = [z] := by
    match zz, hzz with
    | [z], _ => exact ⟨z, rfl⟩
    | [], h => simp at h
    | _ :: _ :: _, h => simp at h
  obtain ⟨zr, za, zc⟩ := z
  obtain rfl : zr = recC (xO node) ((wsV vs).map (·.1)) := by simpa using hzz
  refine ops_freeze r18 fun H19 hl19 hso => ?_
  obtain ⟨bo, co, rfl, _, _⟩ := hso.1.shape
  refine ops_L (L' := ownS rInt 1 8 3 Heap.empty (.slice za ((wsV vs).map (·.1)).length zc) ((wsV vs).map (·.1)) :: coordO H18 p (StC node (wsV vs) (wsV vs).length) :: row p7 28 [I node, I 1, I 1] :: R) ?_ ?_
  · refine Sub.trans (B := bigL ownP [⟨recC (xO node) ((wsV vs).map (·.1)), (za, zc)⟩] :: coordO H18 p (StC node (wsV vs) (wsV vs).length) :: row p7 28 [I node, I 1, I 1] :: R) tsA ?_
    refine Sub.trans (bigL_out (l1 := []) (x := (⟨recC (xO node) ((wsV vs).map (·.1)), (za, zc)⟩ : PV)) (l2 := [])) ?_
    refine Sub.trans (B := ownP ⟨recC (xO node) ((wsV vs).map (·.1)), (za, zc)⟩ :: coordO H18 p (StC node (wsV vs) (wsV vs).length) :: row p7 28 [I node, I 1, I 1] :: R) tsA ?_
    exact Sub.refl _
  refine walk ?_
  refine ex_loop (σ := Nat × List Int) (fun u => u.1 ≤ 1 ∧ u.2.length = ((wsV vs).map (·.1)).length) (fun u => [(0, I node), (5, .pointer (some ⟨p, 0, none⟩)), (12, .slice bw (againL node (xO node) (txI (wsV vs) 0)).length cw), (20, .slice bo 1 co), (117, I 1), (118, I u.1)]) (fun _ => H19) (fun u => ownS rInt 1 8 3 Heap.empty (.slice za ((wsV vs).map (·.1)).length zc) u.2 :: coordO H18 p (StC node (wsV vs) (wsV vs).length) :: R) (fun u => 1 - u.1) (0, (wsV vs).map (·.1)) ⟨Nat.zero_le _, rfl⟩ fun ⟨j, qs⟩ ⟨hj0, hql⟩ K hL => ?_
  simp only at hj0 hql
  dsimp only
  refine walk ?_
  refine ex_if rfl (fun hj => ?_) (fun hj => ?_)
  · obtain rfl : j = 0 := by omega
    refine walk ?_
    refine ops_ixp rfl rfl hso.1 (show 0 < [(⟨recC (xO node) ((wsV vs).map (·.1)), (za, zc)⟩ : PV)].length from Nat.succ_pos _) fun b o cc hr hc => ?_
    obtain rfl : cc = PV.cv ⟨recC (xO node) ((wsV vs).map (·.1)), (za, zc)⟩ := hc
    change HRow H19 b o [I 4, I node, I 1, I 1, I 0, nilS, nilS, .bool false, .slice za ((wsV vs).map (·.1)).length zc] at hr
    refine walk ?_
    refine ex_loop (σ := Nat × List Int) (fun u => u.1 ≤ ((wsV vs).map (·.1)).length ∧ u.2.length = ((wsV vs).map (·.1)).length) (fun u => [(0, I node), (5, .pointer (some ⟨p, 0, none⟩)), (12, .slice bw (againL node (xO node) (txI (wsV vs) 0)).length cw), (20, .slice bo 1 co), (21, I (0 : Nat)), (117, I 1), (118, I (0 : Nat)), (126, I ((wsV vs).map (·.1)).length), (127, I u.1)]) (fun _ => H19) (fun u => ownS rInt 1 8 3 Heap.empty (.slice za ((wsV vs).map (·.1)).length zc) u.2 :: coordO H18 p (StC node (wsV vs) (wsV vs).length) :: R) (fun u => ((wsV vs).map (·.1)).length - u.1) (0, qs) ⟨Nat.zero_le _, hql⟩ fun ⟨i, us⟩ ⟨hi0, hul⟩ K2 hL2 => ?_
    simp only at hi0 hul
    dsimp only
    refine walk ?_
    refine ex_if rfl (fun hi => ?_) (fun hi => ?_)
    · have hi1 : i < us.length := by omega
      have hm1 : fits (-1 : Int) := by unfold fits; omega
      refine walk ?_
      refine ops_ixp rfl rfl hso.1 (show 0 < [(⟨recC (xO node) ((wsV vs).map (·.1)), (za, zc)⟩ : PV)].length from Nat.succ_pos _) fun b2 o2 cc2 hr2 hc2 => ?_
      obtain rfl : cc2 = PV.cv ⟨recC (xO node) ((wsV vs).map (·.1)), (za, zc)⟩ := hc2
      change HRow H19 b2 o2 [I 4, I node, I 1, I 1, I 0, nilS, nilS, .bool false, .slice za ((wsV vs).map (·.1)).length zc] at hr2
      refine walk ?_
      refine ops_stS (y' := (-1 : Int)) rfl rfl rfl ⟨rfl, hm1⟩ hi1 ?_
      refine walk ?_
      exact out_next hL2 (i + 1, us.set i (-1)) ⟨by simp only; omega, by simp only [List.length_set]; exact hul⟩
    clear hL2
    refine walk ?_
    exact out_next hL (1, us) ⟨by simp only; omega, hul⟩
  clear hL
  refine walk ?_
  refine ops_call rfl rfl (ct_up (step_spec (W0 := W0) (H := H19) (p := p) (n := 1) (s := StC node (wsV vs) (wsV vs).length) (now := 1) hII (by omega) fit1c (fun k t h => Nat.le_trans (St_pl hv8 k t h) (by omega))) (fun _ hc => coord_mono hl19 hc)) fun r20 H20 B hl20 ⟨q1, q2, er, eB⟩ => ?_
  subst er eB
  rw [St_step, St_out]
  refine ops_freeze q1 fun H21 hl21 hq1' => ?_
  obtain ⟨bq, cq, rfl, _, _⟩ := hq1'.1.shape
  have hfin : ((againL node (xO node) (txI (wsV vs) (wsV vs).length)).length : Int) = ((againL node (xO node) (txI (wsV vs) 0)).length : Int) := by
    rw [St_say, St0_say hnw, hol, hyl, hvl]
  refine walk ?_
  refine ex_any 25 [] ?_
  refine stepY 0 ?_
  refine gny_call 1 rfl rfl rfl (ct_up (open_spec (W0 := W0) (H := H21) (p := p) (n := 1) (s := StC node (wsV vs) (wsV vs).length) hII (by omega) hcap7) (fun _ hc => coord_mono hl21 hc)) fun r22 H22 B hl22 eB => ?_
  subst eB
  refine ⟨(by (repeat (first | exact Sub.refl _ | exact Sub.nil _ | (apply sub_pick; (repeat (first | exact Has.here | apply Has.there)); skip) | apply Sub.drop))), ?_⟩
  rw [St_open]
  refine any_freeze r22 fun H23 hl23 hsA => ?_
  obtain ⟨bA, cA, eA, _, _⟩ := hsA.1.shape
  rw [show [recC (xO node) ((wsV vs).map (·.1))].length = 1 from rfl] at eA
  subst eA
  refine stepY 2 ?_; refine stepY 3 ?_; refine stepY 4 ?_; refine stepY 5 ?_; refine stepY 12 ?_
  have hlw := hw12.mono (hl2f.trans (hlI.trans (hl18.trans (hl19.trans (hl20.trans hl21)))))
  have hpos : 0 < (againL node (xO node) (txI (wsV vs) 0)).length := by
    rw [St0_say hnw, hol, hyl]; exact List.length_pos_iff.2 hne
  have hpp : 0 < ((wsV vs).map (·.1)).length := by rw [List.length_map, hvl]; exact List.length_pos_iff.2 hne
  have hto0 : (againL node (xO node) (txI (wsV vs) 0))[0].To = ((wsV vs).map (·.1))[0] := by
    have h1 := begun_to (node := node) hnd
    rw [← St0_say hnw] at h1
    have h2 : ((againL node (xO node) (txI (wsV vs) 0)).map (·.To))[0]'(by rw [List.length_map]; exact hpos) = ((wsV vs).map (·.1))[0] := by simp only [h1]
    simpa using h2
  generalize hm0 : (againL node (xO node) (txI (wsV vs) 0))[0] = m0 at hto0
  refine gny_ixp 13 rfl rfl rfl hlw.1 hpos fun b13 o13 c13 hr13 hc13 => ?_
  rw [hm0] at hc13
  obtain ⟨u1, u2, u3, u4, rfl, _⟩ := hc13
  refine stepY 14 ?_
  refine gny_ldHo 15 1 rfl rfl hr13 rfl rfl ?_
  refine gny_call 6 rfl rfl rfl (ct_up (open_spec (W0 := W0) (H := H23) (p := p) (n := 1) (s := StC node (wsV vs) (wsV vs).length) hII (by omega) hcap7) (fun _ hc => coord_mono hl23 hc)) fun r24 H24 B hl24 eB => ?_
  subst eB
  refine ⟨(by (repeat (first | exact Sub.refl _ | exact Sub.nil _ | (apply sub_pick; (repeat (first | exact Has.here | apply Has.there)); skip) | apply Sub.drop))), ?_⟩
  rw [St_open]
  refine any_freeze r24 fun H25 hl25 hsB => ?_
  obtain ⟨bB, cB, eB, _, _⟩ := hsB.1.shape
  rw [show [recC (xO node) ((wsV vs).map (·.1))].length = 1 from rfl] at eB
  subst eB
  refine gny_ixw 7 rfl rfl rfl hsB.1 (show 0 < [recC (xO node) ((wsV vs).map (·.1))].length from Nat.succ_pos _) fun b7 o7 c7 hr7 hc7 => ?_
  obtain ⟨w1, w2, w3, rfl, _, _, _, _, _, _, _, hw3⟩ := hc7
  obtain ⟨bP, cP, rfl, _, _⟩ := hw3.1.shape
  change HRow H25 b7 o7 [I 4, I node, I 1, I 1, I 0, w1, w2, .bool false, .slice bP ((wsV vs).map (·.1)).length cP] at hr7
  refine stepY 8 ?_
  refine gny_ldw 9 8 rfl rfl hr7 rfl rfl ?_
  have hw4 : SlB rInt 1 8 H25 (.slice bP ((wsV vs).map (·.1)).length cP) ((wsV vs).map (·.1)) := hw3
  refine gny_ixw 10 rfl rfl rfl hw4.1 hpp fun b10 o10 c10 hr10 hc10 => ?_
  obtain ⟨rfl, _⟩ := hc10
  refine gny_ldw 11 0 rfl rfl hr10 rfl rfl ?_
  have hne1 : ((wsV vs).map (·.1))[0] = m0.To := hto0.symm
  rw [hne1]
  refine stepY 16 ?_; refine stepY 17 ?_; refine stepY 18 ?_
  refine stepY 19 ?_; refine stepY 20 ?_; refine stepY 21 ?_; refine stepY 22 ?_; refine stepY 23 ?_; refine stepY 24 ?_
  refine any_rest rfl ?_
  refine walk ?_
  refine fin0 ?_
  exact ⟨rfl, rfl⟩
end Go.Proofs.Ythoafjeampbkeaa
