/- A move is played: a transaction begins; a node steps. -/
import Derived.Test.YtpphdbnifbjfmaaGreatDoorJXG
set_option linter.unusedVariables false
set_option linter.unusedSimpArgs false
namespace Go.Proofs.YtpphdbnifbjfmaaGreatDoor
open Go Go.Sx Go.Proofs
set_option maxHeartbeats 16000000 in
set_option maxRecDepth 20000 in
theorem play_begin {W0 : World} {H : Heap} {p n i : Nat} {s : Value} {w : PW} {m : Move} (KW : WOk n w) (hs : SlB rWork 3 56 H s m.Works) (hnow : 0 ≤ w.now ∧ w.now ≤ 1073741824) (hk : fits m.Kind) (ha : fits m.A) (k1 : m.Kind = 1) (hai : m.A = i) (hi : i < w.ns.length) (hwl : m.Works.length ≤ w.ns.length) (hwn : w.ns.length ≤ 1000) :
    Ct Tryz.prog 6 #[ptrC p, .agg (m.cv s).toArray] W0 H [worldO H p w] (fun r H' B => PlayQ n H' p w m r B) := by
  have hb : okMv w m.Kind m.A m.Works.length := by unfold okMv isNode; omega
  obtain ⟨b0, c0, rfl, _, _⟩ := hs.1.shape
  refine Ct.go (vs := [ptrC p, .agg (m.cv (.slice b0 m.Works.length c0)).toArray]) fun R => ?_
  refine ex_open (A := worldO H p w) (σ := Value × Nat × Value × List NE) (B := fun a => [wRow p a.1 a.2.1 (PW.now w) a.2.2.1, wNs a.1 a.2.2.2, bigL (ndP H) a.2.2.2, bigL (ndC H) a.2.2.2, Net.netO H (ptrC a.2.1) (PW.net w), wLog H a.2.2.1 (PW.log w)]) (p := fun a => PW.ns w = a.2.2.2.map NE.q) (by repeat (first | exact Has.here | apply Has.there)) (fun h ⟨nv, nb, lv, es, hb, hk⟩ => ⟨(nv, nb, lv, es), hk, hb⟩) fun ⟨nv, nb, lv, es⟩ hns => ?_
  dsimp only at hns ⊢
  refine ex_shape nv fun base cap e q1 q2 q3 => ?_
  subst e
  have hln : es.length = w.ns.length := by rw [hns, List.length_map]
  refine walk ?_
  refine ops_box rfl rfl fun p3 _ => ?_
  refine walk ?_
  refine ops_pcall rfl rfl (fits_spec (W0 := W0) (H := H) (p := p) (nb := nb) (cap := cap) (base := base) (lv := lv) (w := w) (m := m) hln hs hnow hk ha) ?_
  rw [decide_eq_true hb]
  have hil : i < es.length := by omega
  have hwi : w.ns[i] = es[i].q := by simp only [hns, List.getElem_map]
  have hmem := es_mem hns hil
  have IC := KW.c _ hmem
  haveI hin : NatOf m.A i := ⟨hai⟩
  refine walk ?_
  refine ex_rowS (.slice base es.length cap) (by omega) fun b2 cap2 cs sp e q1 q2 q3 q4 q5 q6 => ?_
  cases e
  obtain rfl := rl_ne.1 q5
  have hcp : (neC es ++ sp)[0 + (i : Int).toNat * 3 + 1]? = some (ptrC es[i].cp) := by rw [Nat.zero_add, Int.toNat_natCast]; exact neC_get (k := 1) hil rfl
  refine ex_L (L' := ndC H es[i] :: bigL (ndC H) (es.take i ++ es.drop (i + 1)) :: row b2 66 (neC es ++ sp) :: row p3 33 (m.cv (.slice b0 m.Works.length c0)) :: wRow p (.slice (some ⟨b2, 0, none⟩) es.length cap) nb w.now lv :: bigL (ndP H) es :: Net.netO H (ptrC nb) w.net :: wLog H lv w.log :: R) ?_ ?_
  · refine Sub.trans (B := bigL (ndC H) es :: row b2 66 (neC es ++ sp) :: row p3 33 (m.cv (.slice b0 m.Works.length c0)) :: wRow p (.slice (some ⟨b2, 0, none⟩) es.length cap) nb w.now lv :: bigL (ndP H) es :: Net.netO H (ptrC nb) w.net :: wLog H lv w.log :: R) subA (bigL_get hil)
  have hnf : fits w.now := by unfold fits; omega
  have hqn := KW.n
  refine ex_cutk (σ := List Message × CS × Int × Value × Heap) (fun u => (∃ ws, pq ws = works0 0 m.Works ∧ u.1 = saidB es[i].q.cs w.now ws ∧ u.2.1 = beginS es[i].q.cs w.now ws ∧ u.2.2.1 = if ws = [] then 4 else 0) ∧ H.le u.2.2.2.2) (fun u => [(0, ptrC p), (6, u.2.2.2.1), (7, I u.2.2.1)]) (fun u => u.2.2.2.2)
    (fun u => ownS rMessage 19 216 81 u.2.2.2.2 u.2.2.2.1 u.1 :: coordO u.2.2.2.2 es[i].cp u.2.1 :: bigL (ndC H) (es.take i ++ es.drop (i + 1)) :: row b2 66 (neC es ++ sp) :: wRow p (.slice (some ⟨b2, 0, none⟩) es.length cap) nb w.now lv :: bigL (ndP H) es :: Net.netO H (ptrC nb) w.net :: wLog H lv w.log :: R) (fun K hK => ?_) fun ⟨out, cs', ee, v1, H1⟩ ⟨⟨ws, hws, ho, hc', he⟩, hl1⟩ => ?_
  · refine ex_any 24 [row b2 66 (neC es ++ sp), row p3 33 (m.cv (.slice b0 m.Works.length c0)), wRow p (.slice (some ⟨b2, 0, none⟩) es.length cap) nb w.now lv] ?_
    refine stepY 0 ?_; refine stepY 1 ?_; refine stepY 2 ?_; refine stepY 3 ?_; refine stepY 4 ?_; refine stepY 5 ?_
    refine gny_ixB 6 rfl rfl rfl (j := i) hil ?_
    refine stepY 7 ?_
    refine gny_ld 8 rfl rfl rfl hcp ?_
    refine stepY 9 ?_; refine stepY 10 ?_; refine stepY 11 ?_; refine stepY 12 ?_; refine stepY 13 ?_; refine stepY 14 ?_
    have hcall : ∀ p5 : Nat, p5 = p5 → _ := fun _ _ => (begin_spec (W0 := W0) (H := H) (p := es[i].cp) (n := n) (s := es[i].q.cs) (l := m.Works) (now := w.now) IC (by omega) hnf hs (by omega))
    refine any_ca (A := [ndC H es[i]]) 15 20 rfl rfl rfl (hcall 0 rfl) (fun r1 H1 B hl1 ⟨ws, hws, hcase⟩ => ?_) (fun p5 _ => ?_)
    · rcases hcase with ⟨hw0, er, eB⟩ | ⟨hne, v1, er, eB⟩
      · subst er eB hw0
        refine ⟨subA, ?_⟩
        refine stepY 16 ?_
        refine gny_ext 17 rfl rfl rfl rfl ?_
        refine gny_ext 18 rfl rfl rfl rfl ?_
        refine gny_ext 19 rfl rfl rfl rfl ?_
        refine gny_alloc 20 rfl rfl fun p5 _ => ?_
        refine any_sta 21 rfl rfl rfl rfl (by simp) rfl ⟨subA, ?_⟩
        refine stepY 22 ?_; refine stepY 23 ?_
        refine any_rest rfl ?_
        refine walk ?_
        refine out_to hK ([], es[i].q.cs, 4, nilS, H1) ⟨⟨[], hws, rfl, rfl, rfl⟩, hl1⟩ (hs := ?_)
        refine Sub.trans ?_ ownS_nil
        exact subA
      · subst er eB
        refine ⟨subA, ?_⟩
        refine stepY 16 ?_
        refine gny_ext 17 rfl rfl rfl rfl ?_
        refine gny_ext 18 rfl rfl rfl rfl ?_
        refine gny_ext 19 rfl rfl rfl rfl ?_
        refine gny_alloc 20 rfl rfl fun p5 _ => ?_
        refine any_sta 21 rfl rfl rfl rfl (by simp) rfl ⟨subA, ?_⟩
        refine stepY 22 ?_; refine stepY 23 ?_
        refine any_rest rfl ?_
        refine walk ?_
        refine out_to hK (againL es[i].q.cs.node (newX es[i].q.cs) (beganT w.now ws), beginS es[i].q.cs w.now ws, 0, v1, H1) ⟨⟨ws, hws, by unfold saidB; rw [if_neg hne], rfl, by rw [if_neg hne]⟩, hl1⟩
    · refine gny_call (A := [ndC H es[i]]) 15 rfl rfl rfl (hcall 0 rfl) fun r1 H1 B hl1 ⟨ws, hws, hcase⟩ => ?_
      rcases hcase with ⟨hw0, er, eB⟩ | ⟨hne, v1, er, eB⟩
      · subst er eB hw0
        refine ⟨subA, ?_⟩
        refine stepY 16 ?_
        refine gny_ext 17 rfl rfl rfl rfl ?_
        refine gny_ext 18 rfl rfl rfl rfl ?_
        refine gny_ext 19 rfl rfl rfl rfl ?_
        refine any_sta 21 rfl rfl rfl rfl (by simp) rfl ⟨subA, ?_⟩
        refine stepY 22 ?_; refine stepY 23 ?_
        refine any_rest rfl ?_
        refine walk ?_
        refine out_to hK ([], es[i].q.cs, 4, nilS, H1) ⟨⟨[], hws, rfl, rfl, rfl⟩, hl1⟩ (hs := ?_)
        refine Sub.trans ?_ ownS_nil
        exact subA
      · subst er eB
        refine ⟨subA, ?_⟩
        refine stepY 16 ?_
        refine gny_ext 17 rfl rfl rfl rfl ?_
        refine gny_ext 18 rfl rfl rfl rfl ?_
        refine gny_ext 19 rfl rfl rfl rfl ?_
        refine any_sta 21 rfl rfl rfl rfl (by simp) rfl ⟨subA, ?_⟩
        refine stepY 22 ?_; refine stepY 23 ?_
        refine any_rest rfl ?_
        refine walk ?_
        refine out_to hK (againL es[i].q.cs.node (newX es[i].q.cs) (beganT w.now ws), beginS es[i].q.cs w.now ws, 0, v1, H1) ⟨⟨ws, hws, by unfold saidB; rw [if_neg hne], rfl, by rw [if_neg hne]⟩, hl1⟩
  simp only at ho hc' he hl1
  dsimp only
  refine ex_freeze v1 fun H2 hl2 hso => ?_
  refine walk ?_
  refine ops_call rfl rfl (send_spec (W0 := W0) (H := H2) (H0 := H) (p := p) (nb := nb) (nv := .slice (some ⟨b2, 0, none⟩) es.length cap) (lv := lv) (v := v1) (now := w.now) (l := w.net) (ms := out) (hl1.trans hl2) hso.1) fun r3 H3 B hl3 eB => ?_
  subst eB
  refine walk ?_
  have hlz := hl1.trans (hl2.trans hl3)
  have hns3 : (setN w i ⟨es[i].q.ps, cs'⟩).ns = (es.set i (es[i].to ⟨es[i].q.ps, cs'⟩)).map NE.q := by
    show w.ns.set i _ = _
    rw [hns, List.map_set]; rfl
  have hlife : cs'.life = es[i].q.cs.life := by rw [hc']; unfold beginS; split <;> rfl
  refine finB [worldO H3 p { setN w i ⟨es[i].q.ps, cs'⟩ with net := sendL w.net out }] ?_ (hs := ?_)
  · have hpp := PPlay.begin (n := n) (w := w) (k := m.Kind) (a := m.A) (works := m.Works) k1 i hai hi hwl ws hws
    rw [hwi, ← hc', ← ho, ← he] at hpp
    exact ⟨_, ee, hpp, rfl, rfl⟩
  · refine Sub.trans (B := ndC H1 (es[i].to ⟨es[i].q.ps, cs'⟩) :: bigL (ndC H) (es.take i ++ es.drop (i + 1)) :: bigL (ndP H) es :: row b2 66 (neC es ++ sp) :: wRow p (.slice (some ⟨b2, 0, none⟩) es.length cap) nb w.now lv :: Net.netO H3 (ptrC nb) (sendL w.net out) :: wLog H lv w.log :: R) (by rw [show ndC H1 (es[i].to ⟨es[i].q.ps, cs'⟩) = coordO H1 es[i].cp cs' from rfl]; exact subA) ?_
    refine Sub.trans (Sub.cons (ndC_up hl1)) ?_
    refine Sub.trans (es_take (A := ndC H1) hil) ?_
    refine Sub.trans (Sub.cons (es_same (A := ndP H) hil (e := es[i].to ⟨es[i].q.ps, cs'⟩) fun _ h => h)) ?_
    refine Sub.trans (Sub.cons (Sub.cons (row_ns q1 q2 (by rw [List.length_append, neC_len]; rw [List.length_append, neC_len] at q4; exact q4) q6))) ?_
    refine Sub.trans (Sub.cons (Sub.cons (ns_set hil (q := ⟨es[i].q.ps, cs'⟩) hlife))) ?_
    refine Sub.trans (B := wRow p (.slice (some ⟨b2, 0, none⟩) es.length cap) nb w.now lv :: wNs (.slice (some ⟨b2, 0, none⟩) es.length cap) (es.set i (es[i].to ⟨es[i].q.ps, cs'⟩)) :: bigL (ndP H) (es.set i (es[i].to ⟨es[i].q.ps, cs'⟩)) :: bigL (ndC H1) (es.set i (es[i].to ⟨es[i].q.ps, cs'⟩)) :: Net.netO H3 (ptrC nb) (sendL w.net out) :: wLog H lv w.log :: R) subA ?_
    exact world_shut (w := { setN w i ⟨es[i].q.ps, cs'⟩ with net := sendL w.net out }) hns3 hlz (hl2.trans hl3) (.refl _) hlz
set_option maxHeartbeats 16000000 in
set_option maxRecDepth 20000 in
theorem play_step {W0 : World} {H : Heap} {p n i : Nat} {s : Value} {w : PW} {m : Move} (KW : WOk n w) (hs : SlB rWork 3 56 H s m.Works) (hnow : 0 ≤ w.now ∧ w.now ≤ 1073741824) (hk : fits m.Kind) (ha : fits m.A) (k5 : m.Kind = 5) (hai : m.A = i) (hi : i < w.ns.length) :
    Ct Tryz.prog 6 #[ptrC p, .agg (m.cv s).toArray] W0 H [worldO H p w] (fun r H' B => PlayQ n H' p w m r B) := by
  have hb : okMv w m.Kind m.A m.Works.length := by unfold okMv isNode; omega
  obtain ⟨b0, c0, rfl, _, _⟩ := hs.1.shape
  refine Ct.go (vs := [ptrC p, .agg (m.cv (.slice b0 m.Works.length c0)).toArray]) fun R => ?_
  refine ex_open (A := worldO H p w) (σ := Value × Nat × Value × List NE) (B := fun a => [wRow p a.1 a.2.1 (PW.now w) a.2.2.1, wNs a.1 a.2.2.2, bigL (ndP H) a.2.2.2, bigL (ndC H) a.2.2.2, Net.netO H (ptrC a.2.1) (PW.net w), wLog H a.2.2.1 (PW.log w)]) (p := fun a => PW.ns w = a.2.2.2.map NE.q) (by repeat (first | exact Has.here | apply Has.there)) (fun h ⟨nv, nb, lv, es, hb, hk⟩ => ⟨(nv, nb, lv, es), hk, hb⟩) fun ⟨nv, nb, lv, es⟩ hns => ?_
  dsimp only at hns ⊢
  refine ex_shape nv fun base cap e q1 q2 q3 => ?_
  subst e
  have hln : es.length = w.ns.length := by rw [hns, List.length_map]
  refine walk ?_
  refine ops_box rfl rfl fun p3 _ => ?_
  refine walk ?_
  refine ops_pcall rfl rfl (fits_spec (W0 := W0) (H := H) (p := p) (nb := nb) (cap := cap) (base := base) (lv := lv) (w := w) (m := m) hln hs hnow hk ha) ?_
  rw [decide_eq_true hb]
  have hil : i < es.length := by omega
  have hwi : w.ns[i] = es[i].q := by simp only [hns, List.getElem_map]
  have hmem := es_mem hns hil
  have IC := KW.c _ hmem
  have IP := KW.p _ hmem
  have hpl := KW.pl _ hmem
  haveI hin : NatOf m.A i := ⟨hai⟩
  have hnf : fits w.now := by unfold fits; omega
  have hqn := KW.n
  refine walk ?_
  refine ex_rowS (.slice base es.length cap) (by omega) fun b2 cap2 cs sp e q1 q2 q3 q4 q5 q6 => ?_
  cases e
  obtain rfl := rl_ne.1 q5
  have hcp : (neC es ++ sp)[0 + (i : Int).toNat * 3 + 1]? = some (ptrC es[i].cp) := by rw [Nat.zero_add, Int.toNat_natCast]; exact neC_get (k := 1) hil rfl
  have hpp : (neC es ++ sp)[0 + (i : Int).toNat * 3]? = some (ptrC es[i].pp) := by rw [Nat.zero_add, Int.toNat_natCast]; exact neC_get (k := 0) hil rfl
  refine ex_L (L' := ndC H es[i] :: bigL (ndC H) (es.take i ++ es.drop (i + 1)) :: row b2 66 (neC es ++ sp) :: row p3 33 (m.cv (.slice b0 m.Works.length c0)) :: wRow p (.slice (some ⟨b2, 0, none⟩) es.length cap) nb w.now lv :: bigL (ndP H) es :: Net.netO H (ptrC nb) w.net :: wLog H lv w.log :: R) ?_ ?_
  · refine Sub.trans (B := bigL (ndC H) es :: row b2 66 (neC es ++ sp) :: row p3 33 (m.cv (.slice b0 m.Works.length c0)) :: wRow p (.slice (some ⟨b2, 0, none⟩) es.length cap) nb w.now lv :: bigL (ndP H) es :: Net.netO H (ptrC nb) w.net :: wLog H lv w.log :: R) subA (bigL_get hil)
  refine ex_any 19 [row b2 66 (neC es ++ sp), row p3 33 (m.cv (.slice b0 m.Works.length c0)), wRow p (.slice (some ⟨b2, 0, none⟩) es.length cap) nb w.now lv] ?_
  refine stepY 0 ?_; refine stepY 1 ?_; refine stepY 2 ?_; refine stepY 3 ?_; refine stepY 4 ?_; refine stepY 5 ?_
  refine gny_ixB 6 rfl rfl rfl (j := i) hil ?_
  refine stepY 7 ?_
  refine gny_ld 8 rfl rfl rfl hcp ?_
  refine stepY 9 ?_; refine stepY 10 ?_; refine stepY 11 ?_; refine stepY 12 ?_
  refine gny_call (A := [ndC H es[i]]) 13 rfl rfl rfl (step_spec (W0 := W0) (H := H) (p := es[i].cp) (n := n) (s := es[i].q.cs) (now := w.now) IC (by omega) hnf (fun k t h => Nat.le_trans (hpl k t h) (by omega))) fun r1 H1 B hl1 ⟨v1, v2, er, eB⟩ => ?_
  subst er eB
  refine ⟨subA, ?_⟩
  refine stepY 14 ?_
  refine gny_ext 15 rfl rfl rfl rfl ?_
  refine gny_ext 16 rfl rfl rfl rfl ?_
  refine stepY 17 ?_; refine stepY 18 ?_
  refine any_rest rfl ?_
  refine ops_freeze v1 fun H2 hl2 hso => ?_
  refine walk ?_
  refine ops_call rfl rfl (send_spec (W0 := W0) (H := H2) (H0 := H) (p := p) (nb := nb) (nv := .slice (some ⟨b2, 0, none⟩) es.length cap) (lv := lv) (v := v1) (now := w.now) (l := w.net) (ms := stepOut es[i].q.cs w.now) (hl1.trans hl2) hso.1) fun r3 H3 B hl3 eB => ?_
  subst eB
  refine walk ?_
  have hl03 := hl1.trans (hl2.trans hl3)
  have hok1 : TsOk es[i].q.ps.t := IP.t.ok (by omega)
  have hox : ∀ q ∈ prepL es[i].q.ps.t, okX q.Txn.k := fun q hq => (IP.t.ww _ _ (IP.t.recs hq)).2
  refine ex_L (L' := ndP H es[i] :: bigL (ndP H) (es.take i ++ es.drop (i + 1)) :: row b2 66 (neC es ++ sp) :: row p3 33 (m.cv (.slice b0 m.Works.length c0)) :: wRow p (.slice (some ⟨b2, 0, none⟩) es.length cap) nb w.now lv :: Net.netO H3 (ptrC nb) (sendL w.net (stepOut es[i].q.cs w.now)) :: coordO H1 es[i].cp (stepS es[i].q.cs w.now) :: bigL (ndC H) (es.take i ++ es.drop (i + 1)) :: wLog H lv w.log :: R) ?_ ?_
  · refine Sub.trans (B := bigL (ndP H) es :: row b2 66 (neC es ++ sp) :: row p3 33 (m.cv (.slice b0 m.Works.length c0)) :: wRow p (.slice (some ⟨b2, 0, none⟩) es.length cap) nb w.now lv :: Net.netO H3 (ptrC nb) (sendL w.net (stepOut es[i].q.cs w.now)) :: coordO H1 es[i].cp (stepS es[i].q.cs w.now) :: bigL (ndC H) (es.take i ++ es.drop (i + 1)) :: wLog H lv w.log :: R) subA (bigL_get hil)
  refine ex_any 11 [row b2 66 (neC es ++ sp), row p3 33 (m.cv (.slice b0 m.Works.length c0)), wRow p (.slice (some ⟨b2, 0, none⟩) es.length cap) nb w.now lv] ?_
  refine stepY 0 ?_; refine stepY 1 ?_; refine stepY 2 ?_; refine stepY 3 ?_; refine stepY 4 ?_; refine stepY 5 ?_; refine stepY 6 ?_
  refine gny_ixB 7 rfl rfl rfl (j := i) hil ?_
  refine stepY 8 ?_
  refine gny_ld 9 rfl rfl rfl hpp ?_
  refine gny_call (A := [ndP H es[i]]) 10 rfl rfl rfl (ct_old (ask_spec (W0 := W0) (H := H3) (p := es[i].pp) (s := es[i].q.ps) hok1 IP.sh hox) fun _ h => part_mono hl03 h) fun r4 H4 B hl4 eB => ?_
  subst eB
  refine ⟨subA, ?_⟩
  refine any_freeze r4 fun H5 hl5 hsa => ?_
  refine any_rest rfl ?_
  refine ops_call rfl rfl (send_spec (W0 := W0) (H := H5) (H0 := H3) (p := p) (nb := nb) (nv := .slice (some ⟨b2, 0, none⟩) es.length cap) (lv := lv) (v := r4) (now := w.now) (l := sendL w.net (stepOut es[i].q.cs w.now)) (ms := askL es[i].q.ps) (hl4.trans hl5) hsa.1) fun r6 H6 B hl6 eB => ?_
  subst eB
  refine walk ?_
  have hl46 := hl4.trans (hl5.trans hl6)
  have hl06 := hl03.trans hl46
  have hns3 : (setN w i ⟨es[i].q.ps, stepS es[i].q.cs w.now⟩).ns = (es.set i (es[i].to ⟨es[i].q.ps, stepS es[i].q.cs w.now⟩)).map NE.q := by
    show w.ns.set i _ = _
    rw [hns, List.map_set]; rfl
  refine finB [worldO H6 p { setN w i ⟨es[i].q.ps, stepS es[i].q.cs w.now⟩ with net := sendL (sendL w.net (stepOut es[i].q.cs w.now)) (askL es[i].q.ps) }] ?_ (hs := ?_)
  · have hpp := PPlay.step (n := n) (w := w) (k := m.Kind) (a := m.A) (works := m.Works) k5 i hai hi
    rw [hwi] at hpp
    exact ⟨_, 0, hpp, rfl, rfl⟩
  · refine Sub.trans (B := ndC H1 (es[i].to ⟨es[i].q.ps, stepS es[i].q.cs w.now⟩) :: bigL (ndC H) (es.take i ++ es.drop (i + 1)) :: ndP H4 (es[i].to ⟨es[i].q.ps, stepS es[i].q.cs w.now⟩) :: bigL (ndP H) (es.take i ++ es.drop (i + 1)) :: row b2 66 (neC es ++ sp) :: wRow p (.slice (some ⟨b2, 0, none⟩) es.length cap) nb w.now lv :: Net.netO H6 (ptrC nb) (sendL (sendL w.net (stepOut es[i].q.cs w.now)) (askL es[i].q.ps)) :: wLog H lv w.log :: R) (by rw [show ndC H1 (es[i].to ⟨es[i].q.ps, stepS es[i].q.cs w.now⟩) = coordO H1 es[i].cp (stepS es[i].q.cs w.now) from rfl, show ndP H4 (es[i].to ⟨es[i].q.ps, stepS es[i].q.cs w.now⟩) = partO H4 es[i].pp es[i].q.ps from rfl]; exact subA) ?_
    refine Sub.trans (Sub.cons (ndC_up hl1)) ?_
    refine Sub.trans (es_take (A := ndC H1) hil) ?_
    refine Sub.trans (Sub.cons (Sub.cons (ndP_up (hl03.trans hl4)))) ?_
    refine Sub.trans (Sub.cons (es_take (A := ndP H4) hil)) ?_
    refine Sub.trans (Sub.cons (Sub.cons (row_ns q1 q2 (by rw [List.length_append, neC_len]; rw [List.length_append, neC_len] at q4; exact q4) q6))) ?_
    refine Sub.trans (Sub.cons (Sub.cons (ns_set hil (q := ⟨es[i].q.ps, stepS es[i].q.cs w.now⟩) rfl))) ?_
    refine Sub.trans (B := wRow p (.slice (some ⟨b2, 0, none⟩) es.length cap) nb w.now lv :: wNs (.slice (some ⟨b2, 0, none⟩) es.length cap) (es.set i (es[i].to ⟨es[i].q.ps, stepS es[i].q.cs w.now⟩)) :: bigL (ndP H4) (es.set i (es[i].to ⟨es[i].q.ps, stepS es[i].q.cs w.now⟩)) :: bigL (ndC H1) (es.set i (es[i].to ⟨es[i].q.ps, stepS es[i].q.cs w.now⟩)) :: Net.netO H6 (ptrC nb) (sendL (sendL w.net (stepOut es[i].q.cs w.now)) (askL es[i].q.ps)) :: wLog H lv w.log :: R) subA ?_
    exact world_shut (w := { setN w i ⟨es[i].q.ps, stepS es[i].q.cs w.now⟩ with net := sendL (sendL w.net (stepOut es[i].q.cs w.now)) (askL es[i].q.ps) }) hns3 (hl5.trans hl6) (hl2.trans (hl3.trans hl46)) (.refl _) hl06
end Go.Proofs.YtpphdbnifbjfmaaGreatDoor
