/- CoordDecides, walked. -/
import Derived.Test.YthoafjeampbkeaaCUS
set_option linter.unusedVariables false
set_option linter.unusedSimpArgs false
namespace Go.Proofs.Ythoafjeampbkeaa
open Go Go.Sx Go.Proofs
abbrev sL (b : Option Addr × Nat) (l : List Message) : Value := .slice b.1 l.length b.2
/-- what the law keeps -/
structure DS where
  s : CS
  yes : List Message
  no : List Message
  votes : List Message
  pm : List (K3 × Int)
  y : Option Addr × Nat
  n : Option Addr × Nat
  v : Option Addr × Nat
  H : Heap
structure DOk (k : Nat) (node : Int) (d : DS) : Prop where
  D : Dec d.s d.yes d.no d.votes d.pm
  I : DI k node d.s
  lv : d.votes.length ≤ k
  ly : d.yes.length + d.no.length ≤ 1000 * k
theorem beg_len {s s' : CS} {now : Int} {l : List Work} {x : Txn} {out : List Message} {e : Int} (h : BegA s now l x out e s') : (e = 4 ∧ s' = s) ∨ (e = 0 ∧ ∃ ws, ws ≠ [] ∧ x = newX s ∧ s' = beginS s now ws ∧ out.length = ws.length ∧ ws.length ≤ l.length) := by
  obtain ⟨ws, hws, ⟨_, _, _, he, rfl⟩ | ⟨h1, rfl, rfl, he, rfl⟩⟩ := h
  · exact .inl ⟨he, rfl⟩
  · have hwf : ws.map (·.1) = (works0 0 l).map (·.1) := works0_map hws
    have hle : ws.length ≤ l.length := by have := congrArg List.length hwf; simp only [List.length_map] at this; rw [this]; exact works0_len
    refine .inr ⟨he, ws, h1, rfl, rfl, ?_, hle⟩
    have hnd : (ws.map (·.1)).Nodup := by
      rw [hwf, List.nodup_iff_pairwise_ne]
      exact works0_rise.imp fun h e => by omega
    rw [again_begun hnd]
    unfold beginOut
    rw [List.length_map, pq_len]
theorem told_le {s : CS} {votes : List Message} {pm : List (K3 × Int)} {d : Message} (h : Told1 s votes pm d) (hk : d.Kind = 3) (hy : d.Yes = true) : (mget d.Txn.k pm).getD 0 ≤ (votersN d.Txn votes : Int) := by
  by_cases hn : 0 ≤ (mget d.Txn.k pm).getD 0
  · have := h.yes hk hy ((mget d.Txn.k pm).getD 0).toNat (Int.toNat_of_nonneg hn)
    omega
  · omega
theorem Dec.yes {s : CS} {yes no votes : List Message} {pm : List (K3 × Int)} {m : Message} (D : Dec s yes no votes pm) : Dec s (yes ++ [m]) no votes pm := D.any
theorem Dec.no1 {s : CS} {yes no votes : List Message} {pm : List (K3 × Int)} {m : Message} (D : Dec s yes no votes pm) (hn : mget m.Txn.k s.ts = none ∧ (mget m.Txn.k pm).isSome = true) : Dec s yes (no ++ [m]) votes pm :=
  (D.told (l := []) (y' := []) (n' := [m]) fun x hx => by rw [List.mem_singleton.1 hx]; exact hn).any
theorem ynv_up {H H' : Heap} {a1 a2 a3 : Value} {l1 l2 l3 : List Message} {L : List HProp} (hl : H.le H') : Sub (ownS rMessage 19 216 53 H a1 l1 :: ownS rMessage 19 216 53 H a2 l2 :: ownS rMessage 19 216 53 H a3 l3 :: L) (ownS rMessage 19 216 53 H' a1 l1 :: ownS rMessage 19 216 53 H' a2 l2 :: ownS rMessage 19 216 53 H' a3 l3 :: L) :=
  (ownS_up hl).trans (Sub.cons ((ownS_up hl).trans (Sub.cons (ownS_up hl))))
theorem isSome_of {k : K3} {pm : List (K3 × Int)} (h : ¬ (mget k pm).getD 0 = 0) : (mget k pm).isSome = true := by
  cases hg : mget k pm with
  | none => rw [hg] at h; exact absurd rfl h
  | some v => rfl
set_option maxHeartbeats 32000000 in
set_option maxRecDepth 20000 in
theorem coordDecides_spec {W0 : World} {H : Heap} {v : Value} {node : Int} {script : List Op} (hf : fits node) (h0 : SlB rOp 22 256 H v script) :
    Ct Try.prog 4 #[I node, v] W0 H [] (fun r H' B => r = .bool true ∧ B = []) := by
  refine Ct.go (vs := [I node, v]) fun R => ?_
  obtain ⟨b0, c0, rfl, hc0, hd0⟩ := h0.1.shape
  refine walk ?_
  refine ops_call rfl rfl (cnew_spec (node := node) (life := 1)) fun r1 H1 B hl1 ⟨p, er, eB, eH⟩ => ?_
  subst er eB eH
  refine walk ?_
  refine ops_call (vs := []) rfl rfl cawake_spec fun r2 H2 B hl2 ⟨er, eB⟩ => ?_
  subst er eB
  refine walk ?_
  refine ops_makeMap ek3 rInt false rfl fun pb _ => ?_
  refine walk ?_
  refine ex_loop (σ := Nat × DS) (fun u => (u.1 ≤ script.length ∧ u.1 ≤ 60) ∧ H1.le u.2.H ∧ DOk u.1 node u.2) (fun u => [(0, I node), (1, .slice b0 script.length c0), (5, .pointer (some ⟨p, 0, none⟩)), (6, sL u.2.y u.2.yes), (7, sL u.2.n u.2.no), (8, sL u.2.v u.2.votes), (9, .map (some pb)), (10, I u.1)]) (fun u => u.2.H) (fun u => coordO u.2.H p u.2.s :: ownS rMessage 19 216 53 u.2.H (sL u.2.y u.2.yes) u.2.yes :: ownS rMessage 19 216 53 u.2.H (sL u.2.n u.2.no) u.2.no :: ownS rMessage 19 216 53 u.2.H (sL u.2.v u.2.votes) u.2.votes :: mapO ek3 rInt false Heap.empty pb u.2.pm :: R) (fun u => script.length - u.1) (0, ⟨⟨node, 1, 0, []⟩, [], [], [], [], (none, 0), (none, 0), (none, 0), H2⟩) ⟨⟨Nat.zero_le _, by omega⟩, hl2, ⟨dec0, ⟨cinv0 hf fit1c, fun k t h => (by cases h), rfl⟩, by simp, by simp⟩⟩ (hs0 := ?_) fun ⟨k, ⟨s, yes, no, votes, pm, ⟨y1, y2⟩, ⟨n1, n2⟩, ⟨v1, v2⟩, HK⟩⟩ ⟨⟨hk0, hk60⟩, hlK, hD⟩ K hL => ?_
  rotate_left
  · refine Sub.trans (B := mapO ek3 rInt false H2 pb [] :: coordO H1 p ⟨node, 1, 0, []⟩ :: R) (by (repeat (first | exact Sub.refl _ | exact Sub.nil _ | (apply sub_pick; (repeat (first | exact Has.here | apply Has.there)); skip) | apply Sub.drop))) ?_
    refine Sub.trans (show Sub _ (mapO ek3 rInt false Heap.empty pb [] :: coordO H1 p ⟨node, 1, 0, []⟩ :: R) from fun h ⟨h1, h2, a, r⟩ => ⟨h1, h2, mapO_flat a, r⟩) ?_
    refine Sub.trans (B := coordO H1 p ⟨node, 1, 0, []⟩ :: mapO ek3 rInt false Heap.empty pb [] :: R) (by (repeat (first | exact Sub.refl _ | exact Sub.nil _ | (apply sub_pick; (repeat (first | exact Has.here | apply Has.there)); skip) | apply Sub.drop))) ?_
    exact (coord_up hl2).trans (Sub.cons (ownS_nil.trans (ownS_nil.trans ownS_nil)))
  simp only at hk0 hk60 hlK hD
  dsimp only
  refine walkG ?_
  refine ex_if rfl (fun hk => ?_) (fun hk => ?_)
  · have hk1 : k < script.length := by omega
    refine walk ?_
    refine ops_ixp rfl rfl (h0.mono hlK).1 hk1 fun bo oo co hro hco => ?_
    obtain ⟨mv, hmv⟩ : ∃ mv, script[k] = mv := ⟨_, rfl⟩
    rw [hmv] at hco
    obtain ⟨t1, t2, t3, t4, t5, rfl, k0, k1, k2, k3, k4, k5, k6, k7, j1, j2, k8, k9, k10, k11, j3, k12, k13, k14, j4, j5, k15⟩ := id hco
    obtain ⟨mb1, mc1, rfl, _, _⟩ := j1.1.shape
    obtain ⟨mb2, mc2, rfl, _, _⟩ := j2.1.shape
    obtain ⟨mb3, mc3, rfl, _, _⟩ := j3.1.shape
    obtain ⟨mb4, mc4, rfl, _, _⟩ := j4.1.shape
    obtain ⟨mb5, mc5, rfl, _, _⟩ := j5.1.shape
    have hmm : rMessage HK [I mv.M.From, I mv.M.To, I mv.M.Kind, I mv.M.Txn.Node, I mv.M.Txn.Life, I mv.M.Txn.Count, I mv.M.Work.Robot, .slice mb1 mv.M.Work.Take.length mc1, .slice mb2 mv.M.Work.Drop.length mc2, .bool mv.M.Yes, I mv.M.ID, I mv.M.Call.Verb, I mv.M.Call.Epoch, I mv.M.Call.Route.Start, .slice mb3 mv.M.Call.Route.Cells.length mc3, I mv.M.Reply.Code, I mv.M.Reply.Epoch, I mv.M.Reply.Route.Start, .slice mb4 mv.M.Reply.Route.Cells.length mc4] mv.M := ⟨_, _, _, _, rfl, k1, k2, k3, k4, k5, k6, k7, j1, j2, k8, k9, k10, k11, j3, k12, k13, k14, j4⟩
    refine walk ?_
    refine ops_ldNH rfl rfl hro rfl ?_
    refine walk ?_
    refine ops_alloc rfl fun p11 _ => ?_
    refine walk ?_
    refine ex_cutb (σ := CS × List Message × List (K3 × Int) × List Message × (Option Addr × Nat) × Value × Heap) (fun u => Dec u.1 yes no u.2.1 u.2.2.1 ∧ DI (k + 1) node u.1 ∧ u.2.1.length ≤ k + 1 ∧ HK.le u.2.2.2.2.2.2 ∧ (∀ d ∈ u.2.2.2.1, Told1 u.1 u.2.1 u.2.2.1 d) ∧ u.2.2.2.1.length ≤ 1000 ∧ SlB rMessage 19 216 u.2.2.2.2.2.2 u.2.2.2.2.2.1 u.2.2.2.1) (fun u => [(0, I node), (1, .slice b0 script.length c0), (5, .pointer (some ⟨p, 0, none⟩)), (6, sL (y1, y2) yes), (7, sL (n1, n2) no), (8, sL u.2.2.2.2.1 u.2.1), (9, .map (some pb)), (10, I k), (12, u.2.2.2.2.2.1)]) (fun u => u.2.2.2.2.2.2) (fun u => coordO u.2.2.2.2.2.2 p u.1 :: ownS rMessage 19 216 53 u.2.2.2.2.2.2 (sL (y1, y2) yes) yes :: ownS rMessage 19 216 53 u.2.2.2.2.2.2 (sL (n1, n2) no) no :: ownS rMessage 19 216 53 u.2.2.2.2.2.2 (sL u.2.2.2.2.1 u.2.1) u.2.1 :: mapO ek3 rInt false Heap.empty pb u.2.2.1 :: R) (fun KC hKC => ?_) (fun ⟨s', votes', pm', l, ⟨w1, w2⟩, lv, HC⟩ ⟨hD', hI', hlv', hlC, htold, hll, hsl⟩ => ?_)
    rotate_left
    · simp only at hD' hI' hlv' hlC htold hll hsl
      dsimp only
      obtain ⟨bl, cl, rfl, _, _⟩ := hsl.1.shape
      refine walk ?_
      refine ex_loop (σ := Nat × List Message × List Message × (Option Addr × Nat) × (Option Addr × Nat)) (fun u => u.1 ≤ l.length ∧ Dec s' u.2.1 u.2.2.1 votes' pm' ∧ u.2.1.length + u.2.2.1.length ≤ 1000 * k + u.1) (fun u => [(0, I node), (1, .slice b0 script.length c0), (5, .pointer (some ⟨p, 0, none⟩)), (6, sL u.2.2.2.1 u.2.1), (7, sL u.2.2.2.2 u.2.2.1), (8, sL (w1, w2) votes'), (9, .map (some pb)), (10, I k), (118, .slice bl l.length cl), (119, I l.length), (120, I u.1)]) (fun _ => HC) (fun u => coordO HC p s' :: ownS rMessage 19 216 53 HC (sL u.2.2.2.1 u.2.1) u.2.1 :: ownS rMessage 19 216 53 HC (sL u.2.2.2.2 u.2.2.1) u.2.2.1 :: ownS rMessage 19 216 53 HC (sL (w1, w2) votes') votes' :: mapO ek3 rInt false Heap.empty pb pm' :: R) (fun u => l.length - u.1) (0, yes, no, (y1, y2), (n1, n2)) ⟨Nat.zero_le _, hD', hD.ly⟩ (hs0 := ?_) fun ⟨j, ys, ns, ⟨z1, z2⟩, ⟨x1, x2⟩⟩ ⟨hj0, hDj, hlj⟩ K2 hL2 => ?_
      rotate_left
      · dsimp only
        first | exact Sub.refl _ | (repeat (first | exact Sub.refl _ | exact Sub.nil _ | (apply sub_pick; (repeat (first | exact Has.here | apply Has.there)); skip) | apply Sub.drop))
      simp only at hj0 hDj hlj
      dsimp only
      refine walk ?_
      refine ex_if rfl (fun hj => ?_) (fun hj => ?_)
      · have hj1 : j < l.length := by omega
        have htd := htold _ (List.getElem_mem hj1)
        obtain ⟨m, hm⟩ : ∃ m, l[j] = m := ⟨_, rfl⟩
        rw [hm] at htd
        refine walk ?_
        refine ops_ixp rfl rfl hsl.1 hj1 fun ba oa ca hra hca => ?_
        rw [hm] at hca
        have hca0 := hca
        obtain ⟨u1, u2, u3, u4, rfl, e1, e2, e3, e4, e5, e6, e7, g1, g2, e8, e9, e10, e11, g3, e12, e13, e14, g4⟩ := hca
        obtain ⟨ub1, uc1, rfl, _, _⟩ := g1.1.shape
        obtain ⟨ub2, uc2, rfl, _, _⟩ := g2.1.shape
        obtain ⟨ub3, uc3, rfl, _, _⟩ := g3.1.shape
        obtain ⟨ub4, uc4, rfl, _, _⟩ := g4.1.shape
        clear g1 g2 g3 g4
        refine walk ?_
        refine ops_ldNH rfl rfl hra rfl ?_
        refine walk ?_
        refine ops_alloc rfl fun p17 _ => ?_
        refine walk ?_
        refine ex_if rfl (fun hkd => ?_) (fun hkd => ?_)
        · refine walk ?_
          exact out_next hL2 (j + 1, ys, ns, (z1, z2), (x1, x2)) ⟨by simp only; omega, hDj, by simp only; omega⟩
        have hk3 : m.Kind = 3 := Classical.byContradiction hkd
        have hcap : (ys.length + ns.length + 1) * 216 ≤ cap47 := by simp only [cap47]; omega
        have hcn : (ns.length + 1) * 216 ≤ cap47 := Nat.le_trans (Nat.mul_le_mul_right _ (Nat.add_le_add_right (Nat.le_add_left _ _) 1)) hcap
        have hcy : (ys.length + 1) * 216 ≤ cap47 := Nat.le_trans (Nat.mul_le_mul_right _ (Nat.add_le_add_right (Nat.le_add_right _ _) 1)) hcap
        have hca1 := hca0
        unfold Message.cv at hca1
        cases hmy : m.Yes with
        | false =>
          rw [hmy] at hca1
          refine walk ?_
          refine ex_any 13 [row p17 53 (cvM (ub1, uc1) (ub2, uc2) (ub3, uc3) (ub4, uc4) { m with Yes := false })] ?_
          refine stepY 0 ?_; refine stepY 1 ?_; refine stepY 2 ?_
          refine gny_skip 3 rfl rfl ?_; refine gny_skip 4 rfl rfl ?_; refine gny_skip 5 rfl rfl ?_; refine gny_skip 6 rfl rfl ?_; refine gny_skip 7 rfl rfl ?_; refine gny_skip 8 rfl rfl ?_; refine gny_skip 9 rfl rfl ?_; refine gny_skip 10 rfl rfl ?_; refine gny_skip 11 rfl rfl ?_
          refine stepY 12 ?_
          refine any_rest rfl ?_
          refine walk ?_
          refine ops_app1 (y := m) rfl rfl rfl hca1 hcn fun d3 e3 => ?_
          rw [show ns.length + 1 = (ns ++ [m]).length by rw [List.length_append]; rfl]
          refine walk ?_
          refine out_next hL2 (j + 1, ys, ns ++ [m], (z1, z2), (d3, e3)) ⟨by simp only; omega, hDj.no1 (htd.no hk3 hmy), by simp only [List.length_append, List.length_singleton]; omega⟩
        | true =>
          have hle := told_le htd hk3 hmy
          rw [hmy] at hca1
          refine ex_lend (A := ownS rMessage 19 216 53 HC (sL (w1, w2) votes') votes') (by repeat (first | exact Has.here | apply Has.there)) fun E hE hEd hEle hEle2 => ?_
          have hsv := ownS_reads hE hEle hEle2
          refine walk ?_
          refine ex_any 13 [row p17 53 (cvM (ub1, uc1) (ub2, uc2) (ub3, uc3) (ub4, uc4) { m with Yes := true }), mapO ek3 rInt false Heap.empty pb pm'] ?_
          refine stepY 0 ?_; refine stepY 1 ?_; refine stepY 2 ?_; refine stepY 3 ?_; refine stepY 4 ?_; refine stepY 5 ?_; refine stepY 7 ?_; refine stepY 8 ?_; refine stepY 9 ?_
          refine gny_lkA (RV := rInt) 10 rfl rfl rfl (by repeat (first | exact Has.here | apply Has.there)) ?_
          refine gny_pcall 6 rfl rfl rfl (from_spec (x := m.Txn) hsv.1) ?_
          refine stepY 11 ?_; refine stepY 12 ?_
          refine any_rest rfl ?_
          refine walk ?_
          refine ex_if rfl (fun hcv => ?_) (fun hcv => ?_)
          · exact absurd hcv (Int.not_lt.2 hle)
          refine ex_back hE hEd (.refl _) ?_
          refine walk ?_
          refine ops_app1 (y := m) rfl rfl rfl hca1 hcy fun d3 e3 => ?_
          rw [show ys.length + 1 = (ys ++ [m]).length by rw [List.length_append]; rfl]
          refine walk ?_
          refine out_next hL2 (j + 1, ys ++ [m], ns, (d3, e3), (x1, x2)) ⟨by simp only; omega, hDj.yes, by simp only [List.length_append, List.length_singleton]; omega⟩
      · clear hL2
        obtain rfl : j = l.length := by omega
        refine walk ?_
        refine out_next hL (k + 1, ⟨s', ys, ns, votes', pm', (z1, z2), (x1, x2), (w1, w2), HC⟩) ⟨⟨by simp only; omega, by simp only; omega⟩, hlK.trans hlC, ⟨hDj, hI', hlv', by simp only at hlj ⊢; omega⟩⟩
    obtain ⟨D, I0, hlv, hly⟩ := hD
    have hlv : votes.length ≤ k := hlv
    have hly : yes.length + no.length ≤ 1000 * k := hly
    have I0 : DI k node s := I0
    have D : Dec s yes no votes pm := D
    refine ex_if rfl (fun hq1 => ?_) (fun hq1 => ?_)
    · refine walk ?_
      refine ex_cut0 (σ := Txn × List Message × Int × CS × Value × Nat × Heap) (fun u => BegA s mv.Now (ownC mv.Works) u.1 u.2.1 u.2.2.1 u.2.2.2.1 ∧ SlB rMessage 19 216 u.2.2.2.2.2.2 u.2.2.2.2.1 u.2.1 ∧ HK.le u.2.2.2.2.2.2) (fun u => [(0, I node), (1, .slice b0 script.length c0), (5, .pointer (some ⟨p, 0, none⟩)), (6, sL (y1, y2) yes), (7, sL (n1, n2) no), (8, sL (v1, v2) votes), (9, .map (some pb)), (10, I k), (12, nilS), (13, .pointer (some ⟨u.2.2.2.2.2.1, 0, none⟩)), (14, u.2.2.2.2.1), (15, I u.2.2.1)]) (fun u => u.2.2.2.2.2.2) (fun u => coordO u.2.2.2.2.2.2 p u.2.2.2.1 :: row u.2.2.2.2.2.1 28 (Txn.cv u.1) :: ownS rMessage 19 216 53 HK (sL (y1, y2) yes) yes :: ownS rMessage 19 216 53 HK (sL (n1, n2) no) no :: ownS rMessage 19 216 53 HK (sL (v1, v2) votes) votes :: mapO ek3 rInt false Heap.empty pb pm :: R) (fun K1 hK1 => ?_) (fun ⟨x, out, e, s2, w, p13, H1⟩ ⟨hbeg, hout, hlx⟩ => ?_)
      · refine ex_any 14 [row p11 68 (OA (mb1, mc1) (mb2, mc2) (mb3, mc3) (mb4, mc4) (mb5, mc5) mv)] ?_
        refine stepY 0 ?_; refine stepY 1 ?_; refine stepY 2 ?_; refine stepY 4 ?_; refine stepY 5 ?_
        refine any_2 3 11 (at_call 3 rfl rfl (ownC_spec (W0 := W0) (H := HK) j5) fun r1 H1 B hl1 eB => ?_) (at_w 11 rfl (op_alloc fun b11 _ => ⟨(by first | exact Go.Sx.Heap.le.refl _ | exact hlx | exact hlx.trans hly | exact hly | exact hly.trans hlx | exact hl5 | exact hl5.trans hl6), (by (repeat (first | exact Sub.refl _ | exact Sub.nil _ | (apply sub_pick; (repeat (first | exact Has.here | apply Has.there)); skip) | apply Sub.drop))), ?_⟩))
        · skip
          subst eB
          refine ⟨(by (repeat (first | exact Sub.refl _ | exact Sub.nil _ | (apply sub_pick; (repeat (first | exact Has.here | apply Has.there)); skip) | apply Sub.drop))), ?_⟩
          refine any_freeze r1 fun H2 hl2 hs2 => ?_
          have hlx := hl1.trans hl2
          refine any_2 6 11 (at_call 6 rfl rfl (ct_up (begin2_spec (W0 := W0) (H := H2) (p := p) (n := k) (s := s) I0.I (by omega) k15 hs2 (Nat.le_trans ownC_len (by omega))) (fun _ hc => coord_mono hlx hc)) fun r3 H3 B hl3 ⟨x, w, e, out, s2, er, hbeg, eB⟩ => ?_) (at_w 11 rfl (op_alloc fun b11 _ => ⟨(by first | exact Go.Sx.Heap.le.refl _ | exact hlx | exact hlx.trans hly | exact hly | exact hly.trans hlx | exact hl5 | exact hl5.trans hl6), (by (repeat (first | exact Sub.refl _ | exact Sub.nil _ | (apply sub_pick; (repeat (first | exact Has.here | apply Has.there)); skip) | apply Sub.drop))), ?_⟩))
          · skip
            subst er eB
            refine ⟨(by (repeat (first | exact Sub.refl _ | exact Sub.nil _ | (apply sub_pick; (repeat (first | exact Has.here | apply Has.there)); skip) | apply Sub.drop))), ?_⟩
            refine any_freeze w fun H4 hl4 hs4 => ?_
            have hly := hl3.trans hl4
            refine stepY 7 ?_
            refine gny_ext 8 rfl rfl rfl rfl ?_
            refine gny_ext 9 rfl rfl rfl rfl ?_
            refine gny_ext 10 rfl rfl rfl rfl ?_
            refine any_1 11 (at_w 11 rfl (op_alloc fun b11 _ => ⟨(by first | exact Go.Sx.Heap.le.refl _ | exact hlx | exact hlx.trans hly | exact hly | exact hly.trans hlx | exact hl5 | exact hl5.trans hl6), (by (repeat (first | exact Sub.refl _ | exact Sub.nil _ | (apply sub_pick; (repeat (first | exact Has.here | apply Has.there)); skip) | apply Sub.drop))), ?_⟩))
            refine any_sta 12 rfl rfl rfl rfl (by simp) rfl ⟨(by (repeat (first | exact Sub.refl _ | exact Sub.nil _ | (apply sub_pick; (repeat (first | exact Has.here | apply Has.there)); skip) | apply Sub.drop))), ?_⟩
            refine stepY 13 ?_
            refine any_rest rfl ?_
            refine walk ?_
            refine out_to hK1 (x, out, e, s2, w, b11, H4) ⟨hbeg, hs4, hlx.trans hly⟩ (hs := ?_)
            refine Sub.trans ?_ (coord_up hl4)
            (repeat (first | exact Sub.refl _ | exact Sub.nil _ | (apply sub_pick; (repeat (first | exact Has.here | apply Has.there)); skip) | apply Sub.drop))
          · skip
            refine any_1 6 (at_call 6 rfl rfl (ct_up (begin2_spec (W0 := W0) (H := H2) (p := p) (n := k) (s := s) I0.I (by omega) k15 hs2 (Nat.le_trans ownC_len (by omega))) (fun _ hc => coord_mono hlx hc)) fun r3 H3 B hl3 ⟨x, w, e, out, s2, er, hbeg, eB⟩ => ?_)
            subst er eB
            refine ⟨(by (repeat (first | exact Sub.refl _ | exact Sub.nil _ | (apply sub_pick; (repeat (first | exact Has.here | apply Has.there)); skip) | apply Sub.drop))), ?_⟩
            refine any_freeze w fun H4 hl4 hs4 => ?_
            have hly := hl3.trans hl4
            refine stepY 7 ?_
            refine gny_ext 8 rfl rfl rfl rfl ?_
            refine gny_ext 9 rfl rfl rfl rfl ?_
            refine gny_ext 10 rfl rfl rfl rfl ?_
            refine any_sta 12 rfl rfl rfl rfl (by simp) rfl ⟨(by (repeat (first | exact Sub.refl _ | exact Sub.nil _ | (apply sub_pick; (repeat (first | exact Has.here | apply Has.there)); skip) | apply Sub.drop))), ?_⟩
            refine stepY 13 ?_
            refine any_rest rfl ?_
            refine walk ?_
            refine out_to hK1 (x, out, e, s2, w, b11, H4) ⟨hbeg, hs4, hlx.trans hly⟩ (hs := ?_)
            refine Sub.trans ?_ (coord_up hl4)
            (repeat (first | exact Sub.refl _ | exact Sub.nil _ | (apply sub_pick; (repeat (first | exact Has.here | apply Has.there)); skip) | apply Sub.drop))
        · skip
          refine any_1 3 (at_call 3 rfl rfl (ownC_spec (W0 := W0) (H := HK) j5) fun r1 H1 B hl1 eB => ?_)
          subst eB
          refine ⟨(by (repeat (first | exact Sub.refl _ | exact Sub.nil _ | (apply sub_pick; (repeat (first | exact Has.here | apply Has.there)); skip) | apply Sub.drop))), ?_⟩
          refine any_freeze r1 fun H2 hl2 hs2 => ?_
          have hlx := hl1.trans hl2
          refine any_1 6 (at_call 6 rfl rfl (ct_up (begin2_spec (W0 := W0) (H := H2) (p := p) (n := k) (s := s) I0.I (by omega) k15 hs2 (Nat.le_trans ownC_len (by omega))) (fun _ hc => coord_mono hlx hc)) fun r3 H3 B hl3 ⟨x, w, e, out, s2, er, hbeg, eB⟩ => ?_)
          subst er eB
          refine ⟨(by (repeat (first | exact Sub.refl _ | exact Sub.nil _ | (apply sub_pick; (repeat (first | exact Has.here | apply Has.there)); skip) | apply Sub.drop))), ?_⟩
          refine any_freeze w fun H4 hl4 hs4 => ?_
          have hly := hl3.trans hl4
          refine stepY 7 ?_
          refine gny_ext 8 rfl rfl rfl rfl ?_
          refine gny_ext 9 rfl rfl rfl rfl ?_
          refine gny_ext 10 rfl rfl rfl rfl ?_
          refine any_sta 12 rfl rfl rfl rfl (by simp) rfl ⟨(by (repeat (first | exact Sub.refl _ | exact Sub.nil _ | (apply sub_pick; (repeat (first | exact Has.here | apply Has.there)); skip) | apply Sub.drop))), ?_⟩
          refine stepY 13 ?_
          refine any_rest rfl ?_
          refine walk ?_
          refine out_to hK1 (x, out, e, s2, w, b11, H4) ⟨hbeg, hs4, hlx.trans hly⟩ (hs := ?_)
          refine Sub.trans ?_ (coord_up hl4)
          (repeat (first | exact Sub.refl _ | exact Sub.nil _ | (apply sub_pick; (repeat (first | exact Has.here | apply Has.there)); skip) | apply Sub.drop))
      simp only at hbeg hout hlx
      dsimp only
      have hI2 := I0.begin (by omega) ownC_len k15 hbeg
      rcases beg_len hbeg with ⟨rfl, rfl⟩ | ⟨rfl, ws, hws, rfl, rfl, hlen, hws8⟩
      · refine walk ?_
        refine out_to hKC (s2, votes, pm, [], (v1, v2), nilS, H1) ⟨D, hI2, by simp only; omega, hlx, fun d hd => (by cases hd), Nat.zero_le _, SlB.nil⟩ (hs := ?_)
        refine Sub.trans ?_ (Sub.cons (ynv_up hlx))
        (repeat (first | exact Sub.refl _ | exact Sub.nil _ | (apply sub_pick; (repeat (first | exact Has.here | apply Has.there)); skip) | apply Sub.drop))
      · have h8 := Nat.le_trans hws8 ownC_len
        have hfw : fits (ws.length : Int) := by unfold fits; omega
        obtain ⟨bw, cw, rfl, _, _⟩ := hout.1.shape
        rw [hlen]
        refine walk ?_
        refine ops_update (RV := rInt) (ag := false) (cs := [I ws.length]) (u := (ws.length : Int)) rfl rfl ⟨rfl, hfw⟩ (by repeat (first | exact Has.here | apply Has.there)) ?_
        refine walk ?_
        refine out_to hKC (beginS s mv.Now ws, votes, mset (newX s).k (ws.length : Int) pm, [], (v1, v2), nilS, H1) ⟨D.begin I0.I hws, hI2, by simp only; omega, hlx, fun d hd => (by cases hd), Nat.zero_le _, SlB.nil⟩ (hs := ?_)
        refine Sub.trans ?_ (Sub.cons (ynv_up hlx))
        (repeat (first | exact Sub.refl _ | exact Sub.nil _ | (apply sub_pick; (repeat (first | exact Has.here | apply Has.there)); skip) | apply Sub.drop))
    refine walk ?_
    refine ex_if rfl (fun hq2 => ?_) (fun hq2 => ?_)
    · refine walk ?_
      refine ex_if rfl (fun _ => ?_) (fun h => absurd hq2 h)
      refine walk ?_
      refine ops_call rfl rfl (step_spec (W0 := W0) (H := HK) (p := p) (n := k) (s := s) I0.I (by omega) k15 (cap8d I0)) fun r1 H1 B hl1 ⟨q1, q2, er, eB⟩ => ?_
      subst er eB
      refine ops_freeze q1 fun H2 hl2 hs1 => ?_
      have hst := D.step I0.I (now := mv.Now)
      have hsn := I0.step_len (now := mv.Now)
      refine walk ?_
      refine out_to hKC (stepS s mv.Now, votes, pm, stepOut s mv.Now, (v1, v2), q1, H2) ⟨hst.1, I0.step, by simp only; omega, hl1.trans hl2, hst.2, by simp only; omega, hs1⟩ (hs := ?_)
      refine Sub.trans ?_ (Sub.cons (ynv_up (hl1.trans hl2)))
      refine Sub.trans ?_ (coord_up hl2)
      (repeat (first | exact Sub.refl _ | exact Sub.nil _ | (apply sub_pick; (repeat (first | exact Has.here | apply Has.there)); skip) | apply Sub.drop))
    refine walk ?_
    refine ex_if rfl (fun hq3 => ?_) (fun hq3 => ?_)
    · skip
      refine walk ?_
      refine ops_call rfl rfl (step_spec (W0 := W0) (H := HK) (p := p) (n := k) (s := s) I0.I (by omega) k15 (cap8d I0)) fun r1 H1 B hl1 ⟨q1, q2, er, eB⟩ => ?_
      subst er eB
      refine ops_freeze q1 fun H2 hl2 hs1 => ?_
      have hst := D.step I0.I (now := mv.Now)
      have hsn := I0.step_len (now := mv.Now)
      refine walk ?_
      refine out_to hKC (stepS s mv.Now, votes, pm, stepOut s mv.Now, (v1, v2), q1, H2) ⟨hst.1, I0.step, by simp only; omega, hl1.trans hl2, hst.2, by simp only; omega, hs1⟩ (hs := ?_)
      refine Sub.trans ?_ (Sub.cons (ynv_up (hl1.trans hl2)))
      refine Sub.trans ?_ (coord_up hl2)
      (repeat (first | exact Sub.refl _ | exact Sub.nil _ | (apply sub_pick; (repeat (first | exact Has.here | apply Has.there)); skip) | apply Sub.drop))
    refine ex_cut (σ := List Message × (Option Addr × Nat)) (fun u => Dec s yes no u.1 pm ∧ u.1.length ≤ k + 1 ∧ (mv.M.Kind = 2 → mv.M.Yes = true → mv.M.To = s.node → mv.M ∈ u.1)) (fun u => [(0, I node), (1, .slice b0 script.length c0), (5, .pointer (some ⟨p, 0, none⟩)), (6, sL (y1, y2) yes), (7, sL (n1, n2) no), (8, sL u.2 u.1), (9, .map (some pb)), (10, I k), (11, .pointer (some ⟨p11, 0, none⟩)), (12, nilS)]) (fun _ => HK) (fun u => coordO HK p s :: row p11 68 (OA (mb1, mc1) (mb2, mc2) (mb3, mc3) (mb4, mc4) (mb5, mc5) mv) :: ownS rMessage 19 216 53 HK (sL (y1, y2) yes) yes :: ownS rMessage 19 216 53 HK (sL (n1, n2) no) no :: ownS rMessage 19 216 53 HK (sL u.2 u.1) u.1 :: mapO ek3 rInt false Heap.empty pb pm :: R) (fun K1 hK1 => ?_) (fun ⟨votes', ⟨w1, w2⟩⟩ ⟨hD', hlv', hin⟩ => ?_)
    · have hno : ¬ (mv.M.Kind = 2 ∧ mv.M.Yes = true ∧ mv.M.To = node) → (mv.M.Kind = 2 → mv.M.Yes = true → mv.M.To = s.node → mv.M ∈ votes) := fun h a b c => absurd ⟨a, b, c.trans I0.nd⟩ h
      by_cases e1 : mv.M.Kind = 2
      · cases hmy : mv.M.Yes with
        | false =>
          refine walk ?_
          exact out_to hK1 (votes, (v1, v2)) ⟨D, by simp only; omega, fun _ h => (by rw [hmy] at h; cases h)⟩ (hs := by dsimp only [OA, Op.cv]; rw [hmy]; (repeat (first | exact Sub.refl _ | exact Sub.nil _ | (apply sub_pick; (repeat (first | exact Has.here | apply Has.there)); skip) | apply Sub.drop)))
        | true =>
          by_cases e3 : mv.M.To = node
          · have hm1 := hmm
            rw [hmy] at hm1
            have hcv : (votes.length + 1) * 216 ≤ cap47 := Nat.le_trans (Nat.mul_le_mul_right _ (show votes.length + 1 ≤ 100 by omega)) (by decide)
            refine walk ?_
            refine ops_app1 (y := mv.M) rfl rfl rfl hm1 hcv fun d3 e3 => ?_
            rw [show votes.length + 1 = (votes ++ [mv.M]).length by rw [List.length_append]; rfl]
            refine walk ?_
            exact out_to hK1 (votes ++ [mv.M], (d3, e3)) ⟨D.votes, by simp only [List.length_append, List.length_singleton]; omega, fun _ _ _ => List.mem_append_right _ (List.mem_singleton.2 rfl)⟩ (hs := by dsimp only [OA, Op.cv]; rw [hmy]; (repeat (first | exact Sub.refl _ | exact Sub.nil _ | (apply sub_pick; (repeat (first | exact Has.here | apply Has.there)); skip) | apply Sub.drop)))
          · refine walk ?_
            exact out_to hK1 (votes, (v1, v2)) ⟨D, by simp only; omega, fun _ _ h => absurd (h.trans I0.nd) e3⟩ (hs := by dsimp only [OA, Op.cv]; rw [hmy]; (repeat (first | exact Sub.refl _ | exact Sub.nil _ | (apply sub_pick; (repeat (first | exact Has.here | apply Has.there)); skip) | apply Sub.drop)))
      · refine walk ?_
        exact out_to hK1 (votes, (v1, v2)) ⟨D, by simp only; omega, fun h => absurd h e1⟩
    simp only at hD' hlv' hin
    dsimp only
    by_cases e5 : mv.M.Kind = 5
    · refine walk ?_
      refine ops_lkA (RV := rInt) rfl rfl (by repeat (first | exact Has.here | apply Has.there)) ?_
      by_cases e6 : (mget mv.M.Txn.k pm).getD 0 = 0
      · have e6' : (mget (mv.M.Txn.Node, mv.M.Txn.Life, mv.M.Txn.Count) pm).getD 0 = 0 := e6
        --!
        refine walk ?_
        exact out_next hL (k + 1, ⟨s, yes, no, votes', pm, (y1, y2), (n1, n2), (w1, w2), HK⟩) ⟨⟨by simp only; omega, by simp only; omega⟩, hlK, ⟨hD', I0.more (Nat.le_succ _), hlv', by simp only; omega⟩⟩
      · have e6' : ¬ (mget (mv.M.Txn.Node, mv.M.Txn.Life, mv.M.Txn.Count) pm).getD 0 = 0 := e6
        refine walk ?_
        refine ops_call rfl rfl (refOwnF_spec (W0 := W0) (H := HK) (m := mv.M) hmm) fun r1 H1 B hl1 ⟨cs1, er, hcs1, eB⟩ => ?_
        subst er eB
        refine walk ?_
        refine ops_call rfl rfl (ct_up (chear_spec (W0 := W0) (H := H1) (p := p) (n := k) (s := s) (m := mv.M) I0.I (by omega) (cap8d I0) hcs1) (fun _ hc => coord_mono hl1 hc)) fun r2 H2 B hl2 ⟨q1, q2, q3, er, eB⟩ => ?_
        subst er eB
        refine ops_freeze q1 fun H3 hl3 hs1 => ?_
        have hst := hD'.hear I0.I (m := mv.M) hin (fun _ => isSome_of e6)
        have hsn := I0.hear_len (m := mv.M)
        refine walk ?_
        refine out_to hKC ((cHear s mv.M).s, votes', pm, (cHear s mv.M).out, (w1, w2), q1, H3) ⟨hst.1, I0.hear, by simp only; omega, hl1.trans (hl2.trans hl3), hst.2, by simp only; omega, hs1⟩ (hs := ?_)
        refine Sub.trans ?_ (Sub.cons (ynv_up (hl1.trans (hl2.trans hl3))))
        refine Sub.trans ?_ (coord_up hl3)
        (repeat (first | exact Sub.refl _ | exact Sub.nil _ | (apply sub_pick; (repeat (first | exact Has.here | apply Has.there)); skip) | apply Sub.drop))
    · skip
      refine walk ?_
      refine ops_call rfl rfl (refOwnF_spec (W0 := W0) (H := HK) (m := mv.M) hmm) fun r1 H1 B hl1 ⟨cs1, er, hcs1, eB⟩ => ?_
      subst er eB
      refine walk ?_
      refine ops_call rfl rfl (ct_up (chear_spec (W0 := W0) (H := H1) (p := p) (n := k) (s := s) (m := mv.M) I0.I (by omega) (cap8d I0) hcs1) (fun _ hc => coord_mono hl1 hc)) fun r2 H2 B hl2 ⟨q1, q2, q3, er, eB⟩ => ?_
      subst er eB
      refine ops_freeze q1 fun H3 hl3 hs1 => ?_
      have hst := hD'.hear I0.I (m := mv.M) hin (fun h => absurd h e5)
      have hsn := I0.hear_len (m := mv.M)
      refine walk ?_
      refine out_to hKC ((cHear s mv.M).s, votes', pm, (cHear s mv.M).out, (w1, w2), q1, H3) ⟨hst.1, I0.hear, by simp only; omega, hl1.trans (hl2.trans hl3), hst.2, by simp only; omega, hs1⟩ (hs := ?_)
      refine Sub.trans ?_ (Sub.cons (ynv_up (hl1.trans (hl2.trans hl3))))
      refine Sub.trans ?_ (coord_up hl3)
      (repeat (first | exact Sub.refl _ | exact Sub.nil _ | (apply sub_pick; (repeat (first | exact Has.here | apply Has.there)); skip) | apply Sub.drop))
  · clear hL
    obtain ⟨D, I0, hlv, hly⟩ := hD
    have I0 : DI k node s := I0
    have D : Dec s yes no votes pm := D
    have hly : yes.length + no.length ≤ 1000 * k := hly
    have hy6 : yes.length ≤ 60000 := by omega
    have hn6 : no.length ≤ 60000 := by omega
    refine ex_freeze (sL (y1, y2) yes) fun H3 hl3 hys => ?_
    refine ex_freeze (sL (n1, n2) no) fun H4 hl4 hns => ?_
    have hys := hys.mono hl4
    refine walk ?_
    refine ex_loop (σ := Nat × Heap) (fun u => u.1 ≤ yes.length ∧ H4.le u.2) (fun u => [(5, .pointer (some ⟨p, 0, none⟩)), (7, .slice n1 no.length n2), (151, .slice y1 yes.length y2), (152, I yes.length), (153, I u.1)]) (fun u => u.2) (fun u => coordO u.2 p s :: R) (fun u => yes.length - u.1) (0, H4) ⟨Nat.zero_le _, .refl _⟩ (hs0 := ?_) fun ⟨i, HI⟩ ⟨hi0, hlI⟩ K hL => ?_
    rotate_left
    · refine Sub.trans ?_ (coord_up (hl3.trans hl4))
      (repeat (first | exact Sub.refl _ | exact Sub.nil _ | (apply sub_pick; (repeat (first | exact Has.here | apply Has.there)); skip) | apply Sub.drop))
    simp only at hi0 hlI
    dsimp only
    refine walk ?_
    refine ex_if rfl (fun hi => ?_) (fun hi => ?_)
    · have hi1 : i < yes.length := by omega
      obtain ⟨a, ha⟩ : ∃ a, yes[i] = a := ⟨_, rfl⟩
      refine walk ?_
      refine ops_ixp rfl rfl (hys.mono hlI).1 hi1 fun ba oa ca hra hca => ?_
      rw [ha] at hca
      obtain ⟨u1, u2, u3, u4, rfl, _, _, _, _, _, _, _, g1, g2, _, _, _, _, g3, _, _, _, g4⟩ := hca
      obtain ⟨ub1, uc1, rfl, _, _⟩ := g1.1.shape
      obtain ⟨ub2, uc2, rfl, _, _⟩ := g2.1.shape
      obtain ⟨ub3, uc3, rfl, _, _⟩ := g3.1.shape
      obtain ⟨ub4, uc4, rfl, _, _⟩ := g4.1.shape
      clear g1 g2 g3 g4
      obtain ⟨af, at', ak, ⟨a1, a2, a3⟩, aw, ay, ai, ac, ar⟩ := a
      refine walk ?_
      refine ops_ldNH rfl rfl hra rfl ?_
      refine walk ?_
      refine ops_alloc rfl fun p19 _ => ?_
      refine walk ?_
      refine ex_loop (σ := Nat × Heap) (fun u => u.1 ≤ no.length ∧ HI.le u.2) (fun u => [(5, .pointer (some ⟨p, 0, none⟩)), (7, .slice n1 no.length n2), (151, .slice y1 yes.length y2), (152, I yes.length), (153, I i), (19, .pointer (some ⟨p19, 0, none⟩)), (157, .slice n1 no.length n2), (158, I no.length), (159, I u.1)]) (fun u => u.2) (fun u => coordO u.2 p s :: row p19 53 (cvM (ub1, uc1) (ub2, uc2) (ub3, uc3) (ub4, uc4) ⟨af, at', ak, ⟨a1, a2, a3⟩, aw, ay, ai, ac, ar⟩) :: R) (fun u => no.length - u.1) (0, HI) ⟨Nat.zero_le _, .refl _⟩ fun ⟨j, HJ⟩ ⟨hj0, hlJ⟩ K2 hL2 => ?_
      simp only at hj0 hlJ
      dsimp only
      refine walk ?_
      refine ex_if rfl (fun hj => ?_) (fun hj => ?_)
      · have hj1 : j < no.length := by omega
        have hno := (D.no _ (List.getElem_mem hj1)).1
        obtain ⟨b, hb⟩ : ∃ b, no[j] = b := ⟨_, rfl⟩
        rw [hb] at hno
        refine walk ?_
        refine ops_ixp rfl rfl (hns.mono (hlI.trans hlJ)).1 hj1 fun bb ob cb hrb hcb => ?_
        rw [hb] at hcb
        obtain ⟨v1', v2', v3', v4', rfl, _, _, _, _, _, _, _, g1, g2, _, _, _, _, g3, _, _, _, g4⟩ := hcb
        obtain ⟨vb1, vc1, rfl, _, _⟩ := g1.1.shape
        obtain ⟨vb2, vc2, rfl, _, _⟩ := g2.1.shape
        obtain ⟨vb3, vc3, rfl, _, _⟩ := g3.1.shape
        obtain ⟨vb4, vc4, rfl, _, _⟩ := g4.1.shape
        clear g1 g2 g3 g4
        obtain ⟨bf, bt, bk, ⟨b1, b2, b3⟩, bw, by', bi, bc, br⟩ := b
        dsimp only at hno
        refine walk ?_
        refine ops_ldNH rfl rfl hrb rfl ?_
        refine walk ?_
        refine ops_alloc rfl fun p21 _ => ?_
        by_cases e : (⟨a1, a2, a3⟩ : Txn) = ⟨b1, b2, b3⟩
        · cases e
          refine walk ?_
          dsimp only
          rw [decide_eq_true (p := (⟨a1, a2, a3⟩ : Txn) = ⟨a1, a2, a3⟩) rfl]
          refine walk ?_
          refine ops_call rfl rfl (over_spec (W0 := W0) (H := HJ) (p := p) (n := k) (s := s) (x := ⟨a1, a2, a3⟩) I0.I (by omega) (cap7d I0) hno) fun r5 H5 B hl5 ⟨er, eB⟩ => ?_
          subst er eB
          refine walk ?_
          exact out_next hL2 (j + 1, H5) ⟨by simp only; omega, hlJ.trans hl5⟩
        · have e' : ¬ (a1 = b1 ∧ a2 = b2 ∧ a3 = b3) := by simpa using e
          refine walk ?_
          dsimp only
          refine walk ?_
          exact out_next hL2 (j + 1, HJ) ⟨by simp only; omega, hlJ⟩
      · clear hL2
        refine walk ?_
        exact out_next hL (i + 1, HJ) ⟨by simp only; omega, hlI.trans hlJ⟩
    · clear hL
      refine walk ?_
      refine fin0 ?_
      exact ⟨rfl, rfl⟩
end Go.Proofs.Ythoafjeampbkeaa
