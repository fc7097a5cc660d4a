/- CoordCrashed, walked. -/
import Derived.Test.YthoafjeampbkeaaCUN
set_option linter.unusedVariables false
set_option linter.unusedSimpArgs false
namespace Go.Proofs.Ythoafjeampbkeaa
open Go Go.Sx Go.Proofs
def nextS (node life : Int) (l : List Rec) : CS := ⟨node, life, 0, loadTs l []⟩
theorem next_op {node life : Int} {l : List Rec} : ∀ k t, mget k (nextS node life l).ts = some t → t.op = true := loadTs_all (P := fun _ t => t.op = true) (fun k t h => by cases h) fun r hr => rfl
theorem next_voting {node life : Int} {l : List Rec} : votingL (nextS node life l) = [] := by
  unfold votingL
  rw [List.map_eq_nil_iff, List.filter_eq_nil_iff]
  intro k hk
  rw [mem_allC] at hk
  cases hg : mget k (nextS node life l).ts with
  | none => rw [hg] at hk; cases hk
  | some t => rw [Option.getD_some, next_op k t hg]; simp
theorem next_is {node life : Int} {l : List Rec} {x : Txn} : (nextS node life l).isT x ↔ (l.any fun r => decide (r.Txn = x)) = true := by
  unfold CS.isT
  rw [show (nextS node life l).ts = loadTs l [] from rfl, loadTs_keys, List.any_eq_true]
  constructor
  · rintro (h | ⟨r, hr, h⟩)
    · cases h
    · exact ⟨r, hr, decide_eq_true (k_inj h)⟩
  · rintro ⟨r, hr, h⟩
    exact .inr ⟨r, hr, by rw [of_decide_eq_true h]⟩
def askC (node : Int) (x : Txn) : Message := { zMessage with From := 3, To := node, Kind := 5, Txn := x }
theorem next_hear {node life : Int} {l : List Rec} {x : Txn} (hx : x.Node = node) : cHear (nextS node life l) (askC node x) = ⟨nextS node life l, [decM node x 3 (l.any fun r => decide (r.Txn = x))], [], []⟩ := by
  have hf : forC (nextS node life l) (askC node x) := ⟨rfl, hx⟩
  have hop : ¬ (nextS node life l).isT x ∨ ((nextS node life l).tx x).op = true := by
    by_cases h : (nextS node life l).isT x
    · exact .inr (next_op _ _ (CS.get_tx h))
    · exact .inl h
  unfold cHear
  rw [if_neg (fun hh => hh hf), if_pos ⟨rfl, hop⟩]
  have : decide ((nextS node life l).isT (askC node x).Txn) = l.any fun r => decide (r.Txn = x) := by
    rw [Bool.eq_iff_iff, decide_eq_true_iff]
    exact next_is
  rw [this]
  rfl
theorem any_snoc {l : List Rec} {x : Txn} {j : Nat} (hj : j < l.length) : ((l.take (j + 1)).any fun r => decide (r.Txn = x)) = (((l.take j).any fun r => decide (r.Txn = x)) || decide (l[j].Txn = x)) := by
  rw [List.take_succ_eq_append_getElem hj, List.any_append]; simp
set_option maxHeartbeats 16000000 in
set_option maxRecDepth 20000 in
theorem coordCrashed_spec {W0 : World} {H : Heap} {v w : Value} {node : Int} {script : List Op} {asks : List Txn} (hf : fits node) (h0 : SlB rOp 22 256 H v script) (h2 : SlB rTxn 3 24 H w asks) :
    Ct Try.prog 7 #[I node, v, w] W0 H [] (fun r H' B => r = .bool true ∧ B = []) := by
  refine Ct.go (vs := [I node, v, w]) fun R => ?_
  obtain ⟨b0, c0, rfl, hc0, hd0⟩ := h0.1.shape
  obtain ⟨b2, c2, rfl, hc2, hd2⟩ := h2.1.shape
  refine walk ?_
  refine ops_call rfl rfl (cnew_spec (node := node) (life := 1)) fun r1 H1 B hl1 ⟨p, er, eB, eH⟩ => ?_
  subst er eB eH
  refine walk ?_
  refine ops_alloc rfl fun p6 _ => ?_
  refine walk ?_
  refine ops_call (vs := []) rfl rfl cawake_spec fun r2 H2 B hl2 ⟨er, eB⟩ => ?_
  subst er eB
  refine walk ?_
  refine ex_loop (σ := Nat × Nat × CS × Coord × (Option Addr × Nat) × Heap) (fun u => ((u.1 ≤ script.length ∧ u.1 ≤ 60) ∧ u.2.2.1.node = node) ∧ H1.le u.2.2.2.2.2 ∧ PI u.1 u.2.2.1 u.2.2.2.1 ∧ rCoord u.2.2.2.2.2 (CA u.2.2.2.2.1 u.2.2.2.1) u.2.2.2.1) (fun u => [(0, I node), (2, .slice b2 asks.length c2),(1, .slice b0 script.length c0), (7, .pointer (some ⟨u.2.1, 0, none⟩)), (8, .pointer (some ⟨p6, 0, none⟩)), (9, I u.1)]) (fun u => u.2.2.2.2.2) (fun u => coordO u.2.2.2.2.2 u.2.1 u.2.2.1 :: row p6 35 (CA u.2.2.2.2.1 u.2.2.2.1) :: R) (fun u => script.length - u.1) (0, p, ⟨node, 1, 0, []⟩, ⟨node, 1, 0, []⟩, (none, 0), H2) ⟨⟨⟨Nat.zero_le _, by omega⟩, rfl⟩, hl2, pi0 hf, ⟨nilS, rfl, hf, fit1c, fits0, SlB.nil⟩⟩ (hs0 := ?_) fun ⟨k, q, s, m, ⟨bm, cm⟩, HK⟩ ⟨⟨⟨hk0, hk60⟩, hnd⟩, hlK, hpi, hrc⟩ K hL => ?_
  rotate_left
  · refine Sub.trans ?_ (coord_up hl2)
    (repeat (first | exact Sub.refl _ | exact Sub.nil _ | (apply sub_pick; (repeat (first | exact Has.here | apply Has.there)); skip) | apply Sub.drop))
  simp only at hk0 hk60 hnd hlK hpi hrc
  dsimp only
  refine walkG ?_
  refine ex_if rfl (fun hk => ?_) (fun hk => ?_)
  · have hk1 : k < script.length := by omega
    refine walk ?_
    refine ex_any 6 [row p6 35 (CA (bm, cm) m)] ?_
    refine stepY 0 ?_; refine stepY 1 ?_; refine stepY 2 ?_; refine stepY 3 ?_
    refine gny_ixp 4 rfl rfl rfl (h0.mono hlK).1 hk1 fun b o cc hr hc => ?_
    have hc0 := hc
    obtain ⟨u1, u2, u3, u4, u5, rfl, _⟩ := hc
    refine gny_ldNH 5 rfl rfl rfl hr rfl ?_
    refine any_stage 13 [] ?_
    refine gny_call 6 rfl rfl rfl (play_spec (W0 := W0) (H := HK) (p := q) (k := k) (s := s) (m := m) (mv := script[k]) (c := CA (bm, cm) m) hpi (by omega) hrc hc0) fun r5 H5 B hl5 ⟨p', s', m', c', er, hc', hpi', hnn, eB⟩ => ?_
    subst er eB
    refine ⟨(by (repeat (first | exact Sub.refl _ | exact Sub.nil _ | (apply sub_pick; (repeat (first | exact Has.here | apply Has.there)); skip) | apply Sub.drop))), ?_⟩
    obtain ⟨⟨bn, cn⟩, rfl⟩ := CA_of hc'
    refine stepY 7 ?_
    refine gny_ext 8 rfl rfl rfl rfl ?_
    refine gny_ext 9 rfl rfl rfl rfl ?_
    refine gny_ext 10 rfl rfl rfl rfl ?_
    refine stepY 11 ?_
    refine any_sta 12 rfl rfl rfl rfl (by simp) rfl ⟨(by (repeat (first | exact Sub.refl _ | exact Sub.nil _ | (apply sub_pick; (repeat (first | exact Has.here | apply Has.there)); skip) | apply Sub.drop))), ?_⟩
    refine any_rest rfl ?_
    refine walk ?_
    exact out_next hL (k + 1, p', s', m', (bn, cn), H5) ⟨⟨⟨by simp only; omega, by simp only; omega⟩, hnn.trans hnd⟩, hlK.trans hl5, hpi', hc'⟩
  clear hL
  have hli := hpi.r.life
  have hlf : fits (m.Life + 1) := by rw [hli]; have := hpi.lf; unfold fits; omega
  have hfb : -9223372036854775808 ≤ m.Life + 1 ∧ m.Life + 1 ≤ 9223372036854775807 := by unfold fits at hlf; omega
  obtain ⟨ho, hok, hnod, hpi2⟩ := hpi.load (by omega)
  refine walk ?_
  refine ops_call rfl rfl (open_spec (W0 := W0) (H := HK) (p := q) (n := k) (s := s) hpi.I (by omega) (cap7 hpi)) fun r3 H3 B hl3 eB => ?_
  subst eB
  refine ops_freeze r3 fun H4 hl4 hs4 => ?_
  obtain ⟨b4, c4, rfl, _, _⟩ := hs4.1.shape
  refine walk ?_
  refine ops_call rfl rfl (cload_spec (W0 := W0) (H := H4) (node := node) (life := m.Life + 1) hf hlf hs4 (Nat.le_trans openL_len (Nat.le_trans hpi.I.ln (by omega)))) fun r5 H5 B hl5 hq => ?_
  rcases hq with ⟨⟨q2, hq, hbad⟩, _⟩ | ⟨_, hbad, _⟩ | ⟨_, _, p2, er, eB⟩
  · exact absurd (by rw [← hnd, hli]; exact hok q2 hq) hbad
  · exact absurd hnod hbad
  subst er eB
  rw [hnd, ← hli] at hpi2
  change PI (k + 1) (nextS node (m.Life + 1) (openL s)) _ at hpi2
  refine ops_L (L' := coordO H5 p2 (nextS node (m.Life + 1) (openL s)) :: R) (by (repeat (first | exact Sub.refl _ | exact Sub.nil _ | (apply sub_pick; (repeat (first | exact Has.here | apply Has.there)); skip) | apply Sub.drop))) ?_
  have IN : CInv (k + 1) (nextS node (m.Life + 1) (openL s)) := hpi2.I
  refine walk ?_
  refine ops_call rfl rfl (voting_spec (W0 := W0) (H := H5) (p := p2) (n := k + 1) (s := nextS node (m.Life + 1) (openL s)) IN (by omega)) fun r6 H6 B hl6 eB => ?_
  subst eB
  rw [next_voting]
  refine ops_shape r6 fun b6 c6 e6 _ _ _ => ?_
  rw [List.length_nil] at e6
  subst e6
  have hs4 := hs4.mono (hl5.trans hl6)
  have h2 := h2.mono (hlK.trans (hl3.trans (hl4.trans (hl5.trans hl6))))
  have hpn : ∀ key t, mget key (nextS node (m.Life + 1) (openL s)).ts = some t → t.parts.length ≤ 1000000 := cap8 hpi2
  generalize m.Life + 1 = lf at IN hpn ⊢
  generalize openL s = l at *
  refine walk ?_
  refine ex_loop (σ := Nat × Heap) (fun u => (u.1 ≤ asks.length ∧ u.1 ≤ 20) ∧ H6.le u.2) (fun u => [(0, I node), (2, .slice b2 asks.length c2), (11, .slice b4 l.length c4), (12, .pointer (some ⟨p2, 0, none⟩)), (14, I u.1)]) (fun u => u.2) (fun u => coordO u.2 p2 (nextS node lf l) :: R) (fun u => asks.length - u.1) (0, H6) ⟨⟨Nat.zero_le _, by omega⟩, .refl _⟩ fun ⟨j, HJ⟩ ⟨⟨hj0, hj20⟩, hlJ⟩ K hL => ?_
  simp only at hj0 hj20 hlJ
  dsimp only
  refine walkG ?_
  refine ex_if rfl (fun hj => ?_) (fun hj => ?_)
  · have hj1 : j < asks.length := by omega
    refine walk ?_
    refine ops_ixp rfl rfl (h2.mono hlJ).1 hj1 fun ba oa ca hra hca => ?_
    obtain ⟨⟨x1, x2, x3⟩, hx⟩ : ∃ x, asks[j] = x := ⟨_, rfl⟩
    rw [hx] at hca
    obtain ⟨rfl, hx1, hx2, hx3⟩ := hca
    change HRow HJ ba oa [I x1, I x2, I x3] at hra
    refine walk ?_
    refine ops_ldNH rfl rfl hra rfl ?_
    refine walk ?_
    refine ops_alloc rfl fun p15 _ => ?_
    refine walk ?_
    refine ex_loop (σ := Nat) (fun i => i ≤ l.length) (fun i => [(0, I node), (2, .slice b2 asks.length c2), (11, .slice b4 l.length c4), (12, .pointer (some ⟨p2, 0, none⟩)), (14, I j), (15, .pointer (some ⟨p15, 0, none⟩)), (16, .bool ((l.take i).any fun r => decide (r.Txn = ⟨node, x2, x3⟩))), (94, .slice b4 l.length c4), (95, I l.length), (96, I i)]) (fun _ => HJ) (fun _ => row p15 28 [I node, I x2, I x3] :: coordO HJ p2 (nextS node lf l) :: R) (fun i => l.length - i) 0 (Nat.zero_le _) fun i hi0 K2 hL2 => ?_
    refine walk ?_
    refine ex_if rfl (fun hi => ?_) (fun hi => ?_)
    · have hi1 : i < l.length := by omega
      have hsn := any_snoc (x := ⟨node, x2, x3⟩) hi1
      obtain ⟨q, hq⟩ : ∃ q, l[i] = q := ⟨_, rfl⟩
      rw [hq] at hsn
      refine walk ?_
      refine ops_ixp rfl rfl (hs4.mono hlJ).1 hi1 fun bb ob cb hrb hcb => ?_
      rw [hq] at hcb
      obtain ⟨v1, v2, v3, rfl, _, _, _, _, _, g1, g2, g3⟩ := hcb
      obtain ⟨q1, ⟨y1, y2, y3⟩, q3, q4, q5⟩ := q
      obtain ⟨ub1, uc1, rfl, _, _⟩ := g1.1.shape
      obtain ⟨ub2, uc2, rfl, _, _⟩ := g2.1.shape
      obtain ⟨ub3, uc3, rfl, _, _⟩ := g3.1.shape
      refine walk ?_
      refine ops_ldNH rfl rfl hrb rfl ?_
      refine walk ?_
      refine ops_alloc rfl fun p18 _ => ?_
      generalize hb : ((l.take i).any fun r => decide (r.Txn = ⟨node, x2, x3⟩)) = b at hsn ⊢
      cases b with
      | true =>
        rw [Bool.true_or] at hsn
        refine walk ?_
        refine out_next hL2 (i + 1) (by omega) (hf := ?_)
        rw [hsn]
        repeat (first | exact fsub_nil _ | refine fsub_cons rfl ?_)
      | false =>
        rw [Bool.false_or] at hsn
        refine walk ?_
        refine out_next hL2 (i + 1) (by omega) (hf := ?_)
        rw [hsn]
        repeat (first | exact fsub_nil _ | refine fsub_cons rfl ?_)
    · clear hL2
      obtain rfl : i = l.length := by omega
      rw [List.take_length]
      have hm : rMessage HJ [I 3, I node, I 5, I node, I x2, I x3, I 0, nilS, nilS, .bool false, I 0, I 0, I 0, I 0, nilS, I 0, I 0, I 0, nilS] (askC node ⟨node, x2, x3⟩) := ⟨nilS, nilS, nilS, nilS, rfl, by unfold fits; simp [askC], hf, by unfold fits; simp [askC], hf, hx2, hx3, fits0, SlB.nil, SlB.nil, fits0, fits0, fits0, fits0, SlB.nil, fits0, fits0, fits0, SlB.nil⟩
      have hh := chear_spec (W0 := W0) (H := HJ) (p := p2) (n := k + 1) (s := nextS node lf l) (m := askC node ⟨node, x2, x3⟩) IN (by omega) hpn hm
      unfold CHearQ at hh
      rw [next_hear (x := ⟨node, x2, x3⟩) rfl] at hh
      refine walk ?_
      refine ops_call rfl rfl hh fun r7 H7 B hl7 ⟨w1, w2, w3, er, eB⟩ => ?_
      subst er eB
      dsimp only
      generalize hb : (l.any fun r => decide (r.Txn = ⟨node, x2, x3⟩)) = b
      refine ops_freeze w1 fun H8 hl8 hs1 => ?_
      obtain ⟨bm1, cm1, em1, _, _⟩ := hs1.1.shape
      rw [show [decM node ⟨node, x2, x3⟩ 3 b].length = 1 from rfl] at em1
      subst em1
      refine ops_shape w2 fun d2 e2 e _ _ _ => ?_
      rw [show ([] : List Rec).length = 0 from rfl] at e
      subst e
      refine ops_shape w3 fun d3 e3 e _ _ _ => ?_
      rw [show ([] : List CoordOutcome).length = 0 from rfl] at e
      subst e
      refine walk ?_
      refine ops_ixp rfl rfl hs1.1 (show 0 < [decM node ⟨node, x2, x3⟩ 3 b].length from Nat.succ_pos _) fun bb ob cb hrb hcb => ?_
      obtain ⟨v1, v2, v3, v4, rfl, _⟩ := hcb
      change HRow H8 bb ob [I node, I 3, I 3, I node, I x2, I x3, I 0, v1, v2, .bool b, I 0, I 0, I 0, I 0, v3, I 0, I 0, I 0, v4] at hrb
      refine walk ?_
      refine ops_ixp rfl rfl hs1.1 (show 0 < [decM node ⟨node, x2, x3⟩ 3 b].length from Nat.succ_pos _) fun bb' ob' cb' hrb' hcb' => ?_
      obtain ⟨v1', v2', v3', v4', rfl, _⟩ := hcb'
      change HRow H8 bb' ob' [I node, I 3, I 3, I node, I x2, I x3, I 0, v1', v2', .bool b, I 0, I 0, I 0, I 0, v3', I 0, I 0, I 0, v4'] at hrb'
      have hbb : ¬ ¬ b = b := fun h => h rfl
      refine walk ?_
      refine ops_ixp rfl rfl hs1.1 (show 0 < [decM node ⟨node, x2, x3⟩ 3 b].length from Nat.succ_pos _) fun bb2 ob2 cb2 hrb2 hcb2 => ?_
      obtain ⟨v1'', v2'', v3'', v4'', rfl, _⟩ := hcb2
      change HRow H8 bb2 ob2 [I node, I 3, I 3, I node, I x2, I x3, I 0, v1'', v2'', .bool b, I 0, I 0, I 0, I 0, v3'', I 0, I 0, I 0, v4''] at hrb2
      refine walk ?_
      refine out_next hL (j + 1, H8) ⟨⟨by simp only; omega, by simp only; omega⟩, hlJ.trans (hl7.trans hl8)⟩ (hs := ?_)
      refine Sub.trans ?_ (coord_up hl8)
      (repeat (first | exact Sub.refl _ | exact Sub.nil _ | (apply sub_pick; (repeat (first | exact Has.here | apply Has.there)); skip) | apply Sub.drop))
  · clear hL
    refine walk ?_
    refine fin0 ?_
    exact ⟨rfl, rfl⟩
end Go.Proofs.Ythoafjeampbkeaa
