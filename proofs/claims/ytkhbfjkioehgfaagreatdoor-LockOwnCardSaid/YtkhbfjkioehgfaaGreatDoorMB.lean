/- The reference's Prepare. -/
import Derived.Test.YtkhbfjkioehgfaaGreatDoorLZ
set_option linter.unusedVariables false
set_option linter.unusedSimpArgs false
namespace Go.Proofs.YtkhbfjkioehgfaaGreatDoor
open Go Go.Sx Go.Proofs
/-- nothing is in the way -/
def WayR (m : Table) (w : Work) : Prop := ∀ j (hj : j < w.ks.length), findL m.Prep w.ks[j] = none ∧ (w.Take.length ≤ j ∨ findH m.Held w.ks[j] = none)
inductive RPrep (m : Table) (x : Txn) (w : Work) : Table → Int → Prop
  | twice (h : ∃ q ∈ m.Prep, q.Txn = x) : RPrep m x w m 2
  | range (h0 : ∀ q ∈ m.Prep, q.Txn ≠ x) (h : ¬ w.ks.Nodup) : RPrep m x w m 1
  | way (h0 : ∀ q ∈ m.Prep, q.Txn ≠ x) (h1 : w.ks.Nodup) (h2 : ¬ WayR m w) : RPrep m x w m 140
  | ok (h0 : ∀ q ∈ m.Prep, q.Txn ≠ x) (h1 : w.ks.Nodup) (h2 : WayR m w) (i : Nat) (hi : i ≤ m.Prep.length) (h3 : ∀ q ∈ m.Prep.take i, ltK q.Txn.k x.k) (h4 : ∀ hl : i < m.Prep.length, ¬ ltK m.Prep[i].Txn.k x.k) : RPrep m x w ⟨m.Held, m.Prep.take i ++ recW x w :: m.Prep.drop i⟩ 0
theorem opt_some {α : Type} {o : Option α} : Value.bool o.isSome = Value.bool (decide (o ≠ none)) := by cases o <;> simp
set_option maxHeartbeats 16000000 in
set_option maxRecDepth 20000 in
theorem rPrepare_spec {W0 : World} {H : Heap} {c cw : List Value} {m : Table} {x : Txn} {w : Work} (h0 : rTable H c m) (hx : fits x.Node ∧ fits x.Life ∧ fits x.Count) (hw : rWork H cw w) (hwn : w.ks.length ≤ 80) (hn : ∀ q ∈ m.Prep, q.Work.ks.length ≤ 80) (hpl : m.Prep.length ≤ 1000) :
    Ct Tryz.prog 24 #[.agg c.toArray, .agg x.cv.toArray, .agg cw.toArray] W0 H [] (fun r H' B => ∃ cs m' e, r = .tuple #[.agg cs.toArray, I e] ∧ rTable H' cs m' ∧ RPrep m x w m' e ∧ B = []) := by
  refine Ct.go (vs := [.agg c.toArray, .agg x.cv.toArray, .agg cw.toArray]) fun R => ?_
  have h00 := h0
  have hw0 := hw
  obtain ⟨s1, s2, rfl, hs1, hs2⟩ := h0
  obtain ⟨b1, c1, rfl, hc1, hd1⟩ := hs1.1.shape
  obtain ⟨b2, c2, rfl, hc2, hd2⟩ := hs2.1.shape
  obtain ⟨t1, t2, rfl, hrob, ht1, ht2⟩ := hw
  obtain ⟨b3, c3, rfl, hc3, hd3⟩ := ht1.1.shape
  obtain ⟨b4, c4, rfl, hc4, hd4⟩ := ht2.1.shape
  obtain ⟨x1, x2, x3⟩ := x
  dsimp only at hx
  have hwn16 : w.ks.length * 16 ≤ cap47 := by simp only [cap47]; omega
  have hn16 : ∀ q ∈ m.Prep, q.Work.ks.length * 16 ≤ cap47 := fun q hq => by have := hn q hq; simp only [cap47]; omega
  have hcap : (2000 : Nat) * 120 ≤ cap47 := by decide
  refine walk ?_
  refine ops_box rfl rfl fun p3 _ => ?_
  refine ops_box rfl rfl fun p4 _ => ?_
  refine ops_box rfl rfl fun p5 _ => ?_
  refine ops_alloc rfl fun p6 _ => ?_
  refine walk ?_
  refine ops_call rfl rfl (rAt_spec (x := ⟨x1, x2, x3⟩) h00) fun r1 H1 B hl1 ⟨hat, eB, eH⟩ => ?_
  subst eB eH
  rcases hat with ⟨rfl, hno⟩ | ⟨j0, hj0, rfl, hj⟩
  rotate_left
  · have hge : (0 : Int) ≤ (j0 : Int) := by omega
    refine walk ?_
    refine fin0 ?_
    exact ⟨_, m, 2, rfl, h00, .twice ⟨_, List.getElem_mem hj0, hj⟩, rfl⟩
  refine walk ?_
  refine ops_call rfl rfl (twice_spec hw0 hwn16) fun r2 H2 B hl2 ⟨q, er, hq, eB⟩ => ?_
  subst er eB
  refine walk ?_
  cases q with
  | true =>
    refine walk ?_
    refine fin0 ?_
    exact ⟨_, m, 1, rfl, RdOk.mono (R := rTable) hl2 h00, .range hno (fun hnd => by have := hq.2 hnd; cases this), rfl⟩
  | false =>
    have hnd := hq.1 rfl
    refine walk ?_
    refine ops_call rfl rfl (keys_spec (RdOk.mono (R := rWork) hl2 hw0) hwn16) fun r3 H3 B hl3 ⟨eB, eH⟩ => ?_
    subst eB eH
    refine ops_freeze r3 fun H4 hl4 hsk => ?_
    have hlen4 := hwn
    generalize hks : w.ks = l at hsk hlen4
    obtain ⟨b0, c0, rfl, hc0, hd0⟩ := hsk.1.shape
    have hl14 : H1.le H4 := hl2.trans hl4
    refine walk ?_
    refine ex_loop (σ := Nat × Heap) (fun u => u.1 ≤ l.length ∧ H4.le u.2 ∧ ∀ j (hj : j < l.length), j < u.1 → findL m.Prep l[j] = none ∧ (w.Take.length ≤ j ∨ findH m.Held l[j] = none)) (fun u => [(3, .pointer (some ⟨p3, 0, none⟩)), (4, .pointer (some ⟨p4, 0, none⟩)), (5, .pointer (some ⟨p5, 0, none⟩)), (6, .pointer (some ⟨p6, 0, none⟩)), (8, .slice b0 l.length c0), (9, I u.1)]) (fun u => u.2)
      (fun u => row p3 55 [.slice b1 m.Held.length c1, .slice b2 m.Prep.length c2] :: row p4 27 [I x1, I x2, I x3] :: row p5 30 [I w.Robot, .slice b3 w.Take.length c3, .slice b4 w.Drop.length c4] :: row p6 55 [nilS, nilS] :: R) (fun u => l.length - u.1) (0, H4) ⟨Nat.zero_le _, .refl _, fun j _ h => by omega⟩ fun ⟨j, HK⟩ ⟨hj0, hlK, hway⟩ K hL => ?_
    simp only at hj0 hlK hway
    dsimp only
    have hl1K : H1.le HK := hl14.trans hlK
    have hK0 := RdOk.mono (R := rTable) hl1K h00
    refine walk ?_
    refine ex_if rfl (fun hj => ?_) (fun hj => ?_)
    · have hj1 : j < l.length := by omega
      refine walk ?_
      refine ex_any 10 [row p3 55 [.slice b1 m.Held.length c1, .slice b2 m.Prep.length c2]] ?_
      (first | refine gny_p 0 rfl rfl rfl ?_ | refine gny_ld 0 rfl rfl rfl rfl ?_ | refine gny_ldH 0 rfl rfl rfl ‹HRow _ _ 0 _› rfl ?_ | refine gny_T 0 rfl rfl rfl ?_ | refine gny_F 0 rfl rfl rfl ?_ | refine gny_B 0 rfl rfl rfl ?_ | refine gny_skip 0 rfl rfl ?_ | refine gny_sp 0 rfl rfl rfl ?_ | refine gny_sB 0 rfl rfl rfl ?_ | refine gny_sld 0 rfl rfl rfl rfl ?_ | refine gny_sldH 0 rfl rfl rfl ‹HRow _ _ 0 _› rfl ?_ | refine gny_ldN 0 rfl rfl rfl rfl ?_ | refine gny_bld 0 rfl rfl rfl ?_); (first | refine gny_p 1 rfl rfl rfl ?_ | refine gny_ld 1 rfl rfl rfl rfl ?_ | refine gny_ldH 1 rfl rfl rfl ‹HRow _ _ 0 _› rfl ?_ | refine gny_T 1 rfl rfl rfl ?_ | refine gny_F 1 rfl rfl rfl ?_ | refine gny_B 1 rfl rfl rfl ?_ | refine gny_skip 1 rfl rfl ?_ | refine gny_sp 1 rfl rfl rfl ?_ | refine gny_sB 1 rfl rfl rfl ?_ | refine gny_sld 1 rfl rfl rfl rfl ?_ | refine gny_sldH 1 rfl rfl rfl ‹HRow _ _ 0 _› rfl ?_ | refine gny_ldN 1 rfl rfl rfl rfl ?_ | refine gny_bld 1 rfl rfl rfl ?_); (first | refine gny_p 2 rfl rfl rfl ?_ | refine gny_ld 2 rfl rfl rfl rfl ?_ | refine gny_ldH 2 rfl rfl rfl ‹HRow _ _ 0 _› rfl ?_ | refine gny_T 2 rfl rfl rfl ?_ | refine gny_F 2 rfl rfl rfl ?_ | refine gny_B 2 rfl rfl rfl ?_ | refine gny_skip 2 rfl rfl ?_ | refine gny_sp 2 rfl rfl rfl ?_ | refine gny_sB 2 rfl rfl rfl ?_ | refine gny_sld 2 rfl rfl rfl rfl ?_ | refine gny_sldH 2 rfl rfl rfl ‹HRow _ _ 0 _› rfl ?_ | refine gny_ldN 2 rfl rfl rfl rfl ?_ | refine gny_bld 2 rfl rfl rfl ?_)
      refine gny_ixp 3 rfl rfl rfl (hsk.mono hlK).1 hj1 fun b o cc hr hc => ?_
      obtain ⟨rfl, hsz⟩ := hc
      refine gny_ldHo 4 0 rfl rfl hr rfl rfl ?_
      refine gny_pcall 5 rfl rfl rfl (rHolder_spec hK0) ?_
      unfold rHolderV
      (first | refine gny_p 6 rfl rfl rfl ?_ | refine gny_ld 6 rfl rfl rfl rfl ?_ | refine gny_ldH 6 rfl rfl rfl ‹HRow _ _ 0 _› rfl ?_ | refine gny_T 6 rfl rfl rfl ?_ | refine gny_F 6 rfl rfl rfl ?_ | refine gny_B 6 rfl rfl rfl ?_ | refine gny_skip 6 rfl rfl ?_ | refine gny_sp 6 rfl rfl rfl ?_ | refine gny_sB 6 rfl rfl rfl ?_ | refine gny_sld 6 rfl rfl rfl rfl ?_ | refine gny_sldH 6 rfl rfl rfl ‹HRow _ _ 0 _› rfl ?_ | refine gny_ldN 6 rfl rfl rfl rfl ?_ | refine gny_bld 6 rfl rfl rfl ?_)
      refine gny_ext 7 rfl rfl rfl rfl ?_
      refine gny_ext 8 rfl rfl rfl rfl ?_
      (first | refine gny_p 9 rfl rfl rfl ?_ | refine gny_ld 9 rfl rfl rfl rfl ?_ | refine gny_ldH 9 rfl rfl rfl ‹HRow _ _ 0 _› rfl ?_ | refine gny_T 9 rfl rfl rfl ?_ | refine gny_F 9 rfl rfl rfl ?_ | refine gny_B 9 rfl rfl rfl ?_ | refine gny_skip 9 rfl rfl ?_ | refine gny_sp 9 rfl rfl rfl ?_ | refine gny_sB 9 rfl rfl rfl ?_ | refine gny_sld 9 rfl rfl rfl rfl ?_ | refine gny_sldH 9 rfl rfl rfl ‹HRow _ _ 0 _› rfl ?_ | refine gny_ldN 9 rfl rfl rfl rfl ?_ | refine gny_bld 9 rfl rfl rfl ?_)
      refine any_rest rfl ?_
      refine walk ?_
      refine ex_cutk (σ := Heap) (fun u => HK.le u) (fun u => [(11, .bool (findH m.Held l[j]).isSome), (13, .bool (findL m.Prep l[j]).isSome), (3, .pointer (some ⟨p3, 0, none⟩)), (4, .pointer (some ⟨p4, 0, none⟩)), (5, .pointer (some ⟨p5, 0, none⟩)), (6, .pointer (some ⟨p6, 0, none⟩)), (8, .slice b0 l.length c0), (9, I j)]) (fun u => u)
        (fun u => row p3 55 [.slice b1 m.Held.length c1, .slice b2 m.Prep.length c2] :: row p4 27 [I x1, I x2, I x3] :: row p5 30 [I w.Robot, .slice b3 w.Take.length c3, .slice b4 w.Drop.length c4] :: row p6 55 [nilS, nilS] :: R) (fun K2 hK2 => ?_) fun HJ hlJ => ?_
      · refine ex_any 11 [row p3 55 [.slice b1 m.Held.length c1, .slice b2 m.Prep.length c2]] ?_
        (first | refine gny_p 0 rfl rfl rfl ?_ | refine gny_ld 0 rfl rfl rfl rfl ?_ | refine gny_ldH 0 rfl rfl rfl ‹HRow _ _ 0 _› rfl ?_ | refine gny_T 0 rfl rfl rfl ?_ | refine gny_F 0 rfl rfl rfl ?_ | refine gny_B 0 rfl rfl rfl ?_ | refine gny_skip 0 rfl rfl ?_ | refine gny_sp 0 rfl rfl rfl ?_ | refine gny_sB 0 rfl rfl rfl ?_ | refine gny_sld 0 rfl rfl rfl rfl ?_ | refine gny_sldH 0 rfl rfl rfl ‹HRow _ _ 0 _› rfl ?_ | refine gny_ldN 0 rfl rfl rfl rfl ?_ | refine gny_bld 0 rfl rfl rfl ?_); (first | refine gny_p 1 rfl rfl rfl ?_ | refine gny_ld 1 rfl rfl rfl rfl ?_ | refine gny_ldH 1 rfl rfl rfl ‹HRow _ _ 0 _› rfl ?_ | refine gny_T 1 rfl rfl rfl ?_ | refine gny_F 1 rfl rfl rfl ?_ | refine gny_B 1 rfl rfl rfl ?_ | refine gny_skip 1 rfl rfl ?_ | refine gny_sp 1 rfl rfl rfl ?_ | refine gny_sB 1 rfl rfl rfl ?_ | refine gny_sld 1 rfl rfl rfl rfl ?_ | refine gny_sldH 1 rfl rfl rfl ‹HRow _ _ 0 _› rfl ?_ | refine gny_ldN 1 rfl rfl rfl rfl ?_ | refine gny_bld 1 rfl rfl rfl ?_); (first | refine gny_p 2 rfl rfl rfl ?_ | refine gny_ld 2 rfl rfl rfl rfl ?_ | refine gny_ldH 2 rfl rfl rfl ‹HRow _ _ 0 _› rfl ?_ | refine gny_T 2 rfl rfl rfl ?_ | refine gny_F 2 rfl rfl rfl ?_ | refine gny_B 2 rfl rfl rfl ?_ | refine gny_skip 2 rfl rfl ?_ | refine gny_sp 2 rfl rfl rfl ?_ | refine gny_sB 2 rfl rfl rfl ?_ | refine gny_sld 2 rfl rfl rfl rfl ?_ | refine gny_sldH 2 rfl rfl rfl ‹HRow _ _ 0 _› rfl ?_ | refine gny_ldN 2 rfl rfl rfl rfl ?_ | refine gny_bld 2 rfl rfl rfl ?_)
        refine gny_ixp 3 rfl rfl rfl (hsk.mono hlK).1 hj1 fun b o cc hr hc => ?_
        obtain ⟨rfl, hsz⟩ := hc
        refine gny_ldHo 4 0 rfl rfl hr rfl rfl ?_
        refine any_ca 5 9 rfl rfl rfl (rLocked_spec hK0 hn16) (fun r5 H5 B hl5 ⟨er, eB⟩ => ?_) (fun p9 _ => ?_)
        · subst er eB
          refine ⟨(by (repeat (first | exact Sub.refl _ | exact Sub.nil _ | (apply sub_pick; (repeat (first | exact Has.here | apply Has.there)); skip) | apply Sub.drop))), ?_⟩
          unfold rLockedV
          obtain ⟨ya, yb, yc, hy⟩ : ∃ ya yb yc, ((findL m.Prep l[j]).map (·.Txn)).getD zTxn = ⟨ya, yb, yc⟩ := ⟨_, _, _, rfl⟩
          rw [hy]
          (first | refine gny_p 6 rfl rfl rfl ?_ | refine gny_ld 6 rfl rfl rfl rfl ?_ | refine gny_ldH 6 rfl rfl rfl ‹HRow _ _ 0 _› rfl ?_ | refine gny_T 6 rfl rfl rfl ?_ | refine gny_F 6 rfl rfl rfl ?_ | refine gny_B 6 rfl rfl rfl ?_ | refine gny_skip 6 rfl rfl ?_ | refine gny_sp 6 rfl rfl rfl ?_ | refine gny_sB 6 rfl rfl rfl ?_ | refine gny_sld 6 rfl rfl rfl rfl ?_ | refine gny_sldH 6 rfl rfl rfl ‹HRow _ _ 0 _› rfl ?_ | refine gny_ldN 6 rfl rfl rfl rfl ?_ | refine gny_bld 6 rfl rfl rfl ?_)
          refine gny_ext 7 rfl rfl rfl rfl ?_
          refine gny_ext 8 rfl rfl rfl rfl ?_
          refine gny_alloc 9 rfl rfl fun p9 _ => ?_
          refine any_sta 10 rfl rfl rfl rfl (by simp) rfl ⟨(by (repeat (first | exact Sub.refl _ | exact Sub.nil _ | (apply sub_pick; (repeat (first | exact Has.here | apply Has.there)); skip) | apply Sub.drop))), ?_⟩
          refine any_rest rfl ?_
          refine walk ?_
          exact out_to hK2 H5 hl5
        · refine any_call 5 rfl rfl (rLocked_spec hK0 hn16) fun r5 H5 B hl5 ⟨er, eB⟩ => ?_
          subst er eB
          refine ⟨(by (repeat (first | exact Sub.refl _ | exact Sub.nil _ | (apply sub_pick; (repeat (first | exact Has.here | apply Has.there)); skip) | apply Sub.drop))), ?_⟩
          unfold rLockedV
          obtain ⟨ya, yb, yc, hy⟩ : ∃ ya yb yc, ((findL m.Prep l[j]).map (·.Txn)).getD zTxn = ⟨ya, yb, yc⟩ := ⟨_, _, _, rfl⟩
          rw [hy]
          (first | refine gny_p 6 rfl rfl rfl ?_ | refine gny_ld 6 rfl rfl rfl rfl ?_ | refine gny_ldH 6 rfl rfl rfl ‹HRow _ _ 0 _› rfl ?_ | refine gny_T 6 rfl rfl rfl ?_ | refine gny_F 6 rfl rfl rfl ?_ | refine gny_B 6 rfl rfl rfl ?_ | refine gny_skip 6 rfl rfl ?_ | refine gny_sp 6 rfl rfl rfl ?_ | refine gny_sB 6 rfl rfl rfl ?_ | refine gny_sld 6 rfl rfl rfl rfl ?_ | refine gny_sldH 6 rfl rfl rfl ‹HRow _ _ 0 _› rfl ?_ | refine gny_ldN 6 rfl rfl rfl rfl ?_ | refine gny_bld 6 rfl rfl rfl ?_)
          refine gny_ext 7 rfl rfl rfl rfl ?_
          refine gny_ext 8 rfl rfl rfl rfl ?_
          refine any_sta 10 rfl rfl rfl rfl (by simp) rfl ⟨(by (repeat (first | exact Sub.refl _ | exact Sub.nil _ | (apply sub_pick; (repeat (first | exact Has.here | apply Has.there)); skip) | apply Sub.drop))), ?_⟩
          refine any_rest rfl ?_
          refine walk ?_
          exact out_to hK2 H5 hl5
      rw [opt_some, opt_some]
      have hlt : (j : Int) < (w.Take.length : Int) ↔ ¬ w.Take.length ≤ j := by omega
      refine walkG ?_
      refine ex_if rfl (fun hq => ?_) (fun hq => ?_)
      · refine walk ?_
        refine fin0 ?_
        refine ⟨_, m, 140, rfl, RdOk.mono (R := rTable) (hl1K.trans hlJ) h00, .way hno hnd fun hw => ?_, rfl⟩
        subst hks
        obtain ⟨w1, w2⟩ := hw j hj1
        rcases hq with hq | ⟨hq1, hq2⟩
        · exact hq w1
        · rcases w2 with w2 | w2
          · omega
          · exact hq2 w2
      · refine walk ?_
        refine out_next hL (j + 1, HJ) ⟨by simp only; omega, hlK.trans hlJ, fun i hi hij => ?_⟩
        simp only at hij
        rcases Nat.lt_or_ge i j with h | h
        · exact hway i hi h
        · obtain rfl : i = j := by omega
          refine ⟨Classical.byContradiction fun h => hq (.inl h), ?_⟩
          by_cases h2 : w.Take.length ≤ i
          · exact .inl h2
          · exact .inr (Classical.byContradiction fun h => hq (.inr ⟨by omega, h⟩))
    clear hL
    obtain rfl : j = l.length := by omega
    have hwayR : WayR m w := fun i hi => by subst hks; exact hway i hi hi
    clear hway hsk
    have hs1K := hs1.mono hl1K
    have hs2K := hs2.mono hl1K
    have hwK := RdOk.mono (R := rWork) hl1K hw0
    refine walk ?_
    refine ex_loop (σ := Nat × Option Addr × Nat) (fun u => u.1 ≤ m.Prep.length ∧ ∀ q ∈ m.Prep.take u.1, ltK q.Txn.k (x1, x2, x3)) (fun u => [(3, .pointer (some ⟨p3, 0, none⟩)), (4, .pointer (some ⟨p4, 0, none⟩)), (5, .pointer (some ⟨p5, 0, none⟩)), (6, .pointer (some ⟨p6, 0, none⟩)), (14, .slice u.2.1 (m.Prep.take u.1).length u.2.2), (15, I u.1)]) (fun _ => HK)
      (fun u => ownS rRec 9 120 47 HK (.slice u.2.1 (m.Prep.take u.1).length u.2.2) (m.Prep.take u.1) :: row p3 55 [.slice b1 m.Held.length c1, .slice b2 m.Prep.length c2] :: row p4 27 [I x1, I x2, I x3] :: row p5 30 [I w.Robot, .slice b3 w.Take.length c3, .slice b4 w.Drop.length c4] :: row p6 55 [nilS, nilS] :: R) (fun u => m.Prep.length - u.1) (0, none, 0) ⟨Nat.zero_le _, by simp⟩ (hs0 := ?_) fun ⟨i, d, e⟩ ⟨hi0, hlt⟩ K hL => ?_
    rotate_left
    · simp only [List.take_zero, List.length_nil]
      refine Sub.trans ?_ ownS_nil
      (repeat (first | exact Sub.refl _ | exact Sub.nil _ | (apply sub_pick; (repeat (first | exact Has.here | apply Has.there)); skip) | apply Sub.drop))
    simp only at hi0 hlt
    dsimp only
    have hll : (m.Prep.take i).length = i := by rw [List.length_take]; omega
    by_cases hi : i < m.Prep.length
    · have hii : (i : Int) < (m.Prep.length : Int) := by omega
      have ht := List.take_succ_eq_append_getElem hi
      refine walk ?_
      refine ex_any 15 [row p3 55 [.slice b1 m.Held.length c1, .slice b2 m.Prep.length c2], row p4 27 [I x1, I x2, I x3]] ?_
      (first | refine gny_p 0 rfl rfl rfl ?_ | refine gny_ld 0 rfl rfl rfl rfl ?_ | refine gny_ldH 0 rfl rfl rfl ‹HRow _ _ 0 _› rfl ?_ | refine gny_T 0 rfl rfl rfl ?_ | refine gny_F 0 rfl rfl rfl ?_ | refine gny_B 0 rfl rfl rfl ?_ | refine gny_skip 0 rfl rfl ?_ | refine gny_sp 0 rfl rfl rfl ?_ | refine gny_sB 0 rfl rfl rfl ?_ | refine gny_sld 0 rfl rfl rfl rfl ?_ | refine gny_sldH 0 rfl rfl rfl ‹HRow _ _ 0 _› rfl ?_ | refine gny_ldN 0 rfl rfl rfl rfl ?_ | refine gny_bld 0 rfl rfl rfl ?_); (first | refine gny_p 1 rfl rfl rfl ?_ | refine gny_ld 1 rfl rfl rfl rfl ?_ | refine gny_ldH 1 rfl rfl rfl ‹HRow _ _ 0 _› rfl ?_ | refine gny_T 1 rfl rfl rfl ?_ | refine gny_F 1 rfl rfl rfl ?_ | refine gny_B 1 rfl rfl rfl ?_ | refine gny_skip 1 rfl rfl ?_ | refine gny_sp 1 rfl rfl rfl ?_ | refine gny_sB 1 rfl rfl rfl ?_ | refine gny_sld 1 rfl rfl rfl rfl ?_ | refine gny_sldH 1 rfl rfl rfl ‹HRow _ _ 0 _› rfl ?_ | refine gny_ldN 1 rfl rfl rfl rfl ?_ | refine gny_bld 1 rfl rfl rfl ?_); (first | refine gny_p 2 rfl rfl rfl ?_ | refine gny_ld 2 rfl rfl rfl rfl ?_ | refine gny_ldH 2 rfl rfl rfl ‹HRow _ _ 0 _› rfl ?_ | refine gny_T 2 rfl rfl rfl ?_ | refine gny_F 2 rfl rfl rfl ?_ | refine gny_B 2 rfl rfl rfl ?_ | refine gny_skip 2 rfl rfl ?_ | refine gny_sp 2 rfl rfl rfl ?_ | refine gny_sB 2 rfl rfl rfl ?_ | refine gny_sld 2 rfl rfl rfl rfl ?_ | refine gny_sldH 2 rfl rfl rfl ‹HRow _ _ 0 _› rfl ?_ | refine gny_ldN 2 rfl rfl rfl rfl ?_ | refine gny_bld 2 rfl rfl rfl ?_); (first | refine gny_p 3 rfl rfl rfl ?_ | refine gny_ld 3 rfl rfl rfl rfl ?_ | refine gny_ldH 3 rfl rfl rfl ‹HRow _ _ 0 _› rfl ?_ | refine gny_T 3 rfl rfl rfl ?_ | refine gny_F 3 rfl rfl rfl ?_ | refine gny_B 3 rfl rfl rfl ?_ | refine gny_skip 3 rfl rfl ?_ | refine gny_sp 3 rfl rfl rfl ?_ | refine gny_sB 3 rfl rfl rfl ?_ | refine gny_sld 3 rfl rfl rfl rfl ?_ | refine gny_sldH 3 rfl rfl rfl ‹HRow _ _ 0 _› rfl ?_ | refine gny_ldN 3 rfl rfl rfl rfl ?_ | refine gny_bld 3 rfl rfl rfl ?_); (first | refine gny_p 4 rfl rfl rfl ?_ | refine gny_ld 4 rfl rfl rfl rfl ?_ | refine gny_ldH 4 rfl rfl rfl ‹HRow _ _ 0 _› rfl ?_ | refine gny_T 4 rfl rfl rfl ?_ | refine gny_F 4 rfl rfl rfl ?_ | refine gny_B 4 rfl rfl rfl ?_ | refine gny_skip 4 rfl rfl ?_ | refine gny_sp 4 rfl rfl rfl ?_ | refine gny_sB 4 rfl rfl rfl ?_ | refine gny_sld 4 rfl rfl rfl rfl ?_ | refine gny_sldH 4 rfl rfl rfl ‹HRow _ _ 0 _› rfl ?_ | refine gny_ldN 4 rfl rfl rfl rfl ?_ | refine gny_bld 4 rfl rfl rfl ?_); (first | refine gny_p 5 rfl rfl rfl ?_ | refine gny_ld 5 rfl rfl rfl rfl ?_ | refine gny_ldH 5 rfl rfl rfl ‹HRow _ _ 0 _› rfl ?_ | refine gny_T 5 rfl rfl rfl ?_ | refine gny_F 5 rfl rfl rfl ?_ | refine gny_B 5 rfl rfl rfl ?_ | refine gny_skip 5 rfl rfl ?_ | refine gny_sp 5 rfl rfl rfl ?_ | refine gny_sB 5 rfl rfl rfl ?_ | refine gny_sld 5 rfl rfl rfl rfl ?_ | refine gny_sldH 5 rfl rfl rfl ‹HRow _ _ 0 _› rfl ?_ | refine gny_ldN 5 rfl rfl rfl rfl ?_ | refine gny_bld 5 rfl rfl rfl ?_); (first | refine gny_p 6 rfl rfl rfl ?_ | refine gny_ld 6 rfl rfl rfl rfl ?_ | refine gny_ldH 6 rfl rfl rfl ‹HRow _ _ 0 _› rfl ?_ | refine gny_T 6 rfl rfl rfl ?_ | refine gny_F 6 rfl rfl rfl ?_ | refine gny_B 6 rfl rfl rfl ?_ | refine gny_skip 6 rfl rfl ?_ | refine gny_sp 6 rfl rfl rfl ?_ | refine gny_sB 6 rfl rfl rfl ?_ | refine gny_sld 6 rfl rfl rfl rfl ?_ | refine gny_sldH 6 rfl rfl rfl ‹HRow _ _ 0 _› rfl ?_ | refine gny_ldN 6 rfl rfl rfl rfl ?_ | refine gny_bld 6 rfl rfl rfl ?_); (first | refine gny_p 7 rfl rfl rfl ?_ | refine gny_ld 7 rfl rfl rfl rfl ?_ | refine gny_ldH 7 rfl rfl rfl ‹HRow _ _ 0 _› rfl ?_ | refine gny_T 7 rfl rfl rfl ?_ | refine gny_F 7 rfl rfl rfl ?_ | refine gny_B 7 rfl rfl rfl ?_ | refine gny_skip 7 rfl rfl ?_ | refine gny_sp 7 rfl rfl rfl ?_ | refine gny_sB 7 rfl rfl rfl ?_ | refine gny_sld 7 rfl rfl rfl rfl ?_ | refine gny_sldH 7 rfl rfl rfl ‹HRow _ _ 0 _› rfl ?_ | refine gny_ldN 7 rfl rfl rfl rfl ?_ | refine gny_bld 7 rfl rfl rfl ?_); (first | refine gny_p 8 rfl rfl rfl ?_ | refine gny_ld 8 rfl rfl rfl rfl ?_ | refine gny_ldH 8 rfl rfl rfl ‹HRow _ _ 0 _› rfl ?_ | refine gny_T 8 rfl rfl rfl ?_ | refine gny_F 8 rfl rfl rfl ?_ | refine gny_B 8 rfl rfl rfl ?_ | refine gny_skip 8 rfl rfl ?_ | refine gny_sp 8 rfl rfl rfl ?_ | refine gny_sB 8 rfl rfl rfl ?_ | refine gny_sld 8 rfl rfl rfl rfl ?_ | refine gny_sldH 8 rfl rfl rfl ‹HRow _ _ 0 _› rfl ?_ | refine gny_ldN 8 rfl rfl rfl rfl ?_ | refine gny_bld 8 rfl rfl rfl ?_)
      refine gny_ixp 9 rfl rfl rfl hs2K.1 hi fun b o cc hr hc => ?_
      obtain ⟨u1, u2, u3, rfl, g1, g2, g3, g4, g5, g6, g7, g8⟩ := hc
      have hrt := rec_txn hr
      obtain ⟨ya, yb, yc, hy⟩ : ∃ ya yb yc, m.Prep[i].Txn = ⟨ya, yb, yc⟩ := ⟨_, _, _, rfl⟩
      rw [hy] at hrt
      (first | refine gny_p 10 rfl rfl rfl ?_ | refine gny_ld 10 rfl rfl rfl rfl ?_ | refine gny_ldH 10 rfl rfl rfl ‹HRow _ _ 0 _› rfl ?_ | refine gny_T 10 rfl rfl rfl ?_ | refine gny_F 10 rfl rfl rfl ?_ | refine gny_B 10 rfl rfl rfl ?_ | refine gny_skip 10 rfl rfl ?_ | refine gny_sp 10 rfl rfl rfl ?_ | refine gny_sB 10 rfl rfl rfl ?_ | refine gny_sld 10 rfl rfl rfl rfl ?_ | refine gny_sldH 10 rfl rfl rfl ‹HRow _ _ 0 _› rfl ?_ | refine gny_ldN 10 rfl rfl rfl rfl ?_ | refine gny_bld 10 rfl rfl rfl ?_)
      refine gny_ldNH 11 rfl rfl rfl hrt rfl ?_
      (first | refine gny_p 12 rfl rfl rfl ?_ | refine gny_ld 12 rfl rfl rfl rfl ?_ | refine gny_ldH 12 rfl rfl rfl ‹HRow _ _ 0 _› rfl ?_ | refine gny_T 12 rfl rfl rfl ?_ | refine gny_F 12 rfl rfl rfl ?_ | refine gny_B 12 rfl rfl rfl ?_ | refine gny_skip 12 rfl rfl ?_ | refine gny_sp 12 rfl rfl rfl ?_ | refine gny_sB 12 rfl rfl rfl ?_ | refine gny_sld 12 rfl rfl rfl rfl ?_ | refine gny_sldH 12 rfl rfl rfl ‹HRow _ _ 0 _› rfl ?_ | refine gny_ldN 12 rfl rfl rfl rfl ?_ | refine gny_bld 12 rfl rfl rfl ?_)
      refine gny_pcall 13 rfl rfl rfl (less_spec (x := (ya, yb, yc)) (y := (x1, x2, x3))) ?_
      (first | refine gny_p 14 rfl rfl rfl ?_ | refine gny_ld 14 rfl rfl rfl rfl ?_ | refine gny_ldH 14 rfl rfl rfl ‹HRow _ _ 0 _› rfl ?_ | refine gny_T 14 rfl rfl rfl ?_ | refine gny_F 14 rfl rfl rfl ?_ | refine gny_B 14 rfl rfl rfl ?_ | refine gny_skip 14 rfl rfl ?_ | refine gny_sp 14 rfl rfl rfl ?_ | refine gny_sB 14 rfl rfl rfl ?_ | refine gny_sld 14 rfl rfl rfl rfl ?_ | refine gny_sldH 14 rfl rfl rfl ‹HRow _ _ 0 _› rfl ?_ | refine gny_ldN 14 rfl rfl rfl rfl ?_ | refine gny_bld 14 rfl rfl rfl ?_)
      refine any_rest rfl ?_
      refine walk ?_
      refine ex_if rfl (fun hq => ?_) (fun hq => ?_)
      · refine walk ?_
        refine ops_ixp rfl rfl hs2K.1 hi fun b8 o8 cc8 hr8 hc8 => ?_
        obtain ⟨z1, z2, z3, rfl, k1, k2, k3, k4, k5, k6, k7, k8⟩ := hc8
        obtain ⟨zb1, zc1, rfl, _, _⟩ := k6.1.shape
        obtain ⟨zb2, zc2, rfl, _, _⟩ := k7.1.shape
        obtain ⟨zb3, zc3, rfl, _, _⟩ := k8.1.shape
        refine ops_ldNH rfl rfl hr8 rfl ?_
        refine walk ?_
        refine ops_app1 (y := m.Prep[i]) rfl rfl rfl ⟨_, _, _, rfl, k1, k2, k3, k4, k5, k6, k7, k8⟩ (by simp only [cap47]; omega) fun d3 e3 => ?_
        have hll2 : (m.Prep.take i).length + 1 = (m.Prep.take (i + 1)).length := by rw [List.length_take, List.length_take]; omega
        rw [hll2, ← ht]
        refine walk ?_
        refine out_next hL (i + 1, d3, e3) ⟨by simp only; omega, fun q hm => ?_⟩
        simp only at hm
        rw [ht, List.mem_append, List.mem_singleton] at hm
        rcases hm with hm | rfl
        · exact hlt q hm
        · rw [hy]; exact hq
      · have h4 : ∀ hl : i < m.Prep.length, ¬ ltK m.Prep[i].Txn.k (x1, x2, x3) := fun _ => by rw [hy]; exact hq
        refine walk ?_
        have fk2 : fits (2 : Int) := by unfold fits; omega
        refine ops_app1 (y := recW ⟨x1, x2, x3⟩ w) rfl rfl rfl ⟨_, _, nilS, rfl, fk2, hx.1, hx.2.1, hx.2.2, hrob, ht1.mono hl1K, ht2.mono hl1K, SlB.nil⟩ (by simp only [cap47]; omega) fun d3 e3 => ?_
        have hll3 : (m.Prep.take i).length + 1 = (m.Prep.take i ++ [recW ⟨x1, x2, x3⟩ w]).length := by simp
        rw [hll3]
        refine walk ?_
        refine ops_pure rfl rfl (op_slice (l := (i : Int)) (h := (m.Prep.length : Int)) rfl rfl rfl (by omega) (by omega) (by omega)) ?_
        have hsd := hs2K.1.slc (l := i) (h := m.Prep.length) hi0 (Nat.le_refl _)
        rw [List.take_of_length_le (by rw [List.length_drop]; omega)] at hsd
        rw [Int.toNat_natCast, Int.toNat_natCast]
        have hld : (m.Prep.drop i).length = m.Prep.length - i := List.length_drop
        refine ops_appS rfl rfl hsd (by rw [List.length_append, List.length_cons, List.length_nil]; simp only [cap47]; omega) fun d4 e4 => ?_
        rw [← List.length_append, List.append_assoc, List.singleton_append]
        refine walk ?_
        refine out_freeze (.slice d4 (m.Prep.take i ++ recW ⟨x1, x2, x3⟩ w :: m.Prep.drop i).length e4) fun H9 hl9 hsl => ?_
        refine fin0 ?_
        exact ⟨_, ⟨m.Held, m.Prep.take i ++ recW ⟨x1, x2, x3⟩ w :: m.Prep.drop i⟩, 0, rfl, ⟨_, _, rfl, hs1K.mono hl9, hsl⟩, .ok hno hnd hwayR i hi0 hlt h4, rfl⟩
    · have hii : ¬ (i : Int) < (m.Prep.length : Int) := by omega
      have h4 : ∀ hl : i < m.Prep.length, ¬ ltK m.Prep[i].Txn.k (x1, x2, x3) := fun h => absurd h hi
      refine walk ?_
      refine ex_any 15 [row p3 55 [.slice b1 m.Held.length c1, .slice b2 m.Prep.length c2], row p4 27 [I x1, I x2, I x3]] ?_
      (first | refine gny_p 0 rfl rfl rfl ?_ | refine gny_ld 0 rfl rfl rfl rfl ?_ | refine gny_ldH 0 rfl rfl rfl ‹HRow _ _ 0 _› rfl ?_ | refine gny_T 0 rfl rfl rfl ?_ | refine gny_F 0 rfl rfl rfl ?_ | refine gny_B 0 rfl rfl rfl ?_ | refine gny_skip 0 rfl rfl ?_ | refine gny_sp 0 rfl rfl rfl ?_ | refine gny_sB 0 rfl rfl rfl ?_ | refine gny_sld 0 rfl rfl rfl rfl ?_ | refine gny_sldH 0 rfl rfl rfl ‹HRow _ _ 0 _› rfl ?_ | refine gny_ldN 0 rfl rfl rfl rfl ?_ | refine gny_bld 0 rfl rfl rfl ?_); (first | refine gny_p 1 rfl rfl rfl ?_ | refine gny_ld 1 rfl rfl rfl rfl ?_ | refine gny_ldH 1 rfl rfl rfl ‹HRow _ _ 0 _› rfl ?_ | refine gny_T 1 rfl rfl rfl ?_ | refine gny_F 1 rfl rfl rfl ?_ | refine gny_B 1 rfl rfl rfl ?_ | refine gny_skip 1 rfl rfl ?_ | refine gny_sp 1 rfl rfl rfl ?_ | refine gny_sB 1 rfl rfl rfl ?_ | refine gny_sld 1 rfl rfl rfl rfl ?_ | refine gny_sldH 1 rfl rfl rfl ‹HRow _ _ 0 _› rfl ?_ | refine gny_ldN 1 rfl rfl rfl rfl ?_ | refine gny_bld 1 rfl rfl rfl ?_); (first | refine gny_p 2 rfl rfl rfl ?_ | refine gny_ld 2 rfl rfl rfl rfl ?_ | refine gny_ldH 2 rfl rfl rfl ‹HRow _ _ 0 _› rfl ?_ | refine gny_T 2 rfl rfl rfl ?_ | refine gny_F 2 rfl rfl rfl ?_ | refine gny_B 2 rfl rfl rfl ?_ | refine gny_skip 2 rfl rfl ?_ | refine gny_sp 2 rfl rfl rfl ?_ | refine gny_sB 2 rfl rfl rfl ?_ | refine gny_sld 2 rfl rfl rfl rfl ?_ | refine gny_sldH 2 rfl rfl rfl ‹HRow _ _ 0 _› rfl ?_ | refine gny_ldN 2 rfl rfl rfl rfl ?_ | refine gny_bld 2 rfl rfl rfl ?_); (first | refine gny_p 3 rfl rfl rfl ?_ | refine gny_ld 3 rfl rfl rfl rfl ?_ | refine gny_ldH 3 rfl rfl rfl ‹HRow _ _ 0 _› rfl ?_ | refine gny_T 3 rfl rfl rfl ?_ | refine gny_F 3 rfl rfl rfl ?_ | refine gny_B 3 rfl rfl rfl ?_ | refine gny_skip 3 rfl rfl ?_ | refine gny_sp 3 rfl rfl rfl ?_ | refine gny_sB 3 rfl rfl rfl ?_ | refine gny_sld 3 rfl rfl rfl rfl ?_ | refine gny_sldH 3 rfl rfl rfl ‹HRow _ _ 0 _› rfl ?_ | refine gny_ldN 3 rfl rfl rfl rfl ?_ | refine gny_bld 3 rfl rfl rfl ?_); (first | refine gny_p 4 rfl rfl rfl ?_ | refine gny_ld 4 rfl rfl rfl rfl ?_ | refine gny_ldH 4 rfl rfl rfl ‹HRow _ _ 0 _› rfl ?_ | refine gny_T 4 rfl rfl rfl ?_ | refine gny_F 4 rfl rfl rfl ?_ | refine gny_B 4 rfl rfl rfl ?_ | refine gny_skip 4 rfl rfl ?_ | refine gny_sp 4 rfl rfl rfl ?_ | refine gny_sB 4 rfl rfl rfl ?_ | refine gny_sld 4 rfl rfl rfl rfl ?_ | refine gny_sldH 4 rfl rfl rfl ‹HRow _ _ 0 _› rfl ?_ | refine gny_ldN 4 rfl rfl rfl rfl ?_ | refine gny_bld 4 rfl rfl rfl ?_); (first | refine gny_p 5 rfl rfl rfl ?_ | refine gny_ld 5 rfl rfl rfl rfl ?_ | refine gny_ldH 5 rfl rfl rfl ‹HRow _ _ 0 _› rfl ?_ | refine gny_T 5 rfl rfl rfl ?_ | refine gny_F 5 rfl rfl rfl ?_ | refine gny_B 5 rfl rfl rfl ?_ | refine gny_skip 5 rfl rfl ?_ | refine gny_sp 5 rfl rfl rfl ?_ | refine gny_sB 5 rfl rfl rfl ?_ | refine gny_sld 5 rfl rfl rfl rfl ?_ | refine gny_sldH 5 rfl rfl rfl ‹HRow _ _ 0 _› rfl ?_ | refine gny_ldN 5 rfl rfl rfl rfl ?_ | refine gny_bld 5 rfl rfl rfl ?_); (first | refine gny_p 6 rfl rfl rfl ?_ | refine gny_ld 6 rfl rfl rfl rfl ?_ | refine gny_ldH 6 rfl rfl rfl ‹HRow _ _ 0 _› rfl ?_ | refine gny_T 6 rfl rfl rfl ?_ | refine gny_F 6 rfl rfl rfl ?_ | refine gny_B 6 rfl rfl rfl ?_ | refine gny_skip 6 rfl rfl ?_ | refine gny_sp 6 rfl rfl rfl ?_ | refine gny_sB 6 rfl rfl rfl ?_ | refine gny_sld 6 rfl rfl rfl rfl ?_ | refine gny_sldH 6 rfl rfl rfl ‹HRow _ _ 0 _› rfl ?_ | refine gny_ldN 6 rfl rfl rfl rfl ?_ | refine gny_bld 6 rfl rfl rfl ?_); (first | refine gny_p 7 rfl rfl rfl ?_ | refine gny_ld 7 rfl rfl rfl rfl ?_ | refine gny_ldH 7 rfl rfl rfl ‹HRow _ _ 0 _› rfl ?_ | refine gny_T 7 rfl rfl rfl ?_ | refine gny_F 7 rfl rfl rfl ?_ | refine gny_B 7 rfl rfl rfl ?_ | refine gny_skip 7 rfl rfl ?_ | refine gny_sp 7 rfl rfl rfl ?_ | refine gny_sB 7 rfl rfl rfl ?_ | refine gny_sld 7 rfl rfl rfl rfl ?_ | refine gny_sldH 7 rfl rfl rfl ‹HRow _ _ 0 _› rfl ?_ | refine gny_ldN 7 rfl rfl rfl rfl ?_ | refine gny_bld 7 rfl rfl rfl ?_); (first | refine gny_p 8 rfl rfl rfl ?_ | refine gny_ld 8 rfl rfl rfl rfl ?_ | refine gny_ldH 8 rfl rfl rfl ‹HRow _ _ 0 _› rfl ?_ | refine gny_T 8 rfl rfl rfl ?_ | refine gny_F 8 rfl rfl rfl ?_ | refine gny_B 8 rfl rfl rfl ?_ | refine gny_skip 8 rfl rfl ?_ | refine gny_sp 8 rfl rfl rfl ?_ | refine gny_sB 8 rfl rfl rfl ?_ | refine gny_sld 8 rfl rfl rfl rfl ?_ | refine gny_sldH 8 rfl rfl rfl ‹HRow _ _ 0 _› rfl ?_ | refine gny_ldN 8 rfl rfl rfl rfl ?_ | refine gny_bld 8 rfl rfl rfl ?_); (first | refine gny_p 9 rfl rfl rfl ?_ | refine gny_ld 9 rfl rfl rfl rfl ?_ | refine gny_ldH 9 rfl rfl rfl ‹HRow _ _ 0 _› rfl ?_ | refine gny_T 9 rfl rfl rfl ?_ | refine gny_F 9 rfl rfl rfl ?_ | refine gny_B 9 rfl rfl rfl ?_ | refine gny_skip 9 rfl rfl ?_ | refine gny_sp 9 rfl rfl rfl ?_ | refine gny_sB 9 rfl rfl rfl ?_ | refine gny_sld 9 rfl rfl rfl rfl ?_ | refine gny_sldH 9 rfl rfl rfl ‹HRow _ _ 0 _› rfl ?_ | refine gny_ldN 9 rfl rfl rfl rfl ?_ | refine gny_bld 9 rfl rfl rfl ?_); (first | refine gny_p 10 rfl rfl rfl ?_ | refine gny_ld 10 rfl rfl rfl rfl ?_ | refine gny_ldH 10 rfl rfl rfl ‹HRow _ _ 0 _› rfl ?_ | refine gny_T 10 rfl rfl rfl ?_ | refine gny_F 10 rfl rfl rfl ?_ | refine gny_B 10 rfl rfl rfl ?_ | refine gny_skip 10 rfl rfl ?_ | refine gny_sp 10 rfl rfl rfl ?_ | refine gny_sB 10 rfl rfl rfl ?_ | refine gny_sld 10 rfl rfl rfl rfl ?_ | refine gny_sldH 10 rfl rfl rfl ‹HRow _ _ 0 _› rfl ?_ | refine gny_ldN 10 rfl rfl rfl rfl ?_ | refine gny_bld 10 rfl rfl rfl ?_); (first | refine gny_p 11 rfl rfl rfl ?_ | refine gny_ld 11 rfl rfl rfl rfl ?_ | refine gny_ldH 11 rfl rfl rfl ‹HRow _ _ 0 _› rfl ?_ | refine gny_T 11 rfl rfl rfl ?_ | refine gny_F 11 rfl rfl rfl ?_ | refine gny_B 11 rfl rfl rfl ?_ | refine gny_skip 11 rfl rfl ?_ | refine gny_sp 11 rfl rfl rfl ?_ | refine gny_sB 11 rfl rfl rfl ?_ | refine gny_sld 11 rfl rfl rfl rfl ?_ | refine gny_sldH 11 rfl rfl rfl ‹HRow _ _ 0 _› rfl ?_ | refine gny_ldN 11 rfl rfl rfl rfl ?_ | refine gny_bld 11 rfl rfl rfl ?_); (first | refine gny_p 12 rfl rfl rfl ?_ | refine gny_ld 12 rfl rfl rfl rfl ?_ | refine gny_ldH 12 rfl rfl rfl ‹HRow _ _ 0 _› rfl ?_ | refine gny_T 12 rfl rfl rfl ?_ | refine gny_F 12 rfl rfl rfl ?_ | refine gny_B 12 rfl rfl rfl ?_ | refine gny_skip 12 rfl rfl ?_ | refine gny_sp 12 rfl rfl rfl ?_ | refine gny_sB 12 rfl rfl rfl ?_ | refine gny_sld 12 rfl rfl rfl rfl ?_ | refine gny_sldH 12 rfl rfl rfl ‹HRow _ _ 0 _› rfl ?_ | refine gny_ldN 12 rfl rfl rfl rfl ?_ | refine gny_bld 12 rfl rfl rfl ?_); (first | refine gny_p 13 rfl rfl rfl ?_ | refine gny_ld 13 rfl rfl rfl rfl ?_ | refine gny_ldH 13 rfl rfl rfl ‹HRow _ _ 0 _› rfl ?_ | refine gny_T 13 rfl rfl rfl ?_ | refine gny_F 13 rfl rfl rfl ?_ | refine gny_B 13 rfl rfl rfl ?_ | refine gny_skip 13 rfl rfl ?_ | refine gny_sp 13 rfl rfl rfl ?_ | refine gny_sB 13 rfl rfl rfl ?_ | refine gny_sld 13 rfl rfl rfl rfl ?_ | refine gny_sldH 13 rfl rfl rfl ‹HRow _ _ 0 _› rfl ?_ | refine gny_ldN 13 rfl rfl rfl rfl ?_ | refine gny_bld 13 rfl rfl rfl ?_); (first | refine gny_p 14 rfl rfl rfl ?_ | refine gny_ld 14 rfl rfl rfl rfl ?_ | refine gny_ldH 14 rfl rfl rfl ‹HRow _ _ 0 _› rfl ?_ | refine gny_T 14 rfl rfl rfl ?_ | refine gny_F 14 rfl rfl rfl ?_ | refine gny_B 14 rfl rfl rfl ?_ | refine gny_skip 14 rfl rfl ?_ | refine gny_sp 14 rfl rfl rfl ?_ | refine gny_sB 14 rfl rfl rfl ?_ | refine gny_sld 14 rfl rfl rfl rfl ?_ | refine gny_sldH 14 rfl rfl rfl ‹HRow _ _ 0 _› rfl ?_ | refine gny_ldN 14 rfl rfl rfl rfl ?_ | refine gny_bld 14 rfl rfl rfl ?_)
      refine any_rest rfl ?_
      refine walk ?_
      have fk2 : fits (2 : Int) := by unfold fits; omega
      refine ops_app1 (y := recW ⟨x1, x2, x3⟩ w) rfl rfl rfl ⟨_, _, nilS, rfl, fk2, hx.1, hx.2.1, hx.2.2, hrob, ht1.mono hl1K, ht2.mono hl1K, SlB.nil⟩ (by simp only [cap47]; omega) fun d3 e3 => ?_
      have hll3 : (m.Prep.take i).length + 1 = (m.Prep.take i ++ [recW ⟨x1, x2, x3⟩ w]).length := by simp
      rw [hll3]
      refine walk ?_
      refine ops_pure rfl rfl (op_slice (l := (i : Int)) (h := (m.Prep.length : Int)) rfl rfl rfl (by omega) (by omega) (by omega)) ?_
      have hsd := hs2K.1.slc (l := i) (h := m.Prep.length) hi0 (Nat.le_refl _)
      rw [List.take_of_length_le (by rw [List.length_drop]; omega)] at hsd
      rw [Int.toNat_natCast, Int.toNat_natCast]
      have hld : (m.Prep.drop i).length = m.Prep.length - i := List.length_drop
      refine ops_appS rfl rfl hsd (by rw [List.length_append, List.length_cons, List.length_nil]; simp only [cap47]; omega) fun d4 e4 => ?_
      rw [← List.length_append, List.append_assoc, List.singleton_append]
      refine walk ?_
      refine out_freeze (.slice d4 (m.Prep.take i ++ recW ⟨x1, x2, x3⟩ w :: m.Prep.drop i).length e4) fun H9 hl9 hsl => ?_
      refine fin0 ?_
      exact ⟨_, ⟨m.Held, m.Prep.take i ++ recW ⟨x1, x2, x3⟩ w :: m.Prep.drop i⟩, 0, rfl, ⟨_, _, rfl, hs1K.mono hl9, hsl⟩, .ok hno hnd hwayR i hi0 hlt h4, rfl⟩
end Go.Proofs.YtkhbfjkioehgfaaGreatDoor
