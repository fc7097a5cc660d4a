/- PactQuick, walked. -/
import Derived.Test.YtlflbkpmfhhikaaGreatDoorPXS
import Derived.Test.YtlflbkpmfhhikaaGreatDoorPYA
set_option linter.unusedVariables false
namespace Go.Proofs.YtlflbkpmfhhikaaGreatDoor
open Go Go.Sx Go.Proofs
theorem com_take {l : List PactNote} {x : Txn} {i : Nat} (h : com (l.take i) x) : com l x := by
  obtain ⟨e, he, r⟩ := h
  exact ⟨e, List.mem_of_mem_take he, r⟩
theorem Agr.at {l : List PactNote} (h : Agr l) {i : Nat} (hi : i < l.length) (hk : l[i].Rec.Kind = 3) (hf : firstN (l.take i) l[i]) : (l[i].Rec.Yes = true → com (l.take i) l[i].Rec.Txn) ∧ (l[i].Rec.Yes = false → ¬ com l l[i].Rec.Txn) :=
  h (l.take i) l[i] (l.drop (i + 1)) (by rw [← List.drop_eq_getElem_cons hi, List.take_append_drop]) hk hf
theorem Agr.yes {l : List PactNote} (h : Agr l) {i : Nat} (hi : i < l.length) (hk : l[i].Rec.Kind = 3) (hf : firstN (l.take i) l[i]) : l[i].Rec.Yes = true ↔ com (l.take i) l[i].Rec.Txn := by
  refine ⟨(h.at hi hk hf).1, fun hc => ?_⟩
  cases hy : l[i].Rec.Yes with
  | true => rfl
  | false => exact absurd (com_take hc) ((h.at hi hk hf).2 hy)
theorem Agr.same {l : List PactNote} (h : Agr l) {i k : Nat} (hi : i < l.length) (hk : k < l.length) (h1 : l[i].Rec.Kind = 3) (h2 : l[k].Rec.Kind = 3) (f1 : firstN (l.take i) l[i]) (f2 : firstN (l.take k) l[k]) (hx : l[k].Rec.Txn = l[i].Rec.Txn) : l[k].Rec.Yes = l[i].Rec.Yes := by
  have a1 := h.at hi h1 f1
  have a2 := h.at hk h2 f2
  rw [hx] at a2
  cases y1 : l[i].Rec.Yes with
  | true =>
    cases y2 : l[k].Rec.Yes with
    | true => rfl
    | false => exact absurd (com_take (a1.1 y1)) (a2.2 y2)
  | false =>
    cases y2 : l[k].Rec.Yes with
    | true => exact absurd (com_take (a2.1 y2)) (a1.2 y1)
    | false => rfl
set_option linter.unusedSimpArgs false
theorem slr_takeR {α : Type} {R : Rd α} {sz : Nat} [RdOk R sz] {H : Heap} {b0 : Option Addr} {c0 n j : Nat} {l : List α} (h : SlR R sz H (.slice b0 n c0) l) (hj : j ≤ l.length) : SlR R sz H (.slice b0 j c0) (l.take j) := by
  have h := h.slc (l := 0) (h := j) (Nat.zero_le _) hj
  have e0 : Sx.slc b0 c0 0 j sz = .slice b0 j c0 := by unfold Sx.slc; cases b0 <;> simp [Addr.add]
  rw [e0] at h
  simpa using h
theorem txn_eq {x y : Txn} : x = y ↔ x.Node = y.Node ∧ x.Life = y.Life ∧ x.Count = y.Count := ⟨fun h => by rw [h]; exact ⟨rfl, rfl, rfl⟩, fun h => by obtain ⟨a, b, c⟩ := x; obtain ⟨a', b', c'⟩ := y; obtain ⟨rfl, rfl, rfl⟩ := h; rfl⟩
theorem com_succ {l : List PactNote} {x : Txn} {j : Nat} (hj : j < l.length) : com (l.take (j + 1)) x ↔ com (l.take j) x ∨ (l[j].Rec.Kind = 4 ∧ l[j].Rec.Txn = x) := by
  rw [List.take_succ_eq_append_getElem hj, com_snoc]
set_option maxHeartbeats 16000000 in
set_option maxRecDepth 20000 in
theorem agreed_spec {W0 : World} {H : Heap} {v : Value} {l : List PactNote} (hA : Agr l) (h0 : SlR rPactNote 10 H v l) :
    Ct Tryz.prog 11 #[v] W0 H [] (fun r H' B => r = .bool true ∧ B = [] ∧ H' = H) := by
  refine Ct.go (vs := [v]) fun R => ?_
  obtain ⟨b0, c0, rfl, hc0, hd0⟩ := h0.shape
  refine walk ?_
  refine ex_loop (σ := Nat) (fun u => u ≤ l.length) (fun u => [(0, .slice b0 l.length c0), (10, .slice b0 l.length c0), (11, I l.length), (12, I u)]) (fun _ => H)
    (fun u => R) (fun u => l.length - u) 0 (Nat.zero_le _) fun i hi0 K hL => ?_
  by_cases hi1 : i < l.length
  · have hi2 : (i : Int) < (l.length : Int) := by omega
    obtain ⟨e, he⟩ : ∃ e, l[i] = e := ⟨_, rfl⟩
    have hy := hA.yes hi1
    have hsame := fun {k} (hk : k < l.length) => hA.same hi1 hk
    refine walk ?_
    refine ops_ixp rfl rfl h0 hi1 fun ba oa ca hra hca => ?_
    rw [he] at hca hy hsame
    obtain ⟨s1, s2, s3, rfl, _, _, _, _, _, _, g1, g2, g3⟩ := hca
    obtain ⟨x1, y1, rfl, _, _⟩ := g1.1.shape
    obtain ⟨x2, y2, rfl, _, _⟩ := g2.1.shape
    obtain ⟨x3, y3, rfl, _, _⟩ := g3.1.shape
    refine walk ?_
    refine ops_ldNH rfl rfl hra rfl ?_
    refine walk ?_
    refine ops_alloc rfl fun p4 _ => ?_
    by_cases k1 : e.Rec.Kind = 3
    · skip
      refine walk ?_
      refine ops_call rfl rfl (first_spec (W0 := W0) (H := H) (v := .slice b0 l.length c0) (l := l) (i := i) hi1 h0) fun r1 H1 B hl1 ⟨fb, er, hfb, eB, eH⟩ => ?_
      subst er eB eH
      cases fb with
      | false =>
        refine walk ?_
        exact out_next hL (i + 1) (by omega)
      | true =>
        have hfirst := hfb.1 rfl
        rw [he] at hfirst
        have hyes := hy k1 hfirst
        refine walk ?_
        refine ex_loop (σ := Nat × Bool) (fun u => u.1 ≤ i ∧ (u.2 = true ↔ com (l.take u.1) e.Rec.Txn)) (fun u => [(0, .slice b0 l.length c0), (3, I i), (4, .pointer (some ⟨p4, 0, none⟩)), (5, .bool u.2), (10, .slice b0 l.length c0), (11, I l.length), (12, I i), (29, .slice b0 i c0), (30, I i), (31, I u.1)]) (fun _ => H1)
          (fun u => row p4 71 (PactNote.cv e (.slice x1 e.Rec.Work.Take.length y1) (.slice x2 e.Rec.Work.Drop.length y2) (.slice x3 e.Rec.Parts.length y3)) :: R) (fun u => i - u.1) (0, false) ⟨Nat.zero_le _, by constructor; intro h; cases h; rintro ⟨f, hf, _⟩; simp at hf⟩ fun ⟨j, c⟩ ⟨hj0, hc⟩ K2 hL2 => ?_
        simp only at hj0 hc
        dsimp only
        by_cases hj1 : j < i
        · have hj2 : (j : Int) < (i : Int) := by omega
          have hjl : j < l.length := by omega
          obtain ⟨m, hm⟩ : ∃ m, l[j] = m := ⟨_, rfl⟩
          have hcs := com_succ (l := l) (x := e.Rec.Txn) hjl
          rw [hm] at hcs
          have hti := slr_takeR h0 (Nat.le_of_lt hi1)
          have hjt : j < (l.take i).length := by rw [List.length_take]; omega
          refine walk ?_
          refine ops_ixp rfl rfl hti hjt fun bb ob cb hrb hcb => ?_
          rw [List.getElem_take, hm] at hcb
          obtain ⟨t1, t2, t3, rfl, _, _, _, _, _, _, g1', g2', g3'⟩ := hcb
          obtain ⟨u1, v1, rfl, _, _⟩ := g1'.1.shape
          obtain ⟨u2, v2, rfl, _, _⟩ := g2'.1.shape
          obtain ⟨u3, v3, rfl, _, _⟩ := g3'.1.shape
          refine walk ?_
          refine ops_ldNH rfl rfl hrb rfl ?_
          refine walk ?_
          refine ops_alloc rfl fun p7 _ => ?_
          cases c with
          | true =>
            refine walk ?_
            exact out_next hL2 (j + 1, true) ⟨by simp only; omega, fun _ => hcs.2 (.inl (hc.1 rfl)), fun _ => rfl⟩
          | false =>
            have hno : ¬ com (l.take j) e.Rec.Txn := fun h => by have := hc.2 h; cases this
            by_cases k4 : m.Rec.Kind = 4
            · skip
              refine walk ?_
              exact out_next hL2 (j + 1, decide (m.Rec.Txn.Node = e.Rec.Txn.Node ∧ m.Rec.Txn.Life = e.Rec.Txn.Life ∧ m.Rec.Txn.Count = e.Rec.Txn.Count)) ⟨by simp only; omega, by rw [decide_eq_true_iff]; exact ⟨fun h => hcs.2 (.inr ⟨k4, txn_eq.2 h⟩), fun h => (hcs.1 h).elim (fun h => absurd h hno) fun h => txn_eq.1 h.2⟩⟩
            · skip
              refine walk ?_
              exact out_next hL2 (j + 1, false) ⟨by simp only; omega, fun h => (by cases h), fun h => ((hcs.1 h).elim hno fun h => k4 h.1).elim⟩
        · obtain rfl : j = i := by omega
          clear hL2
          have hce : c = e.Rec.Yes := by rw [Bool.eq_iff_iff]; exact hc.trans hyes.symm
          subst hce
          refine walk ?_
          rw [decide_eq_false (p := ¬ e.Rec.Yes = e.Rec.Yes) (fun h => h rfl)]
          refine walk ?_
          refine ex_loop (σ := Nat) (fun u => u ≤ l.length) (fun u => [(0, .slice b0 l.length c0), (3, I j), (4, .pointer (some ⟨p4, 0, none⟩)), (10, .slice b0 l.length c0), (11, I l.length), (12, I j), (57, .slice b0 l.length c0), (58, I l.length), (59, I u)]) (fun _ => H1)
            (fun u => row p4 71 (PactNote.cv e (.slice x1 e.Rec.Work.Take.length y1) (.slice x2 e.Rec.Work.Drop.length y2) (.slice x3 e.Rec.Parts.length y3)) :: R) (fun u => l.length - u) 0 (Nat.zero_le _) fun k hk0 K3 hL3 => ?_
          by_cases hkl : k < l.length
          · have hk2 : (k : Int) < (l.length : Int) := by omega
            obtain ⟨m, hm⟩ : ∃ m, l[k] = m := ⟨_, rfl⟩
            have hsk := hsame hkl
            rw [hm] at hsk
            refine walk ?_
            refine ops_ixp rfl rfl h0 hkl fun bb ob cb hrb hcb => ?_
            rw [hm] at hcb
            obtain ⟨t1, t2, t3, rfl, _, _, _, _, _, _, g1', g2', g3'⟩ := hcb
            obtain ⟨u1, v1, rfl, _, _⟩ := g1'.1.shape
            obtain ⟨u2, v2, rfl, _, _⟩ := g2'.1.shape
            obtain ⟨u3, v3, rfl, _, _⟩ := g3'.1.shape
            refine walk ?_
            refine ops_ldNH rfl rfl hrb rfl ?_
            refine walk ?_
            refine ops_alloc rfl fun p9 _ => ?_
            by_cases k3 : m.Rec.Kind = 3
            · skip
              refine walk ?_
              by_cases k5 : m.Rec.Txn = e.Rec.Txn
              · rw [decide_eq_true (p := m.Rec.Txn.Node = e.Rec.Txn.Node ∧ m.Rec.Txn.Life = e.Rec.Txn.Life ∧ m.Rec.Txn.Count = e.Rec.Txn.Count) (txn_eq.1 k5)]
                refine walk ?_
                refine ops_call rfl rfl (first_spec (W0 := W0) (H := H1) (v := .slice b0 l.length c0) (l := l) (i := k) hkl h0) fun r3 H3 B hl3 ⟨fb, er, hfb, eB, eH⟩ => ?_
                subst er eB eH
                cases fb with
                | false =>
                  refine walk ?_
                  exact out_next hL3 (k + 1) (by omega)
                | true =>
                  have hk9 := hfb.1 rfl
                  rw [hm] at hk9
                  have hyy := hsk k1 k3 hfirst hk9 k5
                  refine walk ?_
                  rw [decide_eq_false (p := ¬ m.Rec.Yes = e.Rec.Yes) (fun h => h hyy)]
                  refine walk ?_
                  exact out_next hL3 (k + 1) (by omega)
              · rw [decide_eq_false (p := m.Rec.Txn.Node = e.Rec.Txn.Node ∧ m.Rec.Txn.Life = e.Rec.Txn.Life ∧ m.Rec.Txn.Count = e.Rec.Txn.Count) fun h => k5 (txn_eq.2 h)]
                refine walk ?_
                exact out_next hL3 (k + 1) (by omega)
            · skip
              refine walk ?_
              exact out_next hL3 (k + 1) (by omega)
          · obtain rfl : k = l.length := by omega
            clear hL3
            refine walk ?_
            exact out_next hL (j + 1) (by omega)
    · skip
      refine walk ?_
      exact out_next hL (i + 1) (by omega)
  · obtain rfl : i = l.length := by omega
    clear hL
    refine walk ?_
    refine fin0 ?_
    exact ⟨rfl, rfl, rfl⟩
set_option maxHeartbeats 16000000 in
set_option maxRecDepth 20000 in
theorem pactAgrees_spec {W0 : World} {H : Heap} {v : Value} {script : List Move} (hP : PkH H) (h0 : SlB rMove 3 40 H v script) :
    Ct Tryz.prog 3 #[v] W0 H [] (fun r H' B => r = .bool true ∧ B = []) := by
  refine Ct.go (vs := [v]) fun R => ?_
  obtain ⟨b0, c0, rfl, hc0, hd0⟩ := h0.1.shape
  refine walk ?_
  refine ops_call rfl rfl (played_spec (W0 := W0) (H := H) hP h0.1) fun r1 H1 B hl1 ⟨p, w, K, B', er, hK, IW, hlg, eB⟩ => ?_
  subst er eB
  refine walk ?_
  refine ops_call (vs := []) rfl rfl (wawake_spec (W0 := W0) (H := H1) (hP.mono hl1)) fun r2 H2 B hl2 ⟨er, eB⟩ => ?_
  subst er eB
  refine ops_L (L' := worldO H2 p w :: R) ?_ ?_
  · refine Sub.trans (B := worldO H1 p w :: R) subA ?_
    exact world_up hl2
  refine walk ?_
  refine ops_call rfl rfl (wlog_spec (W0 := W0) (H := H2) (p := p) (w := w) (by unfold cap47; omega)) fun r3 H3 B hl3 eB => ?_
  subst eB
  refine ops_freeze r3 fun H4 hl4 hs4 => ?_
  obtain ⟨b4, c4, rfl, _, _⟩ := hs4.1.shape
  refine walk ?_
  refine ops_call rfl rfl (agreed_spec (W0 := W0) (H := H4) IW.S.ag hs4.1) fun r5 H5 B hl5 ⟨er, eB, eH⟩ => ?_
  subst er eB eH
  refine walk ?_
  refine fin0 ?_
  exact ⟨rfl, rfl⟩
theorem settledW {n K : Nat} {B : List BT} {w : PW} (I : WInv n K B w) (Q : Quiet w) (h : sayW w = []) (a : Int) : votingW w a = [] ∧ openW w a = [] ∧ prepW w a = [] := by
  unfold votingW openW prepW
  cases hn : nAt w a with
  | none => exact ⟨rfl, rfl, rfl⟩
  | some q =>
    obtain ⟨i, rfl, hi, rfl⟩ := nAt_some.1 hn
    exact settled I Q h hi
theorem WInv.pl7 {n K : Nat} {B : List BT} {w : PW} (I : WInv n K B w) (hl : w.log.length ≤ 900000000) : ∀ q ∈ w.ns, ∀ k t, mget k q.cs.ts = some t → t.parts.length * 8 ≤ cap47 := fun q hq k t hg => by
  have := (I.ok hl).pl q hq k t hg
  unfold cap47; omega
set_option maxHeartbeats 16000000 in
set_option maxRecDepth 20000 in
theorem pactSettles_spec {W0 : World} {H : Heap} {v : Value} {script : List Move} (hP : PkH H) (h0 : SlB rMove 3 40 H v script) :
    Ct Tryz.prog 6 #[v] W0 H [] (fun r H' B => r = .bool true ∧ B = []) := by
  refine Ct.go (vs := [v]) fun R => ?_
  obtain ⟨b0, c0, rfl, hc0, hd0⟩ := h0.1.shape
  refine walk ?_
  refine ops_call rfl rfl (played_spec (W0 := W0) (H := H) hP h0.1) fun r1 H1 B hl1 ⟨p, w, K, B', er, hK, IW, hlg, eB⟩ => ?_
  subst er eB
  refine walk ?_
  refine ops_call (vs := []) rfl rfl (wawake_spec (W0 := W0) (H := H1) (hP.mono hl1)) fun r2 H2 B hl2 ⟨er, eB⟩ => ?_
  subst er eB
  refine ops_L (L' := worldO H2 p w :: R) ?_ ?_
  · refine Sub.trans (B := worldO H1 p w :: R) subA ?_
    exact world_up hl2
  refine walk ?_
  refine ex_loop (σ := Nat × PW × Heap) (fun u => ((u.1 ≤ 60 ∧ Rounds (K + 1) w u.1 u.2.1) ∧ WInv 3 K B' u.2.1 ∧ u.2.1.log.length ≤ 150 + 2004 * u.1) ∧ H2.le u.2.2) (fun u => [(3, ptrC p), (4, I u.1)]) (fun u => u.2.2)
    (fun u => worldO u.2.2 p u.2.1 :: R) (fun u => 60 - u.1) (0, w, H2) ⟨⟨⟨Nat.zero_le _, .nil⟩, IW, by simp only; omega⟩, .refl _⟩ fun ⟨j, x, HK⟩ ⟨⟨⟨hj0, hR⟩, Ix, hxl⟩, hlK⟩ K hL => ?_
  simp only at hj0 hR Ix hxl hlK
  dsimp only
  by_cases hj1 : j < 60
  · have hj2 : (j : Int) < 60 := by omega
    refine walk ?_
    refine ops_call rfl rfl (round_spec (W0 := W0) (H := HK) (p := p) (hP.mono (hl1.trans (hl2.trans hlK))) Ix (by omega)) fun r3 H3 B hl3 ⟨x', hr, Ix', hx', eB⟩ => ?_
    subst eB
    refine walk ?_
    exact out_next hL (j + 1, x', H3) ⟨⟨⟨by simp only; omega, hR.more hr⟩, Ix', by simp only; omega⟩, hlK.trans hl3⟩
  · obtain rfl : j = 60 := by omega
    clear hL
    have hnw := hR.now
    refine walk ?_
    refine ops_call rfl rfl (wnow_spec (W0 := W0) (H := HK) (p := p) (w := x)) fun r4 H4 B hl4 ⟨er, eB, eH⟩ => ?_
    subst er eB eH
    by_cases hT : 536870912 < x.now
    · refine walk ?_
      refine ops_call rfl rfl (wlog_spec (W0 := W0) (H := H4) (p := p) (w := x) (by unfold cap47; omega)) fun r30 H30 B hl30 eB => ?_
      subst eB
      refine ops_freeze r30 fun H31 hl31 hs31 => ?_
      obtain ⟨b31, c31, rfl, _, _⟩ := hs31.1.shape
      refine walk ?_
      refine ops_call rfl rfl (agreed_spec (W0 := W0) (H := H31) Ix.S.ag hs31.1) fun r32 H32 B hl32 ⟨er, eB, eH⟩ => ?_
      subst er eB eH
      refine walk ?_
      refine fin0 ?_
      exact ⟨rfl, rfl⟩
    · have hbl := IW.bl
      obtain ⟨I9, Q9, hn9, hs9⟩ := rounds_q IW rfl (by omega) (k := 59) hR
      have hs0 : sayW x = [] := List.eq_nil_of_length_eq_zero (by omega)
      have hset := settledW Ix Q9 hs0
      have hts := Ix.ts
      have hcs := (Ix.ok (by omega)).c
      have hpl := Ix.pl7 (by omega)
      have hK3 := IW.k3
      refine walk ?_
      refine ex_loop (σ := Nat × Heap) (fun u => u.1 ≤ 3 ∧ H4.le u.2) (fun u => [(3, ptrC p), (5, I u.1)]) (fun u => u.2)
        (fun u => worldO u.2 p x :: R) (fun u => 3 - u.1) (0, H4) ⟨Nat.zero_le _, .refl _⟩ fun ⟨i, HI⟩ ⟨hi0, hlI⟩ K2 hL2 => ?_
      simp only at hi0 hlI
      dsimp only
      by_cases hi1 : i < 3
      · have hi2 : (i : Int) < 3 := by omega
        obtain ⟨v1, v2, v3⟩ := hset (i : Int)
        refine walk ?_
        refine ops_call rfl rfl (wvoting_spec (W0 := W0) (H := HI) (p := p) (n := _) (w := x) (a := i) hcs (by omega)) fun r5 H5 B hl5 eB => ?_
        subst eB
        refine ops_shape r5 fun d5 e5 e _ _ _ => ?_
        rw [v1, List.length_nil] at e
        subst e
        refine walk ?_
        refine ops_call rfl rfl (wopen_spec (W0 := W0) (H := H5) (p := p) (n := _) (w := x) (a := i) hcs (by omega) hpl) fun r6 H6 B hl6 eB => ?_
        subst eB
        refine ops_shape r6 fun d6 e6 e _ _ _ => ?_
        rw [v2, List.length_nil] at e
        subst e
        refine walk ?_
        refine ops_call rfl rfl (wprep_spec (W0 := W0) (H := H6) (p := p) (w := x) (a := i) hts) fun r7 H7 B hl7 eB => ?_
        subst eB
        refine ops_shape r7 fun d7 e7 e _ _ _ => ?_
        rw [v3, List.length_nil] at e
        subst e
        refine walk ?_
        exact out_next hL2 (i + 1, H7) ⟨by simp only; omega, hlI.trans (hl5.trans (hl6.trans hl7))⟩
      · obtain rfl : i = 3 := by omega
        clear hL2
        refine walk ?_
        refine ops_call rfl rfl (wlog_spec (W0 := W0) (H := HI) (p := p) (w := x) (by unfold cap47; omega)) fun r30 H30 B hl30 eB => ?_
        subst eB
        refine ops_freeze r30 fun H31 hl31 hs31 => ?_
        obtain ⟨b31, c31, rfl, _, _⟩ := hs31.1.shape
        refine walk ?_
        refine ops_call rfl rfl (agreed_spec (W0 := W0) (H := H31) Ix.S.ag hs31.1) fun r32 H32 B hl32 ⟨er, eB, eH⟩ => ?_
        subst er eB eH
        refine walk ?_
        refine fin0 ?_
        exact ⟨rfl, rfl⟩
theorem PPlay.noWorks {m : Nat} {w w' : PW} {k a e : Int} {works : List Work} (hk : k ≠ 1) (h : PPlay m w k a works w' e) : PPlay m w k a [] w' e := by
  cases h with
  | bad h => exact .bad fun h' => h (h'.elim (fun h' => absurd h'.1 hk) .inr)
  | begin h => exact absurd h hk
  | none h1 h2 => exact .none h1 h2
  | deliver h1 j ha hj w1 out hh => exact .deliver h1 j ha hj w1 out hh
  | fail h1 j ha hj w1 _ out hh i hi hc => exact .fail h1 j ha hj _ _ out hh i hi hc
  | drop h1 j ha hj => exact .drop h1 j ha hj
  | copy h1 j ha hj hf => exact .copy h1 j ha hj hf
  | full h1 j ha hj hf => exact .full h1 j ha hj hf
  | step h1 i ha hi => exact .step h1 i ha hi
  | tick h1 h0 h2 => exact .tick h1 h0 h2
  | crash h1 i ha hi w1 hc => exact .crash h1 i ha hi _ hc
theorem WInv.play0 {n K m : Nat} {B : List BT} {w w' : PW} {k a e : Int} {works : List Work} (I : WInv n K B w) (hK : K < 300) (hk : k ≠ 1) (h : PPlay m w k a works w' e) : WInv n (K + 1) B w' := by
  obtain ⟨B', I', hB | ⟨h, _⟩⟩ := I.play hK (fun x hx => by cases hx) (h.noWorks hk)
  · rw [hB] at I'; exact I'
  · exact absurd h.1 hk
theorem slb_takeR {α : Type} {R : Rd α} {sz wd : Nat} [RdOk R sz] {H : Heap} {b0 : Option Addr} {c0 n : Nat} {l : List α} (h : SlB R sz wd H (.slice b0 n c0) l) (k : Nat) : SlB R sz wd H (.slice b0 (l.take k).length c0) (l.take k) := by
  have hle : (l.take k).length ≤ l.length := by rw [List.length_take]; omega
  have e : l.take (l.take k).length = l.take k := by
    rw [List.length_take]
    by_cases h : k ≤ l.length
    · rw [Nat.min_eq_left h]
    · rw [Nat.min_eq_right (by omega), List.take_of_length_le (Nat.le_refl _), List.take_of_length_le (by omega)]
  have h1 := slr_takeR (j := (l.take k).length) h.1 hle
  rw [e] at h1
  exact ⟨h1, Nat.le_trans (Nat.mul_le_mul_right _ hle) h.2⟩
theorem PPlay.nowB {m : Nat} {w w' : PW} {k a e : Int} {works : List Work} (h : PPlay m w k a works w' e) (hk : k ≠ 6) : w'.now = w.now := h.nowUp.2 hk
set_option maxHeartbeats 16000000 in
set_option maxRecDepth 20000 in
theorem pactQuick_spec {W0 : World} {H : Heap} {v0 v1 : Value} {works : List (List Work)} {script : List Move} (hP : PkH H) (hw : SlB (rSl rWork 3 56) 1 24 H v0 works) (h0 : SlB rMove 3 40 H v1 script) :
    Ct Tryz.prog 5 #[v0, v1] W0 H [] (fun r H' B => r = .bool true ∧ B = []) := by
  refine Ct.go (vs := [v0, v1]) fun R => ?_
  obtain ⟨bw, cw, rfl, hcw, hdw⟩ := hw.1.shape
  obtain ⟨b0, c0, rfl, hc0, hd0⟩ := h0.1.shape
  have hf1 : fits (1 : Int) := by unfold fits; omega
  refine walk ?_
  refine ops_call rfl rfl (wnew_spec (W0 := W0) (H := H) (nodes := 3)) fun r1 H1 B hl1 hq => ?_
  obtain ⟨h, _⟩ | ⟨n, p, hn, _, er, eB⟩ := hq
  · exact absurd ⟨by decide, by decide⟩ h
  obtain rfl : n = 3 := by omega
  subst er eB
  refine walk ?_
  refine ops_call (vs := []) rfl rfl (wawake_spec (W0 := W0) (H := H1) (hP.mono hl1)) fun r2 H2 B hl2 ⟨er, eB⟩ => ?_
  subst er eB
  refine ops_L (L' := worldO H2 p (newW 3) :: R) ?_ ?_
  · refine Sub.trans (B := worldO H1 p (newW 3) :: R) subA ?_
    exact world_up hl2
  refine walk ?_
  refine ex_cutb (σ := Nat × PW × Heap) (fun u => ((∃ B, WInv 3 4 B u.2.1 ∧ B.length ≤ 4) ∧ u.2.1.now = 0 ∧ u.2.1.log.length ≤ 4 ∧ u.1 ≤ 4) ∧ H2.le u.2.2) (fun u => [(1, .slice b0 script.length c0), (5, ptrC p), (7, I u.1)]) (fun u => u.2.2) (fun u => worldO u.2.2 p u.2.1 :: R) (fun K9 hK9 => ?_) fun ⟨c, w, HA⟩ ⟨⟨⟨B0, I0, hB0⟩, hnow, hlg, hc4⟩, hlA⟩ => ?_
  rotate_left
  · simp only at I0 hnow hlg hc4 hlA
    dsimp only
    refine walk ?_
    refine ex_cutb (σ := PW × Heap) (fun u => ((∃ K, K ≤ 24 ∧ WInv 3 K B0 u.1) ∧ u.1.now = 0 ∧ u.1.log.length ≤ 24) ∧ HA.le u.2) (fun u => [(5, ptrC p), (7, I c)]) (fun u => u.2) (fun u => worldO u.2 p u.1 :: R) (fun K8 hK8 => ?_) fun ⟨x, HB⟩ ⟨⟨⟨KB, hKB, IB⟩, hxn, hxl⟩, hlB⟩ => ?_
    rotate_left
    · simp only at IB hxn hxl hlB
      dsimp only
      have hlHB : H.le HB := hl1.trans (hl2.trans (hlA.trans hlB))
      refine walk ?_
      refine ex_loop (σ := Nat × PW × Heap) (fun u => ((u.1 ≤ c + 2 ∧ Rounds (KB + 1) x u.1 u.2.1) ∧ WInv 3 KB B0 u.2.1 ∧ u.2.1.log.length ≤ 24 + 2004 * u.1) ∧ HB.le u.2.2) (fun u => [(5, ptrC p), (7, I c), (10, I u.1)]) (fun u => u.2.2)
        (fun u => worldO u.2.2 p u.2.1 :: R) (fun u => c + 2 - u.1) (0, x, HB) ⟨⟨⟨Nat.zero_le _, .nil⟩, IB, by simp only; omega⟩, .refl _⟩ fun ⟨j, y, HK⟩ ⟨⟨⟨hj0, hR⟩, Iy, hyl⟩, hlK⟩ K hL => ?_
      simp only at hj0 hR Iy hyl hlK
      dsimp only
      by_cases hj1 : j < c + 2
      · have hj2 : (j : Int) < (c : Int) + 2 := by omega
        refine walk ?_
        refine ops_call rfl rfl (round_spec (W0 := W0) (H := HK) (p := p) (hP.mono (hlHB.trans hlK)) Iy (by omega)) fun r3 H3 B hl3 ⟨y', hr, Iy', hy', eB⟩ => ?_
        subst eB
        refine walk ?_
        exact out_next hL (j + 1, y', H3) ⟨⟨⟨by simp only; omega, hR.more hr⟩, Iy', by simp only; omega⟩, hlK.trans hl3⟩
      · obtain rfl : j = c + 2 := by omega
        have hj2 : ¬ ((c + 2 : Nat) : Int) < (c : Int) + 2 := by omega
        clear hL
        obtain ⟨I9, Q9, hn9, hs9⟩ := rounds_q IB rfl (by omega) (k := c + 1) hR
        have hs0 : sayW y = [] := List.eq_nil_of_length_eq_zero (by omega)
        have hset := settledW Iy Q9 hs0
        have hts := Iy.ts
        have hcs := (Iy.ok (by omega)).c
        have hpl := Iy.pl7 (by omega)
        refine walk ?_
        refine ex_loop (σ := Nat × Heap) (fun u => u.1 ≤ 3 ∧ HK.le u.2) (fun u => [(5, ptrC p), (11, I u.1)]) (fun u => u.2)
          (fun u => worldO u.2 p y :: R) (fun u => 3 - u.1) (0, HK) ⟨Nat.zero_le _, .refl _⟩ fun ⟨i, HI⟩ ⟨hi0, hlI⟩ K2 hL2 => ?_
        simp only at hi0 hlI
        dsimp only
        by_cases hi1 : i < 3
        · have hi2 : (i : Int) < 3 := by omega
          obtain ⟨v1, v2, v3⟩ := hset (i : Int)
          refine walk ?_
          refine ops_call rfl rfl (wvoting_spec (W0 := W0) (H := HI) (p := p) (n := _) (w := y) (a := i) hcs (by omega)) fun r5 H5 B hl5 eB => ?_
          subst eB
          refine ops_shape r5 fun d5 e5 e _ _ _ => ?_
          rw [v1, List.length_nil] at e
          subst e
          refine walk ?_
          refine ops_call rfl rfl (wopen_spec (W0 := W0) (H := H5) (p := p) (n := _) (w := y) (a := i) hcs (by omega) hpl) fun r6 H6 B hl6 eB => ?_
          subst eB
          refine ops_shape r6 fun d6 e6 e _ _ _ => ?_
          rw [v2, List.length_nil] at e
          subst e
          refine walk ?_
          refine ops_call rfl rfl (wprep_spec (W0 := W0) (H := H6) (p := p) (w := y) (a := i) hts) fun r7 H7 B hl7 eB => ?_
          subst eB
          refine ops_shape r7 fun d7 e7 e _ _ _ => ?_
          rw [v3, List.length_nil] at e
          subst e
          refine walk ?_
          exact out_next hL2 (i + 1, H7) ⟨by simp only; omega, hlI.trans (hl5.trans (hl6.trans hl7))⟩
        · obtain rfl : i = 3 := by omega
          clear hL2
          refine walk ?_
          refine fin0 ?_
          exact ⟨rfl, rfl⟩
    refine ex_loop (σ := Nat × PW × Heap) (fun u => ((u.1 ≤ script.length ∧ u.1 ≤ 20) ∧ WInv 3 (4 + u.1) B0 u.2.1 ∧ u.2.1.now = 0 ∧ u.2.1.log.length ≤ 4 + u.1) ∧ HA.le u.2.2) (fun u => [(1, .slice b0 script.length c0), (5, ptrC p), (7, I c), (9, I u.1)]) (fun u => u.2.2)
      (fun u => worldO u.2.2 p u.2.1 :: R) (fun u => script.length - u.1) (0, w, HA) ⟨⟨⟨Nat.zero_le _, by omega⟩, I0, hnow, hlg⟩, .refl _⟩ fun ⟨j, x, HK⟩ ⟨⟨⟨hj0, hj20⟩, Ix, hxn, hxl⟩, hlK⟩ K hL => ?_
    simp only at hj0 hj20 Ix hxn hxl hlK
    dsimp only
    have hlHK : H.le HK := hl1.trans (hl2.trans (hlA.trans hlK))
    have hsl := h0.1.mono hlHK
    have hfin : ((∃ K, K ≤ 24 ∧ WInv 3 K B0 x) ∧ x.now = 0 ∧ x.log.length ≤ 24) ∧ HA.le HK := ⟨⟨⟨_, by omega, Ix⟩, hxn, by omega⟩, hlK⟩
    by_cases hj1 : j < script.length
    · have hj3 : (j : Int) < (script.length : Int) := by omega
      by_cases hj2 : j < 20
      · have hj4 : (j : Int) < 20 := by omega
        obtain ⟨m, hm⟩ : ∃ m, script[j] = m := ⟨_, rfl⟩
        have hskip : WInv 3 (4 + (j + 1)) B0 x := Ix.more (by omega) (by omega)
        refine walk ?_
        refine ops_ixp rfl rfl hsl hj1 fun ba oa ca hra hca => ?_
        rw [hm] at hca
        obtain ⟨sa, rfl, ka, _, ga⟩ := hca
        obtain ⟨xa, ya, rfl, _, _⟩ := ga.1.shape
        change HRow HK ba oa [I m.Kind, I m.A, .slice xa m.Works.length ya] at hra
        by_cases k1 : m.Kind = 1
        · skip
          refine walk ?_
          exact out_next hL (j + 1, x, HK) ⟨⟨⟨by simp only; omega, by simp only; omega⟩, hskip, hxn, by simp only; omega⟩, hlK⟩
        refine walk ?_
        refine ops_ixp rfl rfl hsl hj1 fun bb ob cb hrb hcb => ?_
        rw [hm] at hcb
        obtain ⟨sb, rfl, _, _, gb⟩ := hcb
        obtain ⟨xb, yb, rfl, _, _⟩ := gb.1.shape
        change HRow HK bb ob [I m.Kind, I m.A, .slice xb m.Works.length yb] at hrb
        by_cases k4 : m.Kind = 4
        · skip
          refine walk ?_
          exact out_next hL (j + 1, x, HK) ⟨⟨⟨by simp only; omega, by simp only; omega⟩, hskip, hxn, by simp only; omega⟩, hlK⟩
        refine walk ?_
        refine ops_ixp rfl rfl hsl hj1 fun bc oc cc hrc hcc => ?_
        rw [hm] at hcc
        obtain ⟨sc, rfl, _, _, gc⟩ := hcc
        obtain ⟨xc, yc, rfl, _, _⟩ := gc.1.shape
        change HRow HK bc oc [I m.Kind, I m.A, .slice xc m.Works.length yc] at hrc
        by_cases k6 : m.Kind = 6
        · skip
          refine walk ?_
          exact out_next hL (j + 1, x, HK) ⟨⟨⟨by simp only; omega, by simp only; omega⟩, hskip, hxn, by simp only; omega⟩, hlK⟩
        refine walk ?_
        refine ops_ixp rfl rfl hsl hj1 fun bd od cd hrd hcd => ?_
        rw [hm] at hcd
        obtain ⟨sd, rfl, kk, ka', gd⟩ := hcd
        obtain ⟨xd, yd, rfl, _, _⟩ := gd.1.shape
        refine walk ?_
        refine ops_ldNH rfl rfl hrd rfl ?_
        refine walk ?_
        refine ops_call rfl rfl (wplay_spec (W0 := W0) (H := HK) (p := p) (m := m) (hP.mono hlHK) Ix (by omega) gd kk ka') fun r3 H3 B hl3 ⟨x', e, hp, er, eB⟩ => ?_
        subst er eB
        have I9 := Ix.play0 (by omega) k1 hp
        have hlg' := hp.log
        have hnow' := hp.nowB k6
        refine walk ?_
        exact out_next hL (j + 1, x', H3) ⟨⟨⟨by simp only; omega, by simp only; omega⟩, I9, hnow'.trans hxn, by simp only; omega⟩, hlK.trans hl3⟩
      · obtain rfl : j = 20 := by omega
        clear hL
        refine walk ?_
        exact out_to hK8 (x, HK) hfin
    · obtain rfl : j = script.length := by omega
      clear hL
      refine walk ?_
      exact out_to hK8 (x, HK) hfin
  refine ex_loop (σ := Nat × Nat × PW × Heap) (fun u => ((u.1 ≤ works.length ∧ u.1 ≤ 4 ∧ u.2.1 ≤ u.1) ∧ (∃ B, WInv 3 u.1 B u.2.2.1 ∧ B.length ≤ u.1) ∧ u.2.2.1.now = 0 ∧ u.2.2.1.log.length ≤ u.1) ∧ H2.le u.2.2.2) (fun u => [(0, .slice bw works.length cw), (1, .slice b0 script.length c0), (5, ptrC p), (7, I u.2.1), (8, I u.1)]) (fun u => u.2.2.2)
    (fun u => worldO u.2.2.2 p u.2.2.1 :: R) (fun u => works.length - u.1) (0, 0, newW 3, H2) ⟨⟨⟨Nat.zero_le _, by omega, Nat.le_refl _⟩, ⟨[], winv0 (by decide), Nat.le_refl _⟩, rfl, Nat.le_refl _⟩, .refl _⟩ fun ⟨j, c, w, HK⟩ ⟨⟨⟨hj0, hj4, hcj⟩, ⟨B0, I0, hB0⟩, hnow, hlg⟩, hlK⟩ K hL => ?_
  simp only at hj0 hj4 hcj I0 hB0 hnow hlg hlK
  dsimp only
  have hlHK : H.le HK := hl1.trans (hl2.trans hlK)
  by_cases hjj : j < works.length ∧ j < 4
  · obtain ⟨hj1, hj2⟩ := hjj
    have hj3 : (j : Int) < (works.length : Int) := by omega
    have hj5 : (j : Int) < 4 := by omega
    refine walk ?_
    have hsl := hw.1.mono hlHK
    obtain ⟨l, hl⟩ : ∃ l, works[j] = l := ⟨_, rfl⟩
    refine ex_any 18 [] ?_
    refine stepY 0 ?_; refine stepY 1 ?_; refine stepY 2 ?_; refine stepY 3 ?_; refine stepY 4 ?_
    refine gny_ixp 5 rfl rfl rfl hsl hj1 fun ba oa ca hra hca => ?_
    rw [hl] at hca
    obtain ⟨va, rfl, ga⟩ := hca
    obtain ⟨xa, ya, rfl, _, _⟩ := ga.1.shape
    refine gny_ldHo 6 0 rfl rfl hra rfl rfl ?_
    refine stepY 7 ?_; refine stepY 8 ?_
    refine gny_ixp 9 rfl rfl rfl hsl hj1 fun bb ob cb hrb hcb => ?_
    rw [hl] at hcb
    obtain ⟨vb, rfl, gb⟩ := hcb
    obtain ⟨xb, yb, rfl, _, _⟩ := gb.1.shape
    refine gny_ldHo 10 0 rfl rfl hrb rfl rfl ?_
    refine stepY 11 ?_; refine stepY 12 ?_
    rw [show min (l.length : Int) 3 = ((l.take 3).length : Int) by rw [List.length_take]; omega]
    have hl3 : ((l.take 3).length : Int) ≤ (l.length : Int) := by rw [List.length_take]; omega
    refine stepY 13 ?_
    have gt := slb_takeR ga 3
    refine gny_call 14 rfl rfl rfl (ownP_spec (W0 := W0) (H := HK) gt) fun r16 H6 B hl6 eB => ?_
    subst eB
    refine ⟨.nil _, ?_⟩
    refine any_freeze r16 fun H7 hl7 hs => ?_
    obtain ⟨xd, yd, rfl, _, _⟩ := hs.1.shape
    refine any_L (L' := worldO H7 p w :: R) ?_ ?_
    · refine Sub.trans (B := worldO HK p w :: R) subA ?_
      exact world_up (hl6.trans hl7)
    refine stepY 15 ?_
    have hfa : fits ((j : Int).tmod 3) := by rw [Int.tmod_eq_emod_of_nonneg (by omega)]; unfold fits; omega
    refine gny_call 16 rfl rfl rfl (wplay_spec (W0 := W0) (H := H7) (p := p) (m := ⟨1, (j : Int).tmod 3, ownP (l.take 3)⟩) (hP.mono (hlHK.trans (hl6.trans hl7))) I0 (by omega) hs hf1 hfa) fun r18 H8 B hl8 ⟨w', e, hp, er, eB⟩ => ?_
    subst er eB
    refine ⟨.nil _, ?_⟩
    refine stepY 17 ?_
    refine any_rest rfl ?_
    obtain ⟨B', I1, hB'⟩ := I0.play (by omega) (ownP_ok gt.1) hp
    have hlg' := hp.log
    have hnow' := hp.nowB (k := 1) (by decide)
    have hlB : B'.length ≤ j + 1 := by
      rcases hB' with h | ⟨_, b, h, _⟩
      · rw [h]; omega
      · rw [h, List.length_cons]; omega
    have hlK8 : HK.le H8 := hl6.trans (hl7.trans hl8)
    clear hra hrb hsl hs ga gb gt hp I0
    by_cases he : e = 0
    · rw [decide_eq_true he]
      refine walk ?_
      exact out_next hL (j + 1, c + 1, w', H8) ⟨⟨⟨by simp only; omega, by simp only; omega, by simp only; omega⟩, ⟨B', I1, hlB⟩, hnow'.trans hnow, by simp only; omega⟩, hlK.trans hlK8⟩
    · rw [decide_eq_false he]
      refine walk ?_
      exact out_next hL (j + 1, c, w', H8) ⟨⟨⟨by simp only; omega, by simp only; omega, by simp only; omega⟩, ⟨B', I1, hlB⟩, hnow'.trans hnow, by simp only; omega⟩, hlK.trans hlK8⟩
  · clear hL
    by_cases hj1 : j < works.length
    · have hj3 : (j : Int) < (works.length : Int) := by omega
      obtain rfl : j = 4 := by omega
      refine walk ?_
      exact out_to hK9 (c, w, HK) ⟨⟨⟨B0, I0.more hj4 (by omega), by omega⟩, hnow, by simp only; omega, by simp only; omega⟩, hlK⟩
    · have hj3 : ¬ (j : Int) < (works.length : Int) := by omega
      refine walk ?_
      exact out_to hK9 (c, w, HK) ⟨⟨⟨B0, I0.more hj4 (by omega), by omega⟩, hnow, by simp only; omega, by simp only; omega⟩, hlK⟩
end Go.Proofs.YtlflbkpmfhhikaaGreatDoor
