/- The reference's participant: Put, Ask, Expire. The reference's participant: Ask, Expire. The reference's participant: Hear. -/
import Derived.Test.YtjgjcakeimkkdaaGreatDoorM9
import Derived.Test.YtjgjcakeimkkdaaGreatDoorM3
import Derived.Test.YtjgjcakeimkkdaaGreatDoorM11
import Derived.Test.YtjgjcakeimkkdaaGreatDoorM8
import Derived.Test.YtjgjcakeimkkdaaGreatDoorM7
import Derived.Test.YtjgjcakeimkkdaaGreatDoorKD
set_option linter.unusedVariables false
set_option linter.unusedSimpArgs false
namespace Go.Proofs.YtjgjcakeimkkdaaGreatDoor
open Go Go.Sx Go.Proofs
set_option maxHeartbeats 8000000 in
theorem rPut_spec {W0 : World} {H : Heap} {v : Value} {l : List RD} {d : RD} (h0 : SlB rConvoyref15Done 4 32 H v l) (hd : fits d.Txn.Node ∧ fits d.Txn.Life ∧ fits d.Txn.Count ∧ fits d.Until) (hn : l.length ≤ 100000) :
    Ct Tryz.prog 47 #[v, .agg d.cv.toArray] W0 H [] (fun r H' B => B = [ownS rConvoyref15Done 4 32 121 H r (putL d l)] ∧ H' = H) := by
  refine Ct.go (vs := [v, .agg d.cv.toArray]) fun R => ?_
  obtain ⟨b0, c0, rfl, hc0, hd0⟩ := h0.1.shape
  have hcap : (100000 : Nat) * 64 ≤ cap47 := by decide
  obtain ⟨⟨x1, x2, x3⟩, du⟩ := d
  dsimp only at hd
  refine walk ?_
  refine ops_box rfl rfl fun p3 _ => ?_
  refine walk ?_
  refine ex_loop (σ := Nat × Option Addr × Nat) (fun u => u.1 ≤ l.length ∧ ∀ q ∈ l.take u.1, ltK q.Txn.k (x1, x2, x3)) (fun u => [(0, .slice b0 l.length c0), (3, .pointer (some ⟨p3, 0, none⟩)), (5, .slice u.2.1 (l.take u.1).length u.2.2), (6, I u.1)]) (fun _ => H) (fun u => ownS rConvoyref15Done 4 32 121 H (.slice u.2.1 (l.take u.1).length u.2.2) (l.take u.1) :: row p3 121 [I x1, I x2, I x3, I du] :: R) (fun u => l.length - u.1) (0, none, 0) ⟨Nat.zero_le _, by simp⟩ (hs0 := ?_) fun ⟨k, dd, e⟩ ⟨hk0, hlt⟩ K hL => ?_
  rotate_left
  · simp only [List.take_zero, List.length_nil]
    refine Sub.trans ?_ ownS_nil
    (repeat (first | exact Sub.refl _ | exact Sub.nil _ | (apply sub_pick; (repeat (first | exact Has.here | apply Has.there)); skip) | apply Sub.drop))
  simp only at hk0 hlt
  dsimp only
  have hll : (l.take k).length = k := by simp; omega
  by_cases hk1 : k < l.length
  · have hkk : ((k : Int) < (l.length : Int)) := by omega
    have ht := List.take_succ_eq_append_getElem hk1
    refine walk ?_
    refine ex_any 14 [row p3 121 [I x1, I x2, I x3, I du]] ?_
    refine stepY 0 ?_; refine stepY 1 ?_; refine stepY 2 ?_; refine stepY 3 ?_; refine stepY 4 ?_; refine stepY 5 ?_; refine stepY 6 ?_
    refine gny_ixp 7 rfl rfl rfl h0.1 hk1 fun b o cc hr hc => ?_
    obtain ⟨rfl, hc⟩ := hc
    have hrt := rd_tx hr
    obtain ⟨ya, yb, yc, hy⟩ : ∃ ya yb yc, l[k].Txn = ⟨ya, yb, yc⟩ := ⟨_, _, _, rfl⟩
    rw [hy] at hrt
    refine stepY 8 ?_
    refine gny_ldNH 9 rfl rfl rfl hrt rfl ?_
    refine stepY 10 ?_; refine stepY 11 ?_
    refine gny_pcall 12 rfl rfl rfl (less_spec (x := (ya, yb, yc)) (y := (x1, x2, x3))) ?_
    refine stepY 13 ?_
    refine any_rest rfl ?_
    have hyk : l[k].Txn.k = (ya, yb, yc) := by rw [hy]; rfl
    refine walk ?_
    refine ex_if rfl (fun hq => ?_) (fun hq => ?_)
    · have hse : l.take k ++ [l[k]] = l.take (k + 1) := ht.symm
      have hsl2 : (l.take k).length + 1 = (l.take (k + 1)).length := by rw [List.length_take, List.length_take]; omega
      refine walk ?_
      refine ops_ixp rfl rfl h0.1 hk1 fun b' o' cc' hr' hc' => ?_
      obtain ⟨rfl, hc'⟩ := hc'
      have hyd : l[k] = ⟨⟨ya, yb, yc⟩, l[k].Until⟩ := by rw [← hy]
      generalize l[k].Until = yd at hyd
      rw [hyd] at hr' hc' hse
      change HRow H b' o' [I ya, I yb, I yc, I yd] at hr'
      refine walk ?_
      refine ops_ldNH rfl rfl hr' rfl ?_
      refine ops_app1 (y := ⟨⟨ya, yb, yc⟩, yd⟩) rfl rfl rfl ⟨rfl, hc'⟩ (by rw [hll]; simp only [cap47] at hcap ⊢; omega) fun d3 e3 => ?_
      rw [hsl2, hse]
      refine walk ?_
      refine out_next hL (k + 1, d3, e3) ⟨by simp only; omega, fun q hm => ?_⟩
      rw [ht, List.mem_append, List.mem_singleton] at hm
      rcases hm with hm | rfl
      · exact hlt q hm
      · rw [hyk]; exact hq
    · have hsp := putL_split (d := ⟨⟨x1, x2, x3⟩, du⟩) hk0 hlt (fun h => by rw [hyk]; exact hq)
      clear hL
      refine walk ?_
      refine ops_app1 (y := ⟨⟨x1, x2, x3⟩, du⟩) rfl rfl rfl ⟨rfl, hd⟩ (by rw [hll]; simp only [cap47] at hcap ⊢; omega) fun d3 e3 => ?_
      refine walk ?_
      refine ops_pure rfl rfl (op_slice (l := (k : Int)) (h := (l.length : Int)) rfl rfl rfl (by omega) (by omega) (by omega)) ?_
      have hsd := h0.1.slc (l := k) (h := l.length) (by omega) (Nat.le_refl _)
      rw [List.take_of_length_le (by rw [List.length_drop]; omega)] at hsd
      rw [Int.toNat_natCast, Int.toNat_natCast]
      have hl4 : (l.take k ++ [(⟨⟨x1, x2, x3⟩, du⟩ : RD)]).length = k + 1 := by rw [List.length_append, hll]; rfl
      have hl5 : (l.drop k).length = l.length - k := List.length_drop
      rw [show (l.take k).length + 1 = (l.take k ++ [(⟨⟨x1, x2, x3⟩, du⟩ : RD)]).length by rw [hl4, hll]]
      refine ops_appS rfl rfl hsd (by rw [hl4, hl5]; simp only [cap47] at hcap ⊢; omega) fun d4 e4 => ?_
      rw [← List.length_append]
      have hfin : l.take k ++ [(⟨⟨x1, x2, x3⟩, du⟩ : RD)] ++ l.drop k = putL ⟨⟨x1, x2, x3⟩, du⟩ l := by rw [hsp, List.append_assoc]; rfl
      rw [hfin]
      refine walk ?_
      refine finB [ownS rConvoyref15Done 4 32 121 H (.slice d4 (putL ⟨⟨x1, x2, x3⟩, du⟩ l).length e4) (putL ⟨⟨x1, x2, x3⟩, du⟩ l)] ?_
      exact ⟨rfl, rfl⟩
  · have hkk : ¬ ((k : Int) < (l.length : Int)) := by omega
    have hsp := putL_split (d := ⟨⟨x1, x2, x3⟩, du⟩) hk0 hlt (fun h => absurd h hk1)
    clear hL
    refine walk ?_
    refine ex_any 14 [row p3 121 [I x1, I x2, I x3, I du]] ?_
    refine stepY 0 ?_; refine stepY 1 ?_; refine stepY 2 ?_; refine stepY 3 ?_; refine stepY 4 ?_
    refine gny_skip 5 rfl rfl ?_; refine gny_skip 6 rfl rfl ?_; refine gny_skip 7 rfl rfl ?_; refine gny_skip 8 rfl rfl ?_; refine gny_skip 9 rfl rfl ?_; refine gny_skip 10 rfl rfl ?_; refine gny_skip 11 rfl rfl ?_; refine gny_skip 12 rfl rfl ?_
    refine stepY 13 ?_
    refine any_rest rfl ?_
    refine walk ?_
    refine walk ?_
    refine ops_app1 (y := ⟨⟨x1, x2, x3⟩, du⟩) rfl rfl rfl ⟨rfl, hd⟩ (by rw [hll]; simp only [cap47] at hcap ⊢; omega) fun d3 e3 => ?_
    refine walk ?_
    refine ops_pure rfl rfl (op_slice (l := (k : Int)) (h := (l.length : Int)) rfl rfl rfl (by omega) (by omega) (by omega)) ?_
    have hsd := h0.1.slc (l := k) (h := l.length) (by omega) (Nat.le_refl _)
    rw [List.take_of_length_le (by rw [List.length_drop]; omega)] at hsd
    rw [Int.toNat_natCast, Int.toNat_natCast]
    have hl4 : (l.take k ++ [(⟨⟨x1, x2, x3⟩, du⟩ : RD)]).length = k + 1 := by rw [List.length_append, hll]; rfl
    have hl5 : (l.drop k).length = l.length - k := List.length_drop
    rw [show (l.take k).length + 1 = (l.take k ++ [(⟨⟨x1, x2, x3⟩, du⟩ : RD)]).length by rw [hl4, hll]]
    refine ops_appS rfl rfl hsd (by rw [hl4, hl5]; simp only [cap47] at hcap ⊢; omega) fun d4 e4 => ?_
    rw [← List.length_append]
    have hfin : l.take k ++ [(⟨⟨x1, x2, x3⟩, du⟩ : RD)] ++ l.drop k = putL ⟨⟨x1, x2, x3⟩, du⟩ l := by rw [hsp, List.append_assoc]; rfl
    rw [hfin]
    refine walk ?_
    refine finB [ownS rConvoyref15Done 4 32 121 H (.slice d4 (putL ⟨⟨x1, x2, x3⟩, du⟩ l).length e4) (putL ⟨⟨x1, x2, x3⟩, du⟩ l)] ?_
    exact ⟨rfl, rfl⟩
end Go.Proofs.YtjgjcakeimkkdaaGreatDoor

set_option linter.unusedVariables false
set_option linter.unusedSimpArgs false
namespace Go.Proofs.YtjgjcakeimkkdaaGreatDoor
open Go Go.Sx Go.Proofs
def askR (m : Part) (q : Rec) : Message := { zMessage with From := m.Shard, To := q.Txn.Node, Kind := 5, Txn := q.Txn }
set_option maxHeartbeats 4000000 in
theorem rAsk_spec {W0 : World} {H : Heap} {c : List Value} {m : Part} (h0 : rPart H c m) (hn : m.T.Prep.length ≤ 100000) :
    Ct Tryz.prog 68 #[.agg c.toArray] W0 H [] (fun r H' B => B = [ownS rMessage 19 216 43 H' r (m.T.Prep.map (askR m))] ∧ H' = H) := by
  refine Ct.go (vs := [.agg c.toArray]) fun R => ?_
  obtain ⟨s1, s2, s3, rfl, hsh, hs1, hs2, hs3⟩ := h0
  obtain ⟨b1, c1, rfl, hc1, hd1⟩ := hs1.1.shape
  obtain ⟨b2, c2, rfl, hc2, hd2⟩ := hs2.1.shape
  obtain ⟨b3, c3, rfl, hc3, hd3⟩ := hs3.1.shape
  obtain ⟨sh, ⟨hl, l⟩, dn⟩ := m
  dsimp only at hsh hs1 hs2 hs3 hc1 hc2 hc3 hn
  have hcap : (100001 : Nat) * 216 ≤ cap47 := by decide
  dsimp only
  refine walk ?_
  refine ops_box rfl rfl fun p2 _ => ?_
  refine walk ?_
  refine ex_loop (σ := Nat × Option Addr × Nat) (fun u => u.1 ≤ l.length) (fun u => [(1, .pointer (some ⟨p2, 0, none⟩)), (3, .slice u.2.1 ((l.take u.1).map (askR ⟨sh, ⟨hl, l⟩, dn⟩)).length u.2.2), (4, I u.1)]) (fun _ => H) (fun u => ownS rMessage 19 216 43 H (.slice u.2.1 ((l.take u.1).map (askR ⟨sh, ⟨hl, l⟩, dn⟩)).length u.2.2) ((l.take u.1).map (askR ⟨sh, ⟨hl, l⟩, dn⟩)) :: row p2 72 [I sh, .slice b1 hl.length c1, .slice b2 l.length c2, .slice b3 dn.length c3] :: R) (fun u => l.length - u.1) (0, none, 0) (Nat.zero_le _) (hs0 := ?_) fun ⟨k, d, e⟩ hk0 K hL => ?_
  rotate_left
  · simp only [List.take_zero, List.map_nil, List.length_nil]
    refine Sub.trans ?_ ownS_nil
    (repeat (first | exact Sub.refl _ | exact Sub.nil _ | (apply sub_pick; (repeat (first | exact Has.here | apply Has.there)); skip) | apply Sub.drop))
  simp only at hk0
  dsimp only
  have hll : ((l.take k).map (askR ⟨sh, ⟨hl, l⟩, dn⟩)).length = k := by simp; omega
  refine walk ?_
  refine ex_if rfl (fun hk => ?_) (fun hk => ?_)
  · have hk1 : k < l.length := by omega
    have ht := List.take_succ_eq_append_getElem hk1
    have hse : ((l.take k).map (askR ⟨sh, ⟨hl, l⟩, dn⟩)) ++ [askR ⟨sh, ⟨hl, l⟩, dn⟩ l[k]] = (l.take (k + 1)).map (askR ⟨sh, ⟨hl, l⟩, dn⟩) := by rw [ht, List.map_append]; rfl
    have hsl2 : ((l.take k).map (askR ⟨sh, ⟨hl, l⟩, dn⟩)).length + 1 = ((l.take (k + 1)).map (askR ⟨sh, ⟨hl, l⟩, dn⟩)).length := by rw [← hse]; simp
    refine walk ?_
    refine ops_ixp rfl rfl hs2.1 hk1 fun b o c hr hc => ?_
    obtain ⟨s1, s2, s3, rfl, g1, g2, g3, g4, g5, g6, g7, g8⟩ := hc
    have hrt := rec_txn hr
    obtain ⟨ya, yb, yc, hy⟩ : ∃ ya yb yc, l[k].Txn = ⟨ya, yb, yc⟩ := ⟨_, _, _, rfl⟩
    have haq : askR ⟨sh, ⟨hl, l⟩, dn⟩ l[k] = { zMessage with From := sh, To := ya, Kind := 5, Txn := ⟨ya, yb, yc⟩ } := by unfold askR; rw [hy]
    rw [haq] at hse
    rw [hy] at hrt g2 g3 g4
    change HRow H b (o + 1) [I ya, I yb, I yc] at hrt
    refine walk ?_
    refine ops_ldNH rfl rfl hrt rfl ?_
    refine ops_alloc rfl fun p5 _ => ?_
    refine walk ?_
    refine ops_app1 (y := { zMessage with From := sh, To := ya, Kind := 5, Txn := ⟨ya, yb, yc⟩ }) rfl rfl rfl ⟨nilS, nilS, nilS, nilS, rfl, hsh, g2, by unfold fits; simp, g2, g3, g4, fits0, SlB.nil, SlB.nil, fits0, fits0, fits0, fits0, SlB.nil, fits0, fits0, fits0, SlB.nil⟩ (by rw [hll]; simp only [cap47] at hcap ⊢; omega) fun d3 e3 => ?_
    rw [hsl2, hse]
    refine walk ?_
    exact out_next hL (k + 1, d3, e3) (by simp only; omega)
  · clear hL
    obtain rfl : k = l.length := by omega
    refine walk ?_
    rw [List.take_length] at *
    refine finB [ownS rMessage 19 216 43 H (.slice d (l.map (askR ⟨sh, ⟨hl, l⟩, dn⟩)).length e) (l.map (askR ⟨sh, ⟨hl, l⟩, dn⟩))] ?_
    exact ⟨rfl, rfl⟩

noncomputable def expireR (m : Part) (now : Int) : Part := ⟨m.Shard, ⟨m.T.Held.filter fun h => !goneK now h.Key, m.T.Prep⟩, m.Done.filter fun d => decide (now ≤ d.Until)⟩
set_option maxHeartbeats 8000000 in
theorem rpExpire_spec {W0 : World} {H : Heap} {c : List Value} {m : Part} {now : Int} (h0 : rPart H c m) (hhl : m.T.Held.length ≤ 90000) (hn : m.Done.length ≤ 100000) :
    Ct Tryz.prog 69 #[.agg c.toArray, I now] W0 H [] (fun r H' B => ∃ cs v, r = .tuple #[.agg cs.toArray, v] ∧ rPart H' cs (expireR m now) ∧ SlB rStr 1 16 H' v ((m.T.Held.filter fun h => goneK now h.Key).map (·.Key)) ∧ B = []) := by
  refine Ct.go (vs := [.agg c.toArray, I now]) fun R => ?_
  obtain ⟨s1, s2, s3, rfl, hsh, hs1, hs2, hs3⟩ := h0
  obtain ⟨b1, c1, rfl, hc1, hd1⟩ := hs1.1.shape
  obtain ⟨b2, c2, rfl, hc2, hd2⟩ := hs2.1.shape
  obtain ⟨b3, c3, rfl, hc3, hd3⟩ := hs3.1.shape
  obtain ⟨sh, ⟨hl, l⟩, dn⟩ := m
  dsimp only at hsh hs1 hs2 hs3 hc1 hc2 hc3 hn hhl
  have hcap : (100001 : Nat) * 64 ≤ cap47 := by decide
  unfold expireR
  dsimp only
  refine walk ?_
  refine ops_box rfl rfl fun p2 _ => ?_
  refine ops_alloc rfl fun p4 _ => ?_
  refine walk ?_
  refine ops_call rfl rfl (rExpire_spec (m := ⟨hl, l⟩) (now := now) ⟨_, _, rfl, hs1, hs2⟩ hhl) fun r1 H1 B hlx ⟨cs, v, er, hcs, hv, eB⟩ => ?_
  subst er eB
  obtain ⟨q1, q2, rfl, hq1, hq2⟩ := hcs
  obtain ⟨qb1, qc1, rfl, _, _⟩ := hq1.1.shape
  obtain ⟨qb2, qc2, rfl, _, _⟩ := hq2.1.shape
  obtain ⟨vb, vc, rfl, _, _⟩ := hv.1.shape
  dsimp only at hq1 hq2 hv
  dsimp only
  have h3 := hs3.mono hlx
  generalize (hl.filter fun h => !goneK now h.Key) = hl' at hq1 ⊢
  generalize ((hl.filter fun h => goneK now h.Key).map (·.Key)) = gone at hv ⊢
  refine walk ?_
  refine ops_alloc rfl fun p6 _ => ?_
  refine walk ?_
  let pf : RD → Bool := fun d => decide (now ≤ d.Until)
  refine ex_loop (σ := Nat × Option Addr × Nat) (fun u => u.1 ≤ dn.length) (fun u => [(1, I now), (2, .pointer (some ⟨p2, 0, none⟩)), (4, .pointer (some ⟨p4, 0, none⟩)), (7, .slice vb gone.length vc), (8, .slice u.2.1 ((dn.take u.1).filter pf).length u.2.2), (9, I u.1)]) (fun _ => H1) (fun u => ownS rConvoyref15Done 4 32 121 H1 (.slice u.2.1 ((dn.take u.1).filter pf).length u.2.2) ((dn.take u.1).filter pf) :: row p4 72 [I 0, nilS, nilS, nilS] :: row p2 72 [I sh, .slice qb1 hl'.length qc1, .slice qb2 l.length qc2, .slice b3 dn.length c3] :: R) (fun u => dn.length - u.1) (0, none, 0) (Nat.zero_le _) (hs0 := ?_) fun ⟨k, d, e⟩ hk0 K hL => ?_
  rotate_left
  · simp only [List.take_zero, List.filter_nil, List.length_nil]
    refine Sub.trans ?_ ownS_nil
    (repeat (first | exact Sub.refl _ | exact Sub.nil _ | (apply sub_pick; (repeat (first | exact Has.here | apply Has.there)); skip) | apply Sub.drop))
  simp only at hk0
  dsimp only
  have hll : ((dn.take k).filter pf).length ≤ k := Nat.le_trans (List.length_filter_le _ _) (by simp; omega)
  refine walk ?_
  refine ex_if rfl (fun hk => ?_) (fun hk => ?_)
  · have hk1 : k < dn.length := by omega
    have ht := List.take_succ_eq_append_getElem hk1
    refine walk ?_
    refine ops_ixp rfl rfl h3.1 hk1 fun b o cc hr hc => ?_
    obtain ⟨rfl, hc⟩ := hc
    obtain ⟨⟨ya, yb, yc⟩, yu, hy⟩ : ∃ x u, dn[k] = ⟨x, u⟩ := ⟨_, _, rfl⟩
    rw [hy] at hr hc ht
    change HRow H1 b o [I ya, I yb, I yc, I yu] at hr
    refine walk ?_
    refine ex_if rfl (fun hq => ?_) (fun hq => ?_)
    · have hse : (dn.take k).filter pf ++ [⟨⟨ya, yb, yc⟩, yu⟩] = (dn.take (k + 1)).filter pf := by rw [ht, List.filter_append]; simp [pf, hq]
      have hsl2 : ((dn.take k).filter pf).length + 1 = ((dn.take (k + 1)).filter pf).length := by rw [← hse]; simp
      refine walk ?_
      refine ops_ixp rfl rfl h3.1 hk1 fun b' o' cc' hr' hc' => ?_
      obtain ⟨rfl, hc'⟩ := hc'
      rw [hy] at hr' hc'
      change HRow H1 b' o' [I ya, I yb, I yc, I yu] at hr'
      refine walk ?_
      refine ops_ldNH rfl rfl hr' rfl ?_
      refine ops_app1 (y := ⟨⟨ya, yb, yc⟩, yu⟩) rfl rfl rfl ⟨rfl, hc'⟩ (by simp only [cap47] at hcap ⊢; omega) fun d3 e3 => ?_
      rw [hsl2, hse]
      refine walk ?_
      exact out_next hL (k + 1, d3, e3) (by simp only; omega)
    · have hse : (dn.take k).filter pf = (dn.take (k + 1)).filter pf := by rw [ht, List.filter_append]; simp [pf, hq]
      rw [hse]
      refine walk ?_
      exact out_next hL (k + 1, d, e) (by simp only; omega)
  · clear hL
    obtain rfl : k = dn.length := by omega
    rw [List.take_length]
    refine walk ?_
    refine out_freeze (.slice d (dn.filter pf).length e) fun H3 hl3 hsl => ?_
    refine fin0 ?_
    exact ⟨[I sh, .slice qb1 hl'.length qc1, .slice qb2 l.length qc2, .slice d (dn.filter pf).length e], _, rfl, ⟨_, _, _, rfl, hsh, hq1.mono hl3, hq2.mono hl3, hsl⟩, hv.mono hl3, rfl⟩
end Go.Proofs.YtjgjcakeimkkdaaGreatDoor

set_option linter.unusedVariables false
set_option linter.unusedSimpArgs false
namespace Go.Proofs.YtjgjcakeimkkdaaGreatDoor
open Go Go.Sx Go.Proofs
/-- a message of the reference's: its cells -/
def vCells (m : Part) (g : Message) (k : Int) (y : Bool) : List Value := [I m.Shard, I g.From, I k, I g.Txn.Node, I g.Txn.Life, I g.Txn.Count, I 0, nilS, nilS, .bool y, I 0, I 0, I 0, I 0, nilS, I 0, I 0, I 0, nilS]
theorem v_reads {H : Heap} {m : Part} {g : Message} {k : Int} {y : Bool} (hs : fits m.Shard) (hf : fits g.From) (hk : fits k) (hx : fits g.Txn.Node ∧ fits g.Txn.Life ∧ fits g.Txn.Count) : rMessage H (vCells m g k y) { zMessage with From := m.Shard, To := g.From, Kind := k, Txn := g.Txn, Yes := y } :=
  ⟨nilS, nilS, nilS, nilS, rfl, hs, hf, hk, hx.1, hx.2.1, hx.2.2, fits0, SlB.nil, SlB.nil, fits0, fits0, fits0, fits0, SlB.nil, fits0, fits0, fits0, SlB.nil⟩
set_option maxHeartbeats 16000000 in
set_option maxRecDepth 20000 in
theorem rHear_spec {W0 : World} {H : Heap} {c cm : List Value} {m : Part} {g : Message} {n : Nat} (h0 : rPart H c m) (hm : rMessage H cm g) (hg : OkM g) (hn : n ≤ 500)
    (hhl : m.T.Held.length ≤ 40 * n) (hpl : m.T.Prep.length ≤ n) (h80 : ∀ q ∈ m.T.Prep, q.Work.ks.length ≤ 80) (hdl : m.Done.length ≤ n) :
    Ct Tryz.prog 20 #[.agg c.toArray, .agg cm.toArray] W0 H [] (fun r H' B => ∃ cs m' v1 v2 out rec, r = .tuple #[.agg cs.toArray, v1, v2] ∧ rPart H' cs m' ∧ SlB rMessage 19 216 H' v1 out ∧ SlB rRec 9 120 H' v2 rec ∧ RHear m g m' out rec ∧ B = []) := by
  refine Ct.go (vs := [.agg c.toArray, .agg cm.toArray]) fun R => ?_
  have h00 := h0
  obtain ⟨s1, s2, s3, rfl, hsh, hs1, hs2, hs3⟩ := h0
  obtain ⟨b1, c1, rfl, hc1, hd1⟩ := hs1.1.shape
  obtain ⟨b2, c2, rfl, hc2, hd2⟩ := hs2.1.shape
  obtain ⟨b3, c3, rfl, hc3, hd3⟩ := hs3.1.shape
  have hm0 := hm
  obtain ⟨t1, t2, t3, t4, rfl, f1, f2, f3, f4, f5, f6, f7, h1, h2, f8, f9, f10, f11, h3, f12, f13, f14, h4⟩ := hm
  obtain ⟨b5, c5, rfl, _, _⟩ := h1.1.shape
  obtain ⟨b6, c6, rfl, _, _⟩ := h2.1.shape
  obtain ⟨b7, c7, rfl, _, _⟩ := h3.1.shape
  obtain ⟨b8, c8, rfl, _, _⟩ := h4.1.shape
  refine walk ?_
  refine ops_box rfl rfl fun p3 _ => ?_
  refine ops_box rfl rfl fun p4 _ => ?_
  refine walk ?_
  refine ops_alloc rfl fun p5 _ => ?_
  by_cases hf : forR m g
  case neg =>
    by_cases e1 : g.To = m.Shard
    · have e2 : ¬ g.From = g.Txn.Node := fun e => hf ⟨e1, e⟩
      refine walk ?_
      refine fin0 ?_
      exact ⟨_, m, nilS, nilS, [], [], rfl, h00, SlB.nil, SlB.nil, .off hf, rfl⟩
    · refine walk ?_
      refine fin0 ?_
      exact ⟨_, m, nilS, nilS, [], [], rfl, h00, SlB.nil, SlB.nil, .off hf, rfl⟩
  obtain ⟨e1, e2⟩ := id hf
  have hxm : fits g.Txn.Node ∧ fits g.Txn.Life ∧ fits g.Txn.Count := ⟨f4, f5, f6⟩
  have hw0 : rWork H [I g.Work.Robot, .slice b5 g.Work.Take.length c5, .slice b6 g.Work.Drop.length c6] g.Work := ⟨_, _, rfl, f7, h1, h2⟩
  have hT0 : rTable H [.slice b1 m.T.Held.length c1, .slice b2 m.T.Prep.length c2] m.T := ⟨_, _, rfl, hs1, hs2⟩
  by_cases k1 : g.Kind = 1
  · refine walk ?_
    refine ops_call rfl rfl (rIs_spec (x := g.Txn) h00) fun r1 H1 B hl1 ⟨er, eB, eH⟩ => ?_
    subst er eB eH
    refine walk ?_
    refine ex_if rfl (fun hd => ?_) (fun hd => ?_)
    · refine walk ?_
      refine fin0 ?_
      exact ⟨_, m, nilS, nilS, [], [], rfl, h00, SlB.nil, SlB.nil, .done hf k1 hd, rfl⟩
    refine walk ?_
    refine ops_alloc rfl fun p8 _ => ?_
    refine walk ?_
    refine ops_call rfl rfl (rAt_spec (x := g.Txn) hT0) fun r2 H2 B hl2 ⟨hat, eB, eH⟩ => ?_
    subst eB eH
    rcases hat with ⟨rfl, hno⟩ | ⟨j0, hj0, rfl, hj⟩
    rotate_left
    · have hge : (0 : Int) ≤ (j0 : Int) := by omega
      refine walk ?_
      refine ex_any 4 [row p3 72 (m.cv (.slice b1 m.T.Held.length c1) (.slice b2 m.T.Prep.length c2) (.slice b3 m.Done.length c3)), row p8 43 (vCells m g 2 true)] ?_
      refine stepY 0 ?_; refine stepY 1 ?_
      refine any_ws 2 3 rfl rfl (op_bs1 rfl rfl rfl fun b9 => ⟨.refl _, (by (repeat (first | exact Sub.refl _ | exact Sub.nil _ | (apply sub_pick; (repeat (first | exact Has.here | apply Has.there)); skip) | apply Sub.drop))), ?_⟩) rfl rfl rfl (by simp) rfl ⟨(by (repeat (first | exact Sub.refl _ | exact Sub.nil _ | (apply sub_pick; (repeat (first | exact Has.here | apply Has.there)); skip) | apply Sub.drop))), ?_⟩
      · refine any_sta 3 rfl rfl rfl rfl (by simp) rfl ⟨(by (repeat (first | exact Sub.refl _ | exact Sub.nil _ | (apply sub_pick; (repeat (first | exact Has.here | apply Has.there)); skip) | apply Sub.drop))), ?_⟩
        refine any_rest rfl ?_
        refine walk ?_
        refine out_L (L' := ownS rMessage 19 216 43 H2 (.slice (some ⟨b9, 0, none⟩) 1 1) [voteR m g true] :: row p5 72 (m.cv (.slice b1 m.T.Held.length c1) (.slice b2 m.T.Prep.length c2) (.slice b3 m.Done.length c3)) :: R) (Sub.trans (B := row b9 43 (vCells m g 2 true) :: row p5 72 (m.cv (.slice b1 m.T.Held.length c1) (.slice b2 m.T.Prep.length c2) (.slice b3 m.Done.length c3)) :: R) (by (repeat (first | exact Sub.refl _ | exact Sub.nil _ | (apply sub_pick; (repeat (first | exact Has.here | apply Has.there)); skip) | apply Sub.drop))) (own1 (x := voteR m g true) (v_reads hsh f1 fk2 hxm) c216)) ?_
        refine out_freeze (.slice (some ⟨b9, 0, none⟩) 1 1) fun H9 hl9 hsl => ?_
        refine fin0 ?_
        exact ⟨m.cv (.slice b1 m.T.Held.length c1) (.slice b2 m.T.Prep.length c2) (.slice b3 m.Done.length c3), m, .slice (some ⟨b9, 0, none⟩) 1 1, nilS, [voteR m g true], [], rfl, RdOk.mono (R := rPart) hl9 h00, hsl, SlB.nil, .again hf k1 hd ⟨_, List.getElem_mem hj0, hj⟩, rfl⟩
      · refine any_w 2 rfl (op_bs1 rfl rfl rfl fun b9 => ⟨.refl _, (by (repeat (first | exact Sub.refl _ | exact Sub.nil _ | (apply sub_pick; (repeat (first | exact Has.here | apply Has.there)); skip) | apply Sub.drop))), ?_⟩)
        refine any_rest rfl ?_
        refine walk ?_
        refine out_L (L' := ownS rMessage 19 216 43 H2 (.slice (some ⟨b9, 0, none⟩) 1 1) [voteR m g true] :: row p5 72 (m.cv (.slice b1 m.T.Held.length c1) (.slice b2 m.T.Prep.length c2) (.slice b3 m.Done.length c3)) :: R) (Sub.trans (B := row b9 43 (vCells m g 2 true) :: row p5 72 (m.cv (.slice b1 m.T.Held.length c1) (.slice b2 m.T.Prep.length c2) (.slice b3 m.Done.length c3)) :: R) (by (repeat (first | exact Sub.refl _ | exact Sub.nil _ | (apply sub_pick; (repeat (first | exact Has.here | apply Has.there)); skip) | apply Sub.drop))) (own1 (x := voteR m g true) (v_reads hsh f1 fk2 hxm) c216)) ?_
        refine out_freeze (.slice (some ⟨b9, 0, none⟩) 1 1) fun H9 hl9 hsl => ?_
        refine fin0 ?_
        exact ⟨m.cv (.slice b1 m.T.Held.length c1) (.slice b2 m.T.Prep.length c2) (.slice b3 m.Done.length c3), m, .slice (some ⟨b9, 0, none⟩) 1 1, nilS, [voteR m g true], [], rfl, RdOk.mono (R := rPart) hl9 h00, hsl, SlB.nil, .again hf k1 hd ⟨_, List.getElem_mem hj0, hj⟩, rfl⟩
    have hps := fun q hq => hno q hq
    have hnp : ¬ prepR m g.Txn := fun ⟨q, hq, hx⟩ => hno q hq hx
    refine walk ?_
    refine ops_call rfl rfl (rPrepare_spec (x := g.Txn) (w := g.Work) hT0 hxm hw0 hg.w.ks_len h80 (by omega)) fun r3 H3 B hl3 ⟨cs3, t', e, er, hcs3, hrp, eB⟩ => ?_
    subst er eB
    obtain ⟨q1, q2, rfl, hq1, hq2⟩ := hcs3
    obtain ⟨qb1, qc1, rfl, _, _⟩ := hq1.1.shape
    obtain ⟨qb2, qc2, rfl, _, _⟩ := hq2.1.shape
    refine walk ?_
    refine ex_if rfl (fun he => ?_) (fun he => ?_)
    · refine walk ?_
      refine ex_any 4 [row p3 72 [I m.Shard, .slice qb1 t'.Held.length qc1, .slice qb2 t'.Prep.length qc2, .slice b3 m.Done.length c3], row p8 43 (vCells m g 2 false)] ?_
      refine stepY 0 ?_; refine stepY 1 ?_
      refine any_ws 2 3 rfl rfl (op_bs1 rfl rfl rfl fun b9 => ⟨.refl _, (by (repeat (first | exact Sub.refl _ | exact Sub.nil _ | (apply sub_pick; (repeat (first | exact Has.here | apply Has.there)); skip) | apply Sub.drop))), ?_⟩) rfl rfl rfl (by simp) rfl ⟨(by (repeat (first | exact Sub.refl _ | exact Sub.nil _ | (apply sub_pick; (repeat (first | exact Has.here | apply Has.there)); skip) | apply Sub.drop))), ?_⟩
      · refine any_sta 3 rfl rfl rfl rfl (by simp) rfl ⟨(by (repeat (first | exact Sub.refl _ | exact Sub.nil _ | (apply sub_pick; (repeat (first | exact Has.here | apply Has.there)); skip) | apply Sub.drop))), ?_⟩
        refine any_rest rfl ?_
        refine walk ?_
        refine out_L (L' := ownS rMessage 19 216 43 H3 (.slice (some ⟨b9, 0, none⟩) 1 1) [voteR m g false] :: row p5 72 [I m.Shard, .slice qb1 t'.Held.length qc1, .slice qb2 t'.Prep.length qc2, .slice b3 m.Done.length c3] :: R) (Sub.trans (B := row b9 43 (vCells m g 2 false) :: row p5 72 [I m.Shard, .slice qb1 t'.Held.length qc1, .slice qb2 t'.Prep.length qc2, .slice b3 m.Done.length c3] :: R) (by (repeat (first | exact Sub.refl _ | exact Sub.nil _ | (apply sub_pick; (repeat (first | exact Has.here | apply Has.there)); skip) | apply Sub.drop))) (own1 (x := voteR m g false) (v_reads hsh f1 fk2 hxm) c216)) ?_
        refine out_freeze (.slice (some ⟨b9, 0, none⟩) 1 1) fun H9 hl9 hsl => ?_
        refine fin0 ?_
        exact ⟨[I m.Shard, .slice qb1 t'.Held.length qc1, .slice qb2 t'.Prep.length qc2, .slice b3 m.Done.length c3], ⟨m.Shard, t', m.Done⟩, .slice (some ⟨b9, 0, none⟩) 1 1, nilS, [voteR m g false], [], rfl, ⟨_, _, _, rfl, hsh, hq1.mono hl9, hq2.mono hl9, hs3.mono (hl3.trans hl9)⟩, hsl, SlB.nil, .no hf k1 hd hnp t' e hrp he, rfl⟩
      · refine any_w 2 rfl (op_bs1 rfl rfl rfl fun b9 => ⟨.refl _, (by (repeat (first | exact Sub.refl _ | exact Sub.nil _ | (apply sub_pick; (repeat (first | exact Has.here | apply Has.there)); skip) | apply Sub.drop))), ?_⟩)
        refine any_rest rfl ?_
        refine walk ?_
        refine out_L (L' := ownS rMessage 19 216 43 H3 (.slice (some ⟨b9, 0, none⟩) 1 1) [voteR m g false] :: row p5 72 [I m.Shard, .slice qb1 t'.Held.length qc1, .slice qb2 t'.Prep.length qc2, .slice b3 m.Done.length c3] :: R) (Sub.trans (B := row b9 43 (vCells m g 2 false) :: row p5 72 [I m.Shard, .slice qb1 t'.Held.length qc1, .slice qb2 t'.Prep.length qc2, .slice b3 m.Done.length c3] :: R) (by (repeat (first | exact Sub.refl _ | exact Sub.nil _ | (apply sub_pick; (repeat (first | exact Has.here | apply Has.there)); skip) | apply Sub.drop))) (own1 (x := voteR m g false) (v_reads hsh f1 fk2 hxm) c216)) ?_
        refine out_freeze (.slice (some ⟨b9, 0, none⟩) 1 1) fun H9 hl9 hsl => ?_
        refine fin0 ?_
        exact ⟨[I m.Shard, .slice qb1 t'.Held.length qc1, .slice qb2 t'.Prep.length qc2, .slice b3 m.Done.length c3], ⟨m.Shard, t', m.Done⟩, .slice (some ⟨b9, 0, none⟩) 1 1, nilS, [voteR m g false], [], rfl, ⟨_, _, _, rfl, hsh, hq1.mono hl9, hq2.mono hl9, hs3.mono (hl3.trans hl9)⟩, hsl, SlB.nil, .no hf k1 hd hnp t' e hrp he, rfl⟩
    · obtain rfl : e = 0 := by omega
      refine walk ?_
      refine ex_any 11 [row p3 72 [I m.Shard, .slice qb1 t'.Held.length qc1, .slice qb2 t'.Prep.length qc2, .slice b3 m.Done.length c3], row p8 43 (vCells m g 2 true), row p4 43 (g.cv (.slice b5 g.Work.Take.length c5) (.slice b6 g.Work.Drop.length c6) (.slice b7 g.Call.Route.Cells.length c7) (.slice b8 g.Reply.Route.Cells.length c8))] ?_
      refine stepY 0 ?_; refine stepY 1 ?_; refine stepY 3 ?_; refine stepY 4 ?_; refine stepY 5 ?_; refine stepY 6 ?_; refine stepY 7 ?_
      refine any_3 2 8 9 ?_ ?_ ?_
      · refine at_w 2 rfl (op_bs1 rfl rfl rfl fun b9 => ⟨.refl _, (by (repeat (first | exact Sub.refl _ | exact Sub.nil _ | (apply sub_pick; (repeat (first | exact Has.here | apply Has.there)); skip) | apply Sub.drop))), ?_⟩)
        refine any_2 8 9 ?_ ?_
        · refine at_w 8 rfl (op_bs1 rfl rfl rfl fun b10 => ⟨.refl _, (by (repeat (first | exact Sub.refl _ | exact Sub.nil _ | (apply sub_pick; (repeat (first | exact Has.here | apply Has.there)); skip) | apply Sub.drop))), ?_⟩)
          refine any_sta 9 rfl rfl rfl rfl (by simp) rfl ⟨(by (repeat (first | exact Sub.refl _ | exact Sub.nil _ | (apply sub_pick; (repeat (first | exact Has.here | apply Has.there)); skip) | apply Sub.drop))), ?_⟩
          refine stepY 10 ?_
          refine any_rest rfl ?_
          refine walk ?_
          refine out_L (L' := ownS rMessage 19 216 43 H3 (.slice (some ⟨b9, 0, none⟩) 1 1) [voteR m g true] :: ownS rRec 9 120 53 H3 (.slice (some ⟨b10, 0, none⟩) 1 1) [recP g] :: row p5 72 [I m.Shard, .slice qb1 t'.Held.length qc1, .slice qb2 t'.Prep.length qc2, .slice b3 m.Done.length c3] :: R) (Sub.trans (B := row b9 43 (vCells m g 2 true) :: row b10 53 [I 2, I g.Txn.Node, I g.Txn.Life, I g.Txn.Count, I g.Work.Robot, .slice b5 g.Work.Take.length c5, .slice b6 g.Work.Drop.length c6, .bool false, nilS] :: row p5 72 [I m.Shard, .slice qb1 t'.Held.length qc1, .slice qb2 t'.Prep.length qc2, .slice b3 m.Done.length c3] :: R) (by (repeat (first | exact Sub.refl _ | exact Sub.nil _ | (apply sub_pick; (repeat (first | exact Has.here | apply Has.there)); skip) | apply Sub.drop))) ((own1 (x := voteR m g true) (v_reads hsh f1 fk2 hxm) c216).trans (Sub.cons (own1 (x := recP g) ⟨_, _, _, rfl, fk2, hxm.1, hxm.2.1, hxm.2.2, f7, h1.mono hl3, h2.mono hl3, SlB.nil⟩ (by decide))))) ?_
          refine out_freeze (.slice (some ⟨b9, 0, none⟩) 1 1) fun H9 hl9 hsl => ?_
          refine out_freeze (.slice (some ⟨b10, 0, none⟩) 1 1) fun H10 hl10 hsr => ?_
          refine fin0 ?_
          exact ⟨[I m.Shard, .slice qb1 t'.Held.length qc1, .slice qb2 t'.Prep.length qc2, .slice b3 m.Done.length c3], ⟨m.Shard, t', m.Done⟩, .slice (some ⟨b9, 0, none⟩) 1 1, .slice (some ⟨b10, 0, none⟩) 1 1, [voteR m g true], [recP g], rfl, ⟨_, _, _, rfl, hsh, hq1.mono (hl9.trans hl10), hq2.mono (hl9.trans hl10), hs3.mono (hl3.trans (hl9.trans hl10))⟩, hsl.mono hl10, hsr, .yes hf k1 hd hnp t' hrp, rfl⟩
        · refine at_s 9 rfl rfl rfl rfl (by simp) rfl ⟨(by (repeat (first | exact Sub.refl _ | exact Sub.nil _ | (apply sub_pick; (repeat (first | exact Has.here | apply Has.there)); skip) | apply Sub.drop))), ?_⟩
          refine stepY 10 ?_
          refine any_w 8 rfl (op_bs1 rfl rfl rfl fun b10 => ⟨.refl _, (by (repeat (first | exact Sub.refl _ | exact Sub.nil _ | (apply sub_pick; (repeat (first | exact Has.here | apply Has.there)); skip) | apply Sub.drop))), ?_⟩)
          refine any_rest rfl ?_
          refine walk ?_
          refine out_L (L' := ownS rMessage 19 216 43 H3 (.slice (some ⟨b9, 0, none⟩) 1 1) [voteR m g true] :: ownS rRec 9 120 53 H3 (.slice (some ⟨b10, 0, none⟩) 1 1) [recP g] :: row p5 72 [I m.Shard, .slice qb1 t'.Held.length qc1, .slice qb2 t'.Prep.length qc2, .slice b3 m.Done.length c3] :: R) (Sub.trans (B := row b9 43 (vCells m g 2 true) :: row b10 53 [I 2, I g.Txn.Node, I g.Txn.Life, I g.Txn.Count, I g.Work.Robot, .slice b5 g.Work.Take.length c5, .slice b6 g.Work.Drop.length c6, .bool false, nilS] :: row p5 72 [I m.Shard, .slice qb1 t'.Held.length qc1, .slice qb2 t'.Prep.length qc2, .slice b3 m.Done.length c3] :: R) (by (repeat (first | exact Sub.refl _ | exact Sub.nil _ | (apply sub_pick; (repeat (first | exact Has.here | apply Has.there)); skip) | apply Sub.drop))) ((own1 (x := voteR m g true) (v_reads hsh f1 fk2 hxm) c216).trans (Sub.cons (own1 (x := recP g) ⟨_, _, _, rfl, fk2, hxm.1, hxm.2.1, hxm.2.2, f7, h1.mono hl3, h2.mono hl3, SlB.nil⟩ (by decide))))) ?_
          refine out_freeze (.slice (some ⟨b9, 0, none⟩) 1 1) fun H9 hl9 hsl => ?_
          refine out_freeze (.slice (some ⟨b10, 0, none⟩) 1 1) fun H10 hl10 hsr => ?_
          refine fin0 ?_
          exact ⟨[I m.Shard, .slice qb1 t'.Held.length qc1, .slice qb2 t'.Prep.length qc2, .slice b3 m.Done.length c3], ⟨m.Shard, t', m.Done⟩, .slice (some ⟨b9, 0, none⟩) 1 1, .slice (some ⟨b10, 0, none⟩) 1 1, [voteR m g true], [recP g], rfl, ⟨_, _, _, rfl, hsh, hq1.mono (hl9.trans hl10), hq2.mono (hl9.trans hl10), hs3.mono (hl3.trans (hl9.trans hl10))⟩, hsl.mono hl10, hsr, .yes hf k1 hd hnp t' hrp, rfl⟩
      · refine at_w 8 rfl (op_bs1 rfl rfl rfl fun b10 => ⟨.refl _, (by (repeat (first | exact Sub.refl _ | exact Sub.nil _ | (apply sub_pick; (repeat (first | exact Has.here | apply Has.there)); skip) | apply Sub.drop))), ?_⟩)
        refine any_2 2 9 ?_ ?_
        · refine at_w 2 rfl (op_bs1 rfl rfl rfl fun b9 => ⟨.refl _, (by (repeat (first | exact Sub.refl _ | exact Sub.nil _ | (apply sub_pick; (repeat (first | exact Has.here | apply Has.there)); skip) | apply Sub.drop))), ?_⟩)
          refine any_sta 9 rfl rfl rfl rfl (by simp) rfl ⟨(by (repeat (first | exact Sub.refl _ | exact Sub.nil _ | (apply sub_pick; (repeat (first | exact Has.here | apply Has.there)); skip) | apply Sub.drop))), ?_⟩
          refine stepY 10 ?_
          refine any_rest rfl ?_
          refine walk ?_
          refine out_L (L' := ownS rMessage 19 216 43 H3 (.slice (some ⟨b9, 0, none⟩) 1 1) [voteR m g true] :: ownS rRec 9 120 53 H3 (.slice (some ⟨b10, 0, none⟩) 1 1) [recP g] :: row p5 72 [I m.Shard, .slice qb1 t'.Held.length qc1, .slice qb2 t'.Prep.length qc2, .slice b3 m.Done.length c3] :: R) (Sub.trans (B := row b9 43 (vCells m g 2 true) :: row b10 53 [I 2, I g.Txn.Node, I g.Txn.Life, I g.Txn.Count, I g.Work.Robot, .slice b5 g.Work.Take.length c5, .slice b6 g.Work.Drop.length c6, .bool false, nilS] :: row p5 72 [I m.Shard, .slice qb1 t'.Held.length qc1, .slice qb2 t'.Prep.length qc2, .slice b3 m.Done.length c3] :: R) (by (repeat (first | exact Sub.refl _ | exact Sub.nil _ | (apply sub_pick; (repeat (first | exact Has.here | apply Has.there)); skip) | apply Sub.drop))) ((own1 (x := voteR m g true) (v_reads hsh f1 fk2 hxm) c216).trans (Sub.cons (own1 (x := recP g) ⟨_, _, _, rfl, fk2, hxm.1, hxm.2.1, hxm.2.2, f7, h1.mono hl3, h2.mono hl3, SlB.nil⟩ (by decide))))) ?_
          refine out_freeze (.slice (some ⟨b9, 0, none⟩) 1 1) fun H9 hl9 hsl => ?_
          refine out_freeze (.slice (some ⟨b10, 0, none⟩) 1 1) fun H10 hl10 hsr => ?_
          refine fin0 ?_
          exact ⟨[I m.Shard, .slice qb1 t'.Held.length qc1, .slice qb2 t'.Prep.length qc2, .slice b3 m.Done.length c3], ⟨m.Shard, t', m.Done⟩, .slice (some ⟨b9, 0, none⟩) 1 1, .slice (some ⟨b10, 0, none⟩) 1 1, [voteR m g true], [recP g], rfl, ⟨_, _, _, rfl, hsh, hq1.mono (hl9.trans hl10), hq2.mono (hl9.trans hl10), hs3.mono (hl3.trans (hl9.trans hl10))⟩, hsl.mono hl10, hsr, .yes hf k1 hd hnp t' hrp, rfl⟩
        · refine at_s 9 rfl rfl rfl rfl (by simp) rfl ⟨(by (repeat (first | exact Sub.refl _ | exact Sub.nil _ | (apply sub_pick; (repeat (first | exact Has.here | apply Has.there)); skip) | apply Sub.drop))), ?_⟩
          refine any_w 2 rfl (op_bs1 rfl rfl rfl fun b9 => ⟨.refl _, (by (repeat (first | exact Sub.refl _ | exact Sub.nil _ | (apply sub_pick; (repeat (first | exact Has.here | apply Has.there)); skip) | apply Sub.drop))), ?_⟩)
          refine stepY 10 ?_
          refine any_rest rfl ?_
          refine walk ?_
          refine out_L (L' := ownS rMessage 19 216 43 H3 (.slice (some ⟨b9, 0, none⟩) 1 1) [voteR m g true] :: ownS rRec 9 120 53 H3 (.slice (some ⟨b10, 0, none⟩) 1 1) [recP g] :: row p5 72 [I m.Shard, .slice qb1 t'.Held.length qc1, .slice qb2 t'.Prep.length qc2, .slice b3 m.Done.length c3] :: R) (Sub.trans (B := row b9 43 (vCells m g 2 true) :: row b10 53 [I 2, I g.Txn.Node, I g.Txn.Life, I g.Txn.Count, I g.Work.Robot, .slice b5 g.Work.Take.length c5, .slice b6 g.Work.Drop.length c6, .bool false, nilS] :: row p5 72 [I m.Shard, .slice qb1 t'.Held.length qc1, .slice qb2 t'.Prep.length qc2, .slice b3 m.Done.length c3] :: R) (by (repeat (first | exact Sub.refl _ | exact Sub.nil _ | (apply sub_pick; (repeat (first | exact Has.here | apply Has.there)); skip) | apply Sub.drop))) ((own1 (x := voteR m g true) (v_reads hsh f1 fk2 hxm) c216).trans (Sub.cons (own1 (x := recP g) ⟨_, _, _, rfl, fk2, hxm.1, hxm.2.1, hxm.2.2, f7, h1.mono hl3, h2.mono hl3, SlB.nil⟩ (by decide))))) ?_
          refine out_freeze (.slice (some ⟨b9, 0, none⟩) 1 1) fun H9 hl9 hsl => ?_
          refine out_freeze (.slice (some ⟨b10, 0, none⟩) 1 1) fun H10 hl10 hsr => ?_
          refine fin0 ?_
          exact ⟨[I m.Shard, .slice qb1 t'.Held.length qc1, .slice qb2 t'.Prep.length qc2, .slice b3 m.Done.length c3], ⟨m.Shard, t', m.Done⟩, .slice (some ⟨b9, 0, none⟩) 1 1, .slice (some ⟨b10, 0, none⟩) 1 1, [voteR m g true], [recP g], rfl, ⟨_, _, _, rfl, hsh, hq1.mono (hl9.trans hl10), hq2.mono (hl9.trans hl10), hs3.mono (hl3.trans (hl9.trans hl10))⟩, hsl.mono hl10, hsr, .yes hf k1 hd hnp t' hrp, rfl⟩
      · refine at_s 9 rfl rfl rfl rfl (by simp) rfl ⟨(by (repeat (first | exact Sub.refl _ | exact Sub.nil _ | (apply sub_pick; (repeat (first | exact Has.here | apply Has.there)); skip) | apply Sub.drop))), ?_⟩
        refine any_2 2 8 ?_ ?_
        · refine at_w 2 rfl (op_bs1 rfl rfl rfl fun b9 => ⟨.refl _, (by (repeat (first | exact Sub.refl _ | exact Sub.nil _ | (apply sub_pick; (repeat (first | exact Has.here | apply Has.there)); skip) | apply Sub.drop))), ?_⟩)
          refine stepY 10 ?_
          refine any_w 8 rfl (op_bs1 rfl rfl rfl fun b10 => ⟨.refl _, (by (repeat (first | exact Sub.refl _ | exact Sub.nil _ | (apply sub_pick; (repeat (first | exact Has.here | apply Has.there)); skip) | apply Sub.drop))), ?_⟩)
          refine any_rest rfl ?_
          refine walk ?_
          refine out_L (L' := ownS rMessage 19 216 43 H3 (.slice (some ⟨b9, 0, none⟩) 1 1) [voteR m g true] :: ownS rRec 9 120 53 H3 (.slice (some ⟨b10, 0, none⟩) 1 1) [recP g] :: row p5 72 [I m.Shard, .slice qb1 t'.Held.length qc1, .slice qb2 t'.Prep.length qc2, .slice b3 m.Done.length c3] :: R) (Sub.trans (B := row b9 43 (vCells m g 2 true) :: row b10 53 [I 2, I g.Txn.Node, I g.Txn.Life, I g.Txn.Count, I g.Work.Robot, .slice b5 g.Work.Take.length c5, .slice b6 g.Work.Drop.length c6, .bool false, nilS] :: row p5 72 [I m.Shard, .slice qb1 t'.Held.length qc1, .slice qb2 t'.Prep.length qc2, .slice b3 m.Done.length c3] :: R) (by (repeat (first | exact Sub.refl _ | exact Sub.nil _ | (apply sub_pick; (repeat (first | exact Has.here | apply Has.there)); skip) | apply Sub.drop))) ((own1 (x := voteR m g true) (v_reads hsh f1 fk2 hxm) c216).trans (Sub.cons (own1 (x := recP g) ⟨_, _, _, rfl, fk2, hxm.1, hxm.2.1, hxm.2.2, f7, h1.mono hl3, h2.mono hl3, SlB.nil⟩ (by decide))))) ?_
          refine out_freeze (.slice (some ⟨b9, 0, none⟩) 1 1) fun H9 hl9 hsl => ?_
          refine out_freeze (.slice (some ⟨b10, 0, none⟩) 1 1) fun H10 hl10 hsr => ?_
          refine fin0 ?_
          exact ⟨[I m.Shard, .slice qb1 t'.Held.length qc1, .slice qb2 t'.Prep.length qc2, .slice b3 m.Done.length c3], ⟨m.Shard, t', m.Done⟩, .slice (some ⟨b9, 0, none⟩) 1 1, .slice (some ⟨b10, 0, none⟩) 1 1, [voteR m g true], [recP g], rfl, ⟨_, _, _, rfl, hsh, hq1.mono (hl9.trans hl10), hq2.mono (hl9.trans hl10), hs3.mono (hl3.trans (hl9.trans hl10))⟩, hsl.mono hl10, hsr, .yes hf k1 hd hnp t' hrp, rfl⟩
        · refine at_w 8 rfl (op_bs1 rfl rfl rfl fun b10 => ⟨.refl _, (by (repeat (first | exact Sub.refl _ | exact Sub.nil _ | (apply sub_pick; (repeat (first | exact Has.here | apply Has.there)); skip) | apply Sub.drop))), ?_⟩)
          refine any_w 2 rfl (op_bs1 rfl rfl rfl fun b9 => ⟨.refl _, (by (repeat (first | exact Sub.refl _ | exact Sub.nil _ | (apply sub_pick; (repeat (first | exact Has.here | apply Has.there)); skip) | apply Sub.drop))), ?_⟩)
          refine stepY 10 ?_
          refine any_rest rfl ?_
          refine walk ?_
          refine out_L (L' := ownS rMessage 19 216 43 H3 (.slice (some ⟨b9, 0, none⟩) 1 1) [voteR m g true] :: ownS rRec 9 120 53 H3 (.slice (some ⟨b10, 0, none⟩) 1 1) [recP g] :: row p5 72 [I m.Shard, .slice qb1 t'.Held.length qc1, .slice qb2 t'.Prep.length qc2, .slice b3 m.Done.length c3] :: R) (Sub.trans (B := row b9 43 (vCells m g 2 true) :: row b10 53 [I 2, I g.Txn.Node, I g.Txn.Life, I g.Txn.Count, I g.Work.Robot, .slice b5 g.Work.Take.length c5, .slice b6 g.Work.Drop.length c6, .bool false, nilS] :: row p5 72 [I m.Shard, .slice qb1 t'.Held.length qc1, .slice qb2 t'.Prep.length qc2, .slice b3 m.Done.length c3] :: R) (by (repeat (first | exact Sub.refl _ | exact Sub.nil _ | (apply sub_pick; (repeat (first | exact Has.here | apply Has.there)); skip) | apply Sub.drop))) ((own1 (x := voteR m g true) (v_reads hsh f1 fk2 hxm) c216).trans (Sub.cons (own1 (x := recP g) ⟨_, _, _, rfl, fk2, hxm.1, hxm.2.1, hxm.2.2, f7, h1.mono hl3, h2.mono hl3, SlB.nil⟩ (by decide))))) ?_
          refine out_freeze (.slice (some ⟨b9, 0, none⟩) 1 1) fun H9 hl9 hsl => ?_
          refine out_freeze (.slice (some ⟨b10, 0, none⟩) 1 1) fun H10 hl10 hsr => ?_
          refine fin0 ?_
          exact ⟨[I m.Shard, .slice qb1 t'.Held.length qc1, .slice qb2 t'.Prep.length qc2, .slice b3 m.Done.length c3], ⟨m.Shard, t', m.Done⟩, .slice (some ⟨b9, 0, none⟩) 1 1, .slice (some ⟨b10, 0, none⟩) 1 1, [voteR m g true], [recP g], rfl, ⟨_, _, _, rfl, hsh, hq1.mono (hl9.trans hl10), hq2.mono (hl9.trans hl10), hs3.mono (hl3.trans (hl9.trans hl10))⟩, hsl.mono hl10, hsr, .yes hf k1 hd hnp t' hrp, rfl⟩
  by_cases k3 : g.Kind = 3
  case neg =>
    refine walk ?_
    refine fin0 ?_
    exact ⟨_, m, nilS, nilS, [], [], rfl, h00, SlB.nil, SlB.nil, .other hf k1 k3, rfl⟩
  have fk4 : fits (4 : Int) := by unfold fits; omega
  refine walk ?_
  refine ops_w rfl rfl (op_bs1 rfl rfl rfl fun b9 => ?_)
  refine walk ?_
  refine ops_cut1 (σ := (Option Addr × Nat) × List RD × Heap) (fun u => H.le u.2.2 ∧ SlB rConvoyref15Done 4 32 u.2.2 (.slice u.1.1 u.2.1.length u.1.2) u.2.1 ∧ ((∃ q ∈ m.T.Prep, q.Txn = g.Txn ∧ g.Yes = true ∧ u.2.1 = putL ⟨g.Txn, untilL 0 q.Work.ks⟩ m.Done) ∨ ((prepR m g.Txn → g.Yes = false) ∧ u.2.1 = m.Done)))
    (fun _ => [(2, .pointer (some ⟨p3, 0, none⟩)), (3, .pointer (some ⟨p4, 0, none⟩)), (4, .pointer (some ⟨p5, 0, none⟩)), (9, .slice (some ⟨b9, 0, none⟩) 1 1)]) (fun u => u.2.2)
    (fun u => row b9 43 (vCells m g 4 false) :: row p5 72 [I 0, nilS, nilS, nilS] :: row p4 43 (g.cv (.slice b5 g.Work.Take.length c5) (.slice b6 g.Work.Drop.length c6) (.slice b7 g.Call.Route.Cells.length c7) (.slice b8 g.Reply.Route.Cells.length c8)) :: row p3 72 [I m.Shard, .slice b1 m.T.Held.length c1, .slice b2 m.T.Prep.length c2, .slice u.1.1 u.2.1.length u.1.2] :: R) (fun K hK => ?_) (fun ⟨⟨d1, e1'⟩, D, HK⟩ ⟨hlK, hsD, hD⟩ => ?_)
  · refine ops_call rfl rfl (rAt_spec (x := g.Txn) hT0) fun r2 H2 B hl2 ⟨hat, eB, eH⟩ => ?_
    subst eB eH
    rcases hat with ⟨rfl, hno⟩ | ⟨j0, hj0, rfl, hj⟩
    · refine walk ?_
      refine out_to hK ((b3, c3), m.Done, H2) ⟨.refl _, hs3, .inr ⟨fun ⟨q, hq, hx⟩ => absurd hx (hno q hq), rfl⟩⟩
    · have hge : (0 : Int) ≤ (j0 : Int) := by omega
      refine walk ?_
      refine ex_ifb rfl Iff.rfl (fun hy => ?_) (fun hy => ?_)
      rotate_left
      · refine walk ?_
        refine out_to hK ((b3, c3), m.Done, H2) ⟨.refl _, hs3, .inr ⟨fun _ => by simpa using hy, rfl⟩⟩
      refine ex_any 14 [row p3 72 (m.cv (.slice b1 m.T.Held.length c1) (.slice b2 m.T.Prep.length c2) (.slice b3 m.Done.length c3)), row p4 43 (g.cv (.slice b5 g.Work.Take.length c5) (.slice b6 g.Work.Drop.length c6) (.slice b7 g.Call.Route.Cells.length c7) (.slice b8 g.Reply.Route.Cells.length c8))] ?_
      refine stepY 0 ?_; refine stepY 1 ?_; refine stepY 2 ?_; refine stepY 3 ?_; refine stepY 4 ?_; refine stepY 5 ?_; refine stepY 6 ?_; refine stepY 7 ?_
      refine gny_ixp 8 rfl rfl rfl hs2.1 hj0 fun b o cc hr hc => ?_
      obtain ⟨u1, u2, u3, rfl, g1, g2, g3, g4, g5, g6, g7, g8⟩ := hc
      have hrt := rec_work hr
      obtain ⟨wr, wt, wd, hy2⟩ : ∃ a b c, m.T.Prep[j0].Work = ⟨a, b, c⟩ := ⟨_, _, _, rfl⟩
      have h80j := h80 _ (List.getElem_mem hj0)
      rw [hy2] at hrt g5 g6 g7 h80j
      obtain ⟨v1, e1'', rfl, _, _⟩ := g6.1.shape
      obtain ⟨v2, e2'', rfl, _, _⟩ := g7.1.shape
      change HRow H2 b (o + 4) [I wr, .slice v1 wt.length e1'', .slice v2 wd.length e2''] at hrt
      refine stepY 9 ?_
      refine gny_ldNH 10 rfl rfl rfl hrt rfl ?_
      refine gny_call 11 rfl rfl rfl (rUntil_spec (w := ⟨wr, wt, wd⟩) (cw := [I wr, .slice v1 wt.length e1'', .slice v2 wd.length e2'']) ⟨_, _, rfl, g5, g6, g7⟩ (by simp only [cap47]; omega)) fun r3 H3 B hl3 ⟨er, eB⟩ => ?_
      subst er eB
      refine ⟨(by (repeat (first | exact Sub.refl _ | exact Sub.nil _ | (apply sub_pick; (repeat (first | exact Has.here | apply Has.there)); skip) | apply Sub.drop))), ?_⟩
      refine stepY 12 ?_
      have hfu : fits (untilL 0 (⟨wr, wt, wd⟩ : Work).ks) := untilL_fits fits0
      refine gny_call 13 rfl rfl rfl (rPut_spec (d := ⟨g.Txn, untilL 0 (⟨wr, wt, wd⟩ : Work).ks⟩) (hs3.mono hl3) ⟨hxm.1, hxm.2.1, hxm.2.2, hfu⟩ (by omega)) fun r4 H4 B hl4 ⟨eB, eH⟩ => ?_
      subst eB eH
      refine ⟨(by (repeat (first | exact Sub.refl _ | exact Sub.nil _ | (apply sub_pick; (repeat (first | exact Has.here | apply Has.there)); skip) | apply Sub.drop))), ?_⟩
      refine any_rest rfl ?_
      refine ops_freeze r4 fun H5 hl5 hsp => ?_
      obtain ⟨pb, pc, rfl, _, _⟩ := hsp.1.shape
      refine walk ?_
      refine out_to hK ((pb, pc), putL ⟨g.Txn, untilL 0 (⟨wr, wt, wd⟩ : Work).ks⟩ m.Done, H5) ⟨hl3.trans hl5, hsp, .inl ⟨_, List.getElem_mem hj0, hj, hy, by rw [hy2]⟩⟩
  simp only at hlK hsD hD
  dsimp only
  refine walk ?_
  refine ops_call rfl rfl (rApply_spec (x := g.Txn) (yes := g.Yes) (RdOk.mono (R := rTable) hlK hT0) h80 (by omega) (by omega)) fun r3 H3 B hl3 ⟨cs3, t', e, er, hcs3, hra, eB⟩ => ?_
  subst er eB
  obtain ⟨q1, q2, rfl, hq1, hq2⟩ := hcs3
  obtain ⟨qb1, qc1, rfl, _, _⟩ := hq1.1.shape
  obtain ⟨qb2, qc2, rfl, _, _⟩ := hq2.1.shape
  have hl03 := hlK.trans hl3
  refine walk ?_
  refine ex_if rfl (fun he => ?_) (fun he => ?_)
  · refine walk ?_
    refine out_L (L' := ownS rMessage 19 216 43 H3 (.slice (some ⟨b9, 0, none⟩) 1 1) [ackR m g] :: row p5 72 [I m.Shard, .slice qb1 t'.Held.length qc1, .slice qb2 t'.Prep.length qc2, .slice d1 D.length e1'] :: R) (Sub.trans (B := row b9 43 (vCells m g 4 false) :: row p5 72 [I m.Shard, .slice qb1 t'.Held.length qc1, .slice qb2 t'.Prep.length qc2, .slice d1 D.length e1'] :: R) (by (repeat (first | exact Sub.refl _ | exact Sub.nil _ | (apply sub_pick; (repeat (first | exact Has.here | apply Has.there)); skip) | apply Sub.drop))) (own1 (x := ackR m g) (v_reads hsh f1 fk4 hxm) c216)) ?_
    refine out_freeze (.slice (some ⟨b9, 0, none⟩) 1 1) fun H9 hl9 hsl => ?_
    refine fin0 ?_
    refine ⟨[I m.Shard, .slice qb1 t'.Held.length qc1, .slice qb2 t'.Prep.length qc2, .slice d1 D.length e1'], ⟨m.Shard, t', D⟩, .slice (some ⟨b9, 0, none⟩) 1 1, nilS, [ackR m g], [], rfl, ⟨_, _, _, rfl, hsh, hq1.mono hl9, hq2.mono hl9, hsD.mono (hl3.trans hl9)⟩, hsl, SlB.nil, ?_, rfl⟩
    have h := RHear.ack (m := m) hf k3 t' e D hra hD
    rw [if_neg he] at h
    exact h
  · obtain rfl : e = 0 := by omega
    have hra' := RHear.ack (m := m) hf k3 t' 0 D hra hD
    rw [if_pos rfl] at hra'
    refine walk ?_
    refine ex_any 10 [row p3 72 [I m.Shard, .slice qb1 t'.Held.length qc1, .slice qb2 t'.Prep.length qc2, .slice d1 D.length e1'], row p4 43 (g.cv (.slice b5 g.Work.Take.length c5) (.slice b6 g.Work.Drop.length c6) (.slice b7 g.Call.Route.Cells.length c7) (.slice b8 g.Reply.Route.Cells.length c8))] ?_
    refine stepY 0 ?_; refine stepY 1 ?_; refine stepY 2 ?_; refine stepY 3 ?_; refine stepY 4 ?_; refine stepY 5 ?_; refine stepY 6 ?_
    refine any_ws 7 8 rfl rfl (op_bs1 rfl rfl rfl fun b10 => ⟨.refl _, (by (repeat (first | exact Sub.refl _ | exact Sub.nil _ | (apply sub_pick; (repeat (first | exact Has.here | apply Has.there)); skip) | apply Sub.drop))), ?_⟩) rfl rfl rfl (by simp) rfl ⟨(by (repeat (first | exact Sub.refl _ | exact Sub.nil _ | (apply sub_pick; (repeat (first | exact Has.here | apply Has.there)); skip) | apply Sub.drop))), ?_⟩
    · refine any_sta 8 rfl rfl rfl rfl (by simp) rfl ⟨(by (repeat (first | exact Sub.refl _ | exact Sub.nil _ | (apply sub_pick; (repeat (first | exact Has.here | apply Has.there)); skip) | apply Sub.drop))), ?_⟩
      refine stepY 9 ?_
      refine any_rest rfl ?_
      refine walk ?_
      refine out_L (L' := ownS rMessage 19 216 43 H3 (.slice (some ⟨b9, 0, none⟩) 1 1) [ackR m g] :: ownS rRec 9 120 53 H3 (.slice (some ⟨b10, 0, none⟩) 1 1) [recA g] :: row p5 72 [I m.Shard, .slice qb1 t'.Held.length qc1, .slice qb2 t'.Prep.length qc2, .slice d1 D.length e1'] :: R) (Sub.trans (B := row b9 43 (vCells m g 4 false) :: row b10 53 [I 3, I g.Txn.Node, I g.Txn.Life, I g.Txn.Count, I 0, nilS, nilS, .bool g.Yes, nilS] :: row p5 72 [I m.Shard, .slice qb1 t'.Held.length qc1, .slice qb2 t'.Prep.length qc2, .slice d1 D.length e1'] :: R) (by (repeat (first | exact Sub.refl _ | exact Sub.nil _ | (apply sub_pick; (repeat (first | exact Has.here | apply Has.there)); skip) | apply Sub.drop))) ((own1 (x := ackR m g) (v_reads hsh f1 fk4 hxm) c216).trans (Sub.cons (own1 (x := recA g) ⟨nilS, nilS, nilS, rfl, fk3, hxm.1, hxm.2.1, hxm.2.2, fits0, SlB.nil, SlB.nil, SlB.nil⟩ (by decide))))) ?_
      refine out_freeze (.slice (some ⟨b9, 0, none⟩) 1 1) fun H9 hl9 hsl => ?_
      refine out_freeze (.slice (some ⟨b10, 0, none⟩) 1 1) fun H10 hl10 hsr => ?_
      refine fin0 ?_
      exact ⟨[I m.Shard, .slice qb1 t'.Held.length qc1, .slice qb2 t'.Prep.length qc2, .slice d1 D.length e1'], ⟨m.Shard, t', D⟩, .slice (some ⟨b9, 0, none⟩) 1 1, .slice (some ⟨b10, 0, none⟩) 1 1, [ackR m g], [recA g], rfl, ⟨_, _, _, rfl, hsh, hq1.mono (hl9.trans hl10), hq2.mono (hl9.trans hl10), hsD.mono (hl3.trans (hl9.trans hl10))⟩, hsl.mono hl10, hsr, hra', rfl⟩
    · refine stepY 9 ?_
      refine any_w 7 rfl (op_bs1 rfl rfl rfl fun b10 => ⟨.refl _, (by (repeat (first | exact Sub.refl _ | exact Sub.nil _ | (apply sub_pick; (repeat (first | exact Has.here | apply Has.there)); skip) | apply Sub.drop))), ?_⟩)
      refine any_rest rfl ?_
      refine walk ?_
      refine out_L (L' := ownS rMessage 19 216 43 H3 (.slice (some ⟨b9, 0, none⟩) 1 1) [ackR m g] :: ownS rRec 9 120 53 H3 (.slice (some ⟨b10, 0, none⟩) 1 1) [recA g] :: row p5 72 [I m.Shard, .slice qb1 t'.Held.length qc1, .slice qb2 t'.Prep.length qc2, .slice d1 D.length e1'] :: R) (Sub.trans (B := row b9 43 (vCells m g 4 false) :: row b10 53 [I 3, I g.Txn.Node, I g.Txn.Life, I g.Txn.Count, I 0, nilS, nilS, .bool g.Yes, nilS] :: row p5 72 [I m.Shard, .slice qb1 t'.Held.length qc1, .slice qb2 t'.Prep.length qc2, .slice d1 D.length e1'] :: R) (by (repeat (first | exact Sub.refl _ | exact Sub.nil _ | (apply sub_pick; (repeat (first | exact Has.here | apply Has.there)); skip) | apply Sub.drop))) ((own1 (x := ackR m g) (v_reads hsh f1 fk4 hxm) c216).trans (Sub.cons (own1 (x := recA g) ⟨nilS, nilS, nilS, rfl, fk3, hxm.1, hxm.2.1, hxm.2.2, fits0, SlB.nil, SlB.nil, SlB.nil⟩ (by decide))))) ?_
      refine out_freeze (.slice (some ⟨b9, 0, none⟩) 1 1) fun H9 hl9 hsl => ?_
      refine out_freeze (.slice (some ⟨b10, 0, none⟩) 1 1) fun H10 hl10 hsr => ?_
      refine fin0 ?_
      exact ⟨[I m.Shard, .slice qb1 t'.Held.length qc1, .slice qb2 t'.Prep.length qc2, .slice d1 D.length e1'], ⟨m.Shard, t', D⟩, .slice (some ⟨b9, 0, none⟩) 1 1, .slice (some ⟨b10, 0, none⟩) 1 1, [ackR m g], [recA g], rfl, ⟨_, _, _, rfl, hsh, hq1.mono (hl9.trans hl10), hq2.mono (hl9.trans hl10), hsD.mono (hl3.trans (hl9.trans hl10))⟩, hsl.mono hl10, hsr, hra', rfl⟩
end Go.Proofs.YtjgjcakeimkkdaaGreatDoor
