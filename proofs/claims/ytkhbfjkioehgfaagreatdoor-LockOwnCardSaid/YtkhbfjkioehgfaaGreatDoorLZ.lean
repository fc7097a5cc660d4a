/- The reference's At, Locked, hold. -/
import Derived.Test.YtkhbfjkioehgfaaGreatDoorLX
import Derived.Test.YtkhbfjkioehgfaaGreatDoorLM
set_option linter.unusedVariables false
set_option linter.unusedSimpArgs false
namespace Go.Proofs.YtkhbfjkioehgfaaGreatDoor
open Go Go.Sx Go.Proofs
/-- where x stands, or -1 -/
def AtP (m : Table) (x : Txn) (r : Value) : Prop := (r = I (-1) ∧ ∀ q ∈ m.Prep, q.Txn ≠ x) ∨ ∃ j : Nat, ∃ h : j < m.Prep.length, r = I j ∧ m.Prep[j].Txn = x
theorem txn_ext {a b : Txn} : a = b ↔ a.Node = b.Node ∧ a.Life = b.Life ∧ a.Count = b.Count := by cases a; cases b; simp
theorem rec_txn {H : Heap} {b o : Nat} {q : Rec} {s1 s2 s3 : Value} (hr : HRow H b o (q.cv s1 s2 s3)) : HRow H b (o + 1) [I q.Txn.Node, I q.Txn.Life, I q.Txn.Count] := HRow.take (k := 3) (HRow.drop (k := 1) hr)
theorem rec_work {H : Heap} {b o : Nat} {q : Rec} {s1 s2 s3 : Value} (hr : HRow H b o (q.cv s1 s2 s3)) : HRow H b (o + 4) [I q.Work.Robot, s1, s2] := HRow.take (k := 3) (HRow.drop (k := 4) hr)
set_option maxHeartbeats 4000000 in
theorem rAt_spec {W0 : World} {H : Heap} {c : List Value} {m : Table} {x : Txn} (h0 : rTable H c m) :
    Ct Tryz.prog 47 #[.agg c.toArray, .agg x.cv.toArray] W0 H [] (fun r H' B => AtP m x r ∧ B = [] ∧ H' = H) := by
  refine Ct.go (vs := [.agg c.toArray, .agg x.cv.toArray]) fun R => ?_
  obtain ⟨s1, s2, rfl, hs1, hs2⟩ := h0
  obtain ⟨b1, c1, rfl, hc1, hd1⟩ := hs1.1.shape
  obtain ⟨b2, c2, rfl, hc2, hd2⟩ := hs2.1.shape
  obtain ⟨l, pr⟩ := m
  obtain ⟨x1, x2, x3⟩ := x
  dsimp only at hs1 hs2 hc1 hc2
  unfold AtP
  dsimp only
  refine walk ?_
  refine ops_box rfl rfl fun p2 _ => ?_
  refine ops_box rfl rfl fun p3 _ => ?_
  refine walk ?_
  refine ex_loop (σ := Nat) (fun j => j ≤ pr.length ∧ ∀ q ∈ pr.take j, q.Txn ≠ ⟨x1, x2, x3⟩) (fun j => [(2, .pointer (some ⟨p2, 0, none⟩)), (3, .pointer (some ⟨p3, 0, none⟩)), (5, I j)]) (fun _ => H) (fun _ => row p2 55 [.slice b1 l.length c1, .slice b2 pr.length c2] :: row p3 27 [I x1, I x2, I x3] :: R) (fun j => pr.length - j) 0 ⟨Nat.zero_le _, by simp⟩ fun j ⟨hj0, hj⟩ K hL => ?_
  refine walk ?_
  refine ex_if rfl (fun hk => ?_) (fun hk => ?_)
  · have hk1 : j < pr.length := by omega
    have ht := List.take_succ_eq_append_getElem hk1
    refine walk ?_
    refine ops_ixp rfl rfl hs2.1 hk1 fun b o cc hr hc => ?_
    obtain ⟨t1, t2, t3, rfl, g1, g2, g3, g4, g5, g6, g7, g8⟩ := hc
    have hrt := rec_txn hr
    obtain ⟨ya, yb, yc, hy⟩ : ∃ ya yb yc, pr[j].Txn = ⟨ya, yb, yc⟩ := ⟨_, _, _, rfl⟩
    rw [hy] at hrt
    refine walk ?_
    refine ops_ldNH rfl rfl hrt rfl ?_
    refine walk ?_
    refine ex_if rfl (fun hq => ?_) (fun hq => ?_)
    · refine walk ?_
      refine fin0 ?_
      obtain ⟨rfl, rfl, rfl⟩ := hq
      exact ⟨.inr ⟨j, hk1, rfl, hy⟩, rfl, rfl⟩
    · refine walk ?_
      refine out_next hL (j + 1) ⟨by omega, fun q hm => ?_⟩
      rw [ht, List.mem_append, List.mem_singleton] at hm
      rcases hm with hm | rfl
      · exact hj q hm
      · rw [hy]
        rintro e
        exact hq (by simpa using txn_ext.1 e)
  · clear hL
    obtain rfl : j = pr.length := by omega
    rw [List.take_length] at hj
    refine walk ?_
    refine fin0 ?_
    exact ⟨.inl ⟨rfl, hj⟩, rfl, rfl⟩
def findL (l : List Rec) (k : ByteArray) : Option Rec := l.find? fun q => decide (k ∈ q.Work.ks)
def rLockedV (l : List Rec) (k : ByteArray) : Value := .tuple [.agg (((findL l k).map (·.Txn)).getD zTxn).cv.toArray, .bool (findL l k).isSome].toArray
set_option maxHeartbeats 4000000 in
theorem rLocked_spec {W0 : World} {H : Heap} {c : List Value} {m : Table} {k : ByteArray} (h0 : rTable H c m) (hn : ∀ q ∈ m.Prep, q.Work.ks.length * 16 ≤ cap47) :
    Ct Tryz.prog 46 #[.agg c.toArray, .string k] W0 H [] (fun r H' B => r = rLockedV m.Prep k ∧ B = []) := by
  refine Ct.go (vs := [.agg c.toArray, .string k]) fun R => ?_
  obtain ⟨s1, s2, rfl, hs1, hs2⟩ := h0
  obtain ⟨b1, c1, rfl, hc1, hd1⟩ := hs1.1.shape
  obtain ⟨b2, c2, rfl, hc2, hd2⟩ := hs2.1.shape
  obtain ⟨l, pr⟩ := m
  dsimp only at hs1 hs2 hc1 hc2 hn
  dsimp only
  refine walk ?_
  refine ops_box rfl rfl fun p2 _ => ?_
  refine ops_alloc rfl fun p4 _ => ?_
  refine walk ?_
  refine ex_loop (σ := Nat × Heap) (fun u => u.1 ≤ pr.length ∧ H.le u.2 ∧ findL (pr.take u.1) k = none) (fun u => [(1, .string k), (2, .pointer (some ⟨p2, 0, none⟩)), (4, .pointer (some ⟨p4, 0, none⟩)), (6, I u.1)]) (fun u => u.2) (fun _ => row p2 55 [.slice b1 l.length c1, .slice b2 pr.length c2] :: row p4 27 [I 0, I 0, I 0] :: R) (fun u => pr.length - u.1) (0, H) ⟨Nat.zero_le _, .refl _, rfl⟩ fun ⟨j, HK⟩ ⟨hj0, hlK, hj⟩ K hL => ?_
  simp only at hj0 hlK hj
  dsimp only
  refine walk ?_
  refine ex_if rfl (fun hk => ?_) (fun hk => ?_)
  · have hk1 : j < pr.length := by omega
    have ht := List.take_succ_eq_append_getElem hk1
    have hnq := hn _ (List.getElem_mem hk1)
    refine walk ?_
    refine ops_ixp rfl rfl (hs2.mono hlK).1 hk1 fun b o cc hr hc => ?_
    obtain ⟨t1, t2, t3, rfl, g1, g2, g3, g4, g5, g6, g7, g8⟩ := hc
    have hrw := rec_work hr
    refine walk ?_
    refine ops_ldNH rfl rfl hrw rfl ?_
    refine ops_call rfl rfl (keys_spec (W0 := W0) (H := HK) (w := pr[j].Work) (cw := [I pr[j].Work.Robot, t1, t2]) ⟨_, _, rfl, g5, g6, g7⟩ hnq) fun r3 H3 B hl3 ⟨eB, eH⟩ => ?_
    subst eB eH
    refine ops_freeze r3 fun H4 hl4 hsk => ?_
    refine walk ?_
    refine ops_call rfl rfl (has_spec (W0 := W0) (H := H4) (v := r3) (l := pr[j].Work.ks) (k := k) hsk.1) fun r5 H5 B hl5 ⟨q, er, hq, eB, eH⟩ => ?_
    subst er eB eH
    refine walk ?_
    refine ex_ifb rfl Iff.rfl (fun hb => ?_) (fun hb => ?_)
    · obtain ⟨ya, yb, yc, hy⟩ : ∃ ya yb yc, pr[j].Txn = ⟨ya, yb, yc⟩ := ⟨_, _, _, rfl⟩
      refine walk ?_
      refine ops_ixp rfl rfl (hs2.mono (hlK.trans hl4)).1 hk1 fun b5 o5 cc5 hr5 hc5 => ?_
      obtain ⟨u1, u2, u3, rfl, _⟩ := hc5
      have hrt := rec_txn hr5
      rw [hy] at hrt
      refine walk ?_
      refine ops_ldNH rfl rfl hrt rfl ?_
      refine walk ?_
      refine fin0 ?_
      have hkm := hq.1 hb
      have e : findL pr k = some pr[j] := by
        have h1 : findL (pr.take (j + 1)) k = some pr[j] := by
          unfold findL at hj ⊢
          rw [ht, List.find?_append, hj]
          simp [hkm]
        unfold findL at h1 ⊢
        have h2 : ∀ (u v : List Rec) (r : Rec), u.find? (fun q => decide (k ∈ q.Work.ks)) = some r → (u ++ v).find? (fun q => decide (k ∈ q.Work.ks)) = some r := fun u v r h => by rw [List.find?_append, h]; rfl
        have h3 := h2 _ (pr.drop (j + 1)) _ h1
        simpa only [List.take_append_drop] using h3
      refine ⟨?_, rfl⟩
      unfold rLockedV
      rw [e]
      simp only [Option.map_some, Option.getD_some]
      rw [hy]
      rfl
    · have hkm : k ∉ pr[j].Work.ks := fun h => hb (hq.2 h)
      refine walk ?_
      refine out_next hL (j + 1, H5) ⟨by simp only; omega, hlK.trans hl4, ?_⟩
      simp only
      unfold findL at hj ⊢
      rw [ht, List.find?_append, hj]
      simp [hkm]
  · clear hL
    obtain rfl : j = pr.length := by omega
    rw [List.take_length] at hj
    refine walk ?_
    refine fin0 ?_
    refine ⟨?_, rfl⟩
    unfold rLockedV
    rw [hj]
    rfl
set_option maxHeartbeats 4000000 in
theorem rHold_spec {W0 : World} {H : Heap} {c : List Value} {m : Table} {k : ByteArray} {r : Int} {yes : Bool} (h0 : rTable H c m) (hk : k.size ≤ cap47) (hr : fits r) (hn : m.Held.length ≤ 100000) :
    Ct Tryz.prog 39 #[.agg c.toArray, .string k, I r, .bool yes] W0 H [] (fun v H' B => ∃ cs, v = .agg cs.toArray ∧ rTable H' cs ⟨holdL k r (!yes) m.Held, m.Prep⟩ ∧ B = []) := by
  refine Ct.go (vs := [.agg c.toArray, .string k, I r, .bool yes]) fun R => ?_
  obtain ⟨s1, s2, rfl, hs1, hs2⟩ := h0
  obtain ⟨b1, c1, rfl, hc1, hd1⟩ := hs1.1.shape
  obtain ⟨b2, c2, rfl, hc2, hd2⟩ := hs2.1.shape
  obtain ⟨l, pr⟩ := m
  dsimp only at hs1 hs2 hc1 hc2 hn
  dsimp only
  refine walk ?_
  refine ops_box rfl rfl fun p4 _ => ?_
  refine ops_alloc rfl fun p8 _ => ?_
  refine walk ?_
  refine ex_loop (σ := Nat × Bool × List Hold × Option Addr × Nat) (fun u => u.1 ≤ l.length ∧ u.2.2.1 ++ holdL k r u.2.1 (l.drop u.1) = holdL k r (!yes) l ∧ u.2.2.1.length ≤ 2 * u.1) (fun u => [(1, .string k), (2, I r), (4, .pointer (some ⟨p4, 0, none⟩)), (8, .pointer (some ⟨p8, 0, none⟩)), (9, .slice u.2.2.2.1 u.2.2.1.length u.2.2.2.2), (10, .bool u.2.1), (11, I u.1)]) (fun _ => H)
    (fun u => ownS rHold 2 24 43 H (.slice u.2.2.2.1 u.2.2.1.length u.2.2.2.2) u.2.2.1 :: row p4 55 [.slice b1 l.length c1, .slice b2 pr.length c2] :: row p8 55 [nilS, nilS] :: R) (fun u => l.length - u.1) (0, !yes, [], none, 0) ⟨Nat.zero_le _, by simp, by simp⟩ (hs0 := ?_) fun ⟨j, put, out, d, e⟩ ⟨hj0, hF, hol⟩ K hL => ?_
  rotate_left
  · refine Sub.trans ?_ ownS_nil
    (repeat (first | exact Sub.refl _ | exact Sub.nil _ | (apply sub_pick; (repeat (first | exact Has.here | apply Has.there)); skip) | apply Sub.drop))
  simp only at hj0 hF hol
  dsimp only
  refine walk ?_
  refine ex_if rfl (fun hj => ?_) (fun hj => ?_)
  · have hj1 : j < l.length := by omega
    rw [List.drop_eq_getElem_cons hj1] at hF
    have hcl : ∀ n, n ≤ 200010 → n * 24 ≤ cap47 := fun n h => Nat.le_trans (Nat.mul_le_mul_right 24 h) (by decide)
    have ntt : ¬ ¬ true = true := fun h => h rfl
    rw [holdL] at hF
    cases put with
    | true =>
      rw [if_neg (fun h => Bool.noConfusion h.1), List.nil_append, Bool.true_or] at hF
      refine walk ?_
      refine ops_ixp rfl rfl hs1.1 hj1 fun b9 o9 cc9 hr9 hc9 => ?_
      obtain ⟨rfl, hsz9, hfr9⟩ := hc9
      refine walk ?_
      refine ex_if rfl (fun hq => ?_) (fun hq => ?_)
      · rw [if_neg hq, ← List.append_assoc] at hF
        refine walk ?_
        refine ops_ixp rfl rfl hs1.1 hj1 fun b8 o8 cc8 hr8 hc8 => ?_
        obtain ⟨rfl, hsz8, hfr8⟩ := hc8
        change HRow H b8 o8 [.string l[j].Key, I l[j].Robot] at hr8
        refine ops_ldNH rfl rfl hr8 rfl ?_
        refine walk ?_
        refine ops_app1 (y := l[j]) rfl rfl rfl ⟨rfl, hsz8, hfr8⟩ (hcl _ (by (try simp only [List.length_append, List.length_cons, List.length_nil]); omega)) fun d3 e3 => ?_
        have hll : (out).length + 1 = (out ++ [l[j]]).length := by simp
        rw [hll]
        refine walk ?_
        exact out_next hL (j + 1, true, out ++ [l[j]], d3, e3) ⟨by simp only; omega, hF, by simp only [List.length_append, List.length_cons, List.length_nil]; omega⟩
      · have hq' : l[j].Key = k := Classical.byContradiction hq
        rw [if_pos hq', List.nil_append] at hF
        refine walk ?_
        exact out_next hL (j + 1, true, out, _, _) ⟨by simp only; omega, hF, by simp only [List.length_append, List.length_cons, List.length_nil]; omega⟩
    | false =>
      by_cases hs : SLt k l[j].Key
      · rw [if_pos ⟨rfl, hs⟩, decide_eq_true hs, Bool.false_or, ← List.append_assoc] at hF
        refine walk ?_
        refine ops_ixp rfl rfl hs1.1 hj1 fun b o cc hr' hc => ?_
        obtain ⟨rfl, hsz, hfr⟩ := hc
        refine walk ?_
        refine ops_app1 (y := ⟨k, r⟩) rfl rfl rfl ⟨rfl, hk, hr⟩ (hcl _ (by omega)) fun d2 e2 => ?_
        have hll2 : out.length + 1 = (out ++ [(⟨k, r⟩ : Hold)]).length := by simp
        rw [hll2]
        refine walk ?_
        refine ops_ixp rfl rfl hs1.1 hj1 fun b9 o9 cc9 hr9 hc9 => ?_
        obtain ⟨rfl, hsz9, hfr9⟩ := hc9
        refine walk ?_
        refine ex_if rfl (fun hq => ?_) (fun hq => ?_)
        · rw [if_neg hq, ← List.append_assoc] at hF
          refine walk ?_
          refine ops_ixp rfl rfl hs1.1 hj1 fun b8 o8 cc8 hr8 hc8 => ?_
          obtain ⟨rfl, hsz8, hfr8⟩ := hc8
          change HRow H b8 o8 [.string l[j].Key, I l[j].Robot] at hr8
          refine ops_ldNH rfl rfl hr8 rfl ?_
          refine walk ?_
          refine ops_app1 (y := l[j]) rfl rfl rfl ⟨rfl, hsz8, hfr8⟩ (hcl _ (by (try simp only [List.length_append, List.length_cons, List.length_nil]); omega)) fun d3 e3 => ?_
          have hll : ((out ++ [(⟨k, r⟩ : Hold)])).length + 1 = ((out ++ [(⟨k, r⟩ : Hold)]) ++ [l[j]]).length := by simp
          rw [hll]
          refine walk ?_
          exact out_next hL (j + 1, true, (out ++ [(⟨k, r⟩ : Hold)]) ++ [l[j]], d3, e3) ⟨by simp only; omega, hF, by simp only [List.length_append, List.length_cons, List.length_nil]; omega⟩
        · have hq' : l[j].Key = k := Classical.byContradiction hq
          rw [if_pos hq', List.nil_append] at hF
          refine walk ?_
          exact out_next hL (j + 1, true, (out ++ [(⟨k, r⟩ : Hold)]), _, _) ⟨by simp only; omega, hF, by simp only [List.length_append, List.length_cons, List.length_nil]; omega⟩
      · rw [if_neg (fun h => hs h.2), decide_eq_false hs, Bool.false_or, List.nil_append] at hF
        refine walk ?_
        refine ops_ixp rfl rfl hs1.1 hj1 fun b o cc hr' hc => ?_
        obtain ⟨rfl, hsz, hfr⟩ := hc
        refine walk ?_
        refine ops_ixp rfl rfl hs1.1 hj1 fun b9 o9 cc9 hr9 hc9 => ?_
        obtain ⟨rfl, hsz9, hfr9⟩ := hc9
        refine walk ?_
        refine ex_if rfl (fun hq => ?_) (fun hq => ?_)
        · rw [if_neg hq, ← List.append_assoc] at hF
          refine walk ?_
          refine ops_ixp rfl rfl hs1.1 hj1 fun b8 o8 cc8 hr8 hc8 => ?_
          obtain ⟨rfl, hsz8, hfr8⟩ := hc8
          change HRow H b8 o8 [.string l[j].Key, I l[j].Robot] at hr8
          refine ops_ldNH rfl rfl hr8 rfl ?_
          refine walk ?_
          refine ops_app1 (y := l[j]) rfl rfl rfl ⟨rfl, hsz8, hfr8⟩ (hcl _ (by (try simp only [List.length_append, List.length_cons, List.length_nil]); omega)) fun d3 e3 => ?_
          have hll : (out).length + 1 = (out ++ [l[j]]).length := by simp
          rw [hll]
          refine walk ?_
          exact out_next hL (j + 1, false, out ++ [l[j]], d3, e3) ⟨by simp only; omega, hF, by simp only [List.length_append, List.length_cons, List.length_nil]; omega⟩
        · have hq' : l[j].Key = k := Classical.byContradiction hq
          rw [if_pos hq', List.nil_append] at hF
          refine walk ?_
          exact out_next hL (j + 1, false, out, _, _) ⟨by simp only; omega, hF, by simp only [List.length_append, List.length_cons, List.length_nil]; omega⟩
  clear hL
  obtain rfl : j = l.length := by omega
  rw [List.drop_length, holdL] at hF
  cases put with
  | true =>
    rw [if_pos rfl, List.append_nil] at hF
    refine walk ?_
    refine out_freeze (.slice d out.length e) fun H3 hl3 hsl => ?_
    refine fin0 ?_
    exact ⟨_, rfl, ⟨_, _, rfl, by rw [← hF]; exact hsl, hs2.mono hl3⟩, rfl⟩
  | false =>
    rw [if_neg Bool.noConfusion] at hF
    have hll : out.length + 1 = (out ++ [(⟨k, r⟩ : Hold)]).length := by simp
    refine walk ?_
    refine ops_app1 (y := ⟨k, r⟩) rfl rfl rfl ⟨rfl, hk, hr⟩ (by simp only [cap47]; omega) fun d2 e2 => ?_
    rw [hll, hF]
    refine walk ?_
    refine out_freeze (.slice d2 (holdL k r (!yes) l).length e2) fun H3 hl3 hsl => ?_
    refine fin0 ?_
    exact ⟨_, rfl, ⟨_, _, rfl, hsl, hs2.mono hl3⟩, rfl⟩
end Go.Proofs.YtkhbfjkioehgfaaGreatDoor
