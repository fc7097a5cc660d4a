/- The reference's At, Locked, hold. The reference's Prepare. -/
import Derived.Test.YtjgjcakeimkkdaaGreatDoorM5
import Derived.Test.YtjgjcakeimkkdaaGreatDoorM3
set_option linter.unusedVariables false
set_option linter.unusedSimpArgs false
namespace Go.Proofs.YtjgjcakeimkkdaaGreatDoor
open Go Go.Sx Go.Proofs
/-- where x stands, or -1 -/
def AtP (m : Table) (x : Txn) (r : Value) : Prop := (r = I (-1) ∧ ∀ q ∈ m.Prep, q.Txn ≠ x) ∨ ∃ j : Nat, ∃ h : j < m.Prep.length, r = I j ∧ m.Prep[j].Txn = x
theorem txn_ext {a b : Txn} : a = b ↔ a.Node = b.Node ∧ a.Life = b.Life ∧ a.Count = b.Count := by cases a; cases b; simp
theorem rec_txn {H : Heap} {b o : Nat} {q : Rec} {s1 s2 s3 : Value} (hr : HRow H b o (q.cv s1 s2 s3)) : HRow H b (o + 1) [I q.Txn.Node, I q.Txn.Life, I q.Txn.Count] := HRow.take (k := 3) (HRow.drop (k := 1) hr)
theorem rec_work {H : Heap} {b o : Nat} {q : Rec} {s1 s2 s3 : Value} (hr : HRow H b o (q.cv s1 s2 s3)) : HRow H b (o + 4) [I q.Work.Robot, s1, s2] := HRow.take (k := 3) (HRow.drop (k := 4) hr)
set_option maxHeartbeats 4000000 in
theorem rAt_spec {W0 : World} {H : Heap} {c : List Value} {m : Table} {x : Txn} (h0 : rTable H c m) :
    Ct Tryz.prog 45 #[.agg c.toArray, .agg x.cv.toArray] W0 H [] (fun r H' B => AtP m x r ∧ B = [] ∧ H' = H) := by
  refine Ct.go (vs := [.agg c.toArray, .agg x.cv.toArray]) fun R => ?_
  obtain ⟨s1, s2, rfl, hs1, hs2⟩ := h0
  obtain ⟨b1, c1, rfl, hc1, hd1⟩ := hs1.1.shape
  obtain ⟨b2, c2, rfl, hc2, hd2⟩ := hs2.1.shape
  obtain ⟨l, pr⟩ := m
  obtain ⟨x1, x2, x3⟩ := x
  dsimp only at hs1 hs2 hc1 hc2
  unfold AtP
  dsimp only
  refine walk ?_
  refine ops_box rfl rfl fun p2 _ => ?_
  refine ops_box rfl rfl fun p3 _ => ?_
  refine walk ?_
  refine ex_loop (σ := Nat) (fun j => j ≤ pr.length ∧ ∀ q ∈ pr.take j, q.Txn ≠ ⟨x1, x2, x3⟩) (fun j => [(2, .pointer (some ⟨p2, 0, none⟩)), (3, .pointer (some ⟨p3, 0, none⟩)), (5, I j)]) (fun _ => H) (fun _ => row p2 69 [.slice b1 l.length c1, .slice b2 pr.length c2] :: row p3 29 [I x1, I x2, I x3] :: R) (fun j => pr.length - j) 0 ⟨Nat.zero_le _, by simp⟩ fun j ⟨hj0, hj⟩ K hL => ?_
  refine walk ?_
  refine ex_if rfl (fun hk => ?_) (fun hk => ?_)
  · have hk1 : j < pr.length := by omega
    have ht := List.take_succ_eq_append_getElem hk1
    refine walk ?_
    refine ops_ixp rfl rfl hs2.1 hk1 fun b o cc hr hc => ?_
    obtain ⟨t1, t2, t3, rfl, g1, g2, g3, g4, g5, g6, g7, g8⟩ := hc
    have hrt := rec_txn hr
    obtain ⟨ya, yb, yc, hy⟩ : ∃ ya yb yc, pr[j].Txn = ⟨ya, yb, yc⟩ := ⟨_, _, _, rfl⟩
    rw [hy] at hrt
    refine walk ?_
    refine ops_ldNH rfl rfl hrt rfl ?_
    refine walk ?_
    refine ex_if rfl (fun hq => ?_) (fun hq => ?_)
    · refine walk ?_
      refine fin0 ?_
      obtain ⟨rfl, rfl, rfl⟩ := hq
      exact ⟨.inr ⟨j, hk1, rfl, hy⟩, rfl, rfl⟩
    · refine walk ?_
      refine out_next hL (j + 1) ⟨by omega, fun q hm => ?_⟩
      rw [ht, List.mem_append, List.mem_singleton] at hm
      rcases hm with hm | rfl
      · exact hj q hm
      · rw [hy]
        rintro e
        exact hq (by simpa using txn_ext.1 e)
  · clear hL
    obtain rfl : j = pr.length := by omega
    rw [List.take_length] at hj
    refine walk ?_
    refine fin0 ?_
    exact ⟨.inl ⟨rfl, hj⟩, rfl, rfl⟩
def findL (l : List Rec) (k : ByteArray) : Option Rec := l.find? fun q => decide (k ∈ q.Work.ks)
def rLockedV (l : List Rec) (k : ByteArray) : Value := .tuple [.agg (((findL l k).map (·.Txn)).getD zTxn).cv.toArray, .bool (findL l k).isSome].toArray
set_option maxHeartbeats 4000000 in
theorem rLocked_spec {W0 : World} {H : Heap} {c : List Value} {m : Table} {k : ByteArray} (h0 : rTable H c m) (hn : ∀ q ∈ m.Prep, q.Work.ks.length * 16 ≤ cap47) :
    Ct Tryz.prog 77 #[.agg c.toArray, .string k] W0 H [] (fun r H' B => r = rLockedV m.Prep k ∧ B = []) := by
  refine Ct.go (vs := [.agg c.toArray, .string k]) fun R => ?_
  obtain ⟨s1, s2, rfl, hs1, hs2⟩ := h0
  obtain ⟨b1, c1, rfl, hc1, hd1⟩ := hs1.1.shape
  obtain ⟨b2, c2, rfl, hc2, hd2⟩ := hs2.1.shape
  obtain ⟨l, pr⟩ := m
  dsimp only at hs1 hs2 hc1 hc2 hn
  dsimp only
  refine walk ?_
  refine ops_box rfl rfl fun p2 _ => ?_
  refine ops_alloc rfl fun p4 _ => ?_
  refine walk ?_
  refine ex_loop (σ := Nat × Heap) (fun u => u.1 ≤ pr.length ∧ H.le u.2 ∧ findL (pr.take u.1) k = none) (fun u => [(1, .string k), (2, .pointer (some ⟨p2, 0, none⟩)), (4, .pointer (some ⟨p4, 0, none⟩)), (6, I u.1)]) (fun u => u.2) (fun _ => row p2 69 [.slice b1 l.length c1, .slice b2 pr.length c2] :: row p4 29 [I 0, I 0, I 0] :: R) (fun u => pr.length - u.1) (0, H) ⟨Nat.zero_le _, .refl _, rfl⟩ fun ⟨j, HK⟩ ⟨hj0, hlK, hj⟩ K hL => ?_
  simp only at hj0 hlK hj
  dsimp only
  refine walk ?_
  refine ex_if rfl (fun hk => ?_) (fun hk => ?_)
  · have hk1 : j < pr.length := by omega
    have ht := List.take_succ_eq_append_getElem hk1
    have hnq := hn _ (List.getElem_mem hk1)
    refine walk ?_
    refine ops_ixp rfl rfl (hs2.mono hlK).1 hk1 fun b o cc hr hc => ?_
    obtain ⟨t1, t2, t3, rfl, g1, g2, g3, g4, g5, g6, g7, g8⟩ := hc
    have hrw := rec_work hr
    refine walk ?_
    refine ops_ldNH rfl rfl hrw rfl ?_
    refine ops_call rfl rfl (keys_spec (W0 := W0) (H := HK) (w := pr[j].Work) (cw := [I pr[j].Work.Robot, t1, t2]) ⟨_, _, rfl, g5, g6, g7⟩ hnq) fun r3 H3 B hl3 ⟨eB, eH⟩ => ?_
    subst eB eH
    refine ops_freeze r3 fun H4 hl4 hsk => ?_
    refine walk ?_
    refine ops_call rfl rfl (has_spec (W0 := W0) (H := H4) (v := r3) (l := pr[j].Work.ks) (k := k) hsk.1) fun r5 H5 B hl5 ⟨q, er, hq, eB, eH⟩ => ?_
    subst er eB eH
    refine walk ?_
    refine ex_ifb rfl Iff.rfl (fun hb => ?_) (fun hb => ?_)
    · obtain ⟨ya, yb, yc, hy⟩ : ∃ ya yb yc, pr[j].Txn = ⟨ya, yb, yc⟩ := ⟨_, _, _, rfl⟩
      refine walk ?_
      refine ops_ixp rfl rfl (hs2.mono (hlK.trans hl4)).1 hk1 fun b5 o5 cc5 hr5 hc5 => ?_
      obtain ⟨u1, u2, u3, rfl, _⟩ := hc5
      have hrt := rec_txn hr5
      rw [hy] at hrt
      refine walk ?_
      refine ops_ldNH rfl rfl hrt rfl ?_
      refine walk ?_
      refine fin0 ?_
      have hkm := hq.1 hb
      have e : findL pr k = some pr[j] := by
        have h1 : findL (pr.take (j + 1)) k = some pr[j] := by
          unfold findL at hj ⊢
          rw [ht, List.find?_append, hj]
          simp [hkm]
        unfold findL at h1 ⊢
        have h2 : ∀ (u v : List Rec) (r : Rec), u.find? (fun q => decide (k ∈ q.Work.ks)) = some r → (u ++ v).find? (fun q => decide (k ∈ q.Work.ks)) = some r := fun u v r h => by rw [List.find?_append, h]; rfl
        have h3 := h2 _ (pr.drop (j + 1)) _ h1
        simpa only [List.take_append_drop] using h3
      refine ⟨?_, rfl⟩
      unfold rLockedV
      rw [e]
      simp only [Option.map_some, Option.getD_some]
      rw [hy]
      rfl
    · have hkm : k ∉ pr[j].Work.ks := fun h => hb (hq.2 h)
      refine walk ?_
      refine out_next hL (j + 1, H5) ⟨by simp only; omega, hlK.trans hl4, ?_⟩
      simp only
      unfold findL at hj ⊢
      rw [ht, List.find?_append, hj]
      simp [hkm]
  · clear hL
    obtain rfl : j = pr.length := by omega
    rw [List.take_length] at hj
    refine walk ?_
    refine fin0 ?_
    refine ⟨?_, rfl⟩
    unfold rLockedV
    rw [hj]
    rfl
set_option maxHeartbeats 4000000 in
theorem rHold_spec {W0 : World} {H : Heap} {c : List Value} {m : Table} {k : ByteArray} {r : Int} {yes : Bool} (h0 : rTable H c m) (hk : k.size ≤ cap47) (hr : fits r) (hn : m.Held.length ≤ 100000) :
    Ct Tryz.prog 80 #[.agg c.toArray, .string k, I r, .bool yes] W0 H [] (fun v H' B => ∃ cs, v = .agg cs.toArray ∧ rTable H' cs ⟨holdL k r (!yes) m.Held, m.Prep⟩ ∧ B = []) := by
  refine Ct.go (vs := [.agg c.toArray, .string k, I r, .bool yes]) fun R => ?_
  obtain ⟨s1, s2, rfl, hs1, hs2⟩ := h0
  obtain ⟨b1, c1, rfl, hc1, hd1⟩ := hs1.1.shape
  obtain ⟨b2, c2, rfl, hc2, hd2⟩ := hs2.1.shape
  obtain ⟨l, pr⟩ := m
  dsimp only at hs1 hs2 hc1 hc2 hn
  dsimp only
  refine walk ?_
  refine ops_box rfl rfl fun p4 _ => ?_
  refine ops_alloc rfl fun p8 _ => ?_
  refine walk ?_
  refine ex_loop (σ := Nat × Bool × List Hold × Option Addr × Nat) (fun u => u.1 ≤ l.length ∧ u.2.2.1 ++ holdL k r u.2.1 (l.drop u.1) = holdL k r (!yes) l ∧ u.2.2.1.length ≤ 2 * u.1) (fun u => [(1, .string k), (2, I r), (4, .pointer (some ⟨p4, 0, none⟩)), (8, .pointer (some ⟨p8, 0, none⟩)), (9, .slice u.2.2.2.1 u.2.2.1.length u.2.2.2.2), (10, .bool u.2.1), (11, I u.1)]) (fun _ => H)
    (fun u => ownS rHold 2 24 109 H (.slice u.2.2.2.1 u.2.2.1.length u.2.2.2.2) u.2.2.1 :: row p4 69 [.slice b1 l.length c1, .slice b2 pr.length c2] :: row p8 69 [nilS, nilS] :: R) (fun u => l.length - u.1) (0, !yes, [], none, 0) ⟨Nat.zero_le _, by simp, by simp⟩ (hs0 := ?_) fun ⟨j, put, out, d, e⟩ ⟨hj0, hF, hol⟩ K hL => ?_
  rotate_left
  · refine Sub.trans ?_ ownS_nil
    (repeat (first | exact Sub.refl _ | exact Sub.nil _ | (apply sub_pick; (repeat (first | exact Has.here | apply Has.there)); skip) | apply Sub.drop))
  simp only at hj0 hF hol
  dsimp only
  refine walk ?_
  refine ex_if rfl (fun hj => ?_) (fun hj => ?_)
  · have hj1 : j < l.length := by omega
    rw [List.drop_eq_getElem_cons hj1] at hF
    have hcl : ∀ n, n ≤ 200010 → n * 24 ≤ cap47 := fun n h => Nat.le_trans (Nat.mul_le_mul_right 24 h) (by decide)
    have ntt : ¬ ¬ true = true := fun h => h rfl
    rw [holdL] at hF
    cases put with
    | true =>
      rw [if_neg (fun h => Bool.noConfusion h.1), List.nil_append, Bool.true_or] at hF
      refine walk ?_
      refine ops_ixp rfl rfl hs1.1 hj1 fun b9 o9 cc9 hr9 hc9 => ?_
      obtain ⟨rfl, hsz9, hfr9⟩ := hc9
      refine walk ?_
      refine ex_if rfl (fun hq => ?_) (fun hq => ?_)
      · rw [if_neg hq, ← List.append_assoc] at hF
        refine walk ?_
        refine ops_ixp rfl rfl hs1.1 hj1 fun b8 o8 cc8 hr8 hc8 => ?_
        obtain ⟨rfl, hsz8, hfr8⟩ := hc8
        change HRow H b8 o8 [.string l[j].Key, I l[j].Robot] at hr8
        refine ops_ldNH rfl rfl hr8 rfl ?_
        refine walk ?_
        refine ops_app1 (y := l[j]) rfl rfl rfl ⟨rfl, hsz8, hfr8⟩ (hcl _ (by (try simp only [List.length_append, List.length_cons, List.length_nil]); omega)) fun d3 e3 => ?_
        have hll : (out).length + 1 = (out ++ [l[j]]).length := by simp
        rw [hll]
        refine walk ?_
        exact out_next hL (j + 1, true, out ++ [l[j]], d3, e3) ⟨by simp only; omega, hF, by simp only [List.length_append, List.length_cons, List.length_nil]; omega⟩
      · have hq' : l[j].Key = k := Classical.byContradiction hq
        rw [if_pos hq', List.nil_append] at hF
        refine walk ?_
        exact out_next hL (j + 1, true, out, _, _) ⟨by simp only; omega, hF, by simp only [List.length_append, List.length_cons, List.length_nil]; omega⟩
    | false =>
      by_cases hs : SLt k l[j].Key
      · rw [if_pos ⟨rfl, hs⟩, decide_eq_true hs, Bool.false_or, ← List.append_assoc] at hF
        refine walk ?_
        refine ops_ixp rfl rfl hs1.1 hj1 fun b o cc hr' hc => ?_
        obtain ⟨rfl, hsz, hfr⟩ := hc
        refine walk ?_
        refine ops_app1 (y := ⟨k, r⟩) rfl rfl rfl ⟨rfl, hk, hr⟩ (hcl _ (by omega)) fun d2 e2 => ?_
        have hll2 : out.length + 1 = (out ++ [(⟨k, r⟩ : Hold)]).length := by simp
        rw [hll2]
        refine walk ?_
        refine ops_ixp rfl rfl hs1.1 hj1 fun b9 o9 cc9 hr9 hc9 => ?_
        obtain ⟨rfl, hsz9, hfr9⟩ := hc9
        refine walk ?_
        refine ex_if rfl (fun hq => ?_) (fun hq => ?_)
        · rw [if_neg hq, ← List.append_assoc] at hF
          refine walk ?_
          refine ops_ixp rfl rfl hs1.1 hj1 fun b8 o8 cc8 hr8 hc8 => ?_
          obtain ⟨rfl, hsz8, hfr8⟩ := hc8
          change HRow H b8 o8 [.string l[j].Key, I l[j].Robot] at hr8
          refine ops_ldNH rfl rfl hr8 rfl ?_
          refine walk ?_
          refine ops_app1 (y := l[j]) rfl rfl rfl ⟨rfl, hsz8, hfr8⟩ (hcl _ (by (try simp only [List.length_append, List.length_cons, List.length_nil]); omega)) fun d3 e3 => ?_
          have hll : ((out ++ [(⟨k, r⟩ : Hold)])).length + 1 = ((out ++ [(⟨k, r⟩ : Hold)]) ++ [l[j]]).length := by simp
          rw [hll]
          refine walk ?_
          exact out_next hL (j + 1, true, (out ++ [(⟨k, r⟩ : Hold)]) ++ [l[j]], d3, e3) ⟨by simp only; omega, hF, by simp only [List.length_append, List.length_cons, List.length_nil]; omega⟩
        · have hq' : l[j].Key = k := Classical.byContradiction hq
          rw [if_pos hq', List.nil_append] at hF
          refine walk ?_
          exact out_next hL (j + 1, true, (out ++ [(⟨k, r⟩ : Hold)]), _, _) ⟨by simp only; omega, hF, by simp only [List.length_append, List.length_cons, List.length_nil]; omega⟩
      · rw [if_neg (fun h => hs h.2), decide_eq_false hs, Bool.false_or, List.nil_append] at hF
        refine walk ?_
        refine ops_ixp rfl rfl hs1.1 hj1 fun b o cc hr' hc => ?_
        obtain ⟨rfl, hsz, hfr⟩ := hc
        refine walk ?_
        refine ops_ixp rfl rfl hs1.1 hj1 fun b9 o9 cc9 hr9 hc9 => ?_
        obtain ⟨rfl, hsz9, hfr9⟩ := hc9
        refine walk ?_
        refine ex_if rfl (fun hq => ?_) (fun hq => ?_)
        · rw [if_neg hq, ← List.append_assoc] at hF
          refine walk ?_
          refine ops_ixp rfl rfl hs1.1 hj1 fun b8 o8 cc8 hr8 hc8 => ?_
          obtain ⟨rfl, hsz8, hfr8⟩ := hc8
          change HRow H b8 o8 [.string l[j].Key, I l[j].Robot] at hr8
          refine ops_ldNH rfl rfl hr8 rfl ?_
          refine walk ?_
          refine ops_app1 (y := l[j]) rfl rfl rfl ⟨rfl, hsz8, hfr8⟩ (hcl _ (by (try simp only [List.length_append, List.length_cons, List.length_nil]); omega)) fun d3 e3 => ?_
          have hll : (out).length + 1 = (out ++ [l[j]]).length := by simp
          rw [hll]
          refine walk ?_
          exact out_next hL (j + 1, false, out ++ [l[j]], d3, e3) ⟨by simp only; omega, hF, by simp only [List.length_append, List.length_cons, List.length_nil]; omega⟩
        · have hq' : l[j].Key = k := Classical.byContradiction hq
          rw [if_pos hq', List.nil_append] at hF
          refine walk ?_
          exact out_next hL (j + 1, false, out, _, _) ⟨by simp only; omega, hF, by simp only [List.length_append, List.length_cons, List.length_nil]; omega⟩
  clear hL
  obtain rfl : j = l.length := by omega
  rw [List.drop_length, holdL] at hF
  cases put with
  | true =>
    rw [if_pos rfl, List.append_nil] at hF
    refine walk ?_
    refine out_freeze (.slice d out.length e) fun H3 hl3 hsl => ?_
    refine fin0 ?_
    exact ⟨_, rfl, ⟨_, _, rfl, by rw [← hF]; exact hsl, hs2.mono hl3⟩, rfl⟩
  | false =>
    rw [if_neg Bool.noConfusion] at hF
    have hll : out.length + 1 = (out ++ [(⟨k, r⟩ : Hold)]).length := by simp
    refine walk ?_
    refine ops_app1 (y := ⟨k, r⟩) rfl rfl rfl ⟨rfl, hk, hr⟩ (by simp only [cap47]; omega) fun d2 e2 => ?_
    rw [hll, hF]
    refine walk ?_
    refine out_freeze (.slice d2 (holdL k r (!yes) l).length e2) fun H3 hl3 hsl => ?_
    refine fin0 ?_
    exact ⟨_, rfl, ⟨_, _, rfl, hsl, hs2.mono hl3⟩, rfl⟩
end Go.Proofs.YtjgjcakeimkkdaaGreatDoor

set_option linter.unusedVariables false
set_option linter.unusedSimpArgs false
namespace Go.Proofs.YtjgjcakeimkkdaaGreatDoor
open Go Go.Sx Go.Proofs
/-- nothing is in the way -/
def WayR (m : Table) (w : Work) : Prop := ∀ j (hj : j < w.ks.length), findL m.Prep w.ks[j] = none ∧ (w.Take.length ≤ j ∨ findH m.Held w.ks[j] = none)
inductive RPrep (m : Table) (x : Txn) (w : Work) : Table → Int → Prop
  | twice (h : ∃ q ∈ m.Prep, q.Txn = x) : RPrep m x w m 2
  | range (h0 : ∀ q ∈ m.Prep, q.Txn ≠ x) (h : ¬ w.ks.Nodup) : RPrep m x w m 1
  | way (h0 : ∀ q ∈ m.Prep, q.Txn ≠ x) (h1 : w.ks.Nodup) (h2 : ¬ WayR m w) : RPrep m x w m 140
  | ok (h0 : ∀ q ∈ m.Prep, q.Txn ≠ x) (h1 : w.ks.Nodup) (h2 : WayR m w) (i : Nat) (hi : i ≤ m.Prep.length) (h3 : ∀ q ∈ m.Prep.take i, ltK q.Txn.k x.k) (h4 : ∀ hl : i < m.Prep.length, ¬ ltK m.Prep[i].Txn.k x.k) : RPrep m x w ⟨m.Held, m.Prep.take i ++ recW x w :: m.Prep.drop i⟩ 0
theorem opt_some {α : Type} {o : Option α} : Value.bool o.isSome = Value.bool (decide (o ≠ none)) := by cases o <;> simp
set_option maxHeartbeats 16000000 in
set_option maxRecDepth 20000 in
theorem rPrepare_spec {W0 : World} {H : Heap} {c cw : List Value} {m : Table} {x : Txn} {w : Work} (h0 : rTable H c m) (hx : fits x.Node ∧ fits x.Life ∧ fits x.Count) (hw : rWork H cw w) (hwn : w.ks.length ≤ 80) (hn : ∀ q ∈ m.Prep, q.Work.ks.length ≤ 80) (hpl : m.Prep.length ≤ 1000) :
    Ct Tryz.prog 46 #[.agg c.toArray, .agg x.cv.toArray, .agg cw.toArray] W0 H [] (fun r H' B => ∃ cs m' e, r = .tuple #[.agg cs.toArray, I e] ∧ rTable H' cs m' ∧ RPrep m x w m' e ∧ B = []) := by
  refine Ct.go (vs := [.agg c.toArray, .agg x.cv.toArray, .agg cw.toArray]) fun R => ?_
  have h00 := h0
  have hw0 := hw
  obtain ⟨s1, s2, rfl, hs1, hs2⟩ := h0
  obtain ⟨b1, c1, rfl, hc1, hd1⟩ := hs1.1.shape
  obtain ⟨b2, c2, rfl, hc2, hd2⟩ := hs2.1.shape
  obtain ⟨t1, t2, rfl, hrob, ht1, ht2⟩ := hw
  obtain ⟨b3, c3, rfl, hc3, hd3⟩ := ht1.1.shape
  obtain ⟨b4, c4, rfl, hc4, hd4⟩ := ht2.1.shape
  obtain ⟨x1, x2, x3⟩ := x
  dsimp only at hx
  have hwn16 : w.ks.length * 16 ≤ cap47 := by simp only [cap47]; omega
  have hn16 : ∀ q ∈ m.Prep, q.Work.ks.length * 16 ≤ cap47 := fun q hq => by have := hn q hq; simp only [cap47]; omega
  have hcap : (2000 : Nat) * 120 ≤ cap47 := by decide
  refine walk ?_
  refine ops_box rfl rfl fun p3 _ => ?_
  refine ops_box rfl rfl fun p4 _ => ?_
  refine ops_box rfl rfl fun p5 _ => ?_
  refine ops_alloc rfl fun p6 _ => ?_
  refine walk ?_
  refine ops_call rfl rfl (rAt_spec (x := ⟨x1, x2, x3⟩) h00) fun r1 H1 B hl1 ⟨hat, eB, eH⟩ => ?_
  subst eB eH
  rcases hat with ⟨rfl, hno⟩ | ⟨j0, hj0, rfl, hj⟩
  rotate_left
  · have hge : (0 : Int) ≤ (j0 : Int) := by omega
    refine walk ?_
    refine fin0 ?_
    exact ⟨_, m, 2, rfl, h00, .twice ⟨_, List.getElem_mem hj0, hj⟩, rfl⟩
  refine walk ?_
  refine ops_call rfl rfl (twice_spec hw0 hwn16) fun r2 H2 B hl2 ⟨q, er, hq, eB⟩ => ?_
  subst er eB
  refine walk ?_
  cases q with
  | true =>
    refine walk ?_
    refine fin0 ?_
    exact ⟨_, m, 1, rfl, RdOk.mono (R := rTable) hl2 h00, .range hno (fun hnd => by have := hq.2 hnd; cases this), rfl⟩
  | false =>
    have hnd := hq.1 rfl
    refine walk ?_
    refine ops_call rfl rfl (keys_spec (RdOk.mono (R := rWork) hl2 hw0) hwn16) fun r3 H3 B hl3 ⟨eB, eH⟩ => ?_
    subst eB eH
    refine ops_freeze r3 fun H4 hl4 hsk => ?_
    have hlen4 := hwn
    generalize hks : w.ks = l at hsk hlen4
    obtain ⟨b0, c0, rfl, hc0, hd0⟩ := hsk.1.shape
    have hl14 : H1.le H4 := hl2.trans hl4
    refine walk ?_
    refine ex_loop (σ := Nat × Heap) (fun u => u.1 ≤ l.length ∧ H4.le u.2 ∧ ∀ j (hj : j < l.length), j < u.1 → findL m.Prep l[j] = none ∧ (w.Take.length ≤ j ∨ findH m.Held l[j] = none)) (fun u => [(3, .pointer (some ⟨p3, 0, none⟩)), (4, .pointer (some ⟨p4, 0, none⟩)), (5, .pointer (some ⟨p5, 0, none⟩)), (6, .pointer (some ⟨p6, 0, none⟩)), (8, .slice b0 l.length c0), (9, I u.1)]) (fun u => u.2)
      (fun u => row p3 69 [.slice b1 m.Held.length c1, .slice b2 m.Prep.length c2] :: row p4 29 [I x1, I x2, I x3] :: row p5 32 [I w.Robot, .slice b3 w.Take.length c3, .slice b4 w.Drop.length c4] :: row p6 69 [nilS, nilS] :: R) (fun u => l.length - u.1) (0, H4) ⟨Nat.zero_le _, .refl _, fun j _ h => by omega⟩ fun ⟨j, HK⟩ ⟨hj0, hlK, hway⟩ K hL => ?_
    simp only at hj0 hlK hway
    dsimp only
    have hl1K : H1.le HK := hl14.trans hlK
    have hK0 := RdOk.mono (R := rTable) hl1K h00
    refine walk ?_
    refine ex_if rfl (fun hj => ?_) (fun hj => ?_)
    · have hj1 : j < l.length := by omega
      refine walk ?_
      refine ex_any 10 [row p3 69 [.slice b1 m.Held.length c1, .slice b2 m.Prep.length c2]] ?_
      refine stepY 0 ?_; refine stepY 1 ?_; refine stepY 2 ?_
      refine gny_ixp 3 rfl rfl rfl (hsk.mono hlK).1 hj1 fun b o cc hr hc => ?_
      obtain ⟨rfl, hsz⟩ := hc
      refine gny_ldHo 4 0 rfl rfl hr rfl rfl ?_
      refine gny_pcall 5 rfl rfl rfl (rHolder_spec hK0) ?_
      unfold rHolderV
      refine stepY 6 ?_
      refine gny_ext 7 rfl rfl rfl rfl ?_
      refine gny_ext 8 rfl rfl rfl rfl ?_
      refine stepY 9 ?_
      refine any_rest rfl ?_
      refine walk ?_
      refine ex_cutk (σ := Heap) (fun u => HK.le u) (fun u => [(11, .bool (findH m.Held l[j]).isSome), (13, .bool (findL m.Prep l[j]).isSome), (3, .pointer (some ⟨p3, 0, none⟩)), (4, .pointer (some ⟨p4, 0, none⟩)), (5, .pointer (some ⟨p5, 0, none⟩)), (6, .pointer (some ⟨p6, 0, none⟩)), (8, .slice b0 l.length c0), (9, I j)]) (fun u => u)
        (fun u => row p3 69 [.slice b1 m.Held.length c1, .slice b2 m.Prep.length c2] :: row p4 29 [I x1, I x2, I x3] :: row p5 32 [I w.Robot, .slice b3 w.Take.length c3, .slice b4 w.Drop.length c4] :: row p6 69 [nilS, nilS] :: R) (fun K2 hK2 => ?_) fun HJ hlJ => ?_
      · refine ex_any 11 [row p3 69 [.slice b1 m.Held.length c1, .slice b2 m.Prep.length c2]] ?_
        refine stepY 0 ?_; refine stepY 1 ?_; refine stepY 2 ?_
        refine gny_ixp 3 rfl rfl rfl (hsk.mono hlK).1 hj1 fun b o cc hr hc => ?_
        obtain ⟨rfl, hsz⟩ := hc
        refine gny_ldHo 4 0 rfl rfl hr rfl rfl ?_
        refine any_ca 5 9 rfl rfl rfl (rLocked_spec hK0 hn16) (fun r5 H5 B hl5 ⟨er, eB⟩ => ?_) (fun p9 _ => ?_)
        · subst er eB
          refine ⟨(by (repeat (first | exact Sub.refl _ | exact Sub.nil _ | (apply sub_pick; (repeat (first | exact Has.here | apply Has.there)); skip) | apply Sub.drop))), ?_⟩
          unfold rLockedV
          obtain ⟨ya, yb, yc, hy⟩ : ∃ ya yb yc, ((findL m.Prep l[j]).map (·.Txn)).getD zTxn = ⟨ya, yb, yc⟩ := ⟨_, _, _, rfl⟩
          rw [hy]
          refine stepY 6 ?_
          refine gny_ext 7 rfl rfl rfl rfl ?_
          refine gny_ext 8 rfl rfl rfl rfl ?_
          refine gny_alloc 9 rfl rfl fun p9 _ => ?_
          refine any_sta 10 rfl rfl rfl rfl (by simp) rfl ⟨(by (repeat (first | exact Sub.refl _ | exact Sub.nil _ | (apply sub_pick; (repeat (first | exact Has.here | apply Has.there)); skip) | apply Sub.drop))), ?_⟩
          refine any_rest rfl ?_
          refine walk ?_
          exact out_to hK2 H5 hl5
        · refine any_call 5 rfl rfl (rLocked_spec hK0 hn16) fun r5 H5 B hl5 ⟨er, eB⟩ => ?_
          subst er eB
          refine ⟨(by (repeat (first | exact Sub.refl _ | exact Sub.nil _ | (apply sub_pick; (repeat (first | exact Has.here | apply Has.there)); skip) | apply Sub.drop))), ?_⟩
          unfold rLockedV
          obtain ⟨ya, yb, yc, hy⟩ : ∃ ya yb yc, ((findL m.Prep l[j]).map (·.Txn)).getD zTxn = ⟨ya, yb, yc⟩ := ⟨_, _, _, rfl⟩
          rw [hy]
          refine stepY 6 ?_
          refine gny_ext 7 rfl rfl rfl rfl ?_
          refine gny_ext 8 rfl rfl rfl rfl ?_
          refine any_sta 10 rfl rfl rfl rfl (by simp) rfl ⟨(by (repeat (first | exact Sub.refl _ | exact Sub.nil _ | (apply sub_pick; (repeat (first | exact Has.here | apply Has.there)); skip) | apply Sub.drop))), ?_⟩
          refine any_rest rfl ?_
          refine walk ?_
          exact out_to hK2 H5 hl5
      rw [opt_some, opt_some]
      have hlt : (j : Int) < (w.Take.length : Int) ↔ ¬ w.Take.length ≤ j := by omega
      refine walkG ?_
      refine ex_if rfl (fun hq => ?_) (fun hq => ?_)
      · refine walk ?_
        refine fin0 ?_
        refine ⟨_, m, 140, rfl, RdOk.mono (R := rTable) (hl1K.trans hlJ) h00, .way hno hnd fun hw => ?_, rfl⟩
        subst hks
        obtain ⟨w1, w2⟩ := hw j hj1
        rcases hq with hq | ⟨hq1, hq2⟩
        · exact hq w1
        · rcases w2 with w2 | w2
          · omega
          · exact hq2 w2
      · refine walk ?_
        refine out_next hL (j + 1, HJ) ⟨by simp only; omega, hlK.trans hlJ, fun i hi hij => ?_⟩
        simp only at hij
        rcases Nat.lt_or_ge i j with h | h
        · exact hway i hi h
        · obtain rfl : i = j := by omega
          refine ⟨Classical.byContradiction fun h => hq (.inl h), ?_⟩
          by_cases h2 : w.Take.length ≤ i
          · exact .inl h2
          · exact .inr (Classical.byContradiction fun h => hq (.inr ⟨by omega, h⟩))
    clear hL
    obtain rfl : j = l.length := by omega
    have hwayR : WayR m w := fun i hi => by subst hks; exact hway i hi hi
    clear hway hsk
    have hs1K := hs1.mono hl1K
    have hs2K := hs2.mono hl1K
    have hwK := RdOk.mono (R := rWork) hl1K hw0
    refine walk ?_
    refine ex_loop (σ := Nat × Option Addr × Nat) (fun u => u.1 ≤ m.Prep.length ∧ ∀ q ∈ m.Prep.take u.1, ltK q.Txn.k (x1, x2, x3)) (fun u => [(3, .pointer (some ⟨p3, 0, none⟩)), (4, .pointer (some ⟨p4, 0, none⟩)), (5, .pointer (some ⟨p5, 0, none⟩)), (6, .pointer (some ⟨p6, 0, none⟩)), (14, .slice u.2.1 (m.Prep.take u.1).length u.2.2), (15, I u.1)]) (fun _ => HK)
      (fun u => ownS rRec 9 120 53 HK (.slice u.2.1 (m.Prep.take u.1).length u.2.2) (m.Prep.take u.1) :: row p3 69 [.slice b1 m.Held.length c1, .slice b2 m.Prep.length c2] :: row p4 29 [I x1, I x2, I x3] :: row p5 32 [I w.Robot, .slice b3 w.Take.length c3, .slice b4 w.Drop.length c4] :: row p6 69 [nilS, nilS] :: R) (fun u => m.Prep.length - u.1) (0, none, 0) ⟨Nat.zero_le _, by simp⟩ (hs0 := ?_) fun ⟨i, d, e⟩ ⟨hi0, hlt⟩ K hL => ?_
    rotate_left
    · simp only [List.take_zero, List.length_nil]
      refine Sub.trans ?_ ownS_nil
      (repeat (first | exact Sub.refl _ | exact Sub.nil _ | (apply sub_pick; (repeat (first | exact Has.here | apply Has.there)); skip) | apply Sub.drop))
    simp only at hi0 hlt
    dsimp only
    have hll : (m.Prep.take i).length = i := by rw [List.length_take]; omega
    by_cases hi : i < m.Prep.length
    · have hii : (i : Int) < (m.Prep.length : Int) := by omega
      have ht := List.take_succ_eq_append_getElem hi
      refine walk ?_
      refine ex_any 15 [row p3 69 [.slice b1 m.Held.length c1, .slice b2 m.Prep.length c2], row p4 29 [I x1, I x2, I x3]] ?_
      refine stepY 0 ?_; refine stepY 1 ?_; refine stepY 2 ?_; refine stepY 3 ?_; refine stepY 4 ?_; refine stepY 5 ?_; refine stepY 6 ?_; refine stepY 7 ?_; refine stepY 8 ?_
      refine gny_ixp 9 rfl rfl rfl hs2K.1 hi fun b o cc hr hc => ?_
      obtain ⟨u1, u2, u3, rfl, g1, g2, g3, g4, g5, g6, g7, g8⟩ := hc
      have hrt := rec_txn hr
      obtain ⟨ya, yb, yc, hy⟩ : ∃ ya yb yc, m.Prep[i].Txn = ⟨ya, yb, yc⟩ := ⟨_, _, _, rfl⟩
      rw [hy] at hrt
      refine stepY 10 ?_
      refine gny_ldNH 11 rfl rfl rfl hrt rfl ?_
      refine stepY 12 ?_
      refine gny_pcall 13 rfl rfl rfl (less_spec (x := (ya, yb, yc)) (y := (x1, x2, x3))) ?_
      refine stepY 14 ?_
      refine any_rest rfl ?_
      refine walk ?_
      refine ex_if rfl (fun hq => ?_) (fun hq => ?_)
      · refine walk ?_
        refine ops_ixp rfl rfl hs2K.1 hi fun b8 o8 cc8 hr8 hc8 => ?_
        obtain ⟨z1, z2, z3, rfl, k1, k2, k3, k4, k5, k6, k7, k8⟩ := hc8
        obtain ⟨zb1, zc1, rfl, _, _⟩ := k6.1.shape
        obtain ⟨zb2, zc2, rfl, _, _⟩ := k7.1.shape
        obtain ⟨zb3, zc3, rfl, _, _⟩ := k8.1.shape
        refine ops_ldNH rfl rfl hr8 rfl ?_
        refine walk ?_
        refine ops_app1 (y := m.Prep[i]) rfl rfl rfl ⟨_, _, _, rfl, k1, k2, k3, k4, k5, k6, k7, k8⟩ (by simp only [cap47]; omega) fun d3 e3 => ?_
        have hll2 : (m.Prep.take i).length + 1 = (m.Prep.take (i + 1)).length := by rw [List.length_take, List.length_take]; omega
        rw [hll2, ← ht]
        refine walk ?_
        refine out_next hL (i + 1, d3, e3) ⟨by simp only; omega, fun q hm => ?_⟩
        simp only at hm
        rw [ht, List.mem_append, List.mem_singleton] at hm
        rcases hm with hm | rfl
        · exact hlt q hm
        · rw [hy]; exact hq
      · have h4 : ∀ hl : i < m.Prep.length, ¬ ltK m.Prep[i].Txn.k (x1, x2, x3) := fun _ => by rw [hy]; exact hq
        refine walk ?_
        have fk2 : fits (2 : Int) := by unfold fits; omega
        refine ops_app1 (y := recW ⟨x1, x2, x3⟩ w) rfl rfl rfl ⟨_, _, nilS, rfl, fk2, hx.1, hx.2.1, hx.2.2, hrob, ht1.mono hl1K, ht2.mono hl1K, SlB.nil⟩ (by simp only [cap47]; omega) fun d3 e3 => ?_
        have hll3 : (m.Prep.take i).length + 1 = (m.Prep.take i ++ [recW ⟨x1, x2, x3⟩ w]).length := by simp
        rw [hll3]
        refine walk ?_
        refine ops_pure rfl rfl (op_slice (l := (i : Int)) (h := (m.Prep.length : Int)) rfl rfl rfl (by omega) (by omega) (by omega)) ?_
        have hsd := hs2K.1.slc (l := i) (h := m.Prep.length) hi0 (Nat.le_refl _)
        rw [List.take_of_length_le (by rw [List.length_drop]; omega)] at hsd
        rw [Int.toNat_natCast, Int.toNat_natCast]
        have hld : (m.Prep.drop i).length = m.Prep.length - i := List.length_drop
        refine ops_appS rfl rfl hsd (by rw [List.length_append, List.length_cons, List.length_nil]; simp only [cap47]; omega) fun d4 e4 => ?_
        rw [← List.length_append, List.append_assoc, List.singleton_append]
        refine walk ?_
        refine out_freeze (.slice d4 (m.Prep.take i ++ recW ⟨x1, x2, x3⟩ w :: m.Prep.drop i).length e4) fun H9 hl9 hsl => ?_
        refine fin0 ?_
        exact ⟨_, ⟨m.Held, m.Prep.take i ++ recW ⟨x1, x2, x3⟩ w :: m.Prep.drop i⟩, 0, rfl, ⟨_, _, rfl, hs1K.mono hl9, hsl⟩, .ok hno hnd hwayR i hi0 hlt h4, rfl⟩
    · have hii : ¬ (i : Int) < (m.Prep.length : Int) := by omega
      have h4 : ∀ hl : i < m.Prep.length, ¬ ltK m.Prep[i].Txn.k (x1, x2, x3) := fun h => absurd h hi
      refine walk ?_
      refine ex_any 15 [row p3 69 [.slice b1 m.Held.length c1, .slice b2 m.Prep.length c2], row p4 29 [I x1, I x2, I x3]] ?_
      refine stepY 0 ?_; refine stepY 1 ?_; refine stepY 2 ?_; refine stepY 3 ?_; refine stepY 4 ?_; refine stepY 5 ?_; refine stepY 6 ?_; refine stepY 7 ?_; refine stepY 8 ?_; refine stepY 9 ?_; refine stepY 10 ?_; refine stepY 11 ?_; refine stepY 12 ?_; refine stepY 13 ?_; refine stepY 14 ?_
      refine any_rest rfl ?_
      refine walk ?_
      have fk2 : fits (2 : Int) := by unfold fits; omega
      refine ops_app1 (y := recW ⟨x1, x2, x3⟩ w) rfl rfl rfl ⟨_, _, nilS, rfl, fk2, hx.1, hx.2.1, hx.2.2, hrob, ht1.mono hl1K, ht2.mono hl1K, SlB.nil⟩ (by simp only [cap47]; omega) fun d3 e3 => ?_
      have hll3 : (m.Prep.take i).length + 1 = (m.Prep.take i ++ [recW ⟨x1, x2, x3⟩ w]).length := by simp
      rw [hll3]
      refine walk ?_
      refine ops_pure rfl rfl (op_slice (l := (i : Int)) (h := (m.Prep.length : Int)) rfl rfl rfl (by omega) (by omega) (by omega)) ?_
      have hsd := hs2K.1.slc (l := i) (h := m.Prep.length) hi0 (Nat.le_refl _)
      rw [List.take_of_length_le (by rw [List.length_drop]; omega)] at hsd
      rw [Int.toNat_natCast, Int.toNat_natCast]
      have hld : (m.Prep.drop i).length = m.Prep.length - i := List.length_drop
      refine ops_appS rfl rfl hsd (by rw [List.length_append, List.length_cons, List.length_nil]; simp only [cap47]; omega) fun d4 e4 => ?_
      rw [← List.length_append, List.append_assoc, List.singleton_append]
      refine walk ?_
      refine out_freeze (.slice d4 (m.Prep.take i ++ recW ⟨x1, x2, x3⟩ w :: m.Prep.drop i).length e4) fun H9 hl9 hsl => ?_
      refine fin0 ?_
      exact ⟨_, ⟨m.Held, m.Prep.take i ++ recW ⟨x1, x2, x3⟩ w :: m.Prep.drop i⟩, 0, rfl, ⟨_, _, rfl, hs1K.mono hl9, hsl⟩, .ok hno hnd hwayR i hi0 hlt h4, rfl⟩
end Go.Proofs.YtjgjcakeimkkdaaGreatDoor
