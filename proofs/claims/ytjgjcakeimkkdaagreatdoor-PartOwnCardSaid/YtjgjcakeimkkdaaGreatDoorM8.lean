/- The reference's Apply, Expire. The table and the reference's go together. No program in sight. The reference's Load. Loading: the table and the reference. No program in sight. -/
import Derived.Test.YtjgjcakeimkkdaaGreatDoorM7
set_option linter.unusedVariables false
set_option linter.unusedSimpArgs false
namespace Go.Proofs.YtjgjcakeimkkdaaGreatDoor
open Go Go.Sx Go.Proofs
inductive RApply (m : Table) (x : Txn) (yes : Bool) : Table → Int → Prop
  | none (h : ∀ q ∈ m.Prep, q.Txn ≠ x) : RApply m x yes m 4
  | ok (j : Nat) (hj : j < m.Prep.length) (hx : m.Prep[j].Txn = x) : RApply m x yes ⟨if yes = true then takeR m.Prep[j].Work.Robot m.Prep[j].Work.Take (dropR m.Prep[j].Work.Robot m.Prep[j].Work.Drop m.Held) else m.Held, m.Prep.take j ++ m.Prep.drop (j + 1)⟩ 0
theorem holdL_len {k : ByteArray} {r : Int} : ∀ {l : List Hold} {put : Bool}, (holdL k r put l).length ≤ l.length + (if put = true then 0 else 1)
  | [], put => by cases put <;> simp [holdL]
  | h :: t, put => by
    have ih := holdL_len (k := k) (r := r) (l := t) (put := put || decide (SLt k h.Key))
    simp only [holdL, List.length_append, List.length_cons]
    have h1 : (if h.Key = k then ([] : List Hold) else [h]).length ≤ 1 := by split <;> simp
    cases put with
    | true =>
      simp only [Bool.true_or, if_true, Bool.true_eq_false, false_and, if_false, List.length_nil] at ih ⊢
      omega
    | false =>
      by_cases hs : SLt k h.Key
      · simp only [hs, decide_true, Bool.false_or, if_true, and_self, List.length_cons, List.length_nil] at ih ⊢
        simp only [Bool.false_eq_true, if_false]
        omega
      · simp only [hs, decide_false, Bool.false_or, and_false, if_false, List.length_nil] at ih ⊢
        simp only [Bool.false_eq_true, if_false] at ih ⊢
        omega
def dropStep (r : Int) (l : List Hold) (k : ByteArray) : List Hold := if (findH l k).isSome = true ∧ (match findH l k with | some h => h.Robot | none => 0) = r then holdL k 0 true l else l
def holderR (l : List Hold) (k : ByteArray) : Int := ((findH l k).map (·.Robot)).getD 0
theorem rHolderV_eq {l : List Hold} {k : ByteArray} : rHolderV l k = .tuple #[I (holderR l k), .bool (decide ((findH l k).isSome = true))] := by
  unfold rHolderV holderR
  cases findH l k <;> rfl
theorem dropStep_eq {r : Int} {l : List Hold} {k : ByteArray} : dropStep r l k = if (findH l k).isSome = true ∧ holderR l k = r then holdL k 0 true l else l := by
  unfold dropStep holderR
  cases findH l k <;> rfl
theorem dropR_cons {r : Int} {k : ByteArray} {ks : List ByteArray} {l : List Hold} : dropR r (k :: ks) l = dropR r ks (dropStep r l k) := rfl
theorem takeR_cons {r : Int} {k : ByteArray} {ks : List ByteArray} {l : List Hold} : takeR r (k :: ks) l = takeR r ks (holdL k r false l) := rfl
theorem slr_takeG {α : Type} {R : Rd α} {sz : Nat} [RdOk R sz] {H : Heap} {b0 : Option Addr} {c0 n j : Nat} {l : List α} (h : SlR R sz H (.slice b0 n c0) l) (hj : j ≤ l.length) : SlR R sz H (.slice b0 j c0) (l.take j) := by
  have h := h.slc (l := 0) (h := j) (Nat.zero_le _) hj
  have e0 : Sx.slc b0 c0 0 j sz = .slice b0 j c0 := by unfold Sx.slc; cases b0 <;> simp [Addr.add]
  rw [e0] at h
  simpa using h
set_option maxHeartbeats 16000000 in
set_option maxRecDepth 20000 in
theorem rApply_spec {W0 : World} {H : Heap} {c : List Value} {m : Table} {x : Txn} {yes : Bool} (h0 : rTable H c m) (hn : ∀ q ∈ m.Prep, q.Work.ks.length ≤ 80) (hpl : m.Prep.length ≤ 1000) (hhl : m.Held.length ≤ 90000) :
    Ct Tryz.prog 49 #[.agg c.toArray, .agg x.cv.toArray, .bool yes] W0 H [] (fun r H' B => ∃ cs m' e, r = .tuple #[.agg cs.toArray, I e] ∧ rTable H' cs m' ∧ RApply m x yes m' e ∧ B = []) := by
  refine Ct.go (vs := [.agg c.toArray, .agg x.cv.toArray, .bool yes]) fun R => ?_
  have h00 := h0
  obtain ⟨s1, s2, rfl, hs1, hs2⟩ := h0
  obtain ⟨b1, c1, rfl, hc1, hd1⟩ := hs1.1.shape
  obtain ⟨b2, c2, rfl, hc2, hd2⟩ := hs2.1.shape
  obtain ⟨x1, x2, x3⟩ := x
  have hcl : ∀ n, n ≤ 2000 → n * 120 ≤ cap47 := fun n h => Nat.le_trans (Nat.mul_le_mul_right 120 h) (by decide)
  refine walk ?_
  refine ops_box rfl rfl fun p3 _ => ?_
  refine ops_box rfl rfl fun p4 _ => ?_
  refine ops_alloc rfl fun p6 _ => ?_
  refine walk ?_
  refine ops_call rfl rfl (rAt_spec (x := ⟨x1, x2, x3⟩) h00) fun r1 H1 B hl1 ⟨hat, eB, eH⟩ => ?_
  subst eB eH
  rcases hat with ⟨rfl, hno⟩ | ⟨j0, hj0, rfl, hj⟩
  · refine walk ?_
    refine fin0 ?_
    exact ⟨_, m, 4, rfl, h00, .none hno, rfl⟩
  have hge : ¬ (j0 : Int) < 0 := by omega
  have hnq := hn _ (List.getElem_mem hj0)
  refine walk ?_
  refine ops_ixp rfl rfl hs2.1 hj0 fun b o cc hr hc => ?_
  obtain ⟨t1, t2, t3, rfl, g1, g2, g3, g4, g5, g6, g7, g8⟩ := hc
  have hrw := rec_work hr
  have hap : ∀ m' : Table, m' = ⟨if yes = true then takeR m.Prep[j0].Work.Robot m.Prep[j0].Work.Take (dropR m.Prep[j0].Work.Robot m.Prep[j0].Work.Drop m.Held) else m.Held, m.Prep.take j0 ++ m.Prep.drop (j0 + 1)⟩ → RApply m ⟨x1, x2, x3⟩ yes m' 0 := fun m' e => by subst e; exact .ok j0 hj0 hj
  generalize m.Prep[j0].Work = w at hrw g5 g6 g7 hnq hap
  obtain ⟨wr, wt, wd⟩ := w
  dsimp only at hrw g5 g6 g7 hnq hap
  obtain ⟨sb1, sc1, rfl, hsc1, hsd1⟩ := g6.1.shape
  obtain ⟨sb2, sc2, rfl, hsc2, hsd2⟩ := g7.1.shape
  refine walk ?_
  refine ops_ldNH rfl rfl hrw rfl ?_
  refine ops_alloc rfl fun p9 _ => ?_
  refine walk ?_
  refine ops_mk0 (w := 120) rRec rfl fun ba => ?_
  refine walk ?_
  have htk := slr_takeG (j := j0) hs2.1 (by omega)
  have hlt : (m.Prep.take j0).length = j0 := by rw [List.length_take]; omega
  refine ops_appS rfl rfl (show SlR rRec 9 H1 (.slice b2 j0 c2) (m.Prep.take j0) from htk) (hcl _ (by rw [List.length_nil, hlt]; omega)) fun d1 e1 => ?_
  rw [List.nil_append, List.length_nil, Nat.zero_add]
  have hi1 : ((j0 : Int) + 1) = ((j0 + 1 : Nat) : Int) := by omega
  refine walk ?_
  refine ops_pure rfl rfl (op_slice (l := (j0 : Int) + 1) (h := (m.Prep.length : Int)) rfl rfl rfl (by omega) (by omega) (by omega)) ?_
  have hsd := hs2.1.slc (l := j0 + 1) (h := m.Prep.length) (by omega) (Nat.le_refl _)
  rw [List.take_of_length_le (by rw [List.length_drop]; omega)] at hsd
  rw [hi1, Int.toNat_natCast, Int.toNat_natCast]
  have hld : (m.Prep.drop (j0 + 1)).length = m.Prep.length - (j0 + 1) := List.length_drop
  refine ops_appS rfl rfl hsd (hcl _ (by rw [hlt, hld]; omega)) fun d2 e2 => ?_
  rw [← List.length_append]
  refine ops_freeze (.slice d2 (m.Prep.take j0 ++ m.Prep.drop (j0 + 1)).length e2) fun H2 hl2 hsp => ?_
  generalize m.Prep.take j0 ++ m.Prep.drop (j0 + 1) = pr at hsp hap ⊢
  refine walk ?_
  cases yes with
  | false =>
    have hap' := hap ⟨m.Held, pr⟩ (by simp)
    refine ex_loop (σ := Unit) (fun _ => True) (fun _ => [(2, .bool false), (3, .pointer (some ⟨p3, 0, none⟩)), (6, .pointer (some ⟨p6, 0, none⟩)), (9, .pointer (some ⟨p9, 0, none⟩)), (11, I 0)]) (fun _ => H2)
      (fun _ => row p3 69 [.slice b1 m.Held.length c1, .slice d2 pr.length e2] :: row p9 32 [I wr, .slice sb1 wt.length sc1, .slice sb2 wd.length sc2] :: row p6 69 [nilS, nilS] :: R) (fun _ => 0) () trivial fun _ _ K hL => ?_
    refine walkG ?_
    rw [decide_eq_false (p := (0 : Int) < (wd.length : Int) ∧ false = true) (fun h => Bool.noConfusion h.2)]
    refine walk ?_
    refine ex_loop (σ := Unit) (fun _ => True) (fun _ => [(2, .bool false), (3, .pointer (some ⟨p3, 0, none⟩)), (6, .pointer (some ⟨p6, 0, none⟩)), (9, .pointer (some ⟨p9, 0, none⟩)), (14, I 0)]) (fun _ => H2)
      (fun _ => row p3 69 [.slice b1 m.Held.length c1, .slice d2 pr.length e2] :: row p9 32 [I wr, .slice sb1 wt.length sc1, .slice sb2 wd.length sc2] :: row p6 69 [nilS, nilS] :: R) (fun _ => 0) () trivial fun _ _ K2 hL2 => ?_
    refine walkG ?_
    rw [decide_eq_false (p := (0 : Int) < (wt.length : Int) ∧ false = true) (fun h => Bool.noConfusion h.2)]
    refine walk ?_
    refine fin0 ?_
    exact ⟨_, ⟨m.Held, pr⟩, 0, rfl, ⟨_, _, rfl, hs1.mono hl2, hsp⟩, hap', rfl⟩
  | true =>
    have hap' := fun m' (e : m' = ⟨takeR wr wt (dropR wr wd m.Held), pr⟩) => hap m' (e.trans (by rw [if_pos rfl]))
    refine ex_loop (σ := Nat × List Hold × (Option Addr × Nat) × (Option Addr × Nat) × Heap) (fun u => u.1 ≤ wd.length ∧ H2.le u.2.2.2.2 ∧ dropR wr (wd.drop u.1) u.2.1 = dropR wr wd m.Held ∧ u.2.1.length ≤ m.Held.length ∧ SlB rHold 2 24 u.2.2.2.2 (.slice u.2.2.1.1 u.2.1.length u.2.2.1.2) u.2.1 ∧ SlB rRec 9 120 u.2.2.2.2 (.slice u.2.2.2.1.1 pr.length u.2.2.2.1.2) pr)
      (fun u => [(2, .bool true), (3, .pointer (some ⟨p3, 0, none⟩)), (6, .pointer (some ⟨p6, 0, none⟩)), (9, .pointer (some ⟨p9, 0, none⟩)), (11, I u.1)]) (fun u => u.2.2.2.2)
      (fun u => row p3 69 [.slice u.2.2.1.1 u.2.1.length u.2.2.1.2, .slice u.2.2.2.1.1 pr.length u.2.2.2.1.2] :: row p9 32 [I wr, .slice sb1 wt.length sc1, .slice sb2 wd.length sc2] :: row p6 69 [nilS, nilS] :: R) (fun u => wd.length - u.1)
      (0, m.Held, (b1, c1), (d2, e2), H2) ⟨Nat.zero_le _, .refl _, rfl, Nat.le_refl _, hs1.mono hl2, hsp⟩ fun ⟨i, hl, ⟨f1, f2⟩, ⟨f3, f4⟩, HK⟩ ⟨hi0, hlK, hF, hhl', hr1, hr2⟩ K hL => ?_
    simp only at hi0 hlK hF hhl' hr1 hr2
    dsimp only
    refine walkG ?_
    refine ex_if rfl (fun hi => ?_) (fun hi => ?_)
    · have hi1 : i < wd.length := by have := hi.1; omega
      have hdr := List.drop_eq_getElem_cons hi1
      rw [hdr, dropR_cons] at hF
      have hT : rTable HK [.slice f1 hl.length f2, .slice f3 pr.length f4] ⟨hl, pr⟩ := ⟨_, _, rfl, hr1, hr2⟩
      have hg7 := g7.mono (hl2.trans hlK)
      refine walk ?_
      refine ex_any 11 [row p3 69 [.slice f1 hl.length f2, .slice f3 pr.length f4], row p9 32 [I wr, .slice sb1 wt.length sc1, .slice sb2 wd.length sc2]] ?_
      refine stepY 0 ?_; refine stepY 1 ?_; refine stepY 2 ?_; refine stepY 3 ?_
      refine gny_ixp 4 rfl rfl rfl hg7.1 hi1 fun b7 o7 cc7 hr7 hc7 => ?_
      obtain ⟨rfl, hsz⟩ := hc7
      refine gny_ldHo 5 0 rfl rfl hr7 rfl rfl ?_
      refine gny_pcall 6 rfl rfl rfl (rHolder_spec hT) ?_
      rw [rHolderV_eq]
      dsimp only
      refine stepY 7 ?_
      refine gny_ext 8 rfl rfl rfl rfl ?_
      refine gny_ext 9 rfl rfl rfl rfl ?_
      refine stepY 10 ?_
      refine any_rest rfl ?_
      have hst := dropStep_eq (r := wr) (l := hl) (k := wd[i])
      generalize holderR hl wd[i] = rv at hst ⊢
      refine walkG ?_
      refine ex_if rfl (fun hq => ?_) (fun hq => ?_)
      · rw [if_pos hq] at hst
        rw [hst] at hF
        have hlen := holdL_len (k := wd[i]) (r := 0) (l := hl) (put := true)
        rw [if_pos rfl, Nat.add_zero] at hlen
        refine ex_any 7 [row p3 69 [.slice f1 hl.length f2, .slice f3 pr.length f4], row p9 32 [I wr, .slice sb1 wt.length sc1, .slice sb2 wd.length sc2]] ?_
        refine stepY 0 ?_; refine stepY 1 ?_; refine stepY 2 ?_; refine stepY 3 ?_
        refine gny_ixp 4 rfl rfl rfl hg7.1 hi1 fun b8 o8 cc8 hr8 hc8 => ?_
        obtain ⟨rfl, hsz8⟩ := hc8
        refine gny_ldHo 5 0 rfl rfl hr8 rfl rfl ?_
        refine gny_call 6 rfl rfl rfl (rHold_spec (k := wd[i]) (r := 0) (yes := false) hT hsz fits0 (by simp only; omega)) fun r9 H9 B hl9 ⟨cs, er, hcs, eB⟩ => ?_
        subst er eB
        refine ⟨(by (repeat (first | exact Sub.refl _ | exact Sub.nil _ | (apply sub_pick; (repeat (first | exact Has.here | apply Has.there)); skip) | apply Sub.drop))), ?_⟩
        obtain ⟨q1, q2, rfl, hq1, hq2⟩ := hcs
        obtain ⟨qb1, qc1, rfl, _, _⟩ := hq1.1.shape
        obtain ⟨qb2, qc2, rfl, _, _⟩ := hq2.1.shape
        refine any_rest rfl ?_
        refine walk ?_
        exact out_next hL (i + 1, holdL wd[i] 0 true hl, (qb1, qc1), (qb2, qc2), H9) ⟨by simp only; omega, hlK.trans hl9, hF, by simp only; omega, hq1, hq2⟩
      · rw [if_neg hq] at hst
        rw [hst] at hF
        refine walk ?_
        exact out_next hL (i + 1, hl, (f1, f2), (f3, f4), HK) ⟨by simp only; omega, hlK, hF, hhl', hr1, hr2⟩
    clear hL
    have hie : i = wd.length := by
      refine Classical.byContradiction fun h => hi ⟨by omega, rfl⟩
    subst hie
    rw [List.drop_length] at hF
    change hl = dropR wr wd m.Held at hF
    rw [← hF] at hap'
    have hbd : hl.length ≤ 90000 := Nat.le_trans hhl' hhl
    have hwt : wt.length ≤ 80 := by
      have := hnq
      simp only [Work.ks, List.length_append] at this
      omega
    clear hF hi
    refine walk ?_
    refine ex_loop (σ := Nat × List Hold × (Option Addr × Nat) × (Option Addr × Nat) × Heap) (fun u => u.1 ≤ wt.length ∧ HK.le u.2.2.2.2 ∧ takeR wr (wt.drop u.1) u.2.1 = takeR wr wt hl ∧ u.2.1.length ≤ 90000 + u.1 ∧ SlB rHold 2 24 u.2.2.2.2 (.slice u.2.2.1.1 u.2.1.length u.2.2.1.2) u.2.1 ∧ SlB rRec 9 120 u.2.2.2.2 (.slice u.2.2.2.1.1 pr.length u.2.2.2.1.2) pr)
      (fun u => [(2, .bool true), (3, .pointer (some ⟨p3, 0, none⟩)), (6, .pointer (some ⟨p6, 0, none⟩)), (9, .pointer (some ⟨p9, 0, none⟩)), (14, I u.1)]) (fun u => u.2.2.2.2)
      (fun u => row p3 69 [.slice u.2.2.1.1 u.2.1.length u.2.2.1.2, .slice u.2.2.2.1.1 pr.length u.2.2.2.1.2] :: row p9 32 [I wr, .slice sb1 wt.length sc1, .slice sb2 wd.length sc2] :: row p6 69 [nilS, nilS] :: R) (fun u => wt.length - u.1)
      (0, hl, (f1, f2), (f3, f4), HK) ⟨Nat.zero_le _, .refl _, rfl, hbd, hr1, hr2⟩ fun ⟨i, hm, ⟨k1, k2⟩, ⟨k3, k4⟩, HJ⟩ ⟨hi0, hlJ, hF, hml, hn1, hn2⟩ K hL => ?_
    simp only at hi0 hlJ hF hml hn1 hn2
    dsimp only
    refine walkG ?_
    refine ex_if rfl (fun hi => ?_) (fun hi => ?_)
    · have hi1 : i < wt.length := by have := hi.1; omega
      have hdr := List.drop_eq_getElem_cons hi1
      rw [hdr, takeR_cons] at hF
      have hT : rTable HJ [.slice k1 hm.length k2, .slice k3 pr.length k4] ⟨hm, pr⟩ := ⟨_, _, rfl, hn1, hn2⟩
      have hg6 := g6.mono (hl2.trans (hlK.trans hlJ))
      have hlen := holdL_len (k := wt[i]) (r := wr) (l := hm) (put := false)
      rw [if_neg Bool.noConfusion] at hlen
      refine walk ?_
      refine ex_any 9 [row p3 69 [.slice k1 hm.length k2, .slice k3 pr.length k4], row p9 32 [I wr, .slice sb1 wt.length sc1, .slice sb2 wd.length sc2]] ?_
      refine stepY 0 ?_; refine stepY 1 ?_; refine stepY 2 ?_; refine stepY 3 ?_
      refine gny_ixp 4 rfl rfl rfl hg6.1 hi1 fun b8 o8 cc8 hr8 hc8 => ?_
      obtain ⟨rfl, hsz8⟩ := hc8
      refine gny_ldHo 5 0 rfl rfl hr8 rfl rfl ?_
      refine stepY 6 ?_; refine stepY 7 ?_
      refine gny_call 8 rfl rfl rfl (rHold_spec (k := wt[i]) (r := wr) (yes := true) hT hsz8 g5 (by simp only; omega)) fun r9 H9 B hl9 ⟨cs, er, hcs, eB⟩ => ?_
      subst er eB
      refine ⟨(by (repeat (first | exact Sub.refl _ | exact Sub.nil _ | (apply sub_pick; (repeat (first | exact Has.here | apply Has.there)); skip) | apply Sub.drop))), ?_⟩
      obtain ⟨q1, q2, rfl, hq1, hq2⟩ := hcs
      obtain ⟨qb1, qc1, rfl, _, _⟩ := hq1.1.shape
      obtain ⟨qb2, qc2, rfl, _, _⟩ := hq2.1.shape
      refine any_rest rfl ?_
      refine walk ?_
      exact out_next hL (i + 1, holdL wt[i] wr false hm, (qb1, qc1), (qb2, qc2), H9) ⟨by simp only; omega, hlJ.trans hl9, hF, by simp only; omega, hq1, hq2⟩
    clear hL
    have hie : i = wt.length := by
      refine Classical.byContradiction fun h => hi ⟨by omega, rfl⟩
    subst hie
    rw [List.drop_length] at hF
    change hm = takeR wr wt hl at hF
    refine walk ?_
    refine fin0 ?_
    exact ⟨_, ⟨hm, pr⟩, 0, rfl, ⟨_, _, rfl, hn1, hn2⟩, hap' _ (by rw [hF]), rfl⟩
set_option maxHeartbeats 16000000 in
set_option maxRecDepth 20000 in
theorem rExpire_spec {W0 : World} {H : Heap} {c : List Value} {m : Table} {now : Int} (h0 : rTable H c m) (hhl : m.Held.length ≤ 90000) :
    Ct Tryz.prog 92 #[.agg c.toArray, I now] W0 H [] (fun r H' B => ∃ cs v, r = .tuple #[.agg cs.toArray, v] ∧ rTable H' cs ⟨m.Held.filter fun h => !goneK now h.Key, m.Prep⟩ ∧ SlB rStr 1 16 H' v ((m.Held.filter fun h => goneK now h.Key).map (·.Key)) ∧ B = []) := by
  refine Ct.go (vs := [.agg c.toArray, I now]) fun R => ?_
  have h00 := h0
  obtain ⟨s1, s2, rfl, hs1, hs2⟩ := h0
  obtain ⟨b1, c1, rfl, hc1, hd1⟩ := hs1.1.shape
  obtain ⟨b2, c2, rfl, hc2, hd2⟩ := hs2.1.shape
  obtain ⟨l, pr⟩ := m
  dsimp only at hs1 hs2 hc1 hc2 hhl
  dsimp only
  have hcl : ∀ n, n ≤ 100000 → n * 24 ≤ cap47 := fun n h => Nat.le_trans (Nat.mul_le_mul_right 24 h) (by decide)
  have hcl2 : ∀ n, n ≤ 100000 → n * 16 ≤ cap47 := fun n h => Nat.le_trans (Nat.mul_le_mul_right 16 h) (by decide)
  refine walk ?_
  refine ops_box rfl rfl fun p2 _ => ?_
  refine ops_alloc rfl fun p4 _ => ?_
  refine walk ?_
  refine ex_loop (σ := Nat × (Option Addr × Nat) × (Option Addr × Nat)) (fun u => u.1 ≤ l.length) (fun u => [(1, I now), (2, .pointer (some ⟨p2, 0, none⟩)), (4, .pointer (some ⟨p4, 0, none⟩)), (6, .slice u.2.1.1 ((l.take u.1).filter fun h => !goneK now h.Key).length u.2.1.2), (7, .slice u.2.2.1 (((l.take u.1).filter fun h => goneK now h.Key).map (·.Key)).length u.2.2.2), (8, I u.1)]) (fun _ => H)
    (fun u => ownS rHold 2 24 109 H (.slice u.2.1.1 ((l.take u.1).filter fun h => !goneK now h.Key).length u.2.1.2) ((l.take u.1).filter fun h => !goneK now h.Key) :: ownS rStr 1 16 9 H (.slice u.2.2.1 (((l.take u.1).filter fun h => goneK now h.Key).map (·.Key)).length u.2.2.2) (((l.take u.1).filter fun h => goneK now h.Key).map (·.Key)) :: row p2 69 [.slice b1 l.length c1, .slice b2 pr.length c2] :: row p4 69 [nilS, nilS] :: R) (fun u => l.length - u.1) (0, (none, 0), (none, 0)) (Nat.zero_le _) (hs0 := ?_) fun ⟨i, ⟨d, e⟩, ⟨d', e'⟩⟩ hi0 K hL => ?_
  rotate_left
  · simp only [List.take_zero, List.filter_nil, List.map_nil, List.length_nil]
    refine Sub.trans ?_ (Sub.trans (ownS_nil (R := rHold) (sz := 2) (w := 24) (T := 109) (H := H)) (Sub.cons ownS_nil))
    (repeat (first | exact Sub.refl _ | exact Sub.nil _ | (apply sub_pick; (repeat (first | exact Has.here | apply Has.there)); skip) | apply Sub.drop))
  simp only at hi0
  dsimp only
  have hl1 : ((l.take i).filter fun h => !goneK now h.Key).length ≤ i := by
    have := List.length_filter_le (fun h : Hold => !goneK now h.Key) (l.take i)
    rw [List.length_take] at this; omega
  have hl2 : (((l.take i).filter fun h => goneK now h.Key).map (·.Key)).length ≤ i := by
    have := List.length_filter_le (fun h : Hold => goneK now h.Key) (l.take i)
    rw [List.length_take] at this; rw [List.length_map]; omega
  refine walk ?_
  refine ex_if rfl (fun hi => ?_) (fun hi => ?_)
  · have hi1 : i < l.length := by omega
    have ht := List.take_succ_eq_append_getElem hi1
    refine walk ?_
    refine ops_ixp rfl rfl hs1.1 hi1 fun b o cc hr hc => ?_
    obtain ⟨rfl, hsz, hfr⟩ := hc
    have hrd := rRead_spec (W0 := W0) (H := H) (l := l[i].Key.data.toList) (by rw [← Lib.size_eq]; exact hsz)
    rw [sb_self] at hrd
    refine walk ?_
    refine ops_call rfl rfl hrd fun r4 H4 B hl4 ⟨hrr, eB, eH⟩ => ?_
    subst eB eH
    obtain ⟨xa, xb, xt, ok, rfl, hkk⟩ := hrr.form
    refine walk ?_
    refine ops_alloc rfl fun p9 _ => ?_
    refine walk ?_
    have hfa : ∀ p : Hold → Bool, (l.take (i + 1)).filter p = (l.take i).filter p ++ if p l[i] = true then [l[i]] else [] := fun p => by
      rw [ht, List.filter_append]
      by_cases h : p l[i] = true <;> simp [h]
    have hn := hfa fun h => !goneK now h.Key
    have hg := hfa fun h => goneK now h.Key
    rcases hkk with ⟨rfl, hkk⟩ | ⟨rfl, hno, rfl, rfl, rfl⟩
    · have hy := goneK_yes (now := now) hkk
      refine walkG ?_
      refine ex_if rfl (fun hq => ?_) (fun hq => ?_)
      · have hgo := hy.2 hq
        rw [hgo, if_neg (by decide), List.append_nil] at hn
        rw [hgo, if_pos rfl] at hg
        have hg2 := congrArg (List.map (·.Key)) hg
        rw [List.map_append, List.map_cons, List.map_nil] at hg2
        refine walk ?_
        refine ops_ixp rfl rfl hs1.1 hi1 fun b8 o8 cc8 hr8 hc8 => ?_
        obtain ⟨rfl, hsz8, hfr8⟩ := hc8
        refine walk ?_
        refine ops_app1 (y := l[i].Key) rfl rfl rfl ⟨rfl, hsz⟩ (hcl2 _ (by omega)) fun d3 e3 => ?_
        have hll : (((l.take i).filter fun h => goneK now h.Key).map (·.Key)).length + 1 = (((l.take (i + 1)).filter fun h => goneK now h.Key).map (·.Key)).length := by rw [hg2]; simp
        rw [hll, ← hg2, ← hn]
        refine walk ?_
        exact out_next hL (i + 1, (d, e), (d3, e3)) (by simp only; omega)
      · have hgo : goneK now l[i].Key = false := by cases hb : goneK now l[i].Key with | true => exact absurd (hy.1 hb) hq | false => rfl
        rw [hgo, if_pos (by decide)] at hn
        rw [hgo, if_neg (by decide), List.append_nil] at hg
        refine walk ?_
        refine ops_ixp rfl rfl hs1.1 hi1 fun b8 o8 cc8 hr8 hc8 => ?_
        obtain ⟨rfl, hsz8, hfr8⟩ := hc8
        change HRow H4 b8 o8 [.string l[i].Key, I l[i].Robot] at hr8
        refine ops_ldNH rfl rfl hr8 rfl ?_
        refine walk ?_
        refine ops_app1 (y := l[i]) rfl rfl rfl ⟨rfl, hsz8, hfr8⟩ (hcl _ (by omega)) fun d3 e3 => ?_
        have hll : ((l.take i).filter fun h => !goneK now h.Key).length + 1 = ((l.take (i + 1)).filter fun h => !goneK now h.Key).length := by rw [hn]; simp
        rw [hll, ← hn, ← hg]
        refine walk ?_
        exact out_next hL (i + 1, (d3, e3), (d', e')) (by simp only; omega)
    · have hgo := goneK_no (now := now) hno
      rw [hgo, if_pos (by decide)] at hn
      rw [hgo, if_neg (by decide), List.append_nil] at hg
      refine walk ?_
      refine ops_ixp rfl rfl hs1.1 hi1 fun b8 o8 cc8 hr8 hc8 => ?_
      obtain ⟨rfl, hsz8, hfr8⟩ := hc8
      change HRow H4 b8 o8 [.string l[i].Key, I l[i].Robot] at hr8
      refine ops_ldNH rfl rfl hr8 rfl ?_
      refine walk ?_
      refine ops_app1 (y := l[i]) rfl rfl rfl ⟨rfl, hsz8, hfr8⟩ (hcl _ (by omega)) fun d3 e3 => ?_
      have hll : ((l.take i).filter fun h => !goneK now h.Key).length + 1 = ((l.take (i + 1)).filter fun h => !goneK now h.Key).length := by rw [hn]; simp
      rw [hll, ← hn, ← hg]
      refine walk ?_
      exact out_next hL (i + 1, (d3, e3), (d', e')) (by simp only; omega)
  · clear hL
    obtain rfl : i = l.length := by omega
    rw [List.take_length]
    refine walk ?_
    refine out_freeze (.slice d (l.filter fun h => !goneK now h.Key).length e) fun H7 hl7 hsl => ?_
    refine out_freeze (.slice d' ((l.filter fun h => goneK now h.Key).map (·.Key)).length e') fun H8 hl8 hsm => ?_
    refine fin0 ?_
    exact ⟨_, _, rfl, ⟨_, _, rfl, hsl.mono hl8, hs2.mono (hl7.trans hl8)⟩, hsm, rfl⟩
end Go.Proofs.YtjgjcakeimkkdaaGreatDoor

set_option linter.unusedVariables false
set_option linter.unusedSimpArgs false
namespace Go.Proofs.YtjgjcakeimkkdaaGreatDoor
open Go Go.Sx Go.Proofs
structure Rel (s : TS) (m : Table) : Prop where
  h : HSpec m.Held (fun k => mget k s.held)
  p : PSpec m.Prep (gW s)
theorem Rel.held {n : Nat} {s : TS} {m : Table} (I : Inv n s) (r : Rel s m) : holdsL s = m.Held := (holdsL_spec I.hd).uniq r.h
theorem Rel.prep {n : Nat} {s : TS} {m : Table} (I : Inv n s) (r : Rel s m) : prepL s = m.Prep := (prepL_spec I.wd).uniq r.p
theorem rel0 : Rel ⟨[], [], []⟩ ⟨[], []⟩ := ⟨⟨by simp, fun h => by simp [mget]⟩, ⟨by simp, fun q => by simp [gW, mget]⟩⟩
theorem Rel.recs {s : TS} {m : Table} (r : Rel s m) {q : Rec} (hq : q ∈ m.Prep) : gW s q.Txn.k = some q.Work := by
  obtain ⟨w, h1, h2⟩ := (r.p.mem q).1 hq
  have : w = q.Work := by rw [h2]; rfl
  rw [← this]; exact h1
theorem Rel.lock {n : Nat} {s : TS} {m : Table} (I : Inv n s) (r : Rel s m) (k : ByteArray) : (findL m.Prep k).map (·.Txn) = mget k s.locked := by
  cases hf : findL m.Prep k with
  | some q =>
    have h1 := List.find?_some hf
    have h2 := List.mem_of_find?_eq_some hf
    simp only [decide_eq_true_eq] at h1
    exact ((I.lk k q.Txn).2 ⟨_, r.recs h2, h1⟩).symm
  | none =>
    cases hm : mget k s.locked with
    | none => rfl
    | some x =>
      obtain ⟨w, hg, hk⟩ := (I.lk k x).1 hm
      unfold findL at hf
      rw [List.find?_eq_none] at hf
      exact absurd (decide_eq_true (p := k ∈ (recW x w).Work.ks) hk) (hf (recW x w) ((r.p.mem _).2 ⟨w, hg, rfl⟩))
theorem Rel.lockN {n : Nat} {s : TS} {m : Table} (I : Inv n s) (r : Rel s m) (k : ByteArray) : findL m.Prep k = none ↔ mget k s.locked = none := by
  rw [← r.lock I k]; simp
theorem Rel.heldN {s : TS} {m : Table} (r : Rel s m) (k : ByteArray) : findH m.Held k = none ↔ mget k s.held = none := by
  rw [r.h.find k]; simp
theorem Rel.way {n : Nat} {s : TS} {m : Table} (I : Inv n s) (r : Rel s m) (w : Work) : WayR m w ↔ wayT s w 0 w.ks = true := by
  rw [wayT_iff]
  unfold WayR
  constructor
  · intro h j hj
    obtain ⟨h1, h2⟩ := h j hj
    refine ⟨(r.lockN I _).1 h1, ?_⟩
    rcases h2 with h2 | h2
    · exact .inl (by omega)
    · exact .inr ((r.heldN _).1 h2)
  · intro h j hj
    obtain ⟨h1, h2⟩ := h j hj
    refine ⟨(r.lockN I _).2 h1, ?_⟩
    rcases h2 with h2 | h2
    · exact .inl (by omega)
    · exact .inr ((r.heldN _).2 h2)
theorem gW_some {s : TS} {k : K3} : (mget k s.works).isSome = true ↔ gW s k ≠ none := by
  unfold gW; cases mget k s.works <;> simp
theorem Rel.atN {s : TS} {m : Table} (r : Rel s m) {x : Txn} (h : ∀ q ∈ m.Prep, q.Txn ≠ x) : ¬ (mget x.k s.works).isSome = true := by
  rw [gW_some, r.p.none h]; simp
theorem Rel.atS {s : TS} {m : Table} (r : Rel s m) {q : Rec} (h : q ∈ m.Prep) : (mget q.Txn.k s.works).isSome = true := by
  rw [gW_some, r.recs h]; simp
theorem Rel.prepare {n : Nat} {s : TS} {m m' : Table} {x : Txn} {w : Work} {e : Int} (I : Inv n s) (r : Rel s m) (h : RPrep m x w m' e) :
    e = prepE s x w ∧ ∀ cs, Rel (if prepE s x w = 0 then prepT s x w cs else s) m' := by
  cases h with
  | twice h =>
    obtain ⟨q, hq, rfl⟩ := h
    have hE : prepE s q.Txn w = 2 := if_pos (r.atS hq)
    rw [hE]
    exact ⟨rfl, fun cs => by rw [if_neg (by decide)]; exact r⟩
  | range h0 h =>
    have hE : prepE s x w = 1 := (if_neg (r.atN h0)).trans (if_pos (dupT_iff.2 h))
    rw [hE]
    exact ⟨rfl, fun cs => by rw [if_neg (by decide)]; exact r⟩
  | way h0 h1 h2 =>
    have hE : prepE s x w = 140 := (if_neg (r.atN h0)).trans ((if_neg fun h => dupT_iff.1 h h1).trans (if_neg fun h => h2 ((r.way I w).2 h)))
    rw [hE]
    exact ⟨rfl, fun cs => by rw [if_neg (by decide)]; exact r⟩
  | ok h0 h1 h2 i hi h3 h4 =>
    have hE : prepE s x w = 0 := (if_neg (r.atN h0)).trans ((if_neg fun h => dupT_iff.1 h h1).trans (if_pos ((r.way I w).1 h2)))
    rw [hE]
    refine ⟨rfl, fun cs => ?_⟩
    rw [if_pos rfl]
    exact ⟨r.h, (r.p.ins (r.p.none h0) hi h3 h4).congr fun k => (gW_prep k).symm⟩
theorem Rel.apply {n : Nat} {s : TS} {m m' : Table} {x : Txn} {yes : Bool} {e : Int} (I : Inv n s) (r : Rel s m) (h : RApply m x yes m' e) : e = applyE s x ∧ Rel (applyT s x yes) m' := by
  rw [applyT_eq]
  cases h with
  | none h =>
    refine ⟨?_, ?_⟩
    · unfold applyE; rw [if_neg (r.atN h)]
    · rw [r.p.none h]; exact r
  | ok j hj hx =>
    have hg := r.recs (List.getElem_mem hj)
    have hs := r.atS (List.getElem_mem hj)
    have hera := r.p.era hj hx
    rw [hx] at hg hs
    refine ⟨by unfold applyE; rw [if_pos hs], ?_⟩
    rw [hg]
    dsimp only
    generalize m.Prep[j].Work = w at hg ⊢
    refine ⟨?_, hera.congr fun k => (gW_apply I.wd k).symm⟩
    cases yes with
    | false => exact r.h
    | true =>
      obtain ⟨d1, d2⟩ := dropR_spec (r := w.Robot) (ks := w.Drop) r.h I.hd
      exact (takeR_spec (r := w.Robot) (ks := w.Take) d1 d2).1
theorem Rel.expire {n : Nat} {s : TS} {m : Table} {now : Int} (I : Inv n s) (r : Rel s m) :
    expireL s now = (m.Held.filter fun h => goneK now h.Key).map (·.Key) ∧ Rel (expireT s now) ⟨m.Held.filter fun h => !goneK now h.Key, m.Prep⟩ := by
  refine ⟨?_, ?_, r.p⟩
  · rw [← r.held I]
    unfold expireL holdsL
    rw [List.filter_map, List.map_map]
    have : (fun h : Hold => h.Key) ∘ holdOf s = id := rfl
    rw [this, List.map_id]
    rfl
  · refine (r.h.filter fun k => !goneK now k).congr fun k => ?_
    rw [(I.expire (now := now)).2 k]
    cases goneK now k <;> rfl
end Go.Proofs.YtjgjcakeimkkdaaGreatDoor

set_option linter.unusedVariables false
set_option linter.unusedSimpArgs false
namespace Go.Proofs.YtjgjcakeimkkdaaGreatDoor
open Go Go.Sx Go.Proofs
def insAll (l : List Hold) : List Hold := l.foldl (fun acc h => holdL h.Key h.Robot false acc) []
theorem insAll_snoc {l : List Hold} {h : Hold} : insAll (l ++ [h]) = holdL h.Key h.Robot false (insAll l) := by unfold insAll; rw [List.foldl_append]; rfl
theorem holdL_keys {k k' : ByteArray} {r : Int} {l : List Hold} : k' ∈ (holdL k r false l).map (·.Key) ↔ k' ∈ l.map (·.Key) ∨ k' = k := by
  simp only [List.mem_map, holdL_mem]
  constructor
  · rintro ⟨h, (⟨h1, h2⟩ | ⟨_, rfl⟩), rfl⟩
    · exact .inl ⟨h, h1, rfl⟩
    · exact .inr rfl
  · rintro (⟨h, h1, rfl⟩ | rfl)
    · by_cases e : h.Key = k
      · exact ⟨⟨k, r⟩, .inr (by simp), e.symm⟩
      · exact ⟨h, .inl ⟨h1, e⟩, rfl⟩
    · exact ⟨⟨k', r⟩, .inr (by simp), rfl⟩
theorem insAll_keys {k : ByteArray} {l : List Hold} : k ∈ (insAll l).map (·.Key) ↔ k ∈ l.map (·.Key) := by
  suffices h : ∀ (l acc : List Hold), k ∈ (l.foldl (fun acc h => holdL h.Key h.Robot false acc) acc).map (·.Key) ↔ k ∈ acc.map (·.Key) ∨ k ∈ l.map (·.Key) by
    have := h l []
    simpa [insAll] using this
  intro l
  induction l with
  | nil => intro acc; simp
  | cons a l ih =>
    intro acc
    rw [List.foldl_cons, ih, holdL_keys, List.map_cons, List.mem_cons]
    constructor
    · rintro ((h | h) | h)
      · exact .inl h
      · exact .inr (.inl h)
      · exact .inr (.inr h)
    · rintro (h | h | h)
      · exact .inl (.inl h)
      · exact .inl (.inr h)
      · exact .inr h
theorem findH_none {l : List Hold} {k : ByteArray} : findH l k = none ↔ k ∉ l.map (·.Key) := by
  unfold findH
  rw [List.find?_eq_none]
  simp only [decide_eq_true_eq, List.mem_map, not_exists, not_and]
inductive RPrepL : Table → List Rec → Table → Int → Prop
  | nil {m : Table} : RPrepL m [] m 0
  | stop {m m' : Table} {q : Rec} {l : List Rec} {e : Int} (h : RPrep m q.Txn q.Work m' e) (he : e ≠ 0) : RPrepL m (q :: l) m' e
  | cons {m m1 m' : Table} {q : Rec} {l : List Rec} {e : Int} (h : RPrep m q.Txn q.Work m1 0) (t : RPrepL m1 l m' e) : RPrepL m (q :: l) m' e
inductive RLoad (holds : List Hold) (prep : List Rec) : Table → Int → Prop
  | dupH (h : ¬ (holds.map (·.Key)).Nodup) : RLoad holds prep zTable 2
  | dupP (h0 : (holds.map (·.Key)).Nodup) (h : dupX prep) : RLoad holds prep zTable 2
  | range (h0 : (holds.map (·.Key)).Nodup) (h1 : ¬ dupX prep) (h : ∃ q ∈ prep, ¬ q.Work.ks.Nodup) : RLoad holds prep zTable 1
  | conf (h0 : (holds.map (·.Key)).Nodup) (h1 : ¬ dupX prep) (h2 : ∀ q ∈ prep, q.Work.ks.Nodup) {m' : Table} {e : Int} (h : RPrepL ⟨insAll holds, []⟩ prep m' e) (he : e ≠ 0) : RLoad holds prep zTable e
  | ok (h0 : (holds.map (·.Key)).Nodup) (h1 : ¬ dupX prep) (h2 : ∀ q ∈ prep, q.Work.ks.Nodup) {m' : Table} (h : RPrepL ⟨insAll holds, []⟩ prep m' 0) : RLoad holds prep m' 0
/-- what preparing leaves in the list -/
theorem RPrep.bound {m m' : Table} {x : Txn} {w : Work} {e : Int} (h : RPrep m x w m' e) (hw : w.ks.length ≤ 80) (hn : ∀ q ∈ m.Prep, q.Work.ks.length ≤ 80) : (∀ q ∈ m'.Prep, q.Work.ks.length ≤ 80) ∧ m'.Prep.length ≤ m.Prep.length + 1 := by
  cases h with
  | twice h => exact ⟨hn, Nat.le_succ _⟩
  | range h0 h => exact ⟨hn, Nat.le_succ _⟩
  | way h0 h1 h2 => exact ⟨hn, Nat.le_succ _⟩
  | ok h0 h1 h2 i hi h3 h4 =>
    refine ⟨fun q hq => ?_, ?_⟩
    · simp only [List.mem_append, List.mem_cons] at hq
      rcases hq with hq | rfl | hq
      · exact hn q (List.mem_of_mem_take hq)
      · exact hw
      · exact hn q (List.mem_of_mem_drop hq)
    · simp only [List.length_append, List.length_cons, List.length_take, List.length_drop]
      omega
end Go.Proofs.YtjgjcakeimkkdaaGreatDoor

set_option linter.unusedVariables false
set_option linter.unusedSimpArgs false
namespace Go.Proofs.YtjgjcakeimkkdaaGreatDoor
open Go Go.Sx Go.Proofs
theorem rankE_le {e : Int} : rankE e ≤ 3 := by
  unfold rankE
  by_cases h1 : e = 2
  · rw [if_pos h1]; omega
  · rw [if_neg h1]
    by_cases h2 : e = 1
    · rw [if_pos h2]; omega
    · rw [if_neg h2]; by_cases h3 : e = 140
      · rw [if_pos h3]; omega
      · rw [if_neg h3]; omega
theorem rankE_3 {e : Int} : rankE e = 3 ↔ e = 2 := by
  unfold rankE
  by_cases h1 : e = 2
  · rw [if_pos h1]; exact ⟨fun _ => h1, fun _ => rfl⟩
  · rw [if_neg h1]
    refine ⟨fun h => ?_, fun h => absurd h h1⟩
    by_cases h2 : e = 1
    · rw [if_pos h2] at h; omega
    · rw [if_neg h2] at h; by_cases h3 : e = 140
      · rw [if_pos h3] at h; omega
      · rw [if_neg h3] at h; omega
theorem worse_2 {a : Int} : worse a 2 = 2 := by
  unfold worse
  split
  · rfl
  · next h =>
    have h1 : rankE 2 = 3 := rfl
    have := rankE_le (e := a)
    exact rankE_3.1 (by omega)
theorem two_worse {e : Int} : worse 2 e = 2 := by
  unfold worse
  have h1 : rankE 2 = 3 := rfl
  have := rankE_le (e := e)
  rw [if_neg (by omega)]
theorem loadP_two {s s' : TS} {l : List Rec} {a a' : Int} (h : LoadP s a l s' a') : a = 2 → a' = 2 := by
  induction h with
  | nil => exact id
  | cons h ih => intro e; subst e; exact ih two_worse
theorem lastE_two {l : List Rec} : lastE 2 l = 2 := by unfold lastE; split; exact worse_2; rfl
/-- the holds, one by one: keys, values, the error -/
theorem loadH_err : ∀ {l : List Hold} {m : List (ByteArray × Int)} {a : Int}, (loadH m a l).2 = if (l.map (·.Key)).Nodup ∧ ∀ k ∈ l.map (·.Key), mget k m = none then a else 2
  | [], m, a => by simp [loadH]
  | h :: l, m, a => by
    rw [loadH, loadH_err]
    rw [worse_2]
    have hm : ∀ k, mget k (mset h.Key h.Robot m) = if k = h.Key then some h.Robot else mget k m := fun k => mget_mset h.Key k h.Robot m
    by_cases hin : (mget h.Key m).isSome = true
    · have hne : mget h.Key m ≠ none := by intro e; rw [e] at hin; cases hin
      have hno : ¬ ((((h :: l).map (·.Key)).Nodup) ∧ ∀ k ∈ (h :: l).map (·.Key), mget k m = none) := fun hh => hne (hh.2 h.Key (by simp))
      rw [if_neg hno, if_pos hin]
      split <;> rfl
    · have hnone : mget h.Key m = none := by cases hg : mget h.Key m with | none => rfl | some v => rw [hg] at hin; exact absurd rfl hin
      rw [if_neg hin]
      have hiff : ((l.map (·.Key)).Nodup ∧ ∀ k ∈ l.map (·.Key), mget k (mset h.Key h.Robot m) = none) ↔ (((h :: l).map (·.Key)).Nodup ∧ ∀ k ∈ (h :: l).map (·.Key), mget k m = none) := by
        simp only [List.map_cons, List.nodup_cons, List.mem_cons]
        constructor
        · rintro ⟨h1, h2⟩
          refine ⟨⟨fun hk => ?_, h1⟩, ?_⟩
          · have := h2 _ hk; rw [hm, if_pos rfl] at this; cases this
          · rintro k (rfl | hk)
            · exact hnone
            · have := h2 k hk; rw [hm] at this; split at this
              · cases this
              · exact this
        · rintro ⟨⟨h1, h2⟩, h3⟩
          refine ⟨h2, fun k hk => ?_⟩
          rw [hm, if_neg (fun e => h1 (by rw [← e]; exact hk))]
          exact h3 k (.inr hk)
      by_cases hq : (l.map (·.Key)).Nodup ∧ ∀ k ∈ l.map (·.Key), mget k (mset h.Key h.Robot m) = none
      · rw [if_pos hq, if_pos (hiff.1 hq)]
      · rw [if_neg hq, if_neg fun h => hq (hiff.2 h)]
theorem loadH_spec : ∀ {l acc : List Hold} {m : List (ByteArray × Int)} {a : Int}, HSpec acc (fun k => mget k m) → (m.map (·.1)).Nodup → HSpec (l.foldl (fun acc h => holdL h.Key h.Robot false acc) acc) (fun k => mget k (loadH m a l).1) ∧ ((loadH m a l).1.map (·.1)).Nodup ∧ (loadH m a l).1.length ≤ m.length + l.length
  | [], acc, m, a, h, hn => ⟨h, hn, by simp [loadH]⟩
  | x :: l, acc, m, a, h, hn => by
    rw [List.foldl_cons, loadH]
    obtain ⟨h1, h2, h3⟩ := loadH_spec (l := l) (acc := holdL x.Key x.Robot false acc) (m := mset x.Key x.Robot m) (a := if (mget x.Key m).isSome = true then worse a 2 else a) ((h.hold x.Key x.Robot false).congr fun k' => by rw [mget_mset x.Key k']; by_cases e : k' = x.Key <;> simp [e]) (mset_nodup hn)
    refine ⟨h1, h2, ?_⟩
    have h4 : (mset x.Key x.Robot m).length ≤ m.length + 1 := by rw [mset_len]; split <;> omega
    simp only [List.length_cons]; omega
theorem loadH_mem : ∀ {l : List Hold} {m : List (ByteArray × Int)} {a : Int} {k : ByteArray} {r : Int}, (l.map (·.Key)).Nodup → (mget k (loadH m a l).1 = some r ↔ (⟨k, r⟩ : Hold) ∈ l ∨ (k ∉ l.map (·.Key) ∧ mget k m = some r))
  | [], m, a, k, r, _ => by simp [loadH]
  | x :: l, m, a, k, r, hn => by
    rw [List.map_cons, List.nodup_cons] at hn
    rw [loadH, loadH_mem hn.2, mget_mset x.Key k]
    obtain ⟨xk, xr⟩ := x
    simp only [List.map_cons, List.mem_cons, Hold.mk.injEq]
    by_cases e : k = xk
    · subst e
      have hk := hn.1
      simp only at hk
      have hx : (⟨k, r⟩ : Hold) ∉ l := fun hh => hk (List.mem_map.2 ⟨_, hh, rfl⟩)
      simp [hk, hx, eq_comm]
    · simp [e]
def okP (q : Rec) : Prop := OkW q.Work ∧ okX q.Txn.k
theorem holdF_rel {holds : List Hold} : Rel (holdF holds) ⟨insAll holds, []⟩ :=
  ⟨(loadH_spec (l := holds) (acc := []) (m := []) (a := 0) ⟨by simp, fun h => by simp [mget]⟩ (by simp)).1, ⟨by simp, fun q => by simp [gW, holdF, mget]⟩⟩
theorem holdF_inv {holds : List Hold} {n : Nat} (hk : ∀ h ∈ holds, h.Key.size ≤ cap47 ∧ fits h.Robot) (hl : holds.length ≤ 40 * n) : Inv n (holdF holds) := by
  obtain ⟨h1, h2, h3⟩ := loadH_spec (l := holds) (acc := []) (m := []) (a := 0) ⟨by simp, fun h => by simp [mget]⟩ (by simp)
  refine ⟨h2, by simp [holdF], by simp [holdF], fun k r hm => ?_, ?_, by simp [holdF], fun x w h => ?_, fun k x => ⟨fun h => ?_, fun ⟨w, h, _⟩ => ?_⟩, fun x w h => ?_⟩
  · have : ∀ {l : List Hold} {m : List (ByteArray × Int)} {a : Int}, (∀ h ∈ l, h.Key.size ≤ cap47 ∧ fits h.Robot) → (∀ k r, mget k m = some r → k.size ≤ cap47 ∧ fits r) → ∀ k r, mget k (loadH m a l).1 = some r → k.size ≤ cap47 ∧ fits r := by
      intro l
      induction l with
      | nil => intro m a _ h k r hk; exact h k r hk
      | cons x l ih =>
        intro m a hx hm k r hk
        rw [loadH] at hk
        refine ih (fun h hh => hx h (by simp [hh])) (fun k' r' h' => ?_) k r hk
        rw [mget_mset x.Key k'] at h'
        split at h'
        · next e => cases h'; subst e; exact hx x (by simp)
        · exact hm k' r' h'
    exact this hk (fun k r h => by cases h) k r hm
  · show (loadH [] 0 holds).1.length ≤ _
    simp only [List.length_nil] at h3
    omega
  · simp [gW, holdF, mget] at h
  · simp [holdF, mget] at h
  · simp [gW, holdF, mget] at h
  · simp [gW, holdF, mget] at h
theorem prepE_none {s : TS} {x : Txn} {w : Work} (h : gW s x.k = none) : prepE s x w = if dupT w.ks then 1 else if wayT s w 0 w.ks = true then 0 else 140 := by
  have : ¬ (mget x.k s.works).isSome = true := by rw [gW_some, h]; simp
  exact if_neg this
theorem step_none {s : TS} {q : Rec} {l : List Rec} {cs : List Value} (hnd : ((q :: l).map (·.Txn.k)).Nodup) (h : ∀ r ∈ q :: l, gW s r.Txn.k = none) : ∀ r ∈ l, gW (if prepE s q.Txn q.Work = 0 then prepT s q.Txn q.Work cs else s) r.Txn.k = none := fun r hr => by
  rw [List.map_cons, List.nodup_cons] at hnd
  split
  · rw [gW_prep, if_neg fun e => hnd.1 (List.mem_map.2 ⟨r, hr, e⟩)]
    exact h r (by simp [hr])
  · exact h r (by simp [hr])
theorem loadP_low {s s' : TS} {l : List Rec} {a a' : Int} (h : LoadP s a l s' a') : (l.map (·.Txn.k)).Nodup → (∀ q ∈ l, gW s q.Txn.k = none) → (a = 0 ∨ a = 1 ∨ a = 140) → (a' = 0 ∨ a' = 1 ∨ a' = 140) ∧ (a = 1 ∨ (∃ q ∈ l, ¬ q.Work.ks.Nodup) → a' = 1) ∧ (a = 140 → (∀ q ∈ l, q.Work.ks.Nodup) → a' = 140) := by
  induction h with
  | nil =>
    intro _ _ h
    refine ⟨h, fun h' => ?_, fun h _ => h⟩
    rcases h' with h' | ⟨q, hq, _⟩
    · exact h'
    · cases hq
  | @cons s s' a a' r l cs h ih =>
    intro hnd hno ha
    have hst := step_none (cs := cs) hnd hno
    have hE := prepE_none (w := r.Work) (hno r (by simp))
    have hnd' := hnd
    rw [List.map_cons, List.nodup_cons] at hnd'
    have hw : worse a (prepE s r.Txn r.Work) = 0 ∨ worse a (prepE s r.Txn r.Work) = 1 ∨ worse a (prepE s r.Txn r.Work) = 140 := by
      rw [hE]
      rcases ha with rfl | rfl | rfl <;> split <;> (try split) <;> decide
    obtain ⟨i1, i2, i3⟩ := ih hnd'.2 hst hw
    refine ⟨i1, fun hh => ?_, fun hh hall => ?_⟩
    · rcases hh with rfl | ⟨q, hq, hqd⟩
      · refine i2 (.inl ?_)
        rw [hE]
        split <;> (try split) <;> decide
      · rcases List.mem_cons.1 hq with rfl | hq
        · refine i2 (.inl ?_)
          rw [hE, if_pos (dupT_iff.2 hqd)]
          rcases ha with rfl | rfl | rfl <;> decide
        · exact i2 (.inr ⟨q, hq, hqd⟩)
    · subst hh
      refine i3 ?_ fun q hq => hall q (by simp [hq])
      rw [hE, if_neg fun h => dupT_iff.1 h (hall r (by simp))]
      split <;> decide
theorem load_par : ∀ {l : List Rec} {s s' : TS} {m m' : Table} {n : Nat} {a' e : Int}, Inv n s → Rel s m → (∀ q ∈ l, okP q) → (l.map (·.Txn.k)).Nodup → (∀ q ∈ l, gW s q.Txn.k = none) → (∀ q ∈ l, q.Work.ks.Nodup) → LoadP s 0 l s' a' → RPrepL m l m' e → e = a' ∧ (e = 0 → Inv (n + l.length) s' ∧ Rel s' m')
  | [], s, s', m, m', n, a', e, I, r, _, _, _, _, hP, hR => by
    cases hP
    cases hR
    exact ⟨rfl, fun _ => ⟨I, r⟩⟩
  | q :: l, s, s', m, m', n, a', e, I, r, hok, hnd, hno, hks, hP, hR => by
    cases hP with
    | @cons _ _ _ _ _ _ cs hP =>
    have hst := step_none (cs := cs) hnd hno
    have hE := prepE_none (w := q.Work) (hno q (by simp))
    rw [if_neg fun h => dupT_iff.1 h (hks q (by simp))] at hE
    have hnd' := hnd
    rw [List.map_cons, List.nodup_cons] at hnd'
    cases hR with
    | stop h he =>
      obtain ⟨h1, h2⟩ := r.prepare I h
      rw [← h1] at hP hst
      have h140 : e = 140 := by
        rw [h1, hE] at he ⊢
        split at he
        · exact absurd rfl he
        · next hh => rw [if_neg hh]
      subst h140
      have := (loadP_low hP hnd'.2 hst (.inr (.inr (by decide)))).2.2 (by decide) fun q hq => hks q (by simp [hq])
      exact ⟨this.symm, fun h => absurd h (by decide)⟩
    | cons h t =>
      obtain ⟨h1, h2⟩ := r.prepare I h
      have h3 := h2 cs
      rw [← h1] at hP hst h3
      rw [if_pos rfl] at hP hst h3
      have hI := I.prep (cs := cs) (hok q (by simp)).1 (hok q (by simp)).2 h1.symm
      obtain ⟨g1, g2⟩ := load_par hI h3 (fun q hq => hok q (by simp [hq])) hnd'.2 hst (fun q hq => hks q (by simp [hq])) hP t
      refine ⟨g1, fun he => ?_⟩
      have := g2 he
      rw [List.length_cons, show n + (l.length + 1) = n + 1 + l.length by omega]
      exact this
/-- loading answers alike -/
theorem load_both {n : Nat} {holds : List Hold} {prep : List Rec} {s' : TS} {a' e : Int} {m' : Table} (hk : ∀ h ∈ holds, h.Key.size ≤ cap47 ∧ fits h.Robot) (hl : holds.length ≤ 40 * n) (hok : ∀ q ∈ prep, okP q)
    (hP : LoadP (holdF holds) (loadH [] 0 holds).2 prep s' a') (hR : RLoad holds prep m' e) : e = lastE a' prep ∧ (e = 0 → Inv (n + prep.length) s' ∧ Rel s' m') := by
  have hno : ∀ q ∈ prep, gW (holdF holds) q.Txn.k = none := fun q _ => by simp [gW, holdF, mget]
  have herr := loadH_err (l := holds) (m := []) (a := 0)
  have hnil : ∀ k ∈ holds.map (·.Key), mget k ([] : List (ByteArray × Int)) = none := fun k _ => rfl
  cases hR with
  | dupH h =>
    rw [if_neg fun hh => h hh.1] at herr
    rw [loadP_two hP herr, lastE_two]
    exact ⟨rfl, fun h => absurd h (by decide)⟩
  | dupP h0 h =>
    refine ⟨?_, fun h => absurd h (by decide)⟩
    unfold lastE
    rw [if_pos h, worse_2]
  | range h0 h1 h =>
    rw [if_pos ⟨h0, hnil⟩] at herr
    rw [herr] at hP
    have hnd : (prep.map (·.Txn.k)).Nodup := Classical.byContradiction h1
    have := (loadP_low hP hnd hno (.inl rfl)).2.1 (.inr h)
    refine ⟨?_, fun h => absurd h (by decide)⟩
    unfold lastE
    rw [if_neg h1, this]
  | conf h0 h1 h2 h he =>
    rw [if_pos ⟨h0, hnil⟩] at herr
    rw [herr] at hP
    have hnd : (prep.map (·.Txn.k)).Nodup := Classical.byContradiction h1
    obtain ⟨g1, g2⟩ := load_par (holdF_inv hk hl) holdF_rel hok hnd hno h2 hP h
    refine ⟨?_, fun h => absurd h he⟩
    unfold lastE
    rw [if_neg h1]
    exact g1
  | ok h0 h1 h2 h =>
    rw [if_pos ⟨h0, hnil⟩] at herr
    rw [herr] at hP
    have hnd : (prep.map (·.Txn.k)).Nodup := Classical.byContradiction h1
    obtain ⟨g1, g2⟩ := load_par (holdF_inv hk hl) holdF_rel hok hnd hno h2 hP h
    refine ⟨?_, fun _ => g2 rfl⟩
    unfold lastE
    rw [if_neg h1]
    exact g1
/-- what fits goes in -/
theorem loadP_all {s s' : TS} {l : List Rec} {a a' : Int} (h : LoadP s a l s' a') : ∀ {n : Nat}, a = 0 → Inv n s → (l.map (·.Txn.k)).Nodup → (∀ q ∈ l, gW s q.Txn.k = none) → (∀ q ∈ l, okP q ∧ q.Work.ks.Nodup) → (∀ q ∈ l, ∀ k ∈ q.Work.ks, mget k s.locked = none) → (∀ q ∈ l, ∀ k ∈ q.Work.Take, mget k s.held = none) → (l.Pairwise fun q r => ∀ k ∈ q.Work.ks, k ∉ r.Work.ks) →
    a' = 0 ∧ Inv (n + l.length) s' ∧ s'.held = s.held ∧ (∀ q ∈ l, gW s' q.Txn.k = some q.Work) ∧ ∀ k, (∀ q ∈ l, q.Txn.k ≠ k) → gW s' k = gW s k := by
  induction h with
  | nil => intro n ha I _ _ _ _ _ _; exact ⟨ha, I, rfl, fun q hq => (by cases hq), fun k _ => rfl⟩
  | @cons s s' a a' r l cs h ih =>
    intro n ha I hnd hno hok hlk htk hdj
    subst ha
    have hst := step_none (cs := cs) hnd hno
    have hE := prepE_none (w := r.Work) (hno r (by simp))
    have hnd' := hnd
    rw [List.map_cons, List.nodup_cons] at hnd'
    rw [List.pairwise_cons] at hdj
    have hway : wayT s r.Work 0 r.Work.ks = true := by
      rw [wayT_iff]
      intro j hj
      refine ⟨hlk r (by simp) _ (List.getElem_mem hj), ?_⟩
      by_cases hh : r.Work.Take.length ≤ 0 + j
      · exact .inl hh
      · right
        have e : r.Work.ks[j] = r.Work.Take[j]'(by omega) := by simp only [Work.ks]; rw [List.getElem_append_left (by omega)]
        rw [e]
        exact htk r (by simp) _ (List.getElem_mem _)
    rw [if_neg fun h => dupT_iff.1 h (hok r (by simp)).2, if_pos hway] at hE
    rw [hE, if_pos rfl] at h ih hst
    have hl := fun k => lockAll_get (x := r.Txn) (k := k) (ks := r.Work.ks) I.ld
    obtain ⟨g1, g2, g3, g4, g5⟩ := ih (n := n + 1) (by decide) (I.prep (hok r (by simp)).1.1 (hok r (by simp)).1.2 hE) hnd'.2 hst (fun q hq => hok q (by simp [hq])) (fun q hq k hk => by
      show mget k (lockAll r.Txn r.Work.ks s.locked) = none
      rw [(hl k).1, if_neg fun hk' => hdj.1 q hq k hk' hk]
      exact hlk q (by simp [hq]) k hk) (fun q hq k hk => htk q (by simp [hq]) k hk) hdj.2
    refine ⟨g1, by rw [List.length_cons, show n + (l.length + 1) = n + 1 + l.length by omega]; exact g2, g3, fun q hq => ?_, fun k hk => ?_⟩
    · rcases List.mem_cons.1 hq with rfl | hq
      · rw [g5 q.Txn.k fun r hr e => hnd'.1 (List.mem_map.2 ⟨r, hr, e⟩), gW_prep, if_pos rfl]
      · exact g4 q hq
    · rw [g5 k fun q hq => hk q (by simp [hq]), gW_prep, if_neg fun e => hk r (by simp) e.symm]
/-- a table's own lists go in again -/
theorem load_own {n : Nat} {s s' : TS} {m : Table} {a' : Int} (I : Inv n s) (r : Rel s m) (hP : LoadP (holdF (holdsL s)) (loadH [] 0 (holdsL s)).2 (prepL s) s' a') : lastE a' (prepL s) = 0 ∧ Inv n s' ∧ Rel s' m := by
  have hs := holdsL_spec I.hd
  have hp := prepL_spec I.wd
  have hkn : ((holdsL s).map (·.Key)).Nodup := by
    rw [List.nodup_iff_pairwise_ne, List.pairwise_map]
    exact hs.rise.imp fun h => slt_ne h
  have hxn : ((prepL s).map (·.Txn.k)).Nodup := by
    rw [List.nodup_iff_pairwise_ne, List.pairwise_map]
    exact hp.rise.imp fun h e => by rw [e] at h; exact ltK_irr h
  have herr := loadH_err (l := holdsL s) (m := []) (a := 0)
  rw [if_pos ⟨hkn, fun k _ => rfl⟩] at herr
  rw [herr] at hP
  have hget : ∀ k, mget k (holdF (holdsL s)).held = mget k s.held := fun k => by
    have h1 := fun r => loadH_mem (l := holdsL s) (m := []) (a := 0) (k := k) (r := r) hkn
    have h2 := fun r => hs.mem ⟨k, r⟩
    show mget k (loadH [] 0 (holdsL s)).1 = _
    cases hg : mget k (loadH [] 0 (holdsL s)).1 with
    | some v =>
      rcases (h1 v).1 hg with h3 | ⟨_, h3⟩
      · exact ((h2 v).1 h3).symm
      · cases h3
    | none =>
      cases hh : mget k s.held with
      | none => rfl
      | some v => have := (h1 v).2 (.inl ((h2 v).2 hh)); rw [hg] at this; cases this
  have hlen : (holdsL s).length = s.held.length := by simp [holdsL, sortT_len]
  have hI0 : Inv n (holdF (holdsL s)) := holdF_inv (fun h hh => I.hk _ _ ((hs.mem h).1 hh)) (by rw [hlen]; exact I.hn)
  obtain ⟨g1, g2, g3, g4, g5⟩ := loadP_all hP rfl hI0 hxn (fun q _ => by simp [gW, holdF, mget]) (fun q hq => by
      obtain ⟨⟨k1, k2⟩, k3⟩ := I.ww _ _ (I.recs hq)
      exact ⟨⟨k1, k3⟩, k2⟩) (fun q hq k hk => rfl) (fun q hq k hk => by rw [hget]; exact I.tk _ _ (I.recs hq) k hk) (by
      refine List.Pairwise.imp_of_mem (fun {a b} ha hb hab k hk1 hk2 => ?_) hp.rise
      have e1 := (I.lk k a.Txn).2 ⟨_, I.recs ha, hk1⟩
      have e2 := (I.lk k b.Txn).2 ⟨_, I.recs hb, hk2⟩
      have e3 : a.Txn = b.Txn := Option.some.inj (e1.symm.trans e2)
      rw [e3] at hab
      exact ltK_irr hab)
  have hgW : ∀ k, gW s' k = gW s k := fun k => by
    by_cases hk : ∃ q ∈ prepL s, q.Txn.k = k
    · obtain ⟨q, hq, rfl⟩ := hk
      rw [g4 q hq, I.recs hq]
    · have hk' : ∀ q ∈ prepL s, q.Txn.k ≠ k := fun q hq e => hk ⟨q, hq, e⟩
      rw [g5 k hk']
      have hnone : gW s k = none := by
        cases hg : gW s k with
        | none => rfl
        | some w => exact absurd (k_toTx k) (hk' (recW (toTx k) w) ((hp.mem _).2 ⟨w, by show gW s (toTx k).k = _; rw [k_toTx]; exact hg, rfl⟩))
      rw [hnone]
      simp [gW, holdF, mget]
  have hR : Rel s' m := ⟨r.h.congr fun k => by rw [g3, hget], r.p.congr fun k => (hgW k).symm⟩
  refine ⟨?_, ?_, hR⟩
  · unfold lastE
    rw [if_neg (show ¬ dupX (prepL s) from fun h => h hxn)]
    exact g1
  · have e1 := hR.held g2
    have e2 := r.held I
    have e3 := hR.prep g2
    have e4 := r.prep I
    have l1 : s'.held.length = s.held.length := by
      have := congrArg List.length (e1.trans e2.symm)
      simpa [holdsL, sortT_len] using this
    have l2 : s'.works.length = s.works.length := by
      have := congrArg List.length (e3.trans e4.symm)
      simpa [prepL, sort3_len] using this
    exact { g2 with hn := by rw [l1]; exact I.hn, wn := by rw [l2]; exact I.wn }
end Go.Proofs.YtjgjcakeimkkdaaGreatDoor
