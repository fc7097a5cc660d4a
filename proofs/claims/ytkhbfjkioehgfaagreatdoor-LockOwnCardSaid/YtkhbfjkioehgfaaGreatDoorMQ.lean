/- The reference's Load. -/
import Derived.Test.YtkhbfjkioehgfaaGreatDoorMC
set_option linter.unusedVariables false
set_option linter.unusedSimpArgs false
namespace Go.Proofs.YtkhbfjkioehgfaaGreatDoor
open Go Go.Sx Go.Proofs
def insAll (l : List Hold) : List Hold := l.foldl (fun acc h => holdL h.Key h.Robot false acc) []
theorem insAll_snoc {l : List Hold} {h : Hold} : insAll (l ++ [h]) = holdL h.Key h.Robot false (insAll l) := by unfold insAll; rw [List.foldl_append]; rfl
theorem holdL_keys {k k' : ByteArray} {r : Int} {l : List Hold} : k' ∈ (holdL k r false l).map (·.Key) ↔ k' ∈ l.map (·.Key) ∨ k' = k := by
  simp only [List.mem_map, holdL_mem]
  constructor
  · rintro ⟨h, (⟨h1, h2⟩ | ⟨_, rfl⟩), rfl⟩
    · exact .inl ⟨h, h1, rfl⟩
    · exact .inr rfl
  · rintro (⟨h, h1, rfl⟩ | rfl)
    · by_cases e : h.Key = k
      · exact ⟨⟨k, r⟩, .inr (by simp), e.symm⟩
      · exact ⟨h, .inl ⟨h1, e⟩, rfl⟩
    · exact ⟨⟨k', r⟩, .inr (by simp), rfl⟩
theorem insAll_keys {k : ByteArray} {l : List Hold} : k ∈ (insAll l).map (·.Key) ↔ k ∈ l.map (·.Key) := by
  suffices h : ∀ (l acc : List Hold), k ∈ (l.foldl (fun acc h => holdL h.Key h.Robot false acc) acc).map (·.Key) ↔ k ∈ acc.map (·.Key) ∨ k ∈ l.map (·.Key) by
    have := h l []
    simpa [insAll] using this
  intro l
  induction l with
  | nil => intro acc; simp
  | cons a l ih =>
    intro acc
    rw [List.foldl_cons, ih, holdL_keys, List.map_cons, List.mem_cons]
    constructor
    · rintro ((h | h) | h)
      · exact .inl h
      · exact .inr (.inl h)
      · exact .inr (.inr h)
    · rintro (h | h | h)
      · exact .inl (.inl h)
      · exact .inl (.inr h)
      · exact .inr h
theorem findH_none {l : List Hold} {k : ByteArray} : findH l k = none ↔ k ∉ l.map (·.Key) := by
  unfold findH
  rw [List.find?_eq_none]
  simp only [decide_eq_true_eq, List.mem_map, not_exists, not_and]
inductive RPrepL : Table → List Rec → Table → Int → Prop
  | nil {m : Table} : RPrepL m [] m 0
  | stop {m m' : Table} {q : Rec} {l : List Rec} {e : Int} (h : RPrep m q.Txn q.Work m' e) (he : e ≠ 0) : RPrepL m (q :: l) m' e
  | cons {m m1 m' : Table} {q : Rec} {l : List Rec} {e : Int} (h : RPrep m q.Txn q.Work m1 0) (t : RPrepL m1 l m' e) : RPrepL m (q :: l) m' e
inductive RLoad (holds : List Hold) (prep : List Rec) : Table → Int → Prop
  | dupH (h : ¬ (holds.map (·.Key)).Nodup) : RLoad holds prep zTable 2
  | dupP (h0 : (holds.map (·.Key)).Nodup) (h : dupX prep) : RLoad holds prep zTable 2
  | range (h0 : (holds.map (·.Key)).Nodup) (h1 : ¬ dupX prep) (h : ∃ q ∈ prep, ¬ q.Work.ks.Nodup) : RLoad holds prep zTable 1
  | conf (h0 : (holds.map (·.Key)).Nodup) (h1 : ¬ dupX prep) (h2 : ∀ q ∈ prep, q.Work.ks.Nodup) {m' : Table} {e : Int} (h : RPrepL ⟨insAll holds, []⟩ prep m' e) (he : e ≠ 0) : RLoad holds prep zTable e
  | ok (h0 : (holds.map (·.Key)).Nodup) (h1 : ¬ dupX prep) (h2 : ∀ q ∈ prep, q.Work.ks.Nodup) {m' : Table} (h : RPrepL ⟨insAll holds, []⟩ prep m' 0) : RLoad holds prep m' 0
/-- what preparing leaves in the list -/
theorem RPrep.bound {m m' : Table} {x : Txn} {w : Work} {e : Int} (h : RPrep m x w m' e) (hw : w.ks.length ≤ 80) (hn : ∀ q ∈ m.Prep, q.Work.ks.length ≤ 80) : (∀ q ∈ m'.Prep, q.Work.ks.length ≤ 80) ∧ m'.Prep.length ≤ m.Prep.length + 1 := by
  cases h with
  | twice h => exact ⟨hn, Nat.le_succ _⟩
  | range h0 h => exact ⟨hn, Nat.le_succ _⟩
  | way h0 h1 h2 => exact ⟨hn, Nat.le_succ _⟩
  | ok h0 h1 h2 i hi h3 h4 =>
    refine ⟨fun q hq => ?_, ?_⟩
    · simp only [List.mem_append, List.mem_cons] at hq
      rcases hq with hq | rfl | hq
      · exact hn q (List.mem_of_mem_take hq)
      · exact hw
      · exact hn q (List.mem_of_mem_drop hq)
    · simp only [List.length_append, List.length_cons, List.length_take, List.length_drop]
      omega
set_option maxHeartbeats 32000000 in
set_option maxRecDepth 20000 in
theorem rLoad_spec {W0 : World} {H : Heap} {v1 v2 : Value} {holds : List Hold} {prep : List Rec} (h1 : SlB rHold 2 24 H v1 holds) (h2 : SlB rRec 9 120 H v2 prep) (hh : holds.length ≤ 5000) (hp : prep.length ≤ 900) (hw : ∀ q ∈ prep, q.Work.ks.length ≤ 80) :
    Ct Tryz.prog 21 #[v1, v2] W0 H [] (fun r H' B => ∃ cs m' e, r = .tuple #[.agg cs.toArray, I e] ∧ rTable H' cs m' ∧ RLoad holds prep m' e ∧ B = []) := by
  refine Ct.go (vs := [v1, v2]) fun R => ?_
  obtain ⟨b1, c1, rfl, hc1, hd1⟩ := h1.1.shape
  obtain ⟨b2, c2, rfl, hc2, hd2⟩ := h2.1.shape
  refine walk ?_
  refine ops_alloc rfl fun p4 _ => ?_
  refine walk ?_
  refine ops_alloc rfl fun p6 _ => ?_
  refine walk ?_
  refine ex_loop (σ := Nat × (Option Addr × Nat) × (Option Addr × Nat) × Heap) (fun u => u.1 ≤ holds.length ∧ H.le u.2.2.2 ∧ ((holds.take u.1).map (·.Key)).Nodup ∧ (insAll (holds.take u.1)).length ≤ u.1 ∧ SlB rHold 2 24 u.2.2.2 (.slice u.2.1.1 (insAll (holds.take u.1)).length u.2.1.2) (insAll (holds.take u.1)) ∧ SlB rRec 9 120 u.2.2.2 (.slice u.2.2.1.1 0 u.2.2.1.2) [])
    (fun u => [(0, .slice b1 holds.length c1), (1, .slice b2 prep.length c2), (4, .pointer (some ⟨p4, 0, none⟩)), (6, .pointer (some ⟨p6, 0, none⟩)), (7, I 0), (8, I u.1)]) (fun u => u.2.2.2) (fun u => row p6 55 [.slice u.2.1.1 (insAll (holds.take u.1)).length u.2.1.2, .slice u.2.2.1.1 0 u.2.2.1.2] :: row p4 55 [nilS, nilS] :: R) (fun u => holds.length - u.1)
    (0, (none, 0), (none, 0), H) ⟨Nat.zero_le _, .refl _, by simp, by simp [insAll], SlB.nil, SlB.nil⟩ fun ⟨i, ⟨d1, e1⟩, ⟨d2, e2⟩, HK⟩ ⟨hi0, hlK, hnd, hlen, hr1, hr2⟩ K hL => ?_
  simp only at hi0 hlK hnd hlen hr1 hr2
  dsimp only
  refine walk ?_
  refine ex_if rfl (fun hi => ?_) (fun hi => ?_)
  · have hi1 : i < holds.length := by omega
    have ht := List.take_succ_eq_append_getElem hi1
    have hT : rTable HK [.slice d1 (insAll (holds.take i)).length e1, .slice d2 0 e2] ⟨insAll (holds.take i), []⟩ := ⟨_, _, rfl, hr1, hr2⟩
    refine walk ?_
    refine ex_any 11 [row p6 55 [.slice d1 (insAll (holds.take i)).length e1, .slice d2 0 e2]] ?_
    (first | refine gny_p 0 rfl rfl rfl ?_ | refine gny_ld 0 rfl rfl rfl rfl ?_ | refine gny_ldH 0 rfl rfl rfl ‹HRow _ _ 0 _› rfl ?_ | refine gny_T 0 rfl rfl rfl ?_ | refine gny_F 0 rfl rfl rfl ?_ | refine gny_B 0 rfl rfl rfl ?_ | refine gny_skip 0 rfl rfl ?_ | refine gny_sp 0 rfl rfl rfl ?_ | refine gny_sB 0 rfl rfl rfl ?_ | refine gny_sld 0 rfl rfl rfl rfl ?_ | refine gny_sldH 0 rfl rfl rfl ‹HRow _ _ 0 _› rfl ?_ | refine gny_ldN 0 rfl rfl rfl rfl ?_ | refine gny_bld 0 rfl rfl rfl ?_); (first | refine gny_p 1 rfl rfl rfl ?_ | refine gny_ld 1 rfl rfl rfl rfl ?_ | refine gny_ldH 1 rfl rfl rfl ‹HRow _ _ 0 _› rfl ?_ | refine gny_T 1 rfl rfl rfl ?_ | refine gny_F 1 rfl rfl rfl ?_ | refine gny_B 1 rfl rfl rfl ?_ | refine gny_skip 1 rfl rfl ?_ | refine gny_sp 1 rfl rfl rfl ?_ | refine gny_sB 1 rfl rfl rfl ?_ | refine gny_sld 1 rfl rfl rfl rfl ?_ | refine gny_sldH 1 rfl rfl rfl ‹HRow _ _ 0 _› rfl ?_ | refine gny_ldN 1 rfl rfl rfl rfl ?_ | refine gny_bld 1 rfl rfl rfl ?_); (first | refine gny_p 2 rfl rfl rfl ?_ | refine gny_ld 2 rfl rfl rfl rfl ?_ | refine gny_ldH 2 rfl rfl rfl ‹HRow _ _ 0 _› rfl ?_ | refine gny_T 2 rfl rfl rfl ?_ | refine gny_F 2 rfl rfl rfl ?_ | refine gny_B 2 rfl rfl rfl ?_ | refine gny_skip 2 rfl rfl ?_ | refine gny_sp 2 rfl rfl rfl ?_ | refine gny_sB 2 rfl rfl rfl ?_ | refine gny_sld 2 rfl rfl rfl rfl ?_ | refine gny_sldH 2 rfl rfl rfl ‹HRow _ _ 0 _› rfl ?_ | refine gny_ldN 2 rfl rfl rfl rfl ?_ | refine gny_bld 2 rfl rfl rfl ?_)
    refine gny_ixp 3 rfl rfl rfl (h1.mono hlK).1 hi1 fun b o cc hr hc => ?_
    obtain ⟨rfl, hsz, hfr⟩ := hc
    (first | refine gny_p 4 rfl rfl rfl ?_ | refine gny_ld 4 rfl rfl rfl rfl ?_ | refine gny_ldH 4 rfl rfl rfl ‹HRow _ _ 0 _› rfl ?_ | refine gny_T 4 rfl rfl rfl ?_ | refine gny_F 4 rfl rfl rfl ?_ | refine gny_B 4 rfl rfl rfl ?_ | refine gny_skip 4 rfl rfl ?_ | refine gny_sp 4 rfl rfl rfl ?_ | refine gny_sB 4 rfl rfl rfl ?_ | refine gny_sld 4 rfl rfl rfl rfl ?_ | refine gny_sldH 4 rfl rfl rfl ‹HRow _ _ 0 _› rfl ?_ | refine gny_ldN 4 rfl rfl rfl rfl ?_ | refine gny_bld 4 rfl rfl rfl ?_)
    refine gny_ldHo 5 0 rfl rfl hr rfl rfl ?_
    refine gny_pcall 6 rfl rfl rfl (rHolder_spec hT) ?_
    unfold rHolderV
    (first | refine gny_p 7 rfl rfl rfl ?_ | refine gny_ld 7 rfl rfl rfl rfl ?_ | refine gny_ldH 7 rfl rfl rfl ‹HRow _ _ 0 _› rfl ?_ | refine gny_T 7 rfl rfl rfl ?_ | refine gny_F 7 rfl rfl rfl ?_ | refine gny_B 7 rfl rfl rfl ?_ | refine gny_skip 7 rfl rfl ?_ | refine gny_sp 7 rfl rfl rfl ?_ | refine gny_sB 7 rfl rfl rfl ?_ | refine gny_sld 7 rfl rfl rfl rfl ?_ | refine gny_sldH 7 rfl rfl rfl ‹HRow _ _ 0 _› rfl ?_ | refine gny_ldN 7 rfl rfl rfl rfl ?_ | refine gny_bld 7 rfl rfl rfl ?_)
    refine gny_ext 8 rfl rfl rfl rfl ?_
    refine gny_ext 9 rfl rfl rfl rfl ?_
    (first | refine gny_p 10 rfl rfl rfl ?_ | refine gny_ld 10 rfl rfl rfl rfl ?_ | refine gny_ldH 10 rfl rfl rfl ‹HRow _ _ 0 _› rfl ?_ | refine gny_T 10 rfl rfl rfl ?_ | refine gny_F 10 rfl rfl rfl ?_ | refine gny_B 10 rfl rfl rfl ?_ | refine gny_skip 10 rfl rfl ?_ | refine gny_sp 10 rfl rfl rfl ?_ | refine gny_sB 10 rfl rfl rfl ?_ | refine gny_sld 10 rfl rfl rfl rfl ?_ | refine gny_sldH 10 rfl rfl rfl ‹HRow _ _ 0 _› rfl ?_ | refine gny_ldN 10 rfl rfl rfl rfl ?_ | refine gny_bld 10 rfl rfl rfl ?_)
    refine any_rest rfl ?_
    rw [opt_some]
    refine walk ?_
    refine ex_if rfl (fun hq => ?_) (fun hq => ?_)
    · refine walk ?_
      refine fin0 ?_
      refine ⟨_, _, _, rfl, zTable_reads, .dupH fun hn => hq (findH_none.2 fun hk => ?_), rfl⟩
      rw [insAll_keys] at hk
      have h3 : ((holds.take (i + 1)).map (·.Key)).Nodup := hn.sublist ((List.take_sublist _ _).map _)
      rw [ht, List.map_append, List.nodup_append] at h3
      exact h3.2.2 _ hk _ (by simp) rfl
    · have hnone : findH (insAll (holds.take i)) holds[i].Key = none := Classical.byContradiction hq
      rw [findH_none, insAll_keys] at hnone
      have hins : insAll (holds.take (i + 1)) = holdL holds[i].Key holds[i].Robot false (insAll (holds.take i)) := by rw [ht, insAll_snoc]
      refine walk ?_
      refine ex_any 12 [row p6 55 [.slice d1 (insAll (holds.take i)).length e1, .slice d2 0 e2]] ?_
      (first | refine gny_p 0 rfl rfl rfl ?_ | refine gny_ld 0 rfl rfl rfl rfl ?_ | refine gny_ldH 0 rfl rfl rfl ‹HRow _ _ 0 _› rfl ?_ | refine gny_T 0 rfl rfl rfl ?_ | refine gny_F 0 rfl rfl rfl ?_ | refine gny_B 0 rfl rfl rfl ?_ | refine gny_skip 0 rfl rfl ?_ | refine gny_sp 0 rfl rfl rfl ?_ | refine gny_sB 0 rfl rfl rfl ?_ | refine gny_sld 0 rfl rfl rfl rfl ?_ | refine gny_sldH 0 rfl rfl rfl ‹HRow _ _ 0 _› rfl ?_ | refine gny_ldN 0 rfl rfl rfl rfl ?_ | refine gny_bld 0 rfl rfl rfl ?_); (first | refine gny_p 1 rfl rfl rfl ?_ | refine gny_ld 1 rfl rfl rfl rfl ?_ | refine gny_ldH 1 rfl rfl rfl ‹HRow _ _ 0 _› rfl ?_ | refine gny_T 1 rfl rfl rfl ?_ | refine gny_F 1 rfl rfl rfl ?_ | refine gny_B 1 rfl rfl rfl ?_ | refine gny_skip 1 rfl rfl ?_ | refine gny_sp 1 rfl rfl rfl ?_ | refine gny_sB 1 rfl rfl rfl ?_ | refine gny_sld 1 rfl rfl rfl rfl ?_ | refine gny_sldH 1 rfl rfl rfl ‹HRow _ _ 0 _› rfl ?_ | refine gny_ldN 1 rfl rfl rfl rfl ?_ | refine gny_bld 1 rfl rfl rfl ?_); (first | refine gny_p 2 rfl rfl rfl ?_ | refine gny_ld 2 rfl rfl rfl rfl ?_ | refine gny_ldH 2 rfl rfl rfl ‹HRow _ _ 0 _› rfl ?_ | refine gny_T 2 rfl rfl rfl ?_ | refine gny_F 2 rfl rfl rfl ?_ | refine gny_B 2 rfl rfl rfl ?_ | refine gny_skip 2 rfl rfl ?_ | refine gny_sp 2 rfl rfl rfl ?_ | refine gny_sB 2 rfl rfl rfl ?_ | refine gny_sld 2 rfl rfl rfl rfl ?_ | refine gny_sldH 2 rfl rfl rfl ‹HRow _ _ 0 _› rfl ?_ | refine gny_ldN 2 rfl rfl rfl rfl ?_ | refine gny_bld 2 rfl rfl rfl ?_)
      refine gny_ixp 3 rfl rfl rfl (h1.mono hlK).1 hi1 fun b8 o8 cc8 hr8 hc8 => ?_
      obtain ⟨rfl, hsz8, hfr8⟩ := hc8
      (first | refine gny_p 4 rfl rfl rfl ?_ | refine gny_ld 4 rfl rfl rfl rfl ?_ | refine gny_ldH 4 rfl rfl rfl ‹HRow _ _ 0 _› rfl ?_ | refine gny_T 4 rfl rfl rfl ?_ | refine gny_F 4 rfl rfl rfl ?_ | refine gny_B 4 rfl rfl rfl ?_ | refine gny_skip 4 rfl rfl ?_ | refine gny_sp 4 rfl rfl rfl ?_ | refine gny_sB 4 rfl rfl rfl ?_ | refine gny_sld 4 rfl rfl rfl rfl ?_ | refine gny_sldH 4 rfl rfl rfl ‹HRow _ _ 0 _› rfl ?_ | refine gny_ldN 4 rfl rfl rfl rfl ?_ | refine gny_bld 4 rfl rfl rfl ?_)
      refine gny_ldHo 5 0 rfl rfl hr8 rfl rfl ?_
      (first | refine gny_p 6 rfl rfl rfl ?_ | refine gny_ld 6 rfl rfl rfl rfl ?_ | refine gny_ldH 6 rfl rfl rfl ‹HRow _ _ 0 _› rfl ?_ | refine gny_T 6 rfl rfl rfl ?_ | refine gny_F 6 rfl rfl rfl ?_ | refine gny_B 6 rfl rfl rfl ?_ | refine gny_skip 6 rfl rfl ?_ | refine gny_sp 6 rfl rfl rfl ?_ | refine gny_sB 6 rfl rfl rfl ?_ | refine gny_sld 6 rfl rfl rfl rfl ?_ | refine gny_sldH 6 rfl rfl rfl ‹HRow _ _ 0 _› rfl ?_ | refine gny_ldN 6 rfl rfl rfl rfl ?_ | refine gny_bld 6 rfl rfl rfl ?_); (first | refine gny_p 7 rfl rfl rfl ?_ | refine gny_ld 7 rfl rfl rfl rfl ?_ | refine gny_ldH 7 rfl rfl rfl ‹HRow _ _ 0 _› rfl ?_ | refine gny_T 7 rfl rfl rfl ?_ | refine gny_F 7 rfl rfl rfl ?_ | refine gny_B 7 rfl rfl rfl ?_ | refine gny_skip 7 rfl rfl ?_ | refine gny_sp 7 rfl rfl rfl ?_ | refine gny_sB 7 rfl rfl rfl ?_ | refine gny_sld 7 rfl rfl rfl rfl ?_ | refine gny_sldH 7 rfl rfl rfl ‹HRow _ _ 0 _› rfl ?_ | refine gny_ldN 7 rfl rfl rfl rfl ?_ | refine gny_bld 7 rfl rfl rfl ?_)
      refine gny_ixp 8 rfl rfl rfl (h1.mono hlK).1 hi1 fun b9 o9 cc9 hr9 hc9 => ?_
      obtain ⟨rfl, hsz9, hfr9⟩ := hc9
      (first | refine gny_p 9 rfl rfl rfl ?_ | refine gny_ld 9 rfl rfl rfl rfl ?_ | refine gny_ldH 9 rfl rfl rfl ‹HRow _ _ 0 _› rfl ?_ | refine gny_T 9 rfl rfl rfl ?_ | refine gny_F 9 rfl rfl rfl ?_ | refine gny_B 9 rfl rfl rfl ?_ | refine gny_skip 9 rfl rfl ?_ | refine gny_sp 9 rfl rfl rfl ?_ | refine gny_sB 9 rfl rfl rfl ?_ | refine gny_sld 9 rfl rfl rfl rfl ?_ | refine gny_sldH 9 rfl rfl rfl ‹HRow _ _ 0 _› rfl ?_ | refine gny_ldN 9 rfl rfl rfl rfl ?_ | refine gny_bld 9 rfl rfl rfl ?_)
      refine gny_ldHo 10 1 rfl rfl hr9 rfl rfl ?_
      refine gny_call 11 rfl rfl rfl (rHold_spec (k := holds[i].Key) (r := holds[i].Robot) (yes := true) hT hsz8 hfr8 (by simp only; omega)) fun r9 H9 B hl9 ⟨cs, er, hcs, eB⟩ => ?_
      subst er eB
      refine ⟨(by (repeat (first | exact Sub.refl _ | exact Sub.nil _ | (apply sub_pick; (repeat (first | exact Has.here | apply Has.there)); skip) | apply Sub.drop))), ?_⟩
      obtain ⟨q1, q2, rfl, hq1, hq2⟩ := hcs
      change SlB rHold 2 24 H9 q1 (holdL holds[i].Key holds[i].Robot false (insAll (holds.take i))) at hq1
      change SlB rRec 9 120 H9 q2 [] at hq2
      rw [← hins] at hq1
      obtain ⟨qb1, qc1, rfl, _, _⟩ := hq1.1.shape
      obtain ⟨qb2, qc2, rfl, _, _⟩ := hq2.1.shape
      have hlen2 : (insAll (holds.take (i + 1))).length ≤ i + 1 := by
        rw [hins]
        have := holdL_len (k := holds[i].Key) (r := holds[i].Robot) (l := insAll (holds.take i)) (put := false)
        rw [if_neg Bool.noConfusion] at this
        omega
      have hnd2 : ((holds.take (i + 1)).map (·.Key)).Nodup := by
        rw [ht, List.map_append, List.nodup_append]
        refine ⟨hnd, by simp, fun a ha b hb e => ?_⟩
        simp only [List.map_cons, List.map_nil, List.mem_singleton] at hb
        subst e hb
        exact hnone ha
      refine any_rest rfl ?_
      refine walk ?_
      exact out_next hL (i + 1, (qb1, qc1), (qb2, qc2), H9) ⟨by simp only; omega, hlK.trans hl9, hnd2, hlen2, hq1, hq2⟩
  clear hL
  obtain rfl : i = holds.length := by omega
  rw [List.take_length] at hnd hlen hr1 ⊢
  generalize hins : insAll holds = ia at hlen hr1 ⊢
  refine walk ?_
  refine ex_loop (σ := Nat × Int × Heap) (fun u => u.1 ≤ prep.length ∧ HK.le u.2.2 ∧ ((prep.take u.1).map (·.Txn.k)).Nodup ∧ ((u.2.1 = 0 ∧ ∀ q ∈ prep.take u.1, q.Work.ks.Nodup) ∨ (u.2.1 = 1 ∧ ∃ q ∈ prep.take u.1, ¬ q.Work.ks.Nodup)))
    (fun u => [(1, .slice b2 prep.length c2), (4, .pointer (some ⟨p4, 0, none⟩)), (6, .pointer (some ⟨p6, 0, none⟩)), (7, I u.2.1), (11, I u.1)]) (fun u => u.2.2) (fun u => row p6 55 [.slice d1 ia.length e1, .slice d2 0 e2] :: row p4 55 [nilS, nilS] :: R) (fun u => prep.length - u.1)
    (0, 0, HK) ⟨Nat.zero_le _, .refl _, by simp, .inl ⟨rfl, by simp⟩⟩ fun ⟨i, cd, HJ⟩ ⟨hi0, hlJ, hxn, hcd⟩ K hL => ?_
  simp only at hi0 hlJ hxn hcd
  dsimp only
  refine walk ?_
  refine ex_if rfl (fun hi => ?_) (fun hi => ?_)
  · have hi1 : i < prep.length := by omega
    have ht := List.take_succ_eq_append_getElem hi1
    have hwi := hw _ (List.getElem_mem hi1)
    obtain ⟨x1, x2, x3, hx⟩ : ∃ x1 x2 x3, prep[i].Txn = ⟨x1, x2, x3⟩ := ⟨_, _, _, rfl⟩
    refine walk ?_
    refine ex_loop (σ := Nat) (fun k => k ≤ i ∧ ∀ q ∈ prep.take k, q.Txn ≠ prep[i].Txn) (fun k => [(1, .slice b2 prep.length c2), (4, .pointer (some ⟨p4, 0, none⟩)), (6, .pointer (some ⟨p6, 0, none⟩)), (7, I cd), (11, I i), (12, I k)]) (fun _ => HJ) (fun _ => row p6 55 [.slice d1 ia.length e1, .slice d2 0 e2] :: row p4 55 [nilS, nilS] :: R) (fun k => i - k)
      0 ⟨Nat.zero_le _, by simp⟩ fun k ⟨hk0, hno⟩ K2 hL2 => ?_
    refine walk ?_
    refine ex_if rfl (fun hk => ?_) (fun hk => ?_)
    · have hk1 : k < prep.length := by omega
      have htk := List.take_succ_eq_append_getElem hk1
      obtain ⟨y1, y2, y3, hy⟩ : ∃ y1 y2 y3, prep[k].Txn = ⟨y1, y2, y3⟩ := ⟨_, _, _, rfl⟩
      refine walk ?_
      refine ops_ixp rfl rfl (h2.mono (hlK.trans hlJ)).1 hi1 fun b8 o8 cc8 hr8 hc8 => ?_
      obtain ⟨u1, u2, u3, rfl, _⟩ := hc8
      have hrt := rec_txn hr8
      rw [hx] at hrt
      refine walk ?_
      refine ops_ldNH rfl rfl hrt rfl ?_
      refine walk ?_
      refine ops_ixp rfl rfl (h2.mono (hlK.trans hlJ)).1 hk1 fun b9 o9 cc9 hr9 hc9 => ?_
      obtain ⟨v1, v2, v3, rfl, _⟩ := hc9
      have hrt2 := rec_txn hr9
      rw [hy] at hrt2
      refine walk ?_
      refine ops_ldNH rfl rfl hrt2 rfl ?_
      refine walk ?_
      refine ex_if rfl (fun hq => ?_) (fun hq => ?_)
      · obtain ⟨rfl, rfl, rfl⟩ := hq
        refine walk ?_
        refine fin0 ?_
        refine ⟨_, _, _, rfl, zTable_reads, .dupP hnd fun hn => ?_, rfl⟩
        have h3 : ((prep.take (i + 1)).map (·.Txn.k)).Nodup := hn.sublist ((List.take_sublist _ _).map _)
        rw [ht, List.map_append, List.nodup_append] at h3
        refine h3.2.2 prep[k].Txn.k (List.mem_map.2 ⟨prep[k], ?_, rfl⟩) prep[i].Txn.k (by simp) (by rw [hx, hy])
        exact List.mem_take_iff_getElem.2 ⟨k, by omega, rfl⟩
      · refine walk ?_
        refine out_next hL2 (k + 1) ⟨by omega, fun q hm => ?_⟩
        rw [htk, List.mem_append, List.mem_singleton] at hm
        rcases hm with hm | rfl
        · exact hno q hm
        · rw [hx, hy]
          intro e
          obtain ⟨a, b, c⟩ := txn_ext.1 e
          exact hq ⟨a.symm, b.symm, c.symm⟩
    clear hL2
    obtain rfl : k = i := by omega
    have hxn2 : ((prep.take (k + 1)).map (·.Txn.k)).Nodup := by
      rw [ht, List.map_append, List.nodup_append]
      refine ⟨hxn, by simp, fun a ha b hb e => ?_⟩
      simp only [List.map_cons, List.map_nil, List.mem_singleton] at hb
      subst e hb
      obtain ⟨q, hq, he⟩ := List.mem_map.1 ha
      exact hno q hq (k_inj he)
    refine walk ?_
    refine ops_ixp rfl rfl (h2.mono (hlK.trans hlJ)).1 hi1 fun b8 o8 cc8 hr8 hc8 => ?_
    obtain ⟨u1, u2, u3, rfl, _, _, _, _, g5, g6, g7, _⟩ := hc8
    have hrw := rec_work hr8
    refine walk ?_
    refine ops_ldNH rfl rfl hrw rfl ?_
    refine ops_call rfl rfl (twice_spec (w := prep[k].Work) (cw := [I prep[k].Work.Robot, u1, u2]) ⟨_, _, rfl, g5, g6, g7⟩ (by simp only [cap47]; omega)) fun r5 H5 B hl5 ⟨q, er, hq, eB⟩ => ?_
    subst er eB
    cases q with
    | true =>
      have hdu : ¬ prep[k].Work.ks.Nodup := fun h => Bool.noConfusion (hq.2 h)
      refine walk ?_
      refine out_next hL (k + 1, 1, H5) ⟨by simp only; omega, hlJ.trans hl5, hxn2, .inr ⟨rfl, prep[k], ?_, hdu⟩⟩
      exact List.mem_take_iff_getElem.2 ⟨k, by omega, rfl⟩
    | false =>
      have hdu := hq.1 rfl
      refine walk ?_
      refine out_next hL (k + 1, cd, H5) ⟨by simp only; omega, hlJ.trans hl5, hxn2, ?_⟩
      simp only
      rcases hcd with ⟨h3, h4⟩ | ⟨h3, q, h4, h5⟩
      · refine .inl ⟨h3, fun q hm => ?_⟩
        rw [ht, List.mem_append, List.mem_singleton] at hm
        rcases hm with hm | rfl
        · exact h4 q hm
        · exact hdu
      · refine .inr ⟨h3, q, ?_, h5⟩
        rw [ht, List.mem_append]
        exact .inl h4
  clear hL
  obtain rfl : i = prep.length := by omega
  rw [List.take_length] at hxn hcd
  have hndx : ¬ dupX prep := fun h => h hxn
  refine walk ?_
  rcases hcd with ⟨rfl, hall⟩ | ⟨rfl, hsome⟩
  rotate_left
  · refine ex_loop (σ := Unit) (fun _ => True) (fun _ => [(1, .slice b2 prep.length c2), (4, .pointer (some ⟨p4, 0, none⟩)), (6, .pointer (some ⟨p6, 0, none⟩)), (7, I 1), (13, I 0)]) (fun _ => HJ) (fun _ => row p6 55 [.slice d1 ia.length e1, .slice d2 0 e2] :: row p4 55 [nilS, nilS] :: R) (fun _ => 0) () trivial fun _ _ K hL => ?_
    refine walkG ?_
    rw [decide_eq_false (p := (0 : Int) < (prep.length : Int) ∧ (1 : Int) = 0) (fun h => by omega)]
    refine walk ?_
    refine fin0 ?_
    exact ⟨_, _, _, rfl, zTable_reads, .range hnd hndx hsome, rfl⟩
  refine ex_loop (σ := Nat × Table × Int × (Option Addr × Nat) × (Option Addr × Nat) × Heap) (fun u => u.1 ≤ prep.length ∧ HJ.le u.2.2.2.2.2 ∧ ((u.2.2.1 = 0 ∧ ∀ m'' e, RPrepL u.2.1 (prep.drop u.1) m'' e → RPrepL ⟨ia, []⟩ prep m'' e) ∨ (u.2.2.1 ≠ 0 ∧ RPrepL ⟨ia, []⟩ prep u.2.1 u.2.2.1)) ∧ ((∀ q ∈ u.2.1.Prep, q.Work.ks.length ≤ 80) ∧ u.2.1.Prep.length ≤ u.1) ∧ SlB rHold 2 24 u.2.2.2.2.2 (.slice u.2.2.2.1.1 u.2.1.Held.length u.2.2.2.1.2) u.2.1.Held ∧ SlB rRec 9 120 u.2.2.2.2.2 (.slice u.2.2.2.2.1.1 u.2.1.Prep.length u.2.2.2.2.1.2) u.2.1.Prep)
    (fun u => [(1, .slice b2 prep.length c2), (4, .pointer (some ⟨p4, 0, none⟩)), (6, .pointer (some ⟨p6, 0, none⟩)), (7, I u.2.2.1), (13, I u.1)]) (fun u => u.2.2.2.2.2) (fun u => row p6 55 [.slice u.2.2.2.1.1 u.2.1.Held.length u.2.2.2.1.2, .slice u.2.2.2.2.1.1 u.2.1.Prep.length u.2.2.2.2.1.2] :: row p4 55 [nilS, nilS] :: R) (fun u => prep.length - u.1)
    (0, ⟨ia, []⟩, 0, (d1, e1), (d2, e2), HJ) ⟨Nat.zero_le _, .refl _, .inl ⟨rfl, fun _ _ h => h⟩, ⟨by simp, by simp⟩, hr1.mono hlJ, hr2.mono hlJ⟩ fun ⟨i, m1, cd, ⟨f1, f2⟩, ⟨f3, f4⟩, HL⟩ ⟨hi0, hlL, hst, ⟨hks1, hpl1⟩, hn1, hn2⟩ K hL => ?_
  simp only at hi0 hlL hst hks1 hpl1 hn1 hn2
  dsimp only
  refine walkG ?_
  refine ex_if rfl (fun hi => ?_) (fun hi => ?_)
  · obtain ⟨hi, hc0⟩ := hi
    have hi1 : i < prep.length := by omega
    rcases hst with ⟨_, hst⟩ | ⟨hne, _⟩
    rotate_left
    · exact absurd hc0 hne
    have hdr := List.drop_eq_getElem_cons hi1
    rw [hdr] at hst
    have hwi := hw _ (List.getElem_mem hi1)
    obtain ⟨x1, x2, x3, hx⟩ : ∃ x1 x2 x3, prep[i].Txn = ⟨x1, x2, x3⟩ := ⟨_, _, _, rfl⟩
    have hT : rTable HL [.slice f1 m1.Held.length f2, .slice f3 m1.Prep.length f4] m1 := ⟨_, _, rfl, hn1, hn2⟩
    have h2L := h2.mono (hlK.trans (hlJ.trans hlL))
    refine walk ?_
    refine ex_any 11 [row p6 55 [.slice f1 m1.Held.length f2, .slice f3 m1.Prep.length f4]] ?_
    (first | refine gny_p 0 rfl rfl rfl ?_ | refine gny_ld 0 rfl rfl rfl rfl ?_ | refine gny_ldH 0 rfl rfl rfl ‹HRow _ _ 0 _› rfl ?_ | refine gny_T 0 rfl rfl rfl ?_ | refine gny_F 0 rfl rfl rfl ?_ | refine gny_B 0 rfl rfl rfl ?_ | refine gny_skip 0 rfl rfl ?_ | refine gny_sp 0 rfl rfl rfl ?_ | refine gny_sB 0 rfl rfl rfl ?_ | refine gny_sld 0 rfl rfl rfl rfl ?_ | refine gny_sldH 0 rfl rfl rfl ‹HRow _ _ 0 _› rfl ?_ | refine gny_ldN 0 rfl rfl rfl rfl ?_ | refine gny_bld 0 rfl rfl rfl ?_); (first | refine gny_p 1 rfl rfl rfl ?_ | refine gny_ld 1 rfl rfl rfl rfl ?_ | refine gny_ldH 1 rfl rfl rfl ‹HRow _ _ 0 _› rfl ?_ | refine gny_T 1 rfl rfl rfl ?_ | refine gny_F 1 rfl rfl rfl ?_ | refine gny_B 1 rfl rfl rfl ?_ | refine gny_skip 1 rfl rfl ?_ | refine gny_sp 1 rfl rfl rfl ?_ | refine gny_sB 1 rfl rfl rfl ?_ | refine gny_sld 1 rfl rfl rfl rfl ?_ | refine gny_sldH 1 rfl rfl rfl ‹HRow _ _ 0 _› rfl ?_ | refine gny_ldN 1 rfl rfl rfl rfl ?_ | refine gny_bld 1 rfl rfl rfl ?_); (first | refine gny_p 2 rfl rfl rfl ?_ | refine gny_ld 2 rfl rfl rfl rfl ?_ | refine gny_ldH 2 rfl rfl rfl ‹HRow _ _ 0 _› rfl ?_ | refine gny_T 2 rfl rfl rfl ?_ | refine gny_F 2 rfl rfl rfl ?_ | refine gny_B 2 rfl rfl rfl ?_ | refine gny_skip 2 rfl rfl ?_ | refine gny_sp 2 rfl rfl rfl ?_ | refine gny_sB 2 rfl rfl rfl ?_ | refine gny_sld 2 rfl rfl rfl rfl ?_ | refine gny_sldH 2 rfl rfl rfl ‹HRow _ _ 0 _› rfl ?_ | refine gny_ldN 2 rfl rfl rfl rfl ?_ | refine gny_bld 2 rfl rfl rfl ?_)
    refine gny_ixp 3 rfl rfl rfl h2L.1 hi1 fun b8 o8 cc8 hr8 hc8 => ?_
    obtain ⟨u1, u2, u3, rfl, g1, g2, g3, g4, g5, g6, g7, g8⟩ := hc8
    have hrt := rec_txn hr8
    rw [hx] at hrt g2 g3 g4
    (first | refine gny_p 4 rfl rfl rfl ?_ | refine gny_ld 4 rfl rfl rfl rfl ?_ | refine gny_ldH 4 rfl rfl rfl ‹HRow _ _ 0 _› rfl ?_ | refine gny_T 4 rfl rfl rfl ?_ | refine gny_F 4 rfl rfl rfl ?_ | refine gny_B 4 rfl rfl rfl ?_ | refine gny_skip 4 rfl rfl ?_ | refine gny_sp 4 rfl rfl rfl ?_ | refine gny_sB 4 rfl rfl rfl ?_ | refine gny_sld 4 rfl rfl rfl rfl ?_ | refine gny_sldH 4 rfl rfl rfl ‹HRow _ _ 0 _› rfl ?_ | refine gny_ldN 4 rfl rfl rfl rfl ?_ | refine gny_bld 4 rfl rfl rfl ?_)
    refine gny_ldNH 5 rfl rfl rfl hrt rfl ?_
    (first | refine gny_p 6 rfl rfl rfl ?_ | refine gny_ld 6 rfl rfl rfl rfl ?_ | refine gny_ldH 6 rfl rfl rfl ‹HRow _ _ 0 _› rfl ?_ | refine gny_T 6 rfl rfl rfl ?_ | refine gny_F 6 rfl rfl rfl ?_ | refine gny_B 6 rfl rfl rfl ?_ | refine gny_skip 6 rfl rfl ?_ | refine gny_sp 6 rfl rfl rfl ?_ | refine gny_sB 6 rfl rfl rfl ?_ | refine gny_sld 6 rfl rfl rfl rfl ?_ | refine gny_sldH 6 rfl rfl rfl ‹HRow _ _ 0 _› rfl ?_ | refine gny_ldN 6 rfl rfl rfl rfl ?_ | refine gny_bld 6 rfl rfl rfl ?_); (first | refine gny_p 7 rfl rfl rfl ?_ | refine gny_ld 7 rfl rfl rfl rfl ?_ | refine gny_ldH 7 rfl rfl rfl ‹HRow _ _ 0 _› rfl ?_ | refine gny_T 7 rfl rfl rfl ?_ | refine gny_F 7 rfl rfl rfl ?_ | refine gny_B 7 rfl rfl rfl ?_ | refine gny_skip 7 rfl rfl ?_ | refine gny_sp 7 rfl rfl rfl ?_ | refine gny_sB 7 rfl rfl rfl ?_ | refine gny_sld 7 rfl rfl rfl rfl ?_ | refine gny_sldH 7 rfl rfl rfl ‹HRow _ _ 0 _› rfl ?_ | refine gny_ldN 7 rfl rfl rfl rfl ?_ | refine gny_bld 7 rfl rfl rfl ?_)
    refine gny_ixp 8 rfl rfl rfl h2L.1 hi1 fun b9 o9 cc9 hr9 hc9 => ?_
    obtain ⟨v1, v2, v3, rfl, _, _, _, _, k5, k6, k7, _⟩ := hc9
    have hrw := rec_work hr9
    (first | refine gny_p 9 rfl rfl rfl ?_ | refine gny_ld 9 rfl rfl rfl rfl ?_ | refine gny_ldH 9 rfl rfl rfl ‹HRow _ _ 0 _› rfl ?_ | refine gny_T 9 rfl rfl rfl ?_ | refine gny_F 9 rfl rfl rfl ?_ | refine gny_B 9 rfl rfl rfl ?_ | refine gny_skip 9 rfl rfl ?_ | refine gny_sp 9 rfl rfl rfl ?_ | refine gny_sB 9 rfl rfl rfl ?_ | refine gny_sld 9 rfl rfl rfl rfl ?_ | refine gny_sldH 9 rfl rfl rfl ‹HRow _ _ 0 _› rfl ?_ | refine gny_ldN 9 rfl rfl rfl rfl ?_ | refine gny_bld 9 rfl rfl rfl ?_)
    refine gny_ldNH 10 rfl rfl rfl hrw rfl ?_
    refine any_stage 16 [] ?_
    refine gny_call 11 rfl rfl rfl (rPrepare_spec (x := ⟨x1, x2, x3⟩) (w := prep[i].Work) (cw := [I prep[i].Work.Robot, v1, v2]) hT ⟨g2, g3, g4⟩ ⟨_, _, rfl, k5, k6, k7⟩ hwi hks1 (by omega)) fun r5 H5 B hl5 ⟨cs, m2, e, er, hcs, hrp, eB⟩ => ?_
    subst er eB
    refine ⟨(by (repeat (first | exact Sub.refl _ | exact Sub.nil _ | (apply sub_pick; (repeat (first | exact Has.here | apply Has.there)); skip) | apply Sub.drop))), ?_⟩
    obtain ⟨q1, q2, rfl, hq1, hq2⟩ := hcs
    obtain ⟨qb1, qc1, rfl, _, _⟩ := hq1.1.shape
    obtain ⟨qb2, qc2, rfl, _, _⟩ := hq2.1.shape
    obtain ⟨hb1, hb2⟩ := hrp.bound hwi hks1
    (first | refine gny_p 12 rfl rfl rfl ?_ | refine gny_ld 12 rfl rfl rfl rfl ?_ | refine gny_ldH 12 rfl rfl rfl ‹HRow _ _ 0 _› rfl ?_ | refine gny_T 12 rfl rfl rfl ?_ | refine gny_F 12 rfl rfl rfl ?_ | refine gny_B 12 rfl rfl rfl ?_ | refine gny_skip 12 rfl rfl ?_ | refine gny_sp 12 rfl rfl rfl ?_ | refine gny_sB 12 rfl rfl rfl ?_ | refine gny_sld 12 rfl rfl rfl rfl ?_ | refine gny_sldH 12 rfl rfl rfl ‹HRow _ _ 0 _› rfl ?_ | refine gny_ldN 12 rfl rfl rfl rfl ?_ | refine gny_bld 12 rfl rfl rfl ?_)
    refine gny_ext 13 rfl rfl rfl rfl ?_
    refine gny_ext 14 rfl rfl rfl rfl ?_
    refine any_sta 15 rfl rfl rfl rfl (by simp) rfl ⟨(by (repeat (first | exact Sub.refl _ | exact Sub.nil _ | (apply sub_pick; (repeat (first | exact Has.here | apply Has.there)); skip) | apply Sub.drop))), ?_⟩
    refine any_rest rfl ?_
    rw [← hx] at hrp
    refine walk ?_
    refine out_next hL (i + 1, m2, e, (qb1, qc1), (qb2, qc2), H5) ⟨by simp only; omega, hlL.trans hl5, ?_, ⟨hb1, by simp only; omega⟩, hq1, hq2⟩
    simp only
    by_cases he : e = 0
    · subst he
      exact .inl ⟨rfl, fun m'' e' h => hst m'' e' (.cons hrp h)⟩
    · exact .inr ⟨he, hst m2 e (.stop hrp he)⟩
  clear hL
  refine walk ?_
  refine ex_if rfl (fun hc => ?_) (fun hc => ?_)
  · rcases hst with ⟨h, _⟩ | ⟨_, hst⟩
    · exact absurd h hc
    · subst hins
      refine walk ?_
      refine fin0 ?_
      exact ⟨_, _, _, rfl, zTable_reads, .conf hnd hndx hall hst hc, rfl⟩
  · have hc0 : cd = 0 := Classical.byContradiction hc
    have hie : i = prep.length := Classical.byContradiction fun h => hi ⟨by omega, hc0⟩
    rcases hst with ⟨_, hst⟩ | ⟨h, _⟩
    · subst hie hins
      rw [List.drop_length] at hst
      have hf := hst m1 0 .nil
      refine walk ?_
      refine fin0 ?_
      exact ⟨_, m1, 0, rfl, ⟨_, _, rfl, hn1, hn2⟩, .ok hnd hndx hall hf, rfl⟩
    · exact absurd hc0 h
end Go.Proofs.YtkhbfjkioehgfaaGreatDoor
