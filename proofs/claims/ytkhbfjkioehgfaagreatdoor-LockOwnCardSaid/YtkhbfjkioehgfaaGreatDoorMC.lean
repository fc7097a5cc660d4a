/- The reference's Apply, Expire. -/
import Derived.Test.YtkhbfjkioehgfaaGreatDoorMB
set_option linter.unusedVariables false
set_option linter.unusedSimpArgs false
namespace Go.Proofs.YtkhbfjkioehgfaaGreatDoor
open Go Go.Sx Go.Proofs
inductive RApply (m : Table) (x : Txn) (yes : Bool) : Table → Int → Prop
  | none (h : ∀ q ∈ m.Prep, q.Txn ≠ x) : RApply m x yes m 4
  | ok (j : Nat) (hj : j < m.Prep.length) (hx : m.Prep[j].Txn = x) : RApply m x yes ⟨if yes = true then takeR m.Prep[j].Work.Robot m.Prep[j].Work.Take (dropR m.Prep[j].Work.Robot m.Prep[j].Work.Drop m.Held) else m.Held, m.Prep.take j ++ m.Prep.drop (j + 1)⟩ 0
theorem holdL_len {k : ByteArray} {r : Int} : ∀ {l : List Hold} {put : Bool}, (holdL k r put l).length ≤ l.length + (if put = true then 0 else 1)
  | [], put => by cases put <;> simp [holdL]
  | h :: t, put => by
    have ih := holdL_len (k := k) (r := r) (l := t) (put := put || decide (SLt k h.Key))
    simp only [holdL, List.length_append, List.length_cons]
    have h1 : (if h.Key = k then ([] : List Hold) else [h]).length ≤ 1 := by split <;> simp
    cases put with
    | true =>
      simp only [Bool.true_or, if_true, Bool.true_eq_false, false_and, if_false, List.length_nil] at ih ⊢
      omega
    | false =>
      by_cases hs : SLt k h.Key
      · simp only [hs, decide_true, Bool.false_or, if_true, and_self, List.length_cons, List.length_nil] at ih ⊢
        simp only [Bool.false_eq_true, if_false]
        omega
      · simp only [hs, decide_false, Bool.false_or, and_false, if_false, List.length_nil] at ih ⊢
        simp only [Bool.false_eq_true, if_false] at ih ⊢
        omega
def dropStep (r : Int) (l : List Hold) (k : ByteArray) : List Hold := if (findH l k).isSome = true ∧ (match findH l k with | some h => h.Robot | none => 0) = r then holdL k 0 true l else l
def holderR (l : List Hold) (k : ByteArray) : Int := ((findH l k).map (·.Robot)).getD 0
theorem rHolderV_eq {l : List Hold} {k : ByteArray} : rHolderV l k = .tuple #[I (holderR l k), .bool (decide ((findH l k).isSome = true))] := by
  unfold rHolderV holderR
  cases findH l k <;> rfl
theorem dropStep_eq {r : Int} {l : List Hold} {k : ByteArray} : dropStep r l k = if (findH l k).isSome = true ∧ holderR l k = r then holdL k 0 true l else l := by
  unfold dropStep holderR
  cases findH l k <;> rfl
theorem dropR_cons {r : Int} {k : ByteArray} {ks : List ByteArray} {l : List Hold} : dropR r (k :: ks) l = dropR r ks (dropStep r l k) := rfl
theorem takeR_cons {r : Int} {k : ByteArray} {ks : List ByteArray} {l : List Hold} : takeR r (k :: ks) l = takeR r ks (holdL k r false l) := rfl
theorem slr_takeG {α : Type} {R : Rd α} {sz : Nat} [RdOk R sz] {H : Heap} {b0 : Option Addr} {c0 n j : Nat} {l : List α} (h : SlR R sz H (.slice b0 n c0) l) (hj : j ≤ l.length) : SlR R sz H (.slice b0 j c0) (l.take j) := by
  have h := h.slc (l := 0) (h := j) (Nat.zero_le _) hj
  have e0 : Sx.slc b0 c0 0 j sz = .slice b0 j c0 := by unfold Sx.slc; cases b0 <;> simp [Addr.add]
  rw [e0] at h
  simpa using h
set_option maxHeartbeats 16000000 in
set_option maxRecDepth 20000 in
theorem rApply_spec {W0 : World} {H : Heap} {c : List Value} {m : Table} {x : Txn} {yes : Bool} (h0 : rTable H c m) (hn : ∀ q ∈ m.Prep, q.Work.ks.length ≤ 80) (hpl : m.Prep.length ≤ 1000) (hhl : m.Held.length ≤ 90000) :
    Ct Tryz.prog 43 #[.agg c.toArray, .agg x.cv.toArray, .bool yes] W0 H [] (fun r H' B => ∃ cs m' e, r = .tuple #[.agg cs.toArray, I e] ∧ rTable H' cs m' ∧ RApply m x yes m' e ∧ B = []) := by
  refine Ct.go (vs := [.agg c.toArray, .agg x.cv.toArray, .bool yes]) fun R => ?_
  have h00 := h0
  obtain ⟨s1, s2, rfl, hs1, hs2⟩ := h0
  obtain ⟨b1, c1, rfl, hc1, hd1⟩ := hs1.1.shape
  obtain ⟨b2, c2, rfl, hc2, hd2⟩ := hs2.1.shape
  obtain ⟨x1, x2, x3⟩ := x
  have hcl : ∀ n, n ≤ 2000 → n * 120 ≤ cap47 := fun n h => Nat.le_trans (Nat.mul_le_mul_right 120 h) (by decide)
  refine walk ?_
  refine ops_box rfl rfl fun p3 _ => ?_
  refine ops_box rfl rfl fun p4 _ => ?_
  refine ops_alloc rfl fun p6 _ => ?_
  refine walk ?_
  refine ops_call rfl rfl (rAt_spec (x := ⟨x1, x2, x3⟩) h00) fun r1 H1 B hl1 ⟨hat, eB, eH⟩ => ?_
  subst eB eH
  rcases hat with ⟨rfl, hno⟩ | ⟨j0, hj0, rfl, hj⟩
  · refine walk ?_
    refine fin0 ?_
    exact ⟨_, m, 4, rfl, h00, .none hno, rfl⟩
  have hge : ¬ (j0 : Int) < 0 := by omega
  have hnq := hn _ (List.getElem_mem hj0)
  refine walk ?_
  refine ops_ixp rfl rfl hs2.1 hj0 fun b o cc hr hc => ?_
  obtain ⟨t1, t2, t3, rfl, g1, g2, g3, g4, g5, g6, g7, g8⟩ := hc
  have hrw := rec_work hr
  have hap : ∀ m' : Table, m' = ⟨if yes = true then takeR m.Prep[j0].Work.Robot m.Prep[j0].Work.Take (dropR m.Prep[j0].Work.Robot m.Prep[j0].Work.Drop m.Held) else m.Held, m.Prep.take j0 ++ m.Prep.drop (j0 + 1)⟩ → RApply m ⟨x1, x2, x3⟩ yes m' 0 := fun m' e => by subst e; exact .ok j0 hj0 hj
  generalize m.Prep[j0].Work = w at hrw g5 g6 g7 hnq hap
  obtain ⟨wr, wt, wd⟩ := w
  dsimp only at hrw g5 g6 g7 hnq hap
  obtain ⟨sb1, sc1, rfl, hsc1, hsd1⟩ := g6.1.shape
  obtain ⟨sb2, sc2, rfl, hsc2, hsd2⟩ := g7.1.shape
  refine walk ?_
  refine ops_ldNH rfl rfl hrw rfl ?_
  refine ops_alloc rfl fun p9 _ => ?_
  refine walk ?_
  refine ops_mk0 (w := 120) rRec rfl fun ba => ?_
  refine walk ?_
  have htk := slr_takeG (j := j0) hs2.1 (by omega)
  have hlt : (m.Prep.take j0).length = j0 := by rw [List.length_take]; omega
  refine ops_appS rfl rfl (show SlR rRec 9 H1 (.slice b2 j0 c2) (m.Prep.take j0) from htk) (hcl _ (by rw [List.length_nil, hlt]; omega)) fun d1 e1 => ?_
  rw [List.nil_append, List.length_nil, Nat.zero_add]
  have hi1 : ((j0 : Int) + 1) = ((j0 + 1 : Nat) : Int) := by omega
  refine walk ?_
  refine ops_pure rfl rfl (op_slice (l := (j0 : Int) + 1) (h := (m.Prep.length : Int)) rfl rfl rfl (by omega) (by omega) (by omega)) ?_
  have hsd := hs2.1.slc (l := j0 + 1) (h := m.Prep.length) (by omega) (Nat.le_refl _)
  rw [List.take_of_length_le (by rw [List.length_drop]; omega)] at hsd
  rw [hi1, Int.toNat_natCast, Int.toNat_natCast]
  have hld : (m.Prep.drop (j0 + 1)).length = m.Prep.length - (j0 + 1) := List.length_drop
  refine ops_appS rfl rfl hsd (hcl _ (by rw [hlt, hld]; omega)) fun d2 e2 => ?_
  rw [← List.length_append]
  refine ops_freeze (.slice d2 (m.Prep.take j0 ++ m.Prep.drop (j0 + 1)).length e2) fun H2 hl2 hsp => ?_
  generalize m.Prep.take j0 ++ m.Prep.drop (j0 + 1) = pr at hsp hap ⊢
  refine walk ?_
  cases yes with
  | false =>
    have hap' := hap ⟨m.Held, pr⟩ (by simp)
    refine ex_loop (σ := Unit) (fun _ => True) (fun _ => [(2, .bool false), (3, .pointer (some ⟨p3, 0, none⟩)), (6, .pointer (some ⟨p6, 0, none⟩)), (9, .pointer (some ⟨p9, 0, none⟩)), (11, I 0)]) (fun _ => H2)
      (fun _ => row p3 55 [.slice b1 m.Held.length c1, .slice d2 pr.length e2] :: row p9 30 [I wr, .slice sb1 wt.length sc1, .slice sb2 wd.length sc2] :: row p6 55 [nilS, nilS] :: R) (fun _ => 0) () trivial fun _ _ K hL => ?_
    refine walkG ?_
    rw [decide_eq_false (p := (0 : Int) < (wd.length : Int) ∧ false = true) (fun h => Bool.noConfusion h.2)]
    refine walk ?_
    refine ex_loop (σ := Unit) (fun _ => True) (fun _ => [(2, .bool false), (3, .pointer (some ⟨p3, 0, none⟩)), (6, .pointer (some ⟨p6, 0, none⟩)), (9, .pointer (some ⟨p9, 0, none⟩)), (14, I 0)]) (fun _ => H2)
      (fun _ => row p3 55 [.slice b1 m.Held.length c1, .slice d2 pr.length e2] :: row p9 30 [I wr, .slice sb1 wt.length sc1, .slice sb2 wd.length sc2] :: row p6 55 [nilS, nilS] :: R) (fun _ => 0) () trivial fun _ _ K2 hL2 => ?_
    refine walkG ?_
    rw [decide_eq_false (p := (0 : Int) < (wt.length : Int) ∧ false = true) (fun h => Bool.noConfusion h.2)]
    refine walk ?_
    refine fin0 ?_
    exact ⟨_, ⟨m.Held, pr⟩, 0, rfl, ⟨_, _, rfl, hs1.mono hl2, hsp⟩, hap', rfl⟩
  | true =>
    have hap' := fun m' (e : m' = ⟨takeR wr wt (dropR wr wd m.Held), pr⟩) => hap m' (e.trans (by rw [if_pos rfl]))
    refine ex_loop (σ := Nat × List Hold × (Option Addr × Nat) × (Option Addr × Nat) × Heap) (fun u => u.1 ≤ wd.length ∧ H2.le u.2.2.2.2 ∧ dropR wr (wd.drop u.1) u.2.1 = dropR wr wd m.Held ∧ u.2.1.length ≤ m.Held.length ∧ SlB rHold 2 24 u.2.2.2.2 (.slice u.2.2.1.1 u.2.1.length u.2.2.1.2) u.2.1 ∧ SlB rRec 9 120 u.2.2.2.2 (.slice u.2.2.2.1.1 pr.length u.2.2.2.1.2) pr)
      (fun u => [(2, .bool true), (3, .pointer (some ⟨p3, 0, none⟩)), (6, .pointer (some ⟨p6, 0, none⟩)), (9, .pointer (some ⟨p9, 0, none⟩)), (11, I u.1)]) (fun u => u.2.2.2.2)
      (fun u => row p3 55 [.slice u.2.2.1.1 u.2.1.length u.2.2.1.2, .slice u.2.2.2.1.1 pr.length u.2.2.2.1.2] :: row p9 30 [I wr, .slice sb1 wt.length sc1, .slice sb2 wd.length sc2] :: row p6 55 [nilS, nilS] :: R) (fun u => wd.length - u.1)
      (0, m.Held, (b1, c1), (d2, e2), H2) ⟨Nat.zero_le _, .refl _, rfl, Nat.le_refl _, hs1.mono hl2, hsp⟩ fun ⟨i, hl, ⟨f1, f2⟩, ⟨f3, f4⟩, HK⟩ ⟨hi0, hlK, hF, hhl', hr1, hr2⟩ K hL => ?_
    simp only at hi0 hlK hF hhl' hr1 hr2
    dsimp only
    refine walkG ?_
    refine ex_if rfl (fun hi => ?_) (fun hi => ?_)
    · have hi1 : i < wd.length := by have := hi.1; omega
      have hdr := List.drop_eq_getElem_cons hi1
      rw [hdr, dropR_cons] at hF
      have hT : rTable HK [.slice f1 hl.length f2, .slice f3 pr.length f4] ⟨hl, pr⟩ := ⟨_, _, rfl, hr1, hr2⟩
      have hg7 := g7.mono (hl2.trans hlK)
      refine walk ?_
      refine ex_any 11 [row p3 55 [.slice f1 hl.length f2, .slice f3 pr.length f4], row p9 30 [I wr, .slice sb1 wt.length sc1, .slice sb2 wd.length sc2]] ?_
      (first | refine gny_p 0 rfl rfl rfl ?_ | refine gny_ld 0 rfl rfl rfl rfl ?_ | refine gny_ldH 0 rfl rfl rfl ‹HRow _ _ 0 _› rfl ?_ | refine gny_T 0 rfl rfl rfl ?_ | refine gny_F 0 rfl rfl rfl ?_ | refine gny_B 0 rfl rfl rfl ?_ | refine gny_skip 0 rfl rfl ?_ | refine gny_sp 0 rfl rfl rfl ?_ | refine gny_sB 0 rfl rfl rfl ?_ | refine gny_sld 0 rfl rfl rfl rfl ?_ | refine gny_sldH 0 rfl rfl rfl ‹HRow _ _ 0 _› rfl ?_ | refine gny_ldN 0 rfl rfl rfl rfl ?_ | refine gny_bld 0 rfl rfl rfl ?_); (first | refine gny_p 1 rfl rfl rfl ?_ | refine gny_ld 1 rfl rfl rfl rfl ?_ | refine gny_ldH 1 rfl rfl rfl ‹HRow _ _ 0 _› rfl ?_ | refine gny_T 1 rfl rfl rfl ?_ | refine gny_F 1 rfl rfl rfl ?_ | refine gny_B 1 rfl rfl rfl ?_ | refine gny_skip 1 rfl rfl ?_ | refine gny_sp 1 rfl rfl rfl ?_ | refine gny_sB 1 rfl rfl rfl ?_ | refine gny_sld 1 rfl rfl rfl rfl ?_ | refine gny_sldH 1 rfl rfl rfl ‹HRow _ _ 0 _› rfl ?_ | refine gny_ldN 1 rfl rfl rfl rfl ?_ | refine gny_bld 1 rfl rfl rfl ?_); (first | refine gny_p 2 rfl rfl rfl ?_ | refine gny_ld 2 rfl rfl rfl rfl ?_ | refine gny_ldH 2 rfl rfl rfl ‹HRow _ _ 0 _› rfl ?_ | refine gny_T 2 rfl rfl rfl ?_ | refine gny_F 2 rfl rfl rfl ?_ | refine gny_B 2 rfl rfl rfl ?_ | refine gny_skip 2 rfl rfl ?_ | refine gny_sp 2 rfl rfl rfl ?_ | refine gny_sB 2 rfl rfl rfl ?_ | refine gny_sld 2 rfl rfl rfl rfl ?_ | refine gny_sldH 2 rfl rfl rfl ‹HRow _ _ 0 _› rfl ?_ | refine gny_ldN 2 rfl rfl rfl rfl ?_ | refine gny_bld 2 rfl rfl rfl ?_); (first | refine gny_p 3 rfl rfl rfl ?_ | refine gny_ld 3 rfl rfl rfl rfl ?_ | refine gny_ldH 3 rfl rfl rfl ‹HRow _ _ 0 _› rfl ?_ | refine gny_T 3 rfl rfl rfl ?_ | refine gny_F 3 rfl rfl rfl ?_ | refine gny_B 3 rfl rfl rfl ?_ | refine gny_skip 3 rfl rfl ?_ | refine gny_sp 3 rfl rfl rfl ?_ | refine gny_sB 3 rfl rfl rfl ?_ | refine gny_sld 3 rfl rfl rfl rfl ?_ | refine gny_sldH 3 rfl rfl rfl ‹HRow _ _ 0 _› rfl ?_ | refine gny_ldN 3 rfl rfl rfl rfl ?_ | refine gny_bld 3 rfl rfl rfl ?_)
      refine gny_ixp 4 rfl rfl rfl hg7.1 hi1 fun b7 o7 cc7 hr7 hc7 => ?_
      obtain ⟨rfl, hsz⟩ := hc7
      refine gny_ldHo 5 0 rfl rfl hr7 rfl rfl ?_
      refine gny_pcall 6 rfl rfl rfl (rHolder_spec hT) ?_
      rw [rHolderV_eq]
      dsimp only
      (first | refine gny_p 7 rfl rfl rfl ?_ | refine gny_ld 7 rfl rfl rfl rfl ?_ | refine gny_ldH 7 rfl rfl rfl ‹HRow _ _ 0 _› rfl ?_ | refine gny_T 7 rfl rfl rfl ?_ | refine gny_F 7 rfl rfl rfl ?_ | refine gny_B 7 rfl rfl rfl ?_ | refine gny_skip 7 rfl rfl ?_ | refine gny_sp 7 rfl rfl rfl ?_ | refine gny_sB 7 rfl rfl rfl ?_ | refine gny_sld 7 rfl rfl rfl rfl ?_ | refine gny_sldH 7 rfl rfl rfl ‹HRow _ _ 0 _› rfl ?_ | refine gny_ldN 7 rfl rfl rfl rfl ?_ | refine gny_bld 7 rfl rfl rfl ?_)
      refine gny_ext 8 rfl rfl rfl rfl ?_
      refine gny_ext 9 rfl rfl rfl rfl ?_
      (first | refine gny_p 10 rfl rfl rfl ?_ | refine gny_ld 10 rfl rfl rfl rfl ?_ | refine gny_ldH 10 rfl rfl rfl ‹HRow _ _ 0 _› rfl ?_ | refine gny_T 10 rfl rfl rfl ?_ | refine gny_F 10 rfl rfl rfl ?_ | refine gny_B 10 rfl rfl rfl ?_ | refine gny_skip 10 rfl rfl ?_ | refine gny_sp 10 rfl rfl rfl ?_ | refine gny_sB 10 rfl rfl rfl ?_ | refine gny_sld 10 rfl rfl rfl rfl ?_ | refine gny_sldH 10 rfl rfl rfl ‹HRow _ _ 0 _› rfl ?_ | refine gny_ldN 10 rfl rfl rfl rfl ?_ | refine gny_bld 10 rfl rfl rfl ?_)
      refine any_rest rfl ?_
      have hst := dropStep_eq (r := wr) (l := hl) (k := wd[i])
      generalize holderR hl wd[i] = rv at hst ⊢
      refine walkG ?_
      refine ex_if rfl (fun hq => ?_) (fun hq => ?_)
      · rw [if_pos hq] at hst
        rw [hst] at hF
        have hlen := holdL_len (k := wd[i]) (r := 0) (l := hl) (put := true)
        rw [if_pos rfl, Nat.add_zero] at hlen
        refine ex_any 7 [row p3 55 [.slice f1 hl.length f2, .slice f3 pr.length f4], row p9 30 [I wr, .slice sb1 wt.length sc1, .slice sb2 wd.length sc2]] ?_
        (first | refine gny_p 0 rfl rfl rfl ?_ | refine gny_ld 0 rfl rfl rfl rfl ?_ | refine gny_ldH 0 rfl rfl rfl ‹HRow _ _ 0 _› rfl ?_ | refine gny_T 0 rfl rfl rfl ?_ | refine gny_F 0 rfl rfl rfl ?_ | refine gny_B 0 rfl rfl rfl ?_ | refine gny_skip 0 rfl rfl ?_ | refine gny_sp 0 rfl rfl rfl ?_ | refine gny_sB 0 rfl rfl rfl ?_ | refine gny_sld 0 rfl rfl rfl rfl ?_ | refine gny_sldH 0 rfl rfl rfl ‹HRow _ _ 0 _› rfl ?_ | refine gny_ldN 0 rfl rfl rfl rfl ?_ | refine gny_bld 0 rfl rfl rfl ?_); (first | refine gny_p 1 rfl rfl rfl ?_ | refine gny_ld 1 rfl rfl rfl rfl ?_ | refine gny_ldH 1 rfl rfl rfl ‹HRow _ _ 0 _› rfl ?_ | refine gny_T 1 rfl rfl rfl ?_ | refine gny_F 1 rfl rfl rfl ?_ | refine gny_B 1 rfl rfl rfl ?_ | refine gny_skip 1 rfl rfl ?_ | refine gny_sp 1 rfl rfl rfl ?_ | refine gny_sB 1 rfl rfl rfl ?_ | refine gny_sld 1 rfl rfl rfl rfl ?_ | refine gny_sldH 1 rfl rfl rfl ‹HRow _ _ 0 _› rfl ?_ | refine gny_ldN 1 rfl rfl rfl rfl ?_ | refine gny_bld 1 rfl rfl rfl ?_); (first | refine gny_p 2 rfl rfl rfl ?_ | refine gny_ld 2 rfl rfl rfl rfl ?_ | refine gny_ldH 2 rfl rfl rfl ‹HRow _ _ 0 _› rfl ?_ | refine gny_T 2 rfl rfl rfl ?_ | refine gny_F 2 rfl rfl rfl ?_ | refine gny_B 2 rfl rfl rfl ?_ | refine gny_skip 2 rfl rfl ?_ | refine gny_sp 2 rfl rfl rfl ?_ | refine gny_sB 2 rfl rfl rfl ?_ | refine gny_sld 2 rfl rfl rfl rfl ?_ | refine gny_sldH 2 rfl rfl rfl ‹HRow _ _ 0 _› rfl ?_ | refine gny_ldN 2 rfl rfl rfl rfl ?_ | refine gny_bld 2 rfl rfl rfl ?_); (first | refine gny_p 3 rfl rfl rfl ?_ | refine gny_ld 3 rfl rfl rfl rfl ?_ | refine gny_ldH 3 rfl rfl rfl ‹HRow _ _ 0 _› rfl ?_ | refine gny_T 3 rfl rfl rfl ?_ | refine gny_F 3 rfl rfl rfl ?_ | refine gny_B 3 rfl rfl rfl ?_ | refine gny_skip 3 rfl rfl ?_ | refine gny_sp 3 rfl rfl rfl ?_ | refine gny_sB 3 rfl rfl rfl ?_ | refine gny_sld 3 rfl rfl rfl rfl ?_ | refine gny_sldH 3 rfl rfl rfl ‹HRow _ _ 0 _› rfl ?_ | refine gny_ldN 3 rfl rfl rfl rfl ?_ | refine gny_bld 3 rfl rfl rfl ?_)
        refine gny_ixp 4 rfl rfl rfl hg7.1 hi1 fun b8 o8 cc8 hr8 hc8 => ?_
        obtain ⟨rfl, hsz8⟩ := hc8
        refine gny_ldHo 5 0 rfl rfl hr8 rfl rfl ?_
        refine gny_call 6 rfl rfl rfl (rHold_spec (k := wd[i]) (r := 0) (yes := false) hT hsz fits0 (by simp only; omega)) fun r9 H9 B hl9 ⟨cs, er, hcs, eB⟩ => ?_
        subst er eB
        refine ⟨(by (repeat (first | exact Sub.refl _ | exact Sub.nil _ | (apply sub_pick; (repeat (first | exact Has.here | apply Has.there)); skip) | apply Sub.drop))), ?_⟩
        obtain ⟨q1, q2, rfl, hq1, hq2⟩ := hcs
        obtain ⟨qb1, qc1, rfl, _, _⟩ := hq1.1.shape
        obtain ⟨qb2, qc2, rfl, _, _⟩ := hq2.1.shape
        refine any_rest rfl ?_
        refine walk ?_
        exact out_next hL (i + 1, holdL wd[i] 0 true hl, (qb1, qc1), (qb2, qc2), H9) ⟨by simp only; omega, hlK.trans hl9, hF, by simp only; omega, hq1, hq2⟩
      · rw [if_neg hq] at hst
        rw [hst] at hF
        refine walk ?_
        exact out_next hL (i + 1, hl, (f1, f2), (f3, f4), HK) ⟨by simp only; omega, hlK, hF, hhl', hr1, hr2⟩
    clear hL
    have hie : i = wd.length := by
      refine Classical.byContradiction fun h => hi ⟨by omega, rfl⟩
    subst hie
    rw [List.drop_length] at hF
    change hl = dropR wr wd m.Held at hF
    rw [← hF] at hap'
    have hbd : hl.length ≤ 90000 := Nat.le_trans hhl' hhl
    have hwt : wt.length ≤ 80 := by
      have := hnq
      simp only [Work.ks, List.length_append] at this
      omega
    clear hF hi
    refine walk ?_
    refine ex_loop (σ := Nat × List Hold × (Option Addr × Nat) × (Option Addr × Nat) × Heap) (fun u => u.1 ≤ wt.length ∧ HK.le u.2.2.2.2 ∧ takeR wr (wt.drop u.1) u.2.1 = takeR wr wt hl ∧ u.2.1.length ≤ 90000 + u.1 ∧ SlB rHold 2 24 u.2.2.2.2 (.slice u.2.2.1.1 u.2.1.length u.2.2.1.2) u.2.1 ∧ SlB rRec 9 120 u.2.2.2.2 (.slice u.2.2.2.1.1 pr.length u.2.2.2.1.2) pr)
      (fun u => [(2, .bool true), (3, .pointer (some ⟨p3, 0, none⟩)), (6, .pointer (some ⟨p6, 0, none⟩)), (9, .pointer (some ⟨p9, 0, none⟩)), (14, I u.1)]) (fun u => u.2.2.2.2)
      (fun u => row p3 55 [.slice u.2.2.1.1 u.2.1.length u.2.2.1.2, .slice u.2.2.2.1.1 pr.length u.2.2.2.1.2] :: row p9 30 [I wr, .slice sb1 wt.length sc1, .slice sb2 wd.length sc2] :: row p6 55 [nilS, nilS] :: R) (fun u => wt.length - u.1)
      (0, hl, (f1, f2), (f3, f4), HK) ⟨Nat.zero_le _, .refl _, rfl, hbd, hr1, hr2⟩ fun ⟨i, hm, ⟨k1, k2⟩, ⟨k3, k4⟩, HJ⟩ ⟨hi0, hlJ, hF, hml, hn1, hn2⟩ K hL => ?_
    simp only at hi0 hlJ hF hml hn1 hn2
    dsimp only
    refine walkG ?_
    refine ex_if rfl (fun hi => ?_) (fun hi => ?_)
    · have hi1 : i < wt.length := by have := hi.1; omega
      have hdr := List.drop_eq_getElem_cons hi1
      rw [hdr, takeR_cons] at hF
      have hT : rTable HJ [.slice k1 hm.length k2, .slice k3 pr.length k4] ⟨hm, pr⟩ := ⟨_, _, rfl, hn1, hn2⟩
      have hg6 := g6.mono (hl2.trans (hlK.trans hlJ))
      have hlen := holdL_len (k := wt[i]) (r := wr) (l := hm) (put := false)
      rw [if_neg Bool.noConfusion] at hlen
      refine walk ?_
      refine ex_any 9 [row p3 55 [.slice k1 hm.length k2, .slice k3 pr.length k4], row p9 30 [I wr, .slice sb1 wt.length sc1, .slice sb2 wd.length sc2]] ?_
      (first | refine gny_p 0 rfl rfl rfl ?_ | refine gny_ld 0 rfl rfl rfl rfl ?_ | refine gny_ldH 0 rfl rfl rfl ‹HRow _ _ 0 _› rfl ?_ | refine gny_T 0 rfl rfl rfl ?_ | refine gny_F 0 rfl rfl rfl ?_ | refine gny_B 0 rfl rfl rfl ?_ | refine gny_skip 0 rfl rfl ?_ | refine gny_sp 0 rfl rfl rfl ?_ | refine gny_sB 0 rfl rfl rfl ?_ | refine gny_sld 0 rfl rfl rfl rfl ?_ | refine gny_sldH 0 rfl rfl rfl ‹HRow _ _ 0 _› rfl ?_ | refine gny_ldN 0 rfl rfl rfl rfl ?_ | refine gny_bld 0 rfl rfl rfl ?_); (first | refine gny_p 1 rfl rfl rfl ?_ | refine gny_ld 1 rfl rfl rfl rfl ?_ | refine gny_ldH 1 rfl rfl rfl ‹HRow _ _ 0 _› rfl ?_ | refine gny_T 1 rfl rfl rfl ?_ | refine gny_F 1 rfl rfl rfl ?_ | refine gny_B 1 rfl rfl rfl ?_ | refine gny_skip 1 rfl rfl ?_ | refine gny_sp 1 rfl rfl rfl ?_ | refine gny_sB 1 rfl rfl rfl ?_ | refine gny_sld 1 rfl rfl rfl rfl ?_ | refine gny_sldH 1 rfl rfl rfl ‹HRow _ _ 0 _› rfl ?_ | refine gny_ldN 1 rfl rfl rfl rfl ?_ | refine gny_bld 1 rfl rfl rfl ?_); (first | refine gny_p 2 rfl rfl rfl ?_ | refine gny_ld 2 rfl rfl rfl rfl ?_ | refine gny_ldH 2 rfl rfl rfl ‹HRow _ _ 0 _› rfl ?_ | refine gny_T 2 rfl rfl rfl ?_ | refine gny_F 2 rfl rfl rfl ?_ | refine gny_B 2 rfl rfl rfl ?_ | refine gny_skip 2 rfl rfl ?_ | refine gny_sp 2 rfl rfl rfl ?_ | refine gny_sB 2 rfl rfl rfl ?_ | refine gny_sld 2 rfl rfl rfl rfl ?_ | refine gny_sldH 2 rfl rfl rfl ‹HRow _ _ 0 _› rfl ?_ | refine gny_ldN 2 rfl rfl rfl rfl ?_ | refine gny_bld 2 rfl rfl rfl ?_); (first | refine gny_p 3 rfl rfl rfl ?_ | refine gny_ld 3 rfl rfl rfl rfl ?_ | refine gny_ldH 3 rfl rfl rfl ‹HRow _ _ 0 _› rfl ?_ | refine gny_T 3 rfl rfl rfl ?_ | refine gny_F 3 rfl rfl rfl ?_ | refine gny_B 3 rfl rfl rfl ?_ | refine gny_skip 3 rfl rfl ?_ | refine gny_sp 3 rfl rfl rfl ?_ | refine gny_sB 3 rfl rfl rfl ?_ | refine gny_sld 3 rfl rfl rfl rfl ?_ | refine gny_sldH 3 rfl rfl rfl ‹HRow _ _ 0 _› rfl ?_ | refine gny_ldN 3 rfl rfl rfl rfl ?_ | refine gny_bld 3 rfl rfl rfl ?_)
      refine gny_ixp 4 rfl rfl rfl hg6.1 hi1 fun b8 o8 cc8 hr8 hc8 => ?_
      obtain ⟨rfl, hsz8⟩ := hc8
      refine gny_ldHo 5 0 rfl rfl hr8 rfl rfl ?_
      (first | refine gny_p 6 rfl rfl rfl ?_ | refine gny_ld 6 rfl rfl rfl rfl ?_ | refine gny_ldH 6 rfl rfl rfl ‹HRow _ _ 0 _› rfl ?_ | refine gny_T 6 rfl rfl rfl ?_ | refine gny_F 6 rfl rfl rfl ?_ | refine gny_B 6 rfl rfl rfl ?_ | refine gny_skip 6 rfl rfl ?_ | refine gny_sp 6 rfl rfl rfl ?_ | refine gny_sB 6 rfl rfl rfl ?_ | refine gny_sld 6 rfl rfl rfl rfl ?_ | refine gny_sldH 6 rfl rfl rfl ‹HRow _ _ 0 _› rfl ?_ | refine gny_ldN 6 rfl rfl rfl rfl ?_ | refine gny_bld 6 rfl rfl rfl ?_); (first | refine gny_p 7 rfl rfl rfl ?_ | refine gny_ld 7 rfl rfl rfl rfl ?_ | refine gny_ldH 7 rfl rfl rfl ‹HRow _ _ 0 _› rfl ?_ | refine gny_T 7 rfl rfl rfl ?_ | refine gny_F 7 rfl rfl rfl ?_ | refine gny_B 7 rfl rfl rfl ?_ | refine gny_skip 7 rfl rfl ?_ | refine gny_sp 7 rfl rfl rfl ?_ | refine gny_sB 7 rfl rfl rfl ?_ | refine gny_sld 7 rfl rfl rfl rfl ?_ | refine gny_sldH 7 rfl rfl rfl ‹HRow _ _ 0 _› rfl ?_ | refine gny_ldN 7 rfl rfl rfl rfl ?_ | refine gny_bld 7 rfl rfl rfl ?_)
      refine gny_call 8 rfl rfl rfl (rHold_spec (k := wt[i]) (r := wr) (yes := true) hT hsz8 g5 (by simp only; omega)) fun r9 H9 B hl9 ⟨cs, er, hcs, eB⟩ => ?_
      subst er eB
      refine ⟨(by (repeat (first | exact Sub.refl _ | exact Sub.nil _ | (apply sub_pick; (repeat (first | exact Has.here | apply Has.there)); skip) | apply Sub.drop))), ?_⟩
      obtain ⟨q1, q2, rfl, hq1, hq2⟩ := hcs
      obtain ⟨qb1, qc1, rfl, _, _⟩ := hq1.1.shape
      obtain ⟨qb2, qc2, rfl, _, _⟩ := hq2.1.shape
      refine any_rest rfl ?_
      refine walk ?_
      exact out_next hL (i + 1, holdL wt[i] wr false hm, (qb1, qc1), (qb2, qc2), H9) ⟨by simp only; omega, hlJ.trans hl9, hF, by simp only; omega, hq1, hq2⟩
    clear hL
    have hie : i = wt.length := by
      refine Classical.byContradiction fun h => hi ⟨by omega, rfl⟩
    subst hie
    rw [List.drop_length] at hF
    change hm = takeR wr wt hl at hF
    refine walk ?_
    refine fin0 ?_
    exact ⟨_, ⟨hm, pr⟩, 0, rfl, ⟨_, _, rfl, hn1, hn2⟩, hap' _ (by rw [hF]), rfl⟩
set_option maxHeartbeats 16000000 in
set_option maxRecDepth 20000 in
theorem rExpire_spec {W0 : World} {H : Heap} {c : List Value} {m : Table} {now : Int} (h0 : rTable H c m) (hhl : m.Held.length ≤ 90000) :
    Ct Tryz.prog 44 #[.agg c.toArray, I now] W0 H [] (fun r H' B => ∃ cs v, r = .tuple #[.agg cs.toArray, v] ∧ rTable H' cs ⟨m.Held.filter fun h => !goneK now h.Key, m.Prep⟩ ∧ SlB rStr 1 16 H' v ((m.Held.filter fun h => goneK now h.Key).map (·.Key)) ∧ B = []) := by
  refine Ct.go (vs := [.agg c.toArray, I now]) fun R => ?_
  have h00 := h0
  obtain ⟨s1, s2, rfl, hs1, hs2⟩ := h0
  obtain ⟨b1, c1, rfl, hc1, hd1⟩ := hs1.1.shape
  obtain ⟨b2, c2, rfl, hc2, hd2⟩ := hs2.1.shape
  obtain ⟨l, pr⟩ := m
  dsimp only at hs1 hs2 hc1 hc2 hhl
  dsimp only
  have hcl : ∀ n, n ≤ 100000 → n * 24 ≤ cap47 := fun n h => Nat.le_trans (Nat.mul_le_mul_right 24 h) (by decide)
  have hcl2 : ∀ n, n ≤ 100000 → n * 16 ≤ cap47 := fun n h => Nat.le_trans (Nat.mul_le_mul_right 16 h) (by decide)
  refine walk ?_
  refine ops_box rfl rfl fun p2 _ => ?_
  refine ops_alloc rfl fun p4 _ => ?_
  refine walk ?_
  refine ex_loop (σ := Nat × (Option Addr × Nat) × (Option Addr × Nat)) (fun u => u.1 ≤ l.length) (fun u => [(1, I now), (2, .pointer (some ⟨p2, 0, none⟩)), (4, .pointer (some ⟨p4, 0, none⟩)), (6, .slice u.2.1.1 ((l.take u.1).filter fun h => !goneK now h.Key).length u.2.1.2), (7, .slice u.2.2.1 (((l.take u.1).filter fun h => goneK now h.Key).map (·.Key)).length u.2.2.2), (8, I u.1)]) (fun _ => H)
    (fun u => ownS rHold 2 24 43 H (.slice u.2.1.1 ((l.take u.1).filter fun h => !goneK now h.Key).length u.2.1.2) ((l.take u.1).filter fun h => !goneK now h.Key) :: ownS rStr 1 16 9 H (.slice u.2.2.1 (((l.take u.1).filter fun h => goneK now h.Key).map (·.Key)).length u.2.2.2) (((l.take u.1).filter fun h => goneK now h.Key).map (·.Key)) :: row p2 55 [.slice b1 l.length c1, .slice b2 pr.length c2] :: row p4 55 [nilS, nilS] :: R) (fun u => l.length - u.1) (0, (none, 0), (none, 0)) (Nat.zero_le _) (hs0 := ?_) fun ⟨i, ⟨d, e⟩, ⟨d', e'⟩⟩ hi0 K hL => ?_
  rotate_left
  · simp only [List.take_zero, List.filter_nil, List.map_nil, List.length_nil]
    refine Sub.trans ?_ (Sub.trans (ownS_nil (R := rHold) (sz := 2) (w := 24) (T := 43) (H := H)) (Sub.cons ownS_nil))
    (repeat (first | exact Sub.refl _ | exact Sub.nil _ | (apply sub_pick; (repeat (first | exact Has.here | apply Has.there)); skip) | apply Sub.drop))
  simp only at hi0
  dsimp only
  have hl1 : ((l.take i).filter fun h => !goneK now h.Key).length ≤ i := by
    have := List.length_filter_le (fun h : Hold => !goneK now h.Key) (l.take i)
    rw [List.length_take] at this; omega
  have hl2 : (((l.take i).filter fun h => goneK now h.Key).map (·.Key)).length ≤ i := by
    have := List.length_filter_le (fun h : Hold => goneK now h.Key) (l.take i)
    rw [List.length_take] at this; rw [List.length_map]; omega
  refine walk ?_
  refine ex_if rfl (fun hi => ?_) (fun hi => ?_)
  · have hi1 : i < l.length := by omega
    have ht := List.take_succ_eq_append_getElem hi1
    refine walk ?_
    refine ops_ixp rfl rfl hs1.1 hi1 fun b o cc hr hc => ?_
    obtain ⟨rfl, hsz, hfr⟩ := hc
    have hrd := rRead_spec (W0 := W0) (H := H) (l := l[i].Key.data.toList) (by rw [← Lib.size_eq]; exact hsz)
    rw [sb_self] at hrd
    refine walk ?_
    refine ops_call rfl rfl hrd fun r4 H4 B hl4 ⟨hrr, eB, eH⟩ => ?_
    subst eB eH
    obtain ⟨xa, xb, xt, ok, rfl, hkk⟩ := hrr.form
    refine walk ?_
    refine ops_alloc rfl fun p9 _ => ?_
    refine walk ?_
    have hfa : ∀ p : Hold → Bool, (l.take (i + 1)).filter p = (l.take i).filter p ++ if p l[i] = true then [l[i]] else [] := fun p => by
      rw [ht, List.filter_append]
      by_cases h : p l[i] = true <;> simp [h]
    have hn := hfa fun h => !goneK now h.Key
    have hg := hfa fun h => goneK now h.Key
    rcases hkk with ⟨rfl, hkk⟩ | ⟨rfl, hno, rfl, rfl, rfl⟩
    · have hy := goneK_yes (now := now) hkk
      refine walkG ?_
      refine ex_if rfl (fun hq => ?_) (fun hq => ?_)
      · have hgo := hy.2 hq
        rw [hgo, if_neg (by decide), List.append_nil] at hn
        rw [hgo, if_pos rfl] at hg
        have hg2 := congrArg (List.map (·.Key)) hg
        rw [List.map_append, List.map_cons, List.map_nil] at hg2
        refine walk ?_
        refine ops_ixp rfl rfl hs1.1 hi1 fun b8 o8 cc8 hr8 hc8 => ?_
        obtain ⟨rfl, hsz8, hfr8⟩ := hc8
        refine walk ?_
        refine ops_app1 (y := l[i].Key) rfl rfl rfl ⟨rfl, hsz⟩ (hcl2 _ (by omega)) fun d3 e3 => ?_
        have hll : (((l.take i).filter fun h => goneK now h.Key).map (·.Key)).length + 1 = (((l.take (i + 1)).filter fun h => goneK now h.Key).map (·.Key)).length := by rw [hg2]; simp
        rw [hll, ← hg2, ← hn]
        refine walk ?_
        exact out_next hL (i + 1, (d, e), (d3, e3)) (by simp only; omega)
      · have hgo : goneK now l[i].Key = false := by cases hb : goneK now l[i].Key with | true => exact absurd (hy.1 hb) hq | false => rfl
        rw [hgo, if_pos (by decide)] at hn
        rw [hgo, if_neg (by decide), List.append_nil] at hg
        refine walk ?_
        refine ops_ixp rfl rfl hs1.1 hi1 fun b8 o8 cc8 hr8 hc8 => ?_
        obtain ⟨rfl, hsz8, hfr8⟩ := hc8
        change HRow H4 b8 o8 [.string l[i].Key, I l[i].Robot] at hr8
        refine ops_ldNH rfl rfl hr8 rfl ?_
        refine walk ?_
        refine ops_app1 (y := l[i]) rfl rfl rfl ⟨rfl, hsz8, hfr8⟩ (hcl _ (by omega)) fun d3 e3 => ?_
        have hll : ((l.take i).filter fun h => !goneK now h.Key).length + 1 = ((l.take (i + 1)).filter fun h => !goneK now h.Key).length := by rw [hn]; simp
        rw [hll, ← hn, ← hg]
        refine walk ?_
        exact out_next hL (i + 1, (d3, e3), (d', e')) (by simp only; omega)
    · have hgo := goneK_no (now := now) hno
      rw [hgo, if_pos (by decide)] at hn
      rw [hgo, if_neg (by decide), List.append_nil] at hg
      refine walk ?_
      refine ops_ixp rfl rfl hs1.1 hi1 fun b8 o8 cc8 hr8 hc8 => ?_
      obtain ⟨rfl, hsz8, hfr8⟩ := hc8
      change HRow H4 b8 o8 [.string l[i].Key, I l[i].Robot] at hr8
      refine ops_ldNH rfl rfl hr8 rfl ?_
      refine walk ?_
      refine ops_app1 (y := l[i]) rfl rfl rfl ⟨rfl, hsz8, hfr8⟩ (hcl _ (by omega)) fun d3 e3 => ?_
      have hll : ((l.take i).filter fun h => !goneK now h.Key).length + 1 = ((l.take (i + 1)).filter fun h => !goneK now h.Key).length := by rw [hn]; simp
      rw [hll, ← hn, ← hg]
      refine walk ?_
      exact out_next hL (i + 1, (d3, e3), (d', e')) (by simp only; omega)
  · clear hL
    obtain rfl : i = l.length := by omega
    rw [List.take_length]
    refine walk ?_
    refine out_freeze (.slice d (l.filter fun h => !goneK now h.Key).length e) fun H7 hl7 hsl => ?_
    refine out_freeze (.slice d' ((l.filter fun h => goneK now h.Key).map (·.Key)).length e') fun H8 hl8 hsm => ?_
    refine fin0 ?_
    exact ⟨_, _, rfl, ⟨_, _, rfl, hsl.mono hl8, hs2.mono (hl7.trans hl8)⟩, hsm, rfl⟩
end Go.Proofs.YtkhbfjkioehgfaaGreatDoor
