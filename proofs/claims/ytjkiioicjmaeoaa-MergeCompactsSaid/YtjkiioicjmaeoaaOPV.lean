/- What is seen, and what is left: plain. -/
import Derived.Test.YtjkiioicjmaeoaaOCB
import Derived.Test.YtjkiioicjmaeoaaOPM
set_option linter.unusedVariables false
set_option linter.unusedSimpArgs false
namespace Go.Proofs.Ytjkiioicjmaeoaa
open Go Go.Sx Go.X Go.Proofs
def stepM (fl : Int) (m : List (ByteArray × Int)) (e : Entry) : List (ByteArray × Int) := if fl < e.Seq then m else mset e.Key ((mget e.Key m).getD 0 + 1) m
def cntM (fl : Int) (pre : List Entry) : List (ByteArray × Int) := pre.foldl (stepM fl) []
def goneP (fl : Int) (bt : Bool) (pre : List Entry) (e : Entry) : Bool := if fl < e.Seq then false else decide (1 < (mget e.Key (cntM fl pre)).getD 0 + 1) || (bt && e.Del)
theorem cnt_gen (fl : Int) (k : ByteArray) : ∀ (xs : List Entry) (m : List (ByteArray × Int)), (mget k (xs.foldl (stepM fl) m)).getD 0 = (mget k m).getD 0 + ((xs.filter fun x => decide (x.Key = k ∧ ¬ fl < x.Seq)).length : Int)
  | [], m => by simp
  | e :: t, m => by
    rw [List.foldl_cons, cnt_gen fl k t, List.filter_cons]
    unfold stepM
    by_cases h : fl < e.Seq
    · simp [h]
    · by_cases hk : e.Key = k
      · subst hk
        simp only [h, if_false, not_false_eq_true, and_self, decide_true, if_true, List.length_cons, mget_mset, Option.getD_some]
        omega
      · have hk' : ¬ k = e.Key := fun h => hk h.symm
        simp only [h, if_false, hk, false_and, decide_false, Bool.false_eq_true, if_false, mget_mset, hk']
theorem cnt_eq (fl : Int) (k : ByteArray) (pre : List Entry) : (mget k (cntM fl pre)).getD 0 = ((pre.filter fun x => decide (x.Key = k ∧ ¬ fl < x.Seq)).length : Int) := by
  unfold cntM; rw [cnt_gen]; simp [mget]
theorem cnt_le (fl : Int) (k : ByteArray) (pre : List Entry) : 0 ≤ (mget k (cntM fl pre)).getD 0 ∧ (mget k (cntM fl pre)).getD 0 ≤ pre.length := by
  rw [cnt_eq]
  have := List.length_filter_le (fun x : Entry => decide (x.Key = k ∧ ¬ fl < x.Seq)) pre
  omega
theorem cntM_snoc (fl : Int) (pre : List Entry) (e : Entry) : cntM fl (pre ++ [e]) = stepM fl (cntM fl pre) e := by simp [cntM, List.foldl_append]
abbrev mO (H : Heap) (b : Nat) (m : List (ByteArray × Int)) : HProp := mapO Value.string rInt false H b m
set_option maxHeartbeats 4000000 in
theorem gone_spec {W0 : GW} {H : Heap} {fl : Int} {bt : Bool} {pf ps pb mb N : Nat} (hf : HRow H pf 0 [.int .i64 fl]) (hs : HRow H ps 0 [.map (some mb)]) (hb : HRow H pb 0 [.bool bt]) (hN : N ≤ cap47) :
    AskS W0 H 34 [.pointer (some ⟨pf, 0, none⟩), .pointer (some ⟨ps, 0, none⟩), .pointer (some ⟨pb, 0, none⟩)] (fun pre => mO H mb (cntM fl pre)) N (goneP fl bt) := by
  intro pre c e hpre hc
  obtain ⟨rfl, hok⟩ := hc
  have hcnt := cnt_le fl e.Key pre
  simp only [cap47] at hN
  refine Ct.go (vs := [_, _, _, _]) fun R => ?_
  refine walk ?_
  refine ops_box rfl rfl fun p4 _ => ?_
  refine walk ?_
  refine ex_if rfl (fun h => ?_) (fun h => ?_)
  · refine walk ?_
    refine finB [mO H mb (cntM fl pre)] ?_
    refine ⟨?_, ?_, rfl⟩
    · simp [goneP, h]
    · show [mO H mb (cntM fl pre)] = [mO H mb (cntM fl (pre ++ [e]))]
      rw [cntM_snoc]; simp [stepM, h]
  · refine walk ?_
    dsimp only [List.cons_append, List.nil_append]
    refine ops_lkO (z := (0 : Int)) rfl rfl (by repeat (first | exact Has.here | apply Has.there)) ?_
    refine walk ?_
    have hu : rInt H [.int .i64 ((mget e.Key (cntM fl pre)).getD 0 + 1)] ((mget e.Key (cntM fl pre)).getD 0 + 1) := ⟨rfl, by unfold fits; omega⟩
    refine ops_update rfl rfl hu (by repeat (first | exact Has.here | apply Has.there)) ?_
    refine walk ?_
    refine ops_lkO (z := (0 : Int)) rfl rfl (by repeat (first | exact Has.here | apply Has.there)) ?_
    rw [show (mget e.Key (mset e.Key ((mget e.Key (cntM fl pre)).getD 0 + 1) (cntM fl pre))).getD 0 = (mget e.Key (cntM fl pre)).getD 0 + 1 by rw [mget_mset, if_pos rfl]; rfl]
    have hst : cntM fl (pre ++ [e]) = mset e.Key ((mget e.Key (cntM fl pre)).getD 0 + 1) (cntM fl pre) := by rw [cntM_snoc]; simp [stepM, h]
    have hgo : goneP fl bt pre e = (decide (1 < (mget e.Key (cntM fl pre)).getD 0 + 1) || (bt && e.Del)) := by simp [goneP, h]
    refine walk ?_
    by_cases hgt : 1 < (mget e.Key (cntM fl pre)).getD 0 + 1
    · rw [decide_eq_true hgt]
      refine walk ?_
      refine finB [mO H mb (cntM fl (pre ++ [e]))] ⟨by rw [hgo, decide_eq_true hgt], rfl, rfl⟩ (hs := ?_)
      rw [hst]
      exact subA
    · rw [decide_eq_false hgt]
      cases bt with
      | true =>
        refine walk ?_
        refine finB [mO H mb (cntM fl (pre ++ [e]))] ⟨by rw [hgo, decide_eq_false hgt], rfl, rfl⟩ (hs := ?_)
        rw [hst]
        exact subA
      | false =>
        refine walk ?_
        refine finB [mO H mb (cntM fl (pre ++ [e]))] ⟨by rw [hgo, decide_eq_false hgt], rfl, rfl⟩ (hs := ?_)
        rw [hst]
        exact subA
def comp (fl : Int) (bt : Bool) (l : List Entry) : List Entry := delS (goneP fl bt) [] l
set_option maxHeartbeats 4000000 in
theorem compact_spec {W0 : GW} {H : Heap} {v : Value} {l : List Entry} {fl : Int} {bt : Bool} (hv : LB H v l) : Ct Try.prog 18 #[v, .int .i64 fl, .bool bt] W0 H []
    (fun r H' B => (¬ Ordd l ∧ r = .tuple #[.slice none 0 0, .int .i64 60] ∧ B = []) ∨ (Ordd l ∧ ∃ s, r = .tuple #[s, .int .i64 0] ∧ B = [ownS rEntry 4 48 37 H' s (comp fl bt l)])) := by
  refine Ct.go (vs := [_, _, _]) fun R => ?_
  have hlen := hv.len
  refine walk ?_
  refine ops_box rfl rfl fun pf _ => ?_
  refine ops_box rfl rfl fun pb _ => ?_
  refine walk ?_
  refine ops_call rfl rfl (ordered_spec hv.1 hv.len) fun r H1 B hl ⟨⟨b, er, hb⟩, eB, eH⟩ => ?_
  subst er eB eH
  cases b with
  | false =>
    refine walk ?_
    refine fin0 ?_
    exact .inl ⟨fun h => (by have := hb.2 h; cases this), rfl, rfl⟩
  | true =>
    refine walk ?_
    refine ops_makeMap Value.string rInt false rfl fun mb _ => ?_
    refine ops_alloc rfl fun ps _ => ?_
    refine walk ?_
    refine ops_frzR (b := ps) (by repeat (first | exact Has.here | apply Has.there)) fun H2 hl2 r2 => ?_
    refine ops_frzR (b := pb) (by repeat (first | exact Has.here | apply Has.there)) fun H3 hl3 r3 => ?_
    refine ops_frzR (b := pf) (by repeat (first | exact Has.here | apply Has.there)) fun H4 hl4 r4 => ?_
    have r3' := r3.mono hl4
    have r2' := r2.mono (hl3.trans hl4)
    have hv4 := hv.mono (hl2.trans (hl3.trans hl4))
    refine ops_L (mapO_up (hl2.trans (hl3.trans hl4))) ?_
    refine ops_call rfl rfl (clone_spec hv4) fun r H5 B hl5 ⟨eB, eH⟩ => ?_
    subst eB eH
    refine walk ?_
    refine ops_call (A := [ownS rEntry 4 48 37 H5 r l, mO H5 mb (cntM fl [])]) rfl rfl (del_spec (v := r) (xs := l) (a := fun pre => mO H5 mb (cntM fl pre)) (.refl _) (gone_spec r4 r2' r3' hlen)) fun r5 H6 B6 hl6 ⟨eB, eH⟩ => ?_
    subst eB eH
    refine walk ?_
    refine finB [ownS rEntry 4 48 37 H6 r5 (comp fl bt l)] ?_
    exact .inr ⟨hb.1 rfl, _, rfl, rfl⟩
def nw (l : List Entry) (s : Int) (e : Entry) : Prop := e.Seq ≤ s ∧ ∀ y ∈ l, y.Key = e.Key → y.Seq ≤ s → y.Seq ≤ e.Seq
instance {l : List Entry} {s : Int} {e : Entry} : Decidable (nw l s e) := inferInstanceAs (Decidable (e.Seq ≤ s ∧ ∀ y ∈ l, y.Key = e.Key → y.Seq ≤ s → y.Seq ≤ e.Seq))
def keepE (l : List Entry) (fl : Int) (bt : Bool) (e : Entry) : Prop := fl < e.Seq ∨ (nw l fl e ∧ ¬ (bt = true ∧ e.Del = true))
instance {l : List Entry} {fl : Int} {bt : Bool} {e : Entry} : Decidable (keepE l fl bt e) := inferInstanceAs (Decidable (fl < e.Seq ∨ (nw l fl e ∧ ¬ (bt = true ∧ e.Del = true))))
theorem bef_same {a b : Entry} (h : Bef a b) (hk : a.Key = b.Key) : b.Seq < a.Seq := by
  rcases h with h | ⟨_, h⟩
  · rw [hk] at h; exact absurd h slt_irr
  · exact h
theorem pw_mid {pre t : List Entry} {x : Entry} (h : PW (pre ++ x :: t)) : (∀ y ∈ pre, Bef y x) ∧ ∀ y ∈ t, Bef x y := by
  obtain ⟨_, h2, h3⟩ := List.pairwise_append.1 h
  exact ⟨fun y hy => h3 y hy x (List.mem_cons_self ..), fun y hy => List.rel_of_pairwise_cons h2 hy⟩
theorem gone_keep {fl : Int} {bt : Bool} {pre t : List Entry} {x : Entry} (h : PW (pre ++ x :: t)) : goneP fl bt pre x = !decide (keepE (pre ++ x :: t) fl bt x) := by
  obtain ⟨h1, h2⟩ := pw_mid h
  unfold goneP
  by_cases hf : fl < x.Seq
  · simp [hf, keepE]
  · rw [if_neg hf]
    have key : (1 < (mget x.Key (cntM fl pre)).getD 0 + 1) ↔ ¬ nw (pre ++ x :: t) fl x := by
      rw [cnt_eq]
      have e1 : (1 : Int) < ((pre.filter fun y => decide (y.Key = x.Key ∧ ¬ fl < y.Seq)).length : Int) + 1 ↔ ∃ y ∈ pre, y.Key = x.Key ∧ ¬ fl < y.Seq := by
        constructor
        · intro hl
          have : 0 < (pre.filter fun y => decide (y.Key = x.Key ∧ ¬ fl < y.Seq)).length := by omega
          obtain ⟨y, hy⟩ := List.exists_mem_of_length_pos this
          obtain ⟨a, b⟩ := List.mem_filter.1 hy
          exact ⟨y, a, by simpa using b⟩
        · rintro ⟨y, hy, hb⟩
          have : 0 < (pre.filter fun y => decide (y.Key = x.Key ∧ ¬ fl < y.Seq)).length := List.length_pos_of_mem (List.mem_filter.2 ⟨hy, by simpa using hb⟩)
          omega
      rw [e1]
      constructor
      · rintro ⟨y, hy, hk, hs⟩ hn
        have a := bef_same (h1 y hy) hk
        have b := hn.2 y (List.mem_append_left _ hy) hk (by omega)
        omega
      · intro hn
        apply Classical.byContradiction
        intro hno
        refine hn ⟨by omega, fun y hy hk hs => ?_⟩
        rcases List.mem_append.1 hy with hy | hy
        · exact absurd ⟨y, hy, hk, by omega⟩ hno
        · rcases List.mem_cons.1 hy with rfl | hy
          · exact Int.le_refl _
          · have := bef_same (h2 y hy) hk.symm
            omega
    by_cases hn : nw (pre ++ x :: t) fl x
    · rw [decide_eq_false (by rw [key]; exact fun h => h hn)]
      simp only [keepE, hf, hn, false_or, true_and, Bool.false_or]
      cases bt <;> cases x.Del <;> simp
    · rw [decide_eq_true (key.2 hn)]
      simp [keepE, hf, hn]
theorem delS_keep {fl : Int} {bt : Bool} : ∀ (t pre : List Entry), PW (pre ++ t) → delS (goneP fl bt) pre t = t.filter fun e => decide (keepE (pre ++ t) fl bt e)
  | [], pre, _ => rfl
  | x :: t, pre, h => by
    have ih := delS_keep (fl := fl) (bt := bt) t (pre ++ [x]) (by simpa using h)
    rw [List.append_assoc, List.singleton_append] at ih
    rw [delS, ih, gone_keep h, List.filter_cons]
    cases decide (keepE (pre ++ x :: t) fl bt x) <;> rfl
theorem comp_keep {fl : Int} {bt : Bool} {l : List Entry} (h : PW l) : comp fl bt l = l.filter fun e => decide (keepE l fl bt e) := delS_keep l [] h
theorem comp_pw {fl : Int} {bt : Bool} {l : List Entry} (h : PW l) : PW (comp fl bt l) := by rw [comp_keep h]; exact h.sublist (List.filter_sublist ..)
theorem nw_sub {l c : List Entry} {s : Int} {e : Entry} (h : nw l s e) (hc : ∀ y ∈ c, y ∈ l) : nw c s e := ⟨h.1, fun y hy => h.2 y (hc y hy)⟩
theorem comp_idem {fl : Int} {bt : Bool} {l : List Entry} (h : PW l) : comp fl bt (comp fl bt l) = comp fl bt l := by
  rw [comp_keep (comp_pw h)]
  refine List.filter_eq_self.2 fun e he => ?_
  rw [comp_keep h] at he ⊢
  obtain ⟨_, h2⟩ := List.mem_filter.1 he
  simp only [decide_eq_true_eq] at h2 ⊢
  rcases h2 with h2 | ⟨h2, h3⟩
  · exact .inl h2
  · exact .inr ⟨nw_sub h2 fun y hy => (List.mem_filter.1 hy).1, h3⟩
theorem comp_len {fl : Int} {bt : Bool} {l : List Entry} : (comp fl bt l).length ≤ l.length := delS_len _ _ _
theorem past_split (k : ByteArray) : ∀ t : List Entry, ∃ A, t = A ++ past k t ∧ ∀ x ∈ A, x.Key = k
  | [] => ⟨[], rfl, fun x hx => by cases hx⟩
  | e :: t => by
    unfold past
    by_cases h : e.Key = k
    · obtain ⟨A, h1, h2⟩ := past_split k t
      rw [if_pos h]
      refine ⟨e :: A, by rw [List.cons_append, ← h1], fun x hx => ?_⟩
      rcases List.mem_cons.1 hx with rfl | hx
      · exact h
      · exact h2 x hx
    · rw [if_neg h]; exact ⟨[], rfl, fun x hx => by cases hx⟩
theorem past_ne {e : Entry} : ∀ {t : List Entry}, PW (e :: t) → ∀ x ∈ past e.Key t, x.Key ≠ e.Key
  | [], _, x, hx => by simp [past] at hx
  | y :: t, h, x, hx => by
    unfold past at hx
    by_cases hk : y.Key = e.Key
    · rw [if_pos hk] at hx
      exact past_ne (h.sublist (.cons_cons _ (List.sublist_cons_self ..))) x hx
    · rw [if_neg hk] at hx
      have h1 : SLt e.Key y.Key := (List.rel_of_pairwise_cons h (List.mem_cons_self ..)).resolve_right fun h => hk h.1.symm
      rcases List.mem_cons.1 hx with rfl | hx
      · exact hk
      · have h2 : Bef y x := List.rel_of_pairwise_cons (List.Pairwise.of_cons h) hx
        rcases h2 with h2 | h2
        · intro hx; rw [hx] at h2; exact slt_irr (slt_trans h1 h2)
        · rw [← h2.1]; exact hk
abbrev toP (e : Entry) : Pair := ⟨e.Key, e.Value⟩
def seenE (l : List Entry) (s : Int) (e : Entry) : Bool := decide (nw l s e) && !e.Del
theorem vis_char {s : Int} : ∀ (n : Nat) (l : List Entry), l.length ≤ n → PW l → vis s l = (l.filter (seenE l s)).map toP
  | _, [], _, _ => by simp [vis]
  | 0, e :: t, h, _ => by simp at h
  | n + 1, e :: t, hn, h => by
    simp only [List.length_cons] at hn
    by_cases hs : s < e.Seq
    · rw [vis_hi hs, vis_char n t (by omega) (List.Pairwise.of_cons h), List.filter_cons]
      have : seenE (e :: t) s e = false := by
        unfold seenE; rw [decide_eq_false (fun h => by have := h.1; omega)]; rfl
      rw [this]
      simp only [Bool.false_eq_true, if_false]
      congr 1
      refine List.filter_congr fun x hx => ?_
      unfold seenE
      congr 1
      refine decide_eq_decide.2 ⟨fun h => ⟨h.1, fun y hy hk hy' => ?_⟩, fun h => nw_sub h fun y hy => List.mem_cons_of_mem _ hy⟩
      rcases List.mem_cons.1 hy with rfl | hy
      · omega
      · exact h.2 y hy hk hy'
    · obtain ⟨A, hA, hAk⟩ := past_split e.Key t
      have hpl := past_len e.Key t
      have hne := past_ne h
      have hpp : PW (past e.Key t) := (List.Pairwise.of_cons h).sublist (by conv => rhs; rw [hA]
                                                                            exact List.sublist_append_right ..)
      rw [vis_lo hs, vis_char n (past e.Key t) (by omega) hpp, List.filter_cons]
      have hlt : ∀ x ∈ t, x.Key = e.Key → x.Seq < e.Seq := fun x hx hk => bef_same (List.rel_of_pairwise_cons h hx) hk.symm
      have hnw : nw (e :: t) s e := ⟨by omega, fun y hy hk _ => by
        rcases List.mem_cons.1 hy with rfl | hy
        · exact Int.le_refl _
        · have := hlt y hy hk; omega⟩
      have e1 : t.filter (seenE (e :: t) s) = (past e.Key t).filter (seenE (past e.Key t) s) := by
        conv => lhs; arg 2; rw [hA]
        rw [List.filter_append, List.filter_eq_nil_iff.2 fun x hx => ?_, List.nil_append]
        · refine List.filter_congr fun x hx => ?_
          unfold seenE
          congr 1
          refine decide_eq_decide.2 ⟨fun h => nw_sub h fun y hy => List.mem_cons_of_mem _ (by rw [hA]; exact List.mem_append_right _ hy), fun h => ⟨h.1, fun y hy hk hy' => ?_⟩⟩
          have hxk := hne x hx
          rcases List.mem_cons.1 hy with rfl | hy
          · exact absurd hk.symm hxk
          · rw [hA] at hy
            rcases List.mem_append.1 hy with hy | hy
            · rw [hAk y hy] at hk; exact absurd hk.symm hxk
            · exact h.2 y hy hk hy'
        · have hxt : x ∈ t := by rw [hA]; exact List.mem_append_left _ hx
          have := hlt x hxt (hAk x hx)
          have hn : ¬ nw (e :: t) s x := fun h => by
            have := h.2 e (List.mem_cons_self ..) (hAk x hx).symm (by omega)
            omega
          simp [seenE, hn]
      rw [e1]
      cases hd : e.Del <;> simp [seenE, hnw, hd, shown]
theorem newest {k : ByteArray} {s : Int} : ∀ {l : List Entry}, (∃ e ∈ l, e.Key = k ∧ e.Seq ≤ s) → ∃ y ∈ l, y.Key = k ∧ nw l s y
  | [], ⟨e, he, _⟩ => by cases he
  | a :: t, ⟨e, he, hk, hs⟩ => by
    by_cases ht : ∃ e ∈ t, e.Key = k ∧ e.Seq ≤ s
    · obtain ⟨y, hy, hyk, hn⟩ := newest ht
      by_cases ha : a.Key = k ∧ a.Seq ≤ s ∧ y.Seq ≤ a.Seq
      · refine ⟨a, List.mem_cons_self .., ha.1, ha.2.1, fun z hz hzk hzs => ?_⟩
        rcases List.mem_cons.1 hz with rfl | hz
        · exact Int.le_refl _
        · exact Int.le_trans (hn.2 z hz (by rw [hzk, ha.1, hyk]) hzs) ha.2.2
      · refine ⟨y, List.mem_cons_of_mem _ hy, hyk, hn.1, fun z hz hzk hzs => ?_⟩
        rcases List.mem_cons.1 hz with rfl | hz
        · have : ¬ y.Seq ≤ z.Seq := fun h => ha ⟨by rw [hzk, hyk], hzs, h⟩
          omega
        · exact hn.2 z hz hzk hzs
    · rcases List.mem_cons.1 he with rfl | he
      · refine ⟨e, List.mem_cons_self .., hk, hs, fun z hz hzk hzs => ?_⟩
        rcases List.mem_cons.1 hz with rfl | hz
        · exact Int.le_refl _
        · exact absurd ⟨z, hz, by rw [hzk, hk], hzs⟩ ht
      · exact absurd ⟨e, he, hk, hs⟩ ht
theorem vis_comp {fl s : Int} {bt : Bool} {l : List Entry} (h : PW l) (hs : fl ≤ s) : vis s (comp fl bt l) = vis s l := by
  rw [vis_char _ _ (Nat.le_refl _) (comp_pw h), vis_char _ _ (Nat.le_refl _) h]
  congr 1
  have hmem : ∀ y, y ∈ comp fl bt l ↔ y ∈ l ∧ keepE l fl bt y := fun y => by rw [comp_keep h, List.mem_filter, decide_eq_true_eq]
  conv => lhs; arg 2; rw [comp_keep h]
  rw [List.filter_filter]
  refine List.filter_congr fun e he => ?_
  rw [Bool.eq_iff_iff]
  simp only [seenE, Bool.and_eq_true, decide_eq_true_eq, Bool.not_eq_true']
  constructor
  · rintro ⟨⟨hn, hd⟩, hk⟩
    refine ⟨?_, hd⟩
    obtain ⟨y, hy, hyk, hyn⟩ := newest (l := l) (k := e.Key) (s := s) ⟨e, he, rfl, hn.1⟩
    have h1 := hyn.2 e he hyk.symm hn.1
    by_cases hyc : y ∈ comp fl bt l
    · have h2 := hn.2 y hyc hyk hyn.1
      refine ⟨hn.1, fun z hz hzk hzs => ?_⟩
      have := hyn.2 z hz (by rw [hzk, hyk]) hzs
      omega
    · have hyk2 : ¬ keepE l fl bt y := fun h => hyc ((hmem y).2 ⟨hy, h⟩)
      unfold keepE at hyk2
      have h3 : ¬ fl < y.Seq := fun h => hyk2 (.inl h)
      have h4 : nw l fl y := ⟨by omega, fun z hz hzk hzs => hyn.2 z hz hzk (by omega)⟩
      have h5 : bt = true ∧ y.Del = true := Classical.byContradiction fun h => hyk2 (.inr ⟨h4, h⟩)
      rcases hk with hk | ⟨hk, _⟩
      · omega
      · have h6 := hk.2 y hy hyk (by omega)
        refine ⟨hn.1, fun z hz hzk hzs => ?_⟩
        have := hyn.2 z hz (by rw [hzk, hyk]) hzs
        omega
  · rintro ⟨hn, hd⟩
    refine ⟨⟨nw_sub hn fun y hy => ((hmem y).1 hy).1, hd⟩, ?_⟩
    by_cases hf : fl < e.Seq
    · exact .inl hf
    · exact .inr ⟨⟨by omega, fun y hy hk hy' => hn.2 y hy hk (by omega)⟩, by simp [hd]⟩
end Go.Proofs.Ytjkiioicjmaeoaa
