/- The document's Get. -/
import Derived.Test.YtjkiioicjmaeoaaLCB
import Derived.Test.YtjkiioicjmaeoaaLPM
set_option linter.unusedVariables false
set_option linter.unusedSimpArgs false
namespace Go.Proofs.Ytjkiioicjmaeoaa
open Go Go.Sx Go.X Go.Proofs
def stepM (fl : Int) (m : List (ByteArray × Int)) (e : Entry) : List (ByteArray × Int) := if fl < e.Seq then m else mset e.Key ((mget e.Key m).getD 0 + 1) m
def cntM (fl : Int) (pre : List Entry) : List (ByteArray × Int) := pre.foldl (stepM fl) []
def goneP (fl : Int) (bt : Bool) (pre : List Entry) (e : Entry) : Bool := if fl < e.Seq then false else decide (1 < (mget e.Key (cntM fl pre)).getD 0 + 1) || (bt && e.Del)
theorem cnt_gen (fl : Int) (k : ByteArray) : ∀ (xs : List Entry) (m : List (ByteArray × Int)), (mget k (xs.foldl (stepM fl) m)).getD 0 = (mget k m).getD 0 + ((xs.filter fun x => decide (x.Key = k ∧ ¬ fl < x.Seq)).length : Int)
  | [], m => by simp
  | e :: t, m => by
    rw [List.foldl_cons, cnt_gen fl k t, List.filter_cons]
    unfold stepM
    by_cases h : fl < e.Seq
    · simp [h]
    · by_cases hk : e.Key = k
      · subst hk
        simp only [h, if_false, not_false_eq_true, and_self, decide_true, if_true, List.length_cons, mget_mset, Option.getD_some]
        omega
      · have hk' : ¬ k = e.Key := fun h => hk h.symm
        simp only [h, if_false, hk, false_and, decide_false, Bool.false_eq_true, if_false, mget_mset, hk']
theorem cnt_eq (fl : Int) (k : ByteArray) (pre : List Entry) : (mget k (cntM fl pre)).getD 0 = ((pre.filter fun x => decide (x.Key = k ∧ ¬ fl < x.Seq)).length : Int) := by
  unfold cntM; rw [cnt_gen]; simp [mget]
theorem cnt_le (fl : Int) (k : ByteArray) (pre : List Entry) : 0 ≤ (mget k (cntM fl pre)).getD 0 ∧ (mget k (cntM fl pre)).getD 0 ≤ pre.length := by
  rw [cnt_eq]
  have := List.length_filter_le (fun x : Entry => decide (x.Key = k ∧ ¬ fl < x.Seq)) pre
  omega
theorem cntM_snoc (fl : Int) (pre : List Entry) (e : Entry) : cntM fl (pre ++ [e]) = stepM fl (cntM fl pre) e := by simp [cntM, List.foldl_append]
abbrev mO (H : Heap) (b : Nat) (m : List (ByteArray × Int)) : HProp := mapO Value.string rInt false H b m
set_option maxHeartbeats 4000000 in
theorem gone_spec {W0 : GW} {H : Heap} {fl : Int} {bt : Bool} {pf ps pb mb N : Nat} (hf : HRow H pf 0 [.int .i64 fl]) (hs : HRow H ps 0 [.map (some mb)]) (hb : HRow H pb 0 [.bool bt]) (hN : N ≤ cap47) :
    AskS W0 H 34 [.pointer (some ⟨pf, 0, none⟩), .pointer (some ⟨ps, 0, none⟩), .pointer (some ⟨pb, 0, none⟩)] (fun pre => mO H mb (cntM fl pre)) N (goneP fl bt) := by
  intro pre c e hpre hc
  obtain ⟨rfl, hok⟩ := hc
  have hcnt := cnt_le fl e.Key pre
  simp only [cap47] at hN
  refine Ct.go (vs := [_, _, _, _]) fun R => ?_
  refine walk ?_
  refine ops_box rfl rfl fun p4 _ => ?_
  refine walk ?_
  refine ex_if rfl (fun h => ?_) (fun h => ?_)
  · refine walk ?_
    refine finB [mO H mb (cntM fl pre)] ?_
    refine ⟨?_, ?_, rfl⟩
    · simp [goneP, h]
    · show [mO H mb (cntM fl pre)] = [mO H mb (cntM fl (pre ++ [e]))]
      rw [cntM_snoc]; simp [stepM, h]
  · refine walk ?_
    dsimp only [List.cons_append, List.nil_append]
    refine ops_lkO (z := (0 : Int)) rfl rfl (by repeat (first | exact Has.here | apply Has.there)) ?_
    refine walk ?_
    have hu : rInt H [.int .i64 ((mget e.Key (cntM fl pre)).getD 0 + 1)] ((mget e.Key (cntM fl pre)).getD 0 + 1) := ⟨rfl, by unfold fits; omega⟩
    refine ops_update rfl rfl hu (by repeat (first | exact Has.here | apply Has.there)) ?_
    refine walk ?_
    refine ops_lkO (z := (0 : Int)) rfl rfl (by repeat (first | exact Has.here | apply Has.there)) ?_
    rw [show (mget e.Key (mset e.Key ((mget e.Key (cntM fl pre)).getD 0 + 1) (cntM fl pre))).getD 0 = (mget e.Key (cntM fl pre)).getD 0 + 1 by rw [mget_mset, if_pos rfl]; rfl]
    have hst : cntM fl (pre ++ [e]) = mset e.Key ((mget e.Key (cntM fl pre)).getD 0 + 1) (cntM fl pre) := by rw [cntM_snoc]; simp [stepM, h]
    have hgo : goneP fl bt pre e = (decide (1 < (mget e.Key (cntM fl pre)).getD 0 + 1) || (bt && e.Del)) := by simp [goneP, h]
    refine walk ?_
    by_cases hgt : 1 < (mget e.Key (cntM fl pre)).getD 0 + 1
    · rw [decide_eq_true hgt]
      refine walk ?_
      refine finB [mO H mb (cntM fl (pre ++ [e]))] ⟨by rw [hgo, decide_eq_true hgt], rfl, rfl⟩ (hs := ?_)
      rw [hst]
      exact subA
    · rw [decide_eq_false hgt]
      cases bt with
      | true =>
        refine walk ?_
        refine finB [mO H mb (cntM fl (pre ++ [e]))] ⟨by rw [hgo, decide_eq_false hgt], rfl, rfl⟩ (hs := ?_)
        rw [hst]
        exact subA
      | false =>
        refine walk ?_
        refine finB [mO H mb (cntM fl (pre ++ [e]))] ⟨by rw [hgo, decide_eq_false hgt], rfl, rfl⟩ (hs := ?_)
        rw [hst]
        exact subA
def comp (fl : Int) (bt : Bool) (l : List Entry) : List Entry := delS (goneP fl bt) [] l
set_option maxHeartbeats 4000000 in
theorem compact_spec {W0 : GW} {H : Heap} {v : Value} {l : List Entry} {fl : Int} {bt : Bool} (hv : LB H v l) : Ct Try.prog 18 #[v, .int .i64 fl, .bool bt] W0 H []
    (fun r H' B => (¬ Ordd l ∧ r = .tuple #[.slice none 0 0, .int .i64 60] ∧ B = []) ∨ (Ordd l ∧ ∃ s, r = .tuple #[s, .int .i64 0] ∧ B = [ownS rEntry 4 48 37 H' s (comp fl bt l)])) := by
  refine Ct.go (vs := [_, _, _]) fun R => ?_
  have hlen := hv.len
  refine walk ?_
  refine ops_box rfl rfl fun pf _ => ?_
  refine ops_box rfl rfl fun pb _ => ?_
  refine walk ?_
  refine ops_call rfl rfl (ordered_spec hv.1 hv.len) fun r H1 B hl ⟨⟨b, er, hb⟩, eB, eH⟩ => ?_
  subst er eB eH
  cases b with
  | false =>
    refine walk ?_
    refine fin0 ?_
    exact .inl ⟨fun h => (by have := hb.2 h; cases this), rfl, rfl⟩
  | true =>
    refine walk ?_
    refine ops_makeMap Value.string rInt false rfl fun mb _ => ?_
    refine ops_alloc rfl fun ps _ => ?_
    refine walk ?_
    refine ops_frzR (b := ps) (by repeat (first | exact Has.here | apply Has.there)) fun H2 hl2 r2 => ?_
    refine ops_frzR (b := pb) (by repeat (first | exact Has.here | apply Has.there)) fun H3 hl3 r3 => ?_
    refine ops_frzR (b := pf) (by repeat (first | exact Has.here | apply Has.there)) fun H4 hl4 r4 => ?_
    have r3' := r3.mono hl4
    have r2' := r2.mono (hl3.trans hl4)
    have hv4 := hv.mono (hl2.trans (hl3.trans hl4))
    refine ops_L (mapO_up (hl2.trans (hl3.trans hl4))) ?_
    refine ops_call rfl rfl (clone_spec hv4) fun r H5 B hl5 ⟨eB, eH⟩ => ?_
    subst eB eH
    refine walk ?_
    refine ops_call (A := [ownS rEntry 4 48 37 H5 r l, mO H5 mb (cntM fl [])]) rfl rfl (del_spec (v := r) (xs := l) (a := fun pre => mO H5 mb (cntM fl pre)) (.refl _) (gone_spec r4 r2' r3' hlen)) fun r5 H6 B6 hl6 ⟨eB, eH⟩ => ?_
    subst eB eH
    refine walk ?_
    refine finB [ownS rEntry 4 48 37 H6 r5 (comp fl bt l)] ?_
    exact .inr ⟨hb.1 rfl, _, rfl, rfl⟩
def nw (l : List Entry) (s : Int) (e : Entry) : Prop := e.Seq ≤ s ∧ ∀ y ∈ l, y.Key = e.Key → y.Seq ≤ s → y.Seq ≤ e.Seq
instance {l : List Entry} {s : Int} {e : Entry} : Decidable (nw l s e) := inferInstanceAs (Decidable (e.Seq ≤ s ∧ ∀ y ∈ l, y.Key = e.Key → y.Seq ≤ s → y.Seq ≤ e.Seq))
def keepE (l : List Entry) (fl : Int) (bt : Bool) (e : Entry) : Prop := fl < e.Seq ∨ (nw l fl e ∧ ¬ (bt = true ∧ e.Del = true))
instance {l : List Entry} {fl : Int} {bt : Bool} {e : Entry} : Decidable (keepE l fl bt e) := inferInstanceAs (Decidable (fl < e.Seq ∨ (nw l fl e ∧ ¬ (bt = true ∧ e.Del = true))))
theorem bef_same {a b : Entry} (h : Bef a b) (hk : a.Key = b.Key) : b.Seq < a.Seq := by
  rcases h with h | ⟨_, h⟩
  · rw [hk] at h; exact absurd h slt_irr
  · exact h
theorem pw_mid {pre t : List Entry} {x : Entry} (h : PW (pre ++ x :: t)) : (∀ y ∈ pre, Bef y x) ∧ ∀ y ∈ t, Bef x y := by
  obtain ⟨_, h2, h3⟩ := List.pairwise_append.1 h
  exact ⟨fun y hy => h3 y hy x (List.mem_cons_self ..), fun y hy => List.rel_of_pairwise_cons h2 hy⟩
theorem gone_keep {fl : Int} {bt : Bool} {pre t : List Entry} {x : Entry} (h : PW (pre ++ x :: t)) : goneP fl bt pre x = !decide (keepE (pre ++ x :: t) fl bt x) := by
  obtain ⟨h1, h2⟩ := pw_mid h
  unfold goneP
  by_cases hf : fl < x.Seq
  · simp [hf, keepE]
  · rw [if_neg hf]
    have key : (1 < (mget x.Key (cntM fl pre)).getD 0 + 1) ↔ ¬ nw (pre ++ x :: t) fl x := by
      rw [cnt_eq]
      have e1 : (1 : Int) < ((pre.filter fun y => decide (y.Key = x.Key ∧ ¬ fl < y.Seq)).length : Int) + 1 ↔ ∃ y ∈ pre, y.Key = x.Key ∧ ¬ fl < y.Seq := by
        constructor
        · intro hl
          have : 0 < (pre.filter fun y => decide (y.Key = x.Key ∧ ¬ fl < y.Seq)).length := by omega
          obtain ⟨y, hy⟩ := List.exists_mem_of_length_pos this
          obtain ⟨a, b⟩ := List.mem_filter.1 hy
          exact ⟨y, a, by simpa using b⟩
        · rintro ⟨y, hy, hb⟩
          have : 0 < (pre.filter fun y => decide (y.Key = x.Key ∧ ¬ fl < y.Seq)).length := List.length_pos_of_mem (List.mem_filter.2 ⟨hy, by simpa using hb⟩)
          omega
      rw [e1]
      constructor
      · rintro ⟨y, hy, hk, hs⟩ hn
        have a := bef_same (h1 y hy) hk
        have b := hn.2 y (List.mem_append_left _ hy) hk (by omega)
        omega
      · intro hn
        apply Classical.byContradiction
        intro hno
        refine hn ⟨by omega, fun y hy hk hs => ?_⟩
        rcases List.mem_append.1 hy with hy | hy
        · exact absurd ⟨y, hy, hk, by omega⟩ hno
        · rcases List.mem_cons.1 hy with rfl | hy
          · exact Int.le_refl _
          · have := bef_same (h2 y hy) hk.symm
            omega
    by_cases hn : nw (pre ++ x :: t) fl x
    · rw [decide_eq_false (by rw [key]; exact fun h => h hn)]
      simp only [keepE, hf, hn, false_or, true_and, Bool.false_or]
      cases bt <;> cases x.Del <;> simp
    · rw [decide_eq_true (key.2 hn)]
      simp [keepE, hf, hn]
theorem delS_keep {fl : Int} {bt : Bool} : ∀ (t pre : List Entry), PW (pre ++ t) → delS (goneP fl bt) pre t = t.filter fun e => decide (keepE (pre ++ t) fl bt e)
  | [], pre, _ => rfl
  | x :: t, pre, h => by
    have ih := delS_keep (fl := fl) (bt := bt) t (pre ++ [x]) (by simpa using h)
    rw [List.append_assoc, List.singleton_append] at ih
    rw [delS, ih, gone_keep h, List.filter_cons]
    cases decide (keepE (pre ++ x :: t) fl bt x) <;> rfl
theorem comp_keep {fl : Int} {bt : Bool} {l : List Entry} (h : PW l) : comp fl bt l = l.filter fun e => decide (keepE l fl bt e) := delS_keep l [] h
theorem nw_sub {l c : List Entry} {s : Int} {e : Entry} (h : nw l s e) (hc : ∀ y ∈ c, y ∈ l) : nw c s e := ⟨h.1, fun y hy => h.2 y (hc y hy)⟩
abbrev toP (e : Entry) : Pair := ⟨e.Key, e.Value⟩
theorem vis_some {s : Int} {y : Entry} : ∀ {t : List Entry} {e : Entry}, PW (e :: t) → y ∈ e :: t → y.Key = e.Key → nw (e :: t) s y → vis s (e :: t) = shown y ++ vis s (past e.Key t)
  | t, e, h, hy, hk, hn => by
    by_cases hs : s < e.Seq
    · rw [vis_hi hs]
      have hyt : y ∈ t := by
        rcases List.mem_cons.1 hy with rfl | hy
        · have := hn.1; omega
        · exact hy
      match t, hyt with
      | e' :: t', hyt =>
        have hke : e'.Key = e.Key := by
          apply Classical.byContradiction
          intro hne
          have h1 : SLt e.Key e'.Key := (List.rel_of_pairwise_cons h (List.mem_cons_self ..)).resolve_right fun h => hne h.1.symm
          rcases List.mem_cons.1 hyt with rfl | hyt
          · exact hne hk
          · rcases List.rel_of_pairwise_cons (List.Pairwise.of_cons h) hyt with h2 | h2
            · have := slt_trans h1 h2; rw [hk] at this; exact slt_irr this
            · exact hne (by rw [h2.1, hk])
        rw [vis_some (List.Pairwise.of_cons h) hyt (by rw [hk, hke]) (nw_sub hn fun z hz => List.mem_cons_of_mem _ hz)]
        rw [show past e.Key (e' :: t') = past e.Key t' by rw [past, if_pos hke], hke]
    · rw [vis_lo hs]
      have hye : y = e := by
        rcases List.mem_cons.1 hy with rfl | hyt
        · rfl
        · have h1 := bef_same (List.rel_of_pairwise_cons h hyt) hk.symm
          have h2 := hn.2 e (List.mem_cons_self ..) hk.symm (by omega)
          omega
      rw [hye]
theorem vis_none {s : Int} : ∀ {t : List Entry} {e : Entry}, (∀ y ∈ e :: t, y.Key = e.Key → s < y.Seq) → vis s (e :: t) = vis s (past e.Key t)
  | [], e, h => by rw [vis_hi (h e (List.mem_cons_self ..) rfl)]; rfl
  | e' :: t', e, h => by
    rw [vis_hi (h e (List.mem_cons_self ..) rfl)]
    by_cases hk : e'.Key = e.Key
    · rw [vis_none fun y hy hyk => h y (List.mem_cons_of_mem _ hy) (by rw [hyk, hk]), show past e.Key (e' :: t') = past e.Key t' by rw [past, if_pos hk], hk]
    · rw [show past e.Key (e' :: t') = e' :: t' by rw [past, if_neg hk]]
def GetR (l : List Entry) (k : ByteArray) (s : Int) : Option Entry → Prop
  | none => ∀ y ∈ l, y.Key = k → ¬ y.Seq ≤ s
  | some e => e ∈ l ∧ e.Key = k ∧ nw l s e
abbrev ofO (o : Option Entry) : Entry := o.getD zEntry
theorem mem_take1 {l : List Entry} {i : Nat} (h : i < l.length) {y : Entry} : y ∈ l.take (i + 1) ↔ y ∈ l.take i ∨ y = l[i] := by
  rw [List.take_succ_eq_append_getElem h, List.mem_append, List.mem_singleton]
set_option maxHeartbeats 4000000 in
theorem get_spec {W0 : GW} {H : Heap} {v : Value} {l : List Entry} {k : ByteArray} {s : Int} (hv : LB H v l) :
    Ct Try.prog 35 #[v, .string k, .int .i64 s] W0 H [] (fun r H' B => (∃ o, GetR l k s o ∧ r = .tuple #[.agg (ofO o).cv.toArray, .bool o.isSome]) ∧ B = [] ∧ H' = H) := by
  refine Ct.go (vs := [_, _, _]) fun R => ?_
  have hlen := hv.len
  simp only [cap47] at hlen
  obtain ⟨b0, c0, rfl, hc0, hd0⟩ := hv.1.shape
  refine walk ?_
  refine ops_alloc rfl fun p6 _ => ?_
  refine walk ?_
  refine ops_alloc rfl fun p8 _ => ?_
  refine walk ?_
  refine ex_loop (fun s2 : Nat × Option Entry => s2.1 ≤ l.length ∧ GetR (l.take s2.1) k s s2.2) (fun s2 => [(10, .int .i64 s2.1), (9, .bool s2.2.isSome), (8, .pointer (some ⟨p8, 0, none⟩)), (6, .pointer (some ⟨p6, 0, none⟩)), (0, .slice b0 l.length c0), (1, .string k), (2, .int .i64 s)]) (fun _ => H) (fun s2 => row p8 37 (ofO s2.2).cv :: row p6 37 zEntry.cv :: R) (fun s2 => l.length - s2.1) (0, none) ⟨Nat.zero_le _, fun y hy => by simp at hy⟩ fun ⟨i, o⟩ ⟨hi, hI⟩ K hK => ?_
  simp only at hi hI
  dsimp only
  by_cases hlt : i < l.length
  · have hins : ∀ (o' : Option Entry), GetR (l.take i) k s o → (o' = o ∧ (l[i].Key = k → l[i].Seq ≤ s → ∃ e, o = some e ∧ l[i].Seq ≤ e.Seq)) → GetR (l.take (i + 1)) k s o' := fun o' h ⟨e1, h2⟩ => by
      subst e1
      cases o' with
      | none => 
        intro y hy hk hs
        rcases (mem_take1 hlt).1 hy with hy | rfl
        · exact h y hy hk hs
        · obtain ⟨e, he, _⟩ := h2 hk hs; cases he
      | some e =>
        refine ⟨(mem_take1 hlt).2 (.inl h.1), h.2.1, h.2.2.1, fun y hy hk hs => ?_⟩
        rcases (mem_take1 hlt).1 hy with hy | rfl
        · exact h.2.2.2 y hy hk hs
        · obtain ⟨e', he, hle⟩ := h2 (by rw [hk, h.2.1]) hs
          cases he; exact hle
    have hput : l[i].Key = k → l[i].Seq ≤ s → (∀ e, o = some e → e.Seq < l[i].Seq) → GetR (l.take (i + 1)) k s (some l[i]) := fun hk hs hg => by
      refine ⟨(mem_take1 hlt).2 (.inr rfl), hk, hs, fun y hy hyk hys => ?_⟩
      rcases (mem_take1 hlt).1 hy with hy | rfl
      · cases o with
        | none => exact absurd hys (hI y hy (by rw [hyk, hk]))
        | some e =>
          have h1 := hI.2.2.2 y hy (by rw [hyk, hk, hI.2.1]) hys
          have h2 := hg e rfl
          omega
      · exact Int.le_refl _
    refine walk ?_
    refine ops_ixp rfl rfl hv.1 hlt fun b1 o1 c1 k1 k2 => ?_
    obtain ⟨rfl, hok⟩ := k2
    refine walk ?_
    by_cases hk : l[i].Key = k
    · rw [decide_eq_true hk]
      refine walk ?_
      refine ops_ixp rfl rfl hv.1 hlt fun b2 o2 c2 k3 k4 => ?_
      obtain ⟨rfl, -⟩ := k4
      refine walk ?_
      by_cases hs : l[i].Seq ≤ s
      · rw [decide_eq_true hs]
        cases o with
        | none =>
          refine walk ?_
          simp only [Option.isSome_none, Bool.not_false]
          refine walk ?_
          refine ops_ixp rfl rfl hv.1 hlt fun b3 o3 c3 k5 k6 => ?_
          obtain ⟨rfl, -⟩ := k6
          refine ops_ldNH rfl rfl k5 rfl ?_
          refine walk ?_
          exact out_next hK (i + 1, some l[i]) ⟨hlt, hput hk hs fun e h => by cases h⟩
        | some e =>
          refine walk ?_
          simp only [Option.isSome_some, Bool.not_true]
          refine walk ?_
          refine ops_ixp rfl rfl hv.1 hlt fun b3 o3 c3 k5 k6 => ?_
          obtain ⟨rfl, -⟩ := k6
          refine walk ?_
          by_cases hg : (ofO (some e)).Seq < l[i].Seq
          · rw [decide_eq_true hg]
            refine walk ?_
            refine ops_ixp rfl rfl hv.1 hlt fun b4 o4 c4 k7 k8 => ?_
            obtain ⟨rfl, -⟩ := k8
            refine ops_ldNH rfl rfl k7 rfl ?_
            refine walk ?_
            exact out_next hK (i + 1, some l[i]) ⟨hlt, hput hk hs fun e' h => by cases h; exact hg⟩
          · rw [decide_eq_false hg]
            refine walk ?_
            exact out_next hK (i + 1, some e) ⟨hlt, hins _ hI ⟨rfl, fun _ _ => ⟨e, rfl, Int.not_lt.1 hg⟩⟩⟩
      · rw [decide_eq_false hs]
        refine walk ?_
        exact out_next hK (i + 1, o) ⟨hlt, hins o hI ⟨rfl, fun _ h => absurd h hs⟩⟩
    · rw [decide_eq_false hk]
      refine walk ?_
      exact out_next hK (i + 1, o) ⟨hlt, hins o hI ⟨rfl, fun h => absurd h hk⟩⟩
  · refine walk ?_
    refine fin0 ?_
    rw [List.take_of_length_le (by omega)] at hI
    exact ⟨⟨o, hI, rfl⟩, rfl, rfl⟩
end Go.Proofs.Ytjkiioicjmaeoaa
