/- Visible. -/
import Derived.Test.YtjkiioicjmaeoaaKMK
set_option linter.unusedVariables false
set_option linter.unusedSimpArgs false
namespace Go.Proofs.Ytjkiioicjmaeoaa
open Go Go.Sx Go.X Go.Proofs
abbrev LB (H : Heap) (v : Value) (l : List Entry) : Prop := SlB rEntry 4 48 H v l
abbrev LsB (H : Heap) (v : Value) (ls : List (List Entry)) : Prop := SlB (rSl rEntry 4 48) 1 24 H v ls
theorem LB.len {H : Heap} {v : Value} {l : List Entry} (h : LB H v l) : l.length ≤ cap47 := by have := h.2; omega
theorem rBefore_spec {W0 : GW} {H : Heap} {a b : Entry} : Ct Try.prog 15 #[vE a, vE b] W0 H [] (fun r H' B => r = .bool (decide (Bef a b)) ∧ B = [] ∧ H' = H) := by
  refine Ct.go (vs := [_, _]) fun R => ?_
  refine walk ?_
  refine ops_box rfl rfl fun p1 _ => ?_
  refine ops_box rfl rfl fun p2 _ => ?_
  refine walk ?_
  by_cases h1 : SLt a.Key b.Key
  · rw [decide_eq_true h1]
    refine walk ?_
    refine fin0 ?_
    exact ⟨by rw [decide_eq_true (p := Bef a b) (.inl h1)], rfl, rfl⟩
  · rw [decide_eq_false h1]
    refine walk ?_
    by_cases h2 : a.Key = b.Key
    · rw [decide_eq_true h2]
      refine walk ?_
      refine fin0 ?_
      exact ⟨by congr 1; exact decide_eq_decide.2 ⟨fun h => .inr ⟨h2, h⟩, fun h => (h.resolve_left h1).2⟩, rfl, rfl⟩
    · rw [decide_eq_false h2]
      refine walk ?_
      refine fin0 ?_
      exact ⟨by rw [decide_eq_false (p := Bef a b) (fun h => h.elim h1 fun h => h2 h.1)], rfl, rfl⟩
theorem rOrdered_spec {W0 : GW} {H : Heap} {v : Value} {l : List Entry} (hl : SlR rEntry 4 H v l) (hsz : l.length ≤ cap47) : Ct Try.prog 19 #[v] W0 H [] (fun r H' B => (∃ b, r = .bool b ∧ (b = true ↔ Ordd l)) ∧ B = [] ∧ H' = H) := by
  refine Ct.go (vs := [_]) fun R => ?_
  obtain ⟨b0, c0, rfl, hc0, hd0⟩ := hl.shape
  refine walk ?_
  refine ex_loop (fun i : Nat => 1 ≤ i ∧ i ≤ max 1 l.length ∧ ∀ j (h : j + 1 < l.length), j + 1 < i → Bef l[j] l[j + 1]) (fun i => [(3, .int .i64 i), (0, .slice b0 l.length c0)]) (fun _ => H) (fun _ => R) (fun i => l.length + 1 - i) 1 ⟨Nat.le_refl _, by omega, fun j h hj => by omega⟩ fun i ⟨hi1, hi2, hI⟩ K hK => ?_
  by_cases hlt : i < l.length
  · refine walk ?_
    refine ops_ixp (j := i - 1) (hi := ⟨by omega⟩) rfl rfl hl (by omega) fun b1 o1 c1 h1 h2 => ?_
    obtain ⟨rfl, -⟩ := h2
    refine ops_ldNH rfl rfl h1 rfl ?_
    refine walk ?_
    refine ops_ixp rfl rfl hl hlt fun b2 o2 c2 h3 h4 => ?_
    obtain ⟨rfl, -⟩ := h4
    refine ops_ldNH rfl rfl h3 rfl ?_
    refine ops_pcall rfl rfl rBefore_spec ?_
    refine walk ?_
    refine ex_if rfl (fun h => ?_) (fun h => ?_)
    · refine walk ?_
      refine fin0 ?_
      refine ⟨⟨false, rfl, fun h => (by cases h), fun ho => absurd ?_ h⟩, rfl, rfl⟩
      have := ho (i - 1) (by omega)
      have e : i - 1 + 1 = i := by omega
      simpa only [e] using this
    · refine walk ?_
      exact out_next hK (i + 1) ⟨by omega, by omega, fun j hj hji => by
        by_cases e : j + 1 = i
        · subst e
          have := Decidable.not_not.1 h
          simpa using this
        · exact hI j hj (by omega)⟩
  · refine walk ?_
    refine fin0 ?_
    exact ⟨⟨true, rfl, fun _ j h => hI j h (by omega), fun _ => rfl⟩, rfl, rfl⟩
theorem same_spec {W0 : GW} {H : Heap} {v1 v2 : Value} {l1 l2 : List Entry} (h1 : LB H v1 l1) (h2 : LB H v2 l2) : Ct Try.prog 14 #[v1, v2] W0 H [] (fun r H' B => r = .bool (decide (l1 = l2)) ∧ B = [] ∧ H' = H) := by
  refine Ct.go (vs := [_, _]) fun R => ?_
  have s1 := h1.len
  have s2 := h2.len
  simp only [cap47] at s1 s2
  obtain ⟨b1, c1, rfl, k1, k1'⟩ := h1.1.shape
  obtain ⟨b2, c2, rfl, k2, k2'⟩ := h2.1.shape
  refine walk ?_
  refine ex_if rfl (fun h => ?_) (fun h => ?_)
  · refine walk ?_
    refine fin0 ?_
    exact ⟨by rw [decide_eq_false]; rintro rfl; exact h rfl, rfl, rfl⟩
  · have hl : l1.length = l2.length := by omega
    refine walk ?_
    refine ex_loop (fun i : Nat => i ≤ l1.length ∧ l1.take i = l2.take i) (fun i => [(13, .int .i64 i), (12, .int .i64 l1.length), (0, .slice b1 l1.length c1), (1, .slice b2 l2.length c2)]) (fun _ => H) (fun _ => R) (fun i => l1.length - i) 0 ⟨Nat.zero_le _, by simp⟩ fun i ⟨hi, hI⟩ K hK => ?_
    by_cases hlt : i < l1.length
    · have hlt2 : i < l2.length := by omega
      refine walk ?_
      refine ops_ixp rfl rfl h1.1 hlt fun x1 o1 d1 p1 p2 => ?_
      obtain ⟨rfl, -⟩ := p2
      refine ops_ldNH rfl rfl p1 rfl ?_
      refine walk ?_
      refine ops_ixp rfl rfl h2.1 hlt2 fun x2 o2 d2 q1 q2 => ?_
      obtain ⟨rfl, -⟩ := q2
      refine ops_ldNH rfl rfl q1 rfl ?_
      refine ops_neS (ok := okEq) (p := l1[i] = l2[i]) rfl rfl rfl ⟨_, _, rfl, rfl⟩ cvE_inj.symm ?_
      refine walk ?_
      refine ex_if rfl (fun hne => ?_) (fun heq => ?_)
      · refine walk ?_
        refine fin0 ?_
        exact ⟨by rw [decide_eq_false]; rintro rfl; exact hne rfl, rfl, rfl⟩
      · refine walk ?_
        refine out_next hK (i + 1) ⟨hlt, ?_⟩
        rw [List.take_succ_eq_append_getElem hlt, List.take_succ_eq_append_getElem hlt2, hI, Decidable.not_not.1 heq]
    · refine walk ?_
      refine fin0 ?_
      refine ⟨by rw [decide_eq_true]; have e : i = l1.length := by omega
                 subst e; rw [List.take_length, hl, List.take_length] at hI; exact hI, rfl, rfl⟩
theorem good_spec {W0 : GW} {H : Heap} {v : Value} {ls : List (List Entry)} (hv : LsB H v ls) : Ct Try.prog 12 #[v] W0 H [] (fun r H' B => (∃ b, r = .bool b ∧ (b = true ↔ ∀ l ∈ ls, Ordd l)) ∧ B = [] ∧ H' = H) := by
  refine Ct.go (vs := [_]) fun R => ?_
  obtain ⟨b0, c0, rfl, hc0, hd0⟩ := hv.1.shape
  refine walk ?_
  refine ex_loop (fun i : Nat => i ≤ ls.length ∧ ∀ j (h : j < ls.length), j < i → Ordd ls[j]) (fun i => [(6, .int .i64 i), (5, .int .i64 ls.length), (0, .slice b0 ls.length c0)]) (fun _ => H) (fun _ => R) (fun i => ls.length - i) 0 ⟨Nat.zero_le _, fun j h hj => by omega⟩ fun i ⟨hi, hI⟩ K hK => ?_
  by_cases hlt : i < ls.length
  · refine walk ?_
    refine ops_ixp rfl rfl hv.1 hlt fun b1 o1 c1 h1 h2 => ?_
    obtain ⟨v1, rfl, h2⟩ := h2
    refine ops_ldH0 rfl rfl h1 rfl ?_
    refine ops_call rfl rfl (rOrdered_spec h2.1 (LB.len h2)) fun r H' B hl ⟨⟨b, er, hb⟩, eB, eH⟩ => ?_
    subst er eB eH
    cases b with
    | false =>
      refine walk ?_
      refine fin0 ?_
      exact ⟨⟨false, rfl, fun h => (by cases h), fun h => (by have := hb.2 (h _ (List.getElem_mem hlt)); cases this)⟩, rfl, rfl⟩
    | true =>
      refine walk ?_
      exact out_next hK (i + 1) ⟨hlt, fun j h hj => by
        by_cases e : j = i
        · subst e; exact hb.1 rfl
        · exact hI j h (by omega)⟩
  · refine walk ?_
    refine fin0 ?_
    exact ⟨⟨true, rfl, fun _ l hl => by
      obtain ⟨j, hj, rfl⟩ := List.getElem_of_mem hl
      exact hI j hj (by omega), fun _ => rfl⟩, rfl, rfl⟩
theorem SlR.pre {H : Heap} {α : Type} {R : Rd α} {sz : Nat} [RdOk R sz] {b : Option Addr} {m cap k : Nat} {xs : List α} (h : SlR R sz H (.slice b m cap) xs) (hk : k ≤ xs.length) : SlR R sz H (.slice b k cap) (xs.take k) := by
  have := h.slc (l := 0) (h := k) (Nat.zero_le _) hk
  have e : Option.map (fun x : Addr => x.add 0) b = b := by
    cases b with
    | none => rfl
    | some a => cases a; simp [Addr.add]
  simpa [slc, e] using this
theorem one_spec {W0 : GW} {H : Heap} {v : Value} {l : List Entry} (hv : LB H v l) : Ct Try.prog 16 #[v] W0 H [] (fun r H' B => LB H' r (l.take 60) ∧ B = []) := by
  refine Ct.go (vs := [_]) fun R => ?_
  obtain ⟨b0, c0, rfl, hc0, hd0⟩ := hv.1.shape
  refine walk ?_
  refine ops_mk0 (w := 48) rEntry rfl fun b => ?_
  refine walk ?_
  have e : (min (l.length : Int) 60).toNat = min l.length 60 := by omega
  rw [e]
  have ht : l.take (min l.length 60) = l.take 60 := by
    rcases Nat.le_total l.length 60 with h | h
    · rw [Nat.min_eq_left h, List.take_length, List.take_of_length_le h]
    · rw [Nat.min_eq_right h]
  have hy := SlR.pre hv.1 (k := min l.length 60) (Nat.min_le_left _ _)
  rw [ht] at hy
  have hs := hv.2
  refine ops_appS rfl rfl hy (by simp only [List.length_nil, List.length_take]; omega) fun base cap => ?_
  refine walk ?_
  refine out_freeze (.slice base (([] : List Entry).length + (l.take 60).length) cap) fun H' hl q => ?_
  refine fin0 ?_
  exact ⟨by simpa using q, rfl⟩
def cutL (ls : List (List Entry)) : List (List Entry) := (ls.take 8).map fun l => l.take 60
theorem cutL_take {ls : List (List Entry)} {i : Nat} (h : i ≤ 8) : cutL (ls.take i) = (ls.take i).map fun l => l.take 60 := by
  unfold cutL; rw [List.take_take, Nat.min_eq_right h]
theorem cutL_succ {ls : List (List Entry)} {i : Nat} (h : i < 8) (hlt : i < ls.length) : cutL (ls.take i) ++ [ls[i].take 60] = cutL (ls.take (i + 1)) := by
  rw [cutL_take (by omega), cutL_take h, List.take_succ_eq_append_getElem hlt, List.map_append]; rfl
theorem cutL_end {ls : List (List Entry)} {i : Nat} (h : i = ls.length ∨ i = 8) : cutL (ls.take i) = cutL ls := by
  rcases h with rfl | rfl
  · rw [List.take_length]
  · unfold cutL; rw [List.take_take]; rfl
theorem cut_spec {W0 : GW} {H : Heap} {v : Value} {ls : List (List Entry)} (hv : LsB H v ls) : Ct Try.prog 9 #[v] W0 H [] (fun r H' B => LsB H' r (cutL ls) ∧ B = []) := by
  refine Ct.go (vs := [_]) fun R => ?_
  obtain ⟨b0, c0, rfl, hc0, hd0⟩ := hv.1.shape
  have hsz := hv.2
  refine walk ?_
  refine ex_L (L' := ownS (rSl rEntry 4 48) 1 24 25 H (.slice none 0 0) [] :: R) ownS_nil ?_
  refine ex_loop (fun s : Nat × Heap × Value => s.1 ≤ ls.length ∧ s.1 ≤ 8 ∧ H.le s.2.1) (fun s => [(4, .int .i64 s.1), (3, s.2.2), (0, .slice b0 ls.length c0)]) (fun s => s.2.1) (fun s => ownS (rSl rEntry 4 48) 1 24 25 s.2.1 s.2.2 (cutL (ls.take s.1)) :: R) (fun s => ls.length - s.1) (0, H, .slice none 0 0) ⟨Nat.zero_le _, Nat.zero_le _, .refl _⟩ fun ⟨i, H1, s3⟩ ⟨hi, hi8, hH⟩ K hK => ?_
  simp only at hi hi8 hH
  dsimp only
  by_cases hlt : i < ls.length
  · by_cases hlt8 : i < 8
    · have hv1 := hv.mono hH
      refine walk ?_
      refine ops_ixp rfl rfl hv1.1 hlt fun b1 o1 c1 h1 h2 => ?_
      obtain ⟨v1, rfl, h2⟩ := h2
      refine ops_ldH0 rfl rfl h1 rfl ?_
      refine ops_call rfl rfl (one_spec h2) fun r H' B hl ⟨er, eB⟩ => ?_
      subst eB
      obtain ⟨rb, rc, hr, _, _⟩ := er.1.shape
      rw [hr] at er ⊢
      refine ops_app1 (y := ls[i].take 60) rfl rfl rfl ⟨_, rfl, er⟩ (by simp only [cutL, List.length_map, List.length_take]; unfold cap47; omega) fun b2 cap => ?_
      refine walk ?_
      refine out_next hK (i + 1, H', .slice b2 _ cap) ⟨hlt, hlt8, hH.trans hl⟩ (hs := ?_)
      dsimp only
      rw [cutL_succ hlt8 hlt]
      exact .refl _
    · refine walk ?_
      rw [cutL_end (i := i) (.inr (by omega))]
      refine out_freeze s3 fun H' hl q => ?_
      refine fin0 ?_
      exact ⟨q, rfl⟩
  · refine walk ?_
    rw [cutL_end (i := i) (.inl (by omega))]
    refine out_freeze s3 fun H' hl q => ?_
    refine fin0 ?_
    exact ⟨q, rfl⟩
def MrgR (n : Int) (ls : List (List Entry)) (H : Heap) (r : Value) : Prop := ∃ s code res, r = .tuple #[s, .int .i64 code] ∧ LB H s res ∧ ((¬ (∀ l ∈ ls, Ordd l) ∧ res = [] ∧ code = 60) ∨ ((∀ l ∈ ls, Ordd l) ∧ code = 0 ∧ Mrg n ls [] res))
theorem RL.imp {α : Type} {R R' : Rd α} {H : Heap} (h : ∀ c x, R H c x → R' H c x) : ∀ {cs : List Value} {xs : List α}, RL R H cs xs → RL R' H cs xs
  | _, [], a => a
  | _, _ :: _, ⟨c, r, e, a, b⟩ => ⟨c, r, e, h _ _ a, RL.imp h b⟩
theorem LsB.lst {H : Heap} {v : Value} {ls : List (List Entry)} (h : LsB H v ls) : SlR rLst 1 H v ls := by
  obtain ⟨⟨cs, a, b⟩, _⟩ := h
  exact ⟨cs, a, RL.imp (fun c x ⟨v, e, hs⟩ => ⟨v, e, hs.1⟩) b⟩
theorem LsB.lens {H : Heap} {v : Value} {ls : List (List Entry)} (h : LsB H v ls) : ∀ l ∈ ls, l.length ≤ cap47 :=
  h.1.all fun _ _ _ ⟨v, e, hs⟩ => LB.len hs
theorem merge_spec {W0 : GW} {H : Heap} {v : Value} {ls : List (List Entry)} (hs : W0.s = .solo) (hv : LsB H v ls) (htot : tot ls * 48 ≤ cap47) (hlen : ls.length + 2 < 2147483648) : Ct Try.prog 10 #[v] W0 H [] (fun r H' B => MrgR 9223372036854775807 ls H' r ∧ B = []) := by
  refine Ct.go (vs := [_]) fun R => ?_
  refine walk ?_
  refine ops_call rfl rfl (first_spec hs hv.lst hlen hv.lens htot) fun r H' B hl ⟨eH, hh⟩ => ?_
  subst eH
  rcases hh with ⟨h1, rfl, rfl⟩ | ⟨h1, s, res, h2, rfl, rfl⟩
  · refine walk ?_
    refine fin0 ?_
    exact ⟨⟨_, _, [], rfl, ⟨SlR.nil _ _ _ _ _ (by decide), by simp⟩, .inl ⟨h1, rfl, rfl⟩⟩, rfl⟩
  · refine walk ?_
    refine out_freeze s fun H' hl q => ?_
    refine fin0 ?_
    exact ⟨⟨_, _, _, rfl, q, .inr ⟨h1, rfl, h2⟩⟩, rfl⟩
abbrev PB (H : Heap) (v : Value) (l : List Pair) : Prop := SlB rPair 2 32 H v l
def past (k : ByteArray) : List Entry → List Entry
  | [] => []
  | e :: t => if e.Key = k then past k t else e :: t
theorem past_len (k : ByteArray) : ∀ l, (past k l).length ≤ l.length
  | [] => Nat.le_refl _
  | e :: t => by
    unfold past
    split
    · exact Nat.le_succ_of_le (past_len k t)
    · exact Nat.le_refl _
def shown (e : Entry) : List Pair := if e.Del then [] else [⟨e.Key, e.Value⟩]
def vis (seq : Int) : List Entry → List Pair
  | [] => []
  | e :: t => if seq < e.Seq then vis seq t else shown e ++ vis seq (past e.Key t)
termination_by l => l.length
decreasing_by
  · simp
  · have := past_len e.Key t; simp; omega
theorem vis_hi {seq : Int} {e : Entry} {t : List Entry} (h : seq < e.Seq) : vis seq (e :: t) = vis seq t := by rw [vis, if_pos h]
theorem vis_lo {seq : Int} {e : Entry} {t : List Entry} (h : ¬ seq < e.Seq) : vis seq (e :: t) = shown e ++ vis seq (past e.Key t) := by rw [vis, if_neg h]
set_option maxHeartbeats 4000000 in
theorem visible_spec {W0 : GW} {H : Heap} {v : Value} {l : List Entry} {seq : Int} (hv : LB H v l) :
    Ct Try.prog 17 #[v, .int .i64 seq] W0 H [] (fun r H' B => (∃ s code res, r = .tuple #[s, .int .i64 code] ∧ PB H' s res ∧ ((¬ Ordd l ∧ res = [] ∧ code = 60) ∨ (Ordd l ∧ code = 0 ∧ res = vis seq l))) ∧ B = []) := by
  refine Ct.go (vs := [_, _]) fun R => ?_
  have hsz := hv.2
  have hlen := hv.len
  have hok : ∀ e ∈ l, okE e := hv.1.all fun _ _ _ h => h.2
  obtain ⟨b0, c0, rfl, hc0, hd0⟩ := hv.1.shape
  refine walk ?_
  refine ex_scope ?_
  refine walk ?_
  refine ops_call rfl rfl (ordered_spec hv.1 hv.len) fun r H' B hl ⟨⟨b, er, hb⟩, eB, eH⟩ => ?_
  subst er eB eH
  cases b with
  | false =>
    refine walk ?_
    refine out_scope_ret (fin0 ?_)
    exact ⟨⟨_, _, [], rfl, ⟨SlR.nil _ _ _ _ _ (by decide), by simp⟩, .inl ⟨fun h => (by have := hb.2 h; cases this), rfl, rfl⟩⟩, rfl⟩
  | true =>
    refine walk ?_
    refine ex_label ?_
    refine walk ?_
    refine ex_L (L' := ownS rPair 2 32 50 H' (.slice none 0 0) [] :: R) ownS_nil ?_
    refine ex_loop (fun s : Nat × List Pair × Value => s.1 ≤ l.length ∧ s.2.1.length ≤ s.1 ∧ s.2.1 ++ vis seq (l.drop s.1) = vis seq l) (fun s => [(7, .int .i64 s.1), (6, s.2.2), (0, .slice b0 l.length c0), (1, .int .i64 seq)]) (fun _ => H') (fun s => ownS rPair 2 32 50 H' s.2.2 s.2.1 :: R) (fun s => l.length - s.1) (0, [], .slice none 0 0) ⟨Nat.zero_le _, Nat.le_refl _, rfl⟩ fun ⟨i, out, s6⟩ ⟨hi, ho, hI⟩ K hK => ?_
    simp only at hi ho hI
    dsimp only
    by_cases hlt : i < l.length
    · refine walk ?_
      refine ops_ixp rfl rfl hv.1 hlt fun b1 o1 c1 h1 h2 => ?_
      obtain ⟨rfl, -⟩ := h2
      refine walk ?_
      refine ex_loop (fun j : Nat => i ≤ j ∧ j ≤ l.length ∧ out ++ vis seq (l.drop j) = vis seq l) (fun j => [(7, .int .i64 j), (6, s6), (8, .string l[i].Key), (0, .slice b0 l.length c0), (1, .int .i64 seq)]) (fun _ => H') (fun _ => ownS rPair 2 32 50 H' s6 out :: R) (fun j => l.length - j) i ⟨Nat.le_refl _, hi, hI⟩ fun j ⟨g1, g2, g3⟩ K2 hK2 => ?_
      by_cases hj : j < l.length
      · have hdj : l.drop j = l[j] :: l.drop (j + 1) := List.drop_eq_getElem_cons hj
        refine walk ?_
        refine ops_ixp rfl rfl hv.1 hj fun b2 o2 c2 k1 k2 => ?_
        obtain ⟨rfl, -⟩ := k2
        refine walk ?_
        by_cases hk : l[j].Key = l[i].Key
        · rw [decide_eq_true hk]
          refine walk ?_
          refine ops_ixp rfl rfl hv.1 hj fun b3 o3 c3 k3 k4 => ?_
          obtain ⟨rfl, -⟩ := k4
          refine walk ?_
          refine ex_if rfl (fun hs => ?_) (fun hs => ?_)
          · refine walk ?_
            refine out_next hK2 (j + 1) ⟨by omega, hj, ?_⟩
            rw [← g3, hdj, vis_hi hs]
          · have hvl : out ++ shown l[j] ++ vis seq (past l[i].Key (l.drop j)) = vis seq l := by
              rw [← g3, hdj, vis_lo hs, List.append_assoc, hk]
              simp [past, hk]
            have hol : (out ++ shown l[j]).length ≤ j + 1 := by
              simp only [List.length_append, shown]; split <;> simp <;> omega
            refine ex_skip (out_seq ?_)
            refine ex_cut (σ := Value) (fun _ => True) (fun s => [(7, .int .i64 j), (6, s), (8, .string l[i].Key), (0, .slice b0 l.length c0), (1, .int .i64 seq)]) (fun _ => H') (fun s => ownS rPair 2 32 50 H' s (out ++ shown l[j]) :: R) (fun K3 hK3 => ?_) fun s7 _ => ?_
            · refine walk ?_
              refine ops_ixp rfl rfl hv.1 hj fun b4 o4 c4 k5 k6 => ?_
              obtain ⟨rfl, -⟩ := k6
              refine ops_p rfl rfl ?_
              refine ops_ldH (i := 2) rfl rfl k5 rfl rfl ?_
              cases hdel : l[j].Del with
              | true =>
                refine walk ?_
                have e : out ++ shown l[j] = out := by simp [shown, hdel]
                refine out_to hK3 s6 trivial (hs := ?_)
                rw [e]; exact .refl _
              | false =>
                refine walk ?_
                refine ops_ixp rfl rfl hv.1 hj fun b5 o5 c5 k7 k8 => ?_
                obtain ⟨rfl, k8⟩ := k8
                refine ops_p rfl rfl ?_
                refine ops_ldH (i := 3) rfl rfl k7 rfl rfl ?_
                refine walk ?_
                have e : out ++ shown l[j] = out ++ [⟨l[i].Key, l[j].Value⟩] := by simp [shown, hdel, hk]
                have oki := hok _ (List.getElem_mem hlt)
                refine ops_app1 (y := (⟨l[i].Key, l[j].Value⟩ : Pair)) rfl rfl rfl ⟨rfl, oki.1, k8.2.2⟩ (by omega) fun b6 cap => ?_
                refine walk ?_
                refine out_to hK3 (.slice b6 (out.length + 1) cap) trivial (hs := ?_)
                rw [e]; exact .refl _
            · refine walk ?_
              refine ex_loop (fun p : Nat => j ≤ p ∧ p ≤ l.length ∧ (out ++ shown l[j]) ++ vis seq (past l[i].Key (l.drop p)) = vis seq l) (fun p => [(7, .int .i64 p), (6, s7), (8, .string l[i].Key), (0, .slice b0 l.length c0), (1, .int .i64 seq)]) (fun _ => H') (fun _ => ownS rPair 2 32 50 H' s7 (out ++ shown l[j]) :: R) (fun p => l.length - p) j ⟨Nat.le_refl _, g2, hvl⟩ fun p ⟨m1, m2, m3⟩ K4 hK4 => ?_
              by_cases hp : p < l.length
              · have hdp : l.drop p = l[p] :: l.drop (p + 1) := List.drop_eq_getElem_cons hp
                refine walk ?_
                refine ops_ixp rfl rfl hv.1 hp fun b7 o7 c7 k9 k10 => ?_
                obtain ⟨rfl, -⟩ := k10
                refine walk ?_
                by_cases hkp : l[p].Key = l[i].Key
                · rw [decide_eq_true hkp]
                  refine walk ?_
                  refine out_next hK4 (p + 1) ⟨by omega, hp, ?_⟩
                  rw [← m3, hdp]; simp [past, hkp]
                · rw [decide_eq_false hkp]
                  have hjp : j ≠ p := by rintro rfl; exact hkp hk
                  refine walk ?_
                  refine out_next hK (p, out ++ shown l[j], s7) ⟨m2, by dsimp only; omega, ?_⟩
                  dsimp only
                  rw [← m3, hdp]; simp [past, hkp]
              · refine walk ?_
                refine out_next hK (p, out ++ shown l[j], s7) ⟨m2, by dsimp only; omega, ?_⟩
                dsimp only
                rw [← m3, List.drop_eq_nil_of_le (by omega)]; simp [past]
        · rw [decide_eq_false hk]
          have hji : j ≠ i := by rintro rfl; exact hk rfl
          refine walk ?_
          exact out_next hK (j, out, s6) ⟨g2, by dsimp only; omega, g3⟩
      · refine walk ?_
        exact out_next hK (j, out, s6) ⟨g2, by dsimp only; omega, g3⟩
    · refine walk ?_
      rw [List.drop_eq_nil_of_le (by omega)] at hI
      have e : vis seq l = out := by rw [← hI]; simp [vis]
      refine out_scope_ret (out_freeze s6 fun H2 hl2 q => ?_)
      refine fin0 ?_
      exact ⟨⟨_, _, _, rfl, q, .inr ⟨hb.1 rfl, rfl, e.symm⟩⟩, rfl⟩
end Go.Proofs.Ytjkiioicjmaeoaa
