/- The document's Better, walked. -/
import Derived.Test.YtadahmihkbpglaaDoorPE
set_option linter.unusedVariables false
set_option linter.unusedSimpArgs false
namespace Go.Proofs.YtadahmihkbpglaaDoor
open Go Go.Sx Go.Proofs
theorem comesN_snoc {goal x : Int} : ∀ {p : List Int}, comesN goal (p ++ [x]) = if x = goal then comesN goal p else p.length + 1
  | [] => by simp [comesN]
  | c :: p => by
    rw [List.cons_append, comesN_cons, comesN_snoc]
    by_cases h : x = goal
    · rw [if_pos h, if_pos h, comesN_cons]
    · rw [if_neg h, if_neg h, if_neg (by omega), List.length_cons]
theorem lastA_snoc {x : Int} : ∀ {p : List Int}, lastA (p ++ [x]) = x
  | [] => rfl
  | [c] => rfl
  | c :: d :: p => by
    show lastA (d :: (p ++ [x])) = x
    exact lastA_snoc (p := d :: p)
theorem lastA_get {l : List Int} (h : 0 < l.length) : l[l.length - 1]'(by omega) = lastA l := by
  have hd := List.dropLast_concat_getLast (List.ne_nil_of_length_pos h)
  have := lastA_snoc (x := l.getLast (List.ne_nil_of_length_pos h)) (p := l.dropLast)
  rw [hd, List.getLast_eq_getElem] at this
  exact this.symm
theorem passA_snoc {c d : Int} : ∀ {p : List Int}, passA (p ++ [c] ++ [d]) = passA (p ++ [c]) + if d = c then 0 else 1
  | [] => by simp [passA]
  | [a] => by simp only [List.singleton_append, List.cons_append, List.nil_append, passA]; omega
  | a :: b :: p => by
    have ih := passA_snoc (c := c) (d := d) (p := b :: p)
    have e1 : passA (a :: b :: p ++ [c] ++ [d]) = passA (b :: p ++ [c] ++ [d]) + if b = a then 0 else 1 := rfl
    have e2 : passA (a :: b :: p ++ [c]) = passA (b :: p ++ [c]) + if b = a then 0 else 1 := rfl
    rw [e1, e2, ih]
    omega
theorem lexL_app : ∀ {p a b : List Int}, lexL (p ++ a) (p ++ b) ↔ lexL a b
  | [], _, _ => Iff.rfl
  | x :: p, a, b => by
    simp only [List.cons_append, lexL]
    rw [lexL_app]
    constructor
    · rintro (h | ⟨_, h⟩)
      · omega
      · exact h
    · exact fun h => .inr ⟨trivial, h⟩
def decLex : ∀ a b : List Int, Decidable (lexL a b)
  | [], _ => isFalse fun h => h
  | _ :: _, [] => isFalse fun h => h
  | a :: l, b :: m => by
    simp only [lexL]
    exact @instDecidableOr _ _ _ (@instDecidableAnd _ _ _ (decLex l m))
instance {a b : List Int} : Decidable (lexL a b) := decLex a b
instance {goal : Int} {dist : Int → Int} {a b : List Int} : Decidable (betN goal dist a b) := by unfold betN tlt3; infer_instance
set_option maxHeartbeats 4000000 in
theorem comes18_spec {W0 : World} {H : Heap} {v : Value} {l : List Int} {goal : Int} (h0 : SlR rInt 1 H v l) :
    Ct Tryd.prog 36 #[v, I goal] W0 H [] (fun r H' B => r = I (comesN goal l) ∧ B = [] ∧ H' = H) := by
  refine Ct.go fun R => ?_
  obtain ⟨b0, c0, rfl, hc0, hd0⟩ := h0.shape
  refine walk ?_
  refine ex_loop (σ := Nat) (fun n => n ≤ l.length ∧ comesN goal (l.take n) = comesN goal l) (fun n => [(0, .slice b0 l.length c0), (1, I goal), (5, I n)]) (fun _ => H) (fun _ => R) (fun n => n) l.length ⟨Nat.le_refl _, by rw [List.take_length]⟩ fun n ⟨hn0, hn⟩ K hL => ?_
  cases n with
  | zero =>
    have e : comesN goal l = 0 := by rw [← hn]; rfl
    refine walkG ?_
    refine fin0 ?_
    exact ⟨by rw [e], rfl, rfl⟩
  | succ n =>
    have hn1 : n < l.length := by omega
    have ht := List.take_succ_eq_append_getElem hn1
    have e1 : ((n + 1 : Nat) : Int) - 1 = n := by omega
    refine walkG ?_
    rw [e1]
    refine ops_ix (j := n) rfl rfl rfl h0 hn1 ?_
    refine walkG ?_
    rw [ht, comesN_snoc] at hn
    refine ex_if rfl (fun hq => ?_) (fun hq => ?_)
    · rw [if_pos hq] at hn
      refine walk ?_
      rw [e1]
      refine out_next hL n ⟨by omega, hn⟩
    · rw [if_neg hq, List.length_take, Nat.min_eq_left (by omega)] at hn
      clear hL
      refine walk ?_
      refine fin0 ?_
      exact ⟨by rw [← hn], rfl, rfl⟩
set_option maxHeartbeats 4000000 in
theorem far18_spec {W0 : World} {H : Heap} {c : List Value} {m : Map} {x y : Int} (h0 : rMap H c m) (hw : sidesM m) (hx : isC m x) (hy : isC m y) :
    Ct Tryd.prog 37 #[.agg c.toArray, I x, I y] W0 H [] (fun r H' B => r = I (distM m y x) ∧ B = [] ∧ H' = H) := by
  refine Ct.go fun R => ?_
  obtain ⟨⟨a1, a2⟩, a3, a4⟩ := cell_xy hw hx
  obtain ⟨⟨b1, b2⟩, b3, b4⟩ := cell_xy hw hy
  simp only [sidesM] at hw
  obtain ⟨s0, rfl, f1, f2, f3, h0⟩ := h0
  have g1 : fits (x.tmod m.W - y.tmod m.W) := by unfold fits; omega
  have g3 : fits (x.tdiv m.W - y.tdiv m.W) := by unfold fits; omega
  have q1 : 0 < m.W ∧ fits (x.tdiv m.W) := ⟨by omega, by unfold fits; omega⟩
  have q2 : 0 < m.W ∧ fits (y.tdiv m.W) := ⟨by omega, by unfold fits; omega⟩
  refine walk ?_
  refine ops_box rfl rfl fun p3 _ => ?_
  refine walk ?_
  refine fin0 ?_
  exact ⟨by unfold distM; rw [Int.neg_sub, Int.neg_sub], rfl, rfl⟩
set_option maxHeartbeats 4000000 in
theorem passes18_spec {W0 : World} {H : Heap} {v : Value} {l : List Int} (h0 : SlR rInt 1 H v l) (hne : l ≠ []) :
    Ct Tryd.prog 38 #[v] W0 H [] (fun r H' B => r = I (passA l) ∧ B = [] ∧ H' = H) := by
  refine Ct.go fun R => ?_
  obtain ⟨b0, c0, rfl, hc0, hd0⟩ := h0.shape
  have hl0 : 0 < l.length := List.length_pos_iff.2 hne
  refine walk ?_
  refine ex_loop (σ := Nat × Int) (fun s => (1 ≤ s.1 ∧ s.1 ≤ l.length) ∧ s.2 = passA (l.take s.1) ∧ 0 ≤ s.2 ∧ s.2 ≤ s.1) (fun s => [(0, .slice b0 l.length c0), (3, I s.2), (4, I s.1)]) (fun _ => H) (fun _ => R) (fun s => l.length - s.1) (1, 0) ⟨⟨Nat.le_refl _, hl0⟩, by
    obtain ⟨x, l', rfl⟩ : ∃ x l', l = x :: l' := by cases l with | nil => exact absurd rfl hne | cons x l' => exact ⟨x, l', rfl⟩
    simp [passA]⟩ fun ⟨i, q⟩ ⟨⟨hi0, hi⟩, hq, hp0, hp⟩ K hL => ?_
  simp only at hi0 hi hq hp0 hp
  dsimp only
  refine walk ?_
  refine ex_if rfl (fun hk => ?_) (fun hk => ?_)
  · obtain ⟨n, rfl⟩ : ∃ n, i = n + 1 := ⟨i - 1, by omega⟩
    have hn : n + 1 < l.length := by omega
    have hn1 : n < l.length := by omega
    have e1 : ((n + 1 : Nat) : Int) - 1 = n := by omega
    have ht1 : l.take (n + 1) = l.take n ++ [l[n]] := List.take_succ_eq_append_getElem hn1
    have ht2 : l.take (n + 1 + 1) = l.take n ++ [l[n]] ++ [l[n + 1]] := by rw [← ht1]; exact List.take_succ_eq_append_getElem hn
    have hpa := passA_snoc (c := l[n]) (d := l[n + 1]) (p := l.take n)
    rw [← ht2, ← ht1, ← hq] at hpa
    refine walk ?_
    rw [e1]
    refine walk ?_
    refine ex_if rfl (fun hd => ?_) (fun hd => ?_)
    · rw [if_neg hd] at hpa
      refine walk ?_
      refine out_next hL (n + 1 + 1, q + 1) ⟨⟨by simp only; omega, by simp only; omega⟩, hpa.symm, by simp only; omega, by simp only; omega⟩
    · rw [if_pos (Classical.not_not.1 hd), Int.add_zero] at hpa
      refine walk ?_
      refine out_next hL (n + 1 + 1, q) ⟨⟨by simp only; omega, by simp only; omega⟩, hpa.symm, by simp only; omega, by simp only; omega⟩
  · clear hL
    obtain rfl : i = l.length := by omega
    rw [List.take_length] at hq
    refine walk ?_
    refine fin0 ?_
    exact ⟨by rw [hq], rfl, rfl⟩
set_option maxHeartbeats 8000000 in
theorem better18_spec {W0 : World} {H : Heap} {c : List Value} {m : Map} {u v : Value} {goal : Int} {a b : List Int} (h0 : rMap H c m) (hw : sidesM m) (hg : isC m goal) (ha : SlR rInt 1 H u a) (hb : SlR rInt 1 H v b) (hne : a ≠ []) (hl : a.length = b.length) (hac : ∀ x ∈ a, isC m x) (hbc : ∀ x ∈ b, isC m x) :
    Ct Tryd.prog 16 #[.agg c.toArray, I goal, u, v] W0 H [] (fun r H' B => r = .bool (decide (betN goal (distM m goal) a b)) ∧ B = [] ∧ H' = H) := by
  refine Ct.go (vs := [.agg c.toArray, I goal, u, v]) fun R => ?_
  have hbne : b ≠ [] := by intro e; subst e; exact hne (List.length_eq_zero_iff.1 hl)
  have ha0 : 0 < a.length := List.length_pos_iff.2 hne
  have hb0 : 0 < b.length := List.length_pos_iff.2 hbne
  obtain ⟨b0, c0, rfl, hc0, hd0⟩ := ha.shape
  obtain ⟨b1, c1, rfl, hc1, hd1⟩ := hb.shape
  have g0 := h0
  obtain ⟨s0, rfl, f1, f2, f3, h0⟩ := h0
  have la := lastA_get ha0
  have lb := lastA_get hb0
  have iac : isC m (lastA a) := by rw [← la]; exact hac _ (List.getElem_mem _)
  have ibc : isC m (lastA b) := by rw [← lb]; exact hbc _ (List.getElem_mem _)
  have ea : (a.length : Int) - 1 = ((a.length - 1 : Nat) : Int) := by omega
  have eb : (b.length : Int) - 1 = ((b.length - 1 : Nat) : Int) := by omega
  have hca := comesN_le goal (l := a)
  have hcb := comesN_le goal (l := b)
  refine walk ?_
  refine ops_box rfl rfl fun p4 _ => ?_
  refine walk ?_
  refine ops_pcall rfl rfl (comes18_spec ha) ?_
  refine walk ?_
  refine ops_pcall rfl rfl (comes18_spec hb) ?_
  refine walk ?_
  refine ex_if rfl (fun hq => ?_) (fun hq => ?_)
  · refine walk ?_
    refine fin0 ?_
    refine ⟨bdec ?_, rfl, rfl⟩
    unfold betN tlt3
    constructor
    · intro h; exact .inl (.inl h)
    · intro h; omega
  have hq1 : (comesN goal a : Int) = comesN goal b := Classical.not_not.1 hq
  refine walk ?_
  refine ex_any 18 [row p4 24 (m.cv s0)] ?_
  (first | refine gny_p 0 rfl rfl rfl ?_ | refine gny_ld 0 rfl rfl rfl rfl ?_ | refine gny_ldH 0 rfl rfl rfl ‹HRow _ _ 0 _› rfl ?_ | refine gny_T 0 rfl rfl rfl ?_ | refine gny_F 0 rfl rfl rfl ?_ | refine gny_B 0 rfl rfl rfl ?_ | refine gny_skip 0 rfl rfl ?_ | refine gny_sp 0 rfl rfl rfl ?_ | refine gny_sB 0 rfl rfl rfl ?_ | refine gny_sld 0 rfl rfl rfl rfl ?_ | refine gny_sldH 0 rfl rfl rfl ‹HRow _ _ 0 _› rfl ?_ | refine gny_ldN 0 rfl rfl rfl rfl ?_ | refine gny_bld 0 rfl rfl rfl ?_); (first | refine gny_p 1 rfl rfl rfl ?_ | refine gny_ld 1 rfl rfl rfl rfl ?_ | refine gny_ldH 1 rfl rfl rfl ‹HRow _ _ 0 _› rfl ?_ | refine gny_T 1 rfl rfl rfl ?_ | refine gny_F 1 rfl rfl rfl ?_ | refine gny_B 1 rfl rfl rfl ?_ | refine gny_skip 1 rfl rfl ?_ | refine gny_sp 1 rfl rfl rfl ?_ | refine gny_sB 1 rfl rfl rfl ?_ | refine gny_sld 1 rfl rfl rfl rfl ?_ | refine gny_sldH 1 rfl rfl rfl ‹HRow _ _ 0 _› rfl ?_ | refine gny_ldN 1 rfl rfl rfl rfl ?_ | refine gny_bld 1 rfl rfl rfl ?_); (first | refine gny_p 2 rfl rfl rfl ?_ | refine gny_ld 2 rfl rfl rfl rfl ?_ | refine gny_ldH 2 rfl rfl rfl ‹HRow _ _ 0 _› rfl ?_ | refine gny_T 2 rfl rfl rfl ?_ | refine gny_F 2 rfl rfl rfl ?_ | refine gny_B 2 rfl rfl rfl ?_ | refine gny_skip 2 rfl rfl ?_ | refine gny_sp 2 rfl rfl rfl ?_ | refine gny_sB 2 rfl rfl rfl ?_ | refine gny_sld 2 rfl rfl rfl rfl ?_ | refine gny_sldH 2 rfl rfl rfl ‹HRow _ _ 0 _› rfl ?_ | refine gny_ldN 2 rfl rfl rfl rfl ?_ | refine gny_bld 2 rfl rfl rfl ?_); (first | refine gny_p 3 rfl rfl rfl ?_ | refine gny_ld 3 rfl rfl rfl rfl ?_ | refine gny_ldH 3 rfl rfl rfl ‹HRow _ _ 0 _› rfl ?_ | refine gny_T 3 rfl rfl rfl ?_ | refine gny_F 3 rfl rfl rfl ?_ | refine gny_B 3 rfl rfl rfl ?_ | refine gny_skip 3 rfl rfl ?_ | refine gny_sp 3 rfl rfl rfl ?_ | refine gny_sB 3 rfl rfl rfl ?_ | refine gny_sld 3 rfl rfl rfl rfl ?_ | refine gny_sldH 3 rfl rfl rfl ‹HRow _ _ 0 _› rfl ?_ | refine gny_ldN 3 rfl rfl rfl rfl ?_ | refine gny_bld 3 rfl rfl rfl ?_); (first | refine gny_p 4 rfl rfl rfl ?_ | refine gny_ld 4 rfl rfl rfl rfl ?_ | refine gny_ldH 4 rfl rfl rfl ‹HRow _ _ 0 _› rfl ?_ | refine gny_T 4 rfl rfl rfl ?_ | refine gny_F 4 rfl rfl rfl ?_ | refine gny_B 4 rfl rfl rfl ?_ | refine gny_skip 4 rfl rfl ?_ | refine gny_sp 4 rfl rfl rfl ?_ | refine gny_sB 4 rfl rfl rfl ?_ | refine gny_sld 4 rfl rfl rfl rfl ?_ | refine gny_sldH 4 rfl rfl rfl ‹HRow _ _ 0 _› rfl ?_ | refine gny_ldN 4 rfl rfl rfl rfl ?_ | refine gny_bld 4 rfl rfl rfl ?_)
  rw [ea]
  refine gny_el 5 6 (jj := a.length - 1) rfl rfl rfl rfl rfl ha (by omega) ?_
  rw [la]
  (first | refine gny_p 7 rfl rfl rfl ?_ | refine gny_ld 7 rfl rfl rfl rfl ?_ | refine gny_ldH 7 rfl rfl rfl ‹HRow _ _ 0 _› rfl ?_ | refine gny_T 7 rfl rfl rfl ?_ | refine gny_F 7 rfl rfl rfl ?_ | refine gny_B 7 rfl rfl rfl ?_ | refine gny_skip 7 rfl rfl ?_ | refine gny_sp 7 rfl rfl rfl ?_ | refine gny_sB 7 rfl rfl rfl ?_ | refine gny_sld 7 rfl rfl rfl rfl ?_ | refine gny_sldH 7 rfl rfl rfl ‹HRow _ _ 0 _› rfl ?_ | refine gny_ldN 7 rfl rfl rfl rfl ?_ | refine gny_bld 7 rfl rfl rfl ?_); (first | refine gny_p 9 rfl rfl rfl ?_ | refine gny_ld 9 rfl rfl rfl rfl ?_ | refine gny_ldH 9 rfl rfl rfl ‹HRow _ _ 0 _› rfl ?_ | refine gny_T 9 rfl rfl rfl ?_ | refine gny_F 9 rfl rfl rfl ?_ | refine gny_B 9 rfl rfl rfl ?_ | refine gny_skip 9 rfl rfl ?_ | refine gny_sp 9 rfl rfl rfl ?_ | refine gny_sB 9 rfl rfl rfl ?_ | refine gny_sld 9 rfl rfl rfl rfl ?_ | refine gny_sldH 9 rfl rfl rfl ‹HRow _ _ 0 _› rfl ?_ | refine gny_ldN 9 rfl rfl rfl rfl ?_ | refine gny_bld 9 rfl rfl rfl ?_); (first | refine gny_p 10 rfl rfl rfl ?_ | refine gny_ld 10 rfl rfl rfl rfl ?_ | refine gny_ldH 10 rfl rfl rfl ‹HRow _ _ 0 _› rfl ?_ | refine gny_T 10 rfl rfl rfl ?_ | refine gny_F 10 rfl rfl rfl ?_ | refine gny_B 10 rfl rfl rfl ?_ | refine gny_skip 10 rfl rfl ?_ | refine gny_sp 10 rfl rfl rfl ?_ | refine gny_sB 10 rfl rfl rfl ?_ | refine gny_sld 10 rfl rfl rfl rfl ?_ | refine gny_sldH 10 rfl rfl rfl ‹HRow _ _ 0 _› rfl ?_ | refine gny_ldN 10 rfl rfl rfl rfl ?_ | refine gny_bld 10 rfl rfl rfl ?_); (first | refine gny_p 11 rfl rfl rfl ?_ | refine gny_ld 11 rfl rfl rfl rfl ?_ | refine gny_ldH 11 rfl rfl rfl ‹HRow _ _ 0 _› rfl ?_ | refine gny_T 11 rfl rfl rfl ?_ | refine gny_F 11 rfl rfl rfl ?_ | refine gny_B 11 rfl rfl rfl ?_ | refine gny_skip 11 rfl rfl ?_ | refine gny_sp 11 rfl rfl rfl ?_ | refine gny_sB 11 rfl rfl rfl ?_ | refine gny_sld 11 rfl rfl rfl rfl ?_ | refine gny_sldH 11 rfl rfl rfl ‹HRow _ _ 0 _› rfl ?_ | refine gny_ldN 11 rfl rfl rfl rfl ?_ | refine gny_bld 11 rfl rfl rfl ?_); (first | refine gny_p 12 rfl rfl rfl ?_ | refine gny_ld 12 rfl rfl rfl rfl ?_ | refine gny_ldH 12 rfl rfl rfl ‹HRow _ _ 0 _› rfl ?_ | refine gny_T 12 rfl rfl rfl ?_ | refine gny_F 12 rfl rfl rfl ?_ | refine gny_B 12 rfl rfl rfl ?_ | refine gny_skip 12 rfl rfl ?_ | refine gny_sp 12 rfl rfl rfl ?_ | refine gny_sB 12 rfl rfl rfl ?_ | refine gny_sld 12 rfl rfl rfl rfl ?_ | refine gny_sldH 12 rfl rfl rfl ‹HRow _ _ 0 _› rfl ?_ | refine gny_ldN 12 rfl rfl rfl rfl ?_ | refine gny_bld 12 rfl rfl rfl ?_); (first | refine gny_p 13 rfl rfl rfl ?_ | refine gny_ld 13 rfl rfl rfl rfl ?_ | refine gny_ldH 13 rfl rfl rfl ‹HRow _ _ 0 _› rfl ?_ | refine gny_T 13 rfl rfl rfl ?_ | refine gny_F 13 rfl rfl rfl ?_ | refine gny_B 13 rfl rfl rfl ?_ | refine gny_skip 13 rfl rfl ?_ | refine gny_sp 13 rfl rfl rfl ?_ | refine gny_sB 13 rfl rfl rfl ?_ | refine gny_sld 13 rfl rfl rfl rfl ?_ | refine gny_sldH 13 rfl rfl rfl ‹HRow _ _ 0 _› rfl ?_ | refine gny_ldN 13 rfl rfl rfl rfl ?_ | refine gny_bld 13 rfl rfl rfl ?_)
  rw [eb]
  refine gny_el 14 15 (jj := b.length - 1) rfl rfl rfl rfl rfl hb (by omega) ?_
  rw [lb]
  (first | refine gny_p 16 rfl rfl rfl ?_ | refine gny_ld 16 rfl rfl rfl rfl ?_ | refine gny_ldH 16 rfl rfl rfl ‹HRow _ _ 0 _› rfl ?_ | refine gny_T 16 rfl rfl rfl ?_ | refine gny_F 16 rfl rfl rfl ?_ | refine gny_B 16 rfl rfl rfl ?_ | refine gny_skip 16 rfl rfl ?_ | refine gny_sp 16 rfl rfl rfl ?_ | refine gny_sB 16 rfl rfl rfl ?_ | refine gny_sld 16 rfl rfl rfl rfl ?_ | refine gny_sldH 16 rfl rfl rfl ‹HRow _ _ 0 _› rfl ?_ | refine gny_ldN 16 rfl rfl rfl rfl ?_ | refine gny_bld 16 rfl rfl rfl ?_)
  refine gny_pcall 8 rfl rfl rfl (far18_spec g0 hw iac hg) ?_
  refine gny_pcall 17 rfl rfl rfl (far18_spec g0 hw ibc hg) ?_
  refine any_rest rfl ?_
  refine walk ?_
  refine ex_if rfl (fun hd => ?_) (fun hd => ?_)
  · refine walk ?_
    refine fin0 ?_
    refine ⟨bdec ?_, rfl, rfl⟩
    unfold betN tlt3
    constructor
    · intro h; exact .inl (.inr ⟨hq1, .inl h⟩)
    · intro h; omega
  have hd1 : distM m goal (lastA a) = distM m goal (lastA b) := Classical.not_not.1 hd
  refine walk ?_
  refine ops_pcall rfl rfl (passes18_spec ha hne) ?_
  refine walk ?_
  refine ops_pcall rfl rfl (passes18_spec hb hbne) ?_
  refine walk ?_
  refine ex_if rfl (fun hp => ?_) (fun hp => ?_)
  · refine walk ?_
    refine fin0 ?_
    refine ⟨bdec ?_, rfl, rfl⟩
    unfold betN tlt3
    constructor
    · intro h; exact .inl (.inr ⟨hq1, .inr ⟨hd1, h⟩⟩)
    · intro h; omega
  have hp1 : passA a = passA b := Classical.not_not.1 hp
  have hlx : betN goal (distM m goal) a b ↔ lexL a b := by
    unfold betN tlt3
    constructor
    · intro h
      rcases h with h | ⟨_, h⟩
      · omega
      · exact h
    · intro h
      exact .inr ⟨⟨by omega, hd1, hp1⟩, h⟩
  refine walk ?_
  refine ex_loop (σ := Nat) (fun k => k ≤ a.length ∧ a.take k = b.take k) (fun k => [(2, .slice b0 a.length c0), (3, .slice b1 b.length c1), (59, I a.length), (60, I k)]) (fun _ => H) (fun _ => R) (fun k => a.length - k) 0 ⟨Nat.zero_le _, rfl⟩ fun k ⟨hk0, hk⟩ K hL => ?_
  refine walk ?_
  refine ex_if rfl (fun hk1 => ?_) (fun hk1 => ?_)
  · have hka : k < a.length := by omega
    have hkb : k < b.length := by omega
    have ta := List.take_succ_eq_append_getElem hka
    have tb := List.take_succ_eq_append_getElem hkb
    have hlk : lexL a b ↔ lexL (a[k] :: a.drop (k + 1)) (b[k] :: b.drop (k + 1)) := by
      have e1 : a = a.take k ++ (a[k] :: a.drop (k + 1)) := by rw [← List.drop_eq_getElem_cons hka, List.take_append_drop]
      have e2 : b = a.take k ++ (b[k] :: b.drop (k + 1)) := by rw [hk, ← List.drop_eq_getElem_cons hkb, List.take_append_drop]
      have := lexL_app (p := a.take k) (a := a[k] :: a.drop (k + 1)) (b := b[k] :: b.drop (k + 1))
      rw [← e1, ← e2] at this
      exact this
    refine walk ?_
    refine ex_if rfl (fun hx => ?_) (fun hx => ?_)
    · refine walk ?_
      refine fin0 ?_
      refine ⟨bdec ?_, rfl, rfl⟩
      rw [hlx, hlk]
      simp only [lexL]
      constructor
      · exact fun h => .inl h
      · rintro (h | ⟨h, _⟩)
        · exact h
        · exact absurd h hx
    · refine walk ?_
      refine out_next hL (k + 1) ⟨by omega, by rw [ta, tb, hk, Classical.not_not.1 hx]⟩
  · clear hL
    obtain rfl : k = a.length := by omega
    rw [List.take_length, hl, List.take_length] at hk
    refine walk ?_
    refine fin0 ?_
    refine ⟨?_, rfl, rfl⟩
    rw [decide_eq_false]
    rw [hlx, hk]
    exact fun h => lexL_irr h h
end Go.Proofs.YtadahmihkbpglaaDoor
