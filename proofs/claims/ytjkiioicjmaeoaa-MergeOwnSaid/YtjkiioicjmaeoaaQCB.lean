/- DeleteFunc with a function that keeps a state. -/
import Derived.Test.YtjkiioicjmaeoaaQML
set_option linter.unusedVariables false
set_option linter.unusedSimpArgs false
namespace Go.Proofs.Ytjkiioicjmaeoaa
open Go Go.Sx Go.X Go.Proofs
abbrev PB (H : Heap) (v : Value) (l : List Pair) : Prop := SlB rPair 2 32 H v l
def past (k : ByteArray) : List Entry → List Entry
  | [] => []
  | e :: t => if e.Key = k then past k t else e :: t
theorem past_len (k : ByteArray) : ∀ l, (past k l).length ≤ l.length
  | [] => Nat.le_refl _
  | e :: t => by
    unfold past
    split
    · exact Nat.le_succ_of_le (past_len k t)
    · exact Nat.le_refl _
def shown (e : Entry) : List Pair := if e.Del then [] else [⟨e.Key, e.Value⟩]
def vis (seq : Int) : List Entry → List Pair
  | [] => []
  | e :: t => if seq < e.Seq then vis seq t else shown e ++ vis seq (past e.Key t)
termination_by l => l.length
decreasing_by
  · simp
  · have := past_len e.Key t; simp; omega
theorem vis_hi {seq : Int} {e : Entry} {t : List Entry} (h : seq < e.Seq) : vis seq (e :: t) = vis seq t := by rw [vis, if_pos h]
theorem vis_lo {seq : Int} {e : Entry} {t : List Entry} (h : ¬ seq < e.Seq) : vis seq (e :: t) = shown e ++ vis seq (past e.Key t) := by rw [vis, if_neg h]
set_option maxHeartbeats 4000000 in
theorem visible_spec {W0 : GW} {H : Heap} {v : Value} {l : List Entry} {seq : Int} (hv : LB H v l) :
    Ct Try.prog 17 #[v, .int .i64 seq] W0 H [] (fun r H' B => (∃ s code res, r = .tuple #[s, .int .i64 code] ∧ PB H' s res ∧ ((¬ Ordd l ∧ res = [] ∧ code = 60) ∨ (Ordd l ∧ code = 0 ∧ res = vis seq l))) ∧ B = []) := by
  refine Ct.go (vs := [_, _]) fun R => ?_
  have hsz := hv.2
  have hlen := hv.len
  have hok : ∀ e ∈ l, okE e := hv.1.all fun _ _ _ h => h.2
  obtain ⟨b0, c0, rfl, hc0, hd0⟩ := hv.1.shape
  refine walk ?_
  refine ex_scope ?_
  refine walk ?_
  refine ops_call rfl rfl (ordered_spec hv.1 hv.len) fun r H' B hl ⟨⟨b, er, hb⟩, eB, eH⟩ => ?_
  subst er eB eH
  cases b with
  | false =>
    refine walk ?_
    refine out_scope_ret (fin0 ?_)
    exact ⟨⟨_, _, [], rfl, ⟨SlR.nil _ _ _ _ _ (by decide), by simp⟩, .inl ⟨fun h => (by have := hb.2 h; cases this), rfl, rfl⟩⟩, rfl⟩
  | true =>
    refine walk ?_
    refine ex_label ?_
    refine walk ?_
    refine ex_L (L' := ownS rPair 2 32 50 H' (.slice none 0 0) [] :: R) ownS_nil ?_
    refine ex_loop (fun s : Nat × List Pair × Value => s.1 ≤ l.length ∧ s.2.1.length ≤ s.1 ∧ s.2.1 ++ vis seq (l.drop s.1) = vis seq l) (fun s => [(7, .int .i64 s.1), (6, s.2.2), (0, .slice b0 l.length c0), (1, .int .i64 seq)]) (fun _ => H') (fun s => ownS rPair 2 32 50 H' s.2.2 s.2.1 :: R) (fun s => l.length - s.1) (0, [], .slice none 0 0) ⟨Nat.zero_le _, Nat.le_refl _, rfl⟩ fun ⟨i, out, s6⟩ ⟨hi, ho, hI⟩ K hK => ?_
    simp only at hi ho hI
    dsimp only
    by_cases hlt : i < l.length
    · refine walk ?_
      refine ops_ixp rfl rfl hv.1 hlt fun b1 o1 c1 h1 h2 => ?_
      obtain ⟨rfl, -⟩ := h2
      refine walk ?_
      refine ex_loop (fun j : Nat => i ≤ j ∧ j ≤ l.length ∧ out ++ vis seq (l.drop j) = vis seq l) (fun j => [(7, .int .i64 j), (6, s6), (8, .string l[i].Key), (0, .slice b0 l.length c0), (1, .int .i64 seq)]) (fun _ => H') (fun _ => ownS rPair 2 32 50 H' s6 out :: R) (fun j => l.length - j) i ⟨Nat.le_refl _, hi, hI⟩ fun j ⟨g1, g2, g3⟩ K2 hK2 => ?_
      by_cases hj : j < l.length
      · have hdj : l.drop j = l[j] :: l.drop (j + 1) := List.drop_eq_getElem_cons hj
        refine walk ?_
        refine ops_ixp rfl rfl hv.1 hj fun b2 o2 c2 k1 k2 => ?_
        obtain ⟨rfl, -⟩ := k2
        refine walk ?_
        by_cases hk : l[j].Key = l[i].Key
        · rw [decide_eq_true hk]
          refine walk ?_
          refine ops_ixp rfl rfl hv.1 hj fun b3 o3 c3 k3 k4 => ?_
          obtain ⟨rfl, -⟩ := k4
          refine walk ?_
          refine ex_if rfl (fun hs => ?_) (fun hs => ?_)
          · refine walk ?_
            refine out_next hK2 (j + 1) ⟨by omega, hj, ?_⟩
            rw [← g3, hdj, vis_hi hs]
          · have hvl : out ++ shown l[j] ++ vis seq (past l[i].Key (l.drop j)) = vis seq l := by
              rw [← g3, hdj, vis_lo hs, List.append_assoc, hk]
              simp [past, hk]
            have hol : (out ++ shown l[j]).length ≤ j + 1 := by
              simp only [List.length_append, shown]; split <;> simp <;> omega
            refine ex_skip (out_seq ?_)
            refine ex_cut (σ := Value) (fun _ => True) (fun s => [(7, .int .i64 j), (6, s), (8, .string l[i].Key), (0, .slice b0 l.length c0), (1, .int .i64 seq)]) (fun _ => H') (fun s => ownS rPair 2 32 50 H' s (out ++ shown l[j]) :: R) (fun K3 hK3 => ?_) fun s7 _ => ?_
            · refine walk ?_
              refine ops_ixp rfl rfl hv.1 hj fun b4 o4 c4 k5 k6 => ?_
              obtain ⟨rfl, -⟩ := k6
              refine ops_p rfl rfl ?_
              refine ops_ldH (i := 2) rfl rfl k5 rfl rfl ?_
              cases hdel : l[j].Del with
              | true =>
                refine walk ?_
                have e : out ++ shown l[j] = out := by simp [shown, hdel]
                refine out_to hK3 s6 trivial (hs := ?_)
                rw [e]; exact .refl _
              | false =>
                refine walk ?_
                refine ops_ixp rfl rfl hv.1 hj fun b5 o5 c5 k7 k8 => ?_
                obtain ⟨rfl, k8⟩ := k8
                refine ops_p rfl rfl ?_
                refine ops_ldH (i := 3) rfl rfl k7 rfl rfl ?_
                refine walk ?_
                have e : out ++ shown l[j] = out ++ [⟨l[i].Key, l[j].Value⟩] := by simp [shown, hdel, hk]
                have oki := hok _ (List.getElem_mem hlt)
                refine ops_app1 (y := (⟨l[i].Key, l[j].Value⟩ : Pair)) rfl rfl rfl ⟨rfl, oki.1, k8.2.2⟩ (by omega) fun b6 cap => ?_
                refine walk ?_
                refine out_to hK3 (.slice b6 (out.length + 1) cap) trivial (hs := ?_)
                rw [e]; exact .refl _
            · refine walk ?_
              refine ex_loop (fun p : Nat => j ≤ p ∧ p ≤ l.length ∧ (out ++ shown l[j]) ++ vis seq (past l[i].Key (l.drop p)) = vis seq l) (fun p => [(7, .int .i64 p), (6, s7), (8, .string l[i].Key), (0, .slice b0 l.length c0), (1, .int .i64 seq)]) (fun _ => H') (fun _ => ownS rPair 2 32 50 H' s7 (out ++ shown l[j]) :: R) (fun p => l.length - p) j ⟨Nat.le_refl _, g2, hvl⟩ fun p ⟨m1, m2, m3⟩ K4 hK4 => ?_
              by_cases hp : p < l.length
              · have hdp : l.drop p = l[p] :: l.drop (p + 1) := List.drop_eq_getElem_cons hp
                refine walk ?_
                refine ops_ixp rfl rfl hv.1 hp fun b7 o7 c7 k9 k10 => ?_
                obtain ⟨rfl, -⟩ := k10
                refine walk ?_
                by_cases hkp : l[p].Key = l[i].Key
                · rw [decide_eq_true hkp]
                  refine walk ?_
                  refine out_next hK4 (p + 1) ⟨by omega, hp, ?_⟩
                  rw [← m3, hdp]; simp [past, hkp]
                · rw [decide_eq_false hkp]
                  have hjp : j ≠ p := by rintro rfl; exact hkp hk
                  refine walk ?_
                  refine out_next hK (p, out ++ shown l[j], s7) ⟨m2, by dsimp only; omega, ?_⟩
                  dsimp only
                  rw [← m3, hdp]; simp [past, hkp]
              · refine walk ?_
                refine out_next hK (p, out ++ shown l[j], s7) ⟨m2, by dsimp only; omega, ?_⟩
                dsimp only
                rw [← m3, List.drop_eq_nil_of_le (by omega)]; simp [past]
        · rw [decide_eq_false hk]
          have hji : j ≠ i := by rintro rfl; exact hk rfl
          refine walk ?_
          exact out_next hK (j, out, s6) ⟨g2, by dsimp only; omega, g3⟩
      · refine walk ?_
        exact out_next hK (j, out, s6) ⟨g2, by dsimp only; omega, g3⟩
    · refine walk ?_
      rw [List.drop_eq_nil_of_le (by omega)] at hI
      have e : vis seq l = out := by rw [← hI]; simp [vis]
      refine out_scope_ret (out_freeze s6 fun H2 hl2 q => ?_)
      refine fin0 ?_
      exact ⟨⟨_, _, _, rfl, q, .inr ⟨hb.1 rfl, rfl, e.symm⟩⟩, rfl⟩
theorem clone_spec {W0 : GW} {H : Heap} {v : Value} {l : List Entry} (hv : LB H v l) : Ct Try.prog 33 #[v] W0 H [] (fun r H' B => B = [ownS rEntry 4 48 37 H r l] ∧ H' = H) := by
  refine Ct.go (vs := [_]) fun R => ?_
  have hsz := hv.2
  obtain ⟨b0, c0, rfl, hc0, hd0⟩ := hv.1.shape
  refine walk ?_
  cases b0 with
  | none =>
    have hl : l = [] := by
      rcases l with _ | ⟨e, t⟩
      · rfl
      · obtain ⟨b, o, c, h1, _⟩ := hv.1.get (k := 0) (by simp)
        cases h1
    subst hl
    refine ex_if rfl (fun _ => ?_) (fun h => absurd rfl h)
    refine walk ?_
    refine finB [ownS rEntry 4 48 37 H (.slice none 0 0) []] ⟨rfl, rfl⟩ (hs := ?_)
    exact ownS_nil
  | some a =>
    refine ex_if rfl (fun h => by cases h) (fun _ => ?_)
    refine walk ?_
    refine ops_mk0 (w := 48) rEntry rfl fun b => ?_
    refine walk ?_
    refine ops_appS rfl rfl hv.1 (by simp only [List.length_nil]; omega) fun base cap => ?_
    refine walk ?_
    refine finB [ownS rEntry 4 48 37 H (.slice base (([] : List Entry).length + l.length) cap) ([] ++ l)] ⟨?_, rfl⟩
    rfl
def delS (p : List Entry → Entry → Bool) : List Entry → List Entry → List Entry
  | _, [] => []
  | pre, x :: t => if p pre x then delS p (pre ++ [x]) t else x :: delS p (pre ++ [x]) t
theorem delS_snoc (p : List Entry → Entry → Bool) (x : Entry) : ∀ (t pre : List Entry), delS p pre (t ++ [x]) = delS p pre t ++ (if p (pre ++ t) x then [] else [x])
  | [], pre => by simp [delS]
  | y :: t, pre => by
    have ih := delS_snoc p x t (pre ++ [y])
    simp only [List.cons_append, delS, ih, List.append_assoc, List.singleton_append]
    split <;> simp
theorem delS_len (p : List Entry → Entry → Bool) : ∀ (t pre : List Entry), (delS p pre t).length ≤ t.length
  | [], pre => by simp [delS]
  | y :: t, pre => by
    have ih := delS_len p t (pre ++ [y])
    simp only [delS, List.length_cons]
    split
    · omega
    · simp only [List.length_cons]; omega
theorem delS_take (p : List Entry → Entry → Bool) {xs : List Entry} {k : Nat} (h : k < xs.length) : delS p [] (xs.take (k + 1)) = delS p [] (xs.take k) ++ (if p (xs.take k) xs[k] then [] else [xs[k]]) := by
  rw [List.take_succ_eq_append_getElem h, delS_snoc]; rfl
theorem delS_none (p : List Entry → Entry → Bool) {xs : List Entry} : ∀ {k : Nat}, k ≤ xs.length → (∀ i (h : i < xs.length), i < k → p (xs.take i) xs[i] = false) → delS p [] (xs.take k) = xs.take k
  | 0, _, _ => by simp [delS]
  | k + 1, hk, h => by
    rw [delS_take p (show k < xs.length by omega), delS_none p (by omega) (fun i hi h' => h i hi (by omega)), h k (by omega) (by omega), List.take_succ_eq_append_getElem (show k < xs.length by omega)]
    rfl
def AskS (W0 : GW) (H : Heap) (f : FuncId) (cap : List Value) (a : List Entry → HProp) (N : Nat) (p : List Entry → Entry → Bool) : Prop :=
  ∀ pre c x, pre.length < N → rEntry H c x → Ct Try.prog f (([] ++ [Value.agg c.toArray]) ++ cap).toArray W0 H [a pre] (fun r H' B => r = .bool (p pre x) ∧ B = [a (pre ++ [x])] ∧ H' = H)
abbrev FE (f : FuncId) (cap : List Value) : Value := .func (.func f) #[] cap.toArray
theorem ixf_spec {W0 : GW} {H HS : Heap} {v : Value} {xs : List Entry} {f : FuncId} {cap : List Value} {a : List Entry → HProp} {p : List Entry → Entry → Bool} [hf : TFn Try.prog f] (hl : HS.le H) (hask : AskS W0 H f cap a xs.length p) :
    Ct Try.prog 55 #[v, FE f cap] W0 H [ownS rEntry 4 48 37 HS v xs, a []]
      (fun r H' B => H' = H ∧ ∃ j, j ≤ xs.length ∧ (∀ i (h : i < xs.length), i < j → p (xs.take i) xs[i] = false) ∧ ((j = xs.length ∧ r = .int .i64 (-1) ∧ B = [ownS rEntry 4 48 37 HS v xs, a xs]) ∨ (∃ h : j < xs.length, p (xs.take j) xs[j] = true ∧ r = .int .i64 j ∧ B = [ownS rEntry 4 48 37 HS v xs, a (xs.take (j + 1))]))) := by
  refine Ct.go fun R => ?_
  refine ex_shape v fun base cp e q1 q2 q3 => ?_
  subst e
  refine walk ?_
  refine ex_loop (fun k => k ≤ xs.length ∧ ∀ i (h : i < xs.length), i < k → p (xs.take i) xs[i] = false) (fun k => [(0, .slice base xs.length cp), (1, FE f cap), (7, .int .i64 xs.length), (8, .int .i64 k)]) (fun _ => H) (fun k => ownS rEntry 4 48 37 HS (.slice base xs.length cp) xs :: a (xs.take k) :: R) (fun k => xs.length - k) 0 ⟨Nat.zero_le _, fun i _ h => by omega⟩ fun k ⟨hk0, hno⟩ K hL => ?_
  refine walk ?_
  refine ex_if rfl (fun hk => ?_) (fun hk => ?_)
  · have hk1 : k < xs.length := by omega
    refine walk ?_
    refine ops_ixo rfl rfl rfl hk1 fun c hc => ?_
    refine ops_callv rfl rfl rfl (hask (xs.take k) c _ (by simp only [List.length_take]; omega) (RdOk.mono hl hc)) fun r H' B hl' ⟨er, eB, eH⟩ => ?_
    subst er eB eH
    have et : xs.take k ++ [xs[k]] = xs.take (k + 1) := (List.take_succ_eq_append_getElem hk1).symm
    cases hp : p (xs.take k) xs[k] with
    | true =>
      refine walk ?_
      refine finB [ownS rEntry 4 48 37 HS (.slice base xs.length cp) xs, a (xs.take k ++ [xs[k]])] ?_
      exact ⟨rfl, k, hk0, hno, .inr ⟨hk1, hp, rfl, by rw [et]⟩⟩
    | false =>
      refine walk ?_
      refine out_next hL (k + 1) ⟨by omega, fun i h hi => ?_⟩ (hs := ?_)
      · rcases Nat.lt_or_ge i k with h' | h'
        · exact hno i h h'
        · obtain rfl : i = k := by omega
          exact hp
      · rw [et]
        exact subA
  · refine walk ?_
    have hke : k = xs.length := by omega
    subst hke
    rw [List.take_length]
    refine finB [ownS rEntry 4 48 37 HS (.slice base xs.length cp) xs, a xs] ?_
    exact ⟨rfl, xs.length, Nat.le_refl _, fun i h hi => hno i h (by omega), .inl ⟨rfl, rfl, rfl⟩⟩
set_option maxHeartbeats 4000000 in
theorem del_spec {W0 : GW} {H HS : Heap} {v : Value} {xs : List Entry} {f : FuncId} {cap : List Value} {a : List Entry → HProp} {p : List Entry → Entry → Bool} [hf : TFn Try.prog f] (hl : HS.le H) (hask : AskS W0 H f cap a xs.length p) :
    Ct Try.prog 32 #[v, FE f cap] W0 H [ownS rEntry 4 48 37 HS v xs, a []] (fun r H' B => B = [ownS rEntry 4 48 37 HS r (delS p [] xs), a xs] ∧ H' = H) := by
  refine Ct.go fun R => ?_
  refine walk ?_
  refine ops_call rfl rfl (ixf_spec (v := v) (xs := xs) hl hask) fun r1 H1 B hl1 ⟨eH, j, hj, hno, hcase⟩ => ?_
  subst eH
  rcases hcase with ⟨rfl, rfl, eB⟩ | ⟨hj1, hpj, rfl, eB⟩
  · subst eB
    refine walk ?_
    refine finB [ownS rEntry 4 48 37 HS v xs, a xs] ?_
    refine ⟨?_, rfl⟩
    have e := delS_none p (Nat.le_refl xs.length) hno
    rw [List.take_length] at e
    rw [e]
  subst eB
  refine ops_rowS v (by omega) fun b cp cs sp e g1 g2 g3 g4 hr hsm => ?_
  subst e
  refine walk ?_
  have hfj : delS p [] (xs.take (j + 1)) = xs.take j := by
    rw [delS_take p hj1, hpj, delS_none p hj hno]; simp
  have hmj : (j + 1) * 4 ≤ cs.length := by rw [g3]; exact Nat.mul_le_mul_right _ hj1
  refine ex_loop (σ := Nat × Nat × List Value × List Value) (fun s => s.1 ≤ xs.length ∧ RL rEntry HS s.2.2.1 (delS p [] (xs.take s.1)) ∧ s.2.1 = (delS p [] (xs.take s.1)).length ∧ s.2.1 < s.1 ∧ s.2.2.2.length = (s.1 - s.2.1) * 4 ∧ s.2.2.2.all (·.oneCell') = true)
    (fun s => [(0, .slice (some ⟨b, 0, none⟩) xs.length cp), (1, FE f cap), (5, .int .i64 s.2.1), (6, .int .i64 s.1)]) (fun _ => H1) (fun s => row b 37 (s.2.2.1 ++ s.2.2.2 ++ cs.drop (s.1 * 4) ++ sp) :: a (xs.take s.1) :: R) (fun s => xs.length - s.1) (j + 1, j, cs.take (j * 4), (cs.drop (j * 4)).take 4) ?h0 (hs0 := ?hs) fun ⟨k, i, A, J⟩ ⟨hk0, hA, hi, hik, hJ, hJ1⟩ K hL => ?_
  case h0 =>
    refine ⟨hj1, ?_, ?_, Nat.lt_succ_self _, ?_, ?_⟩
    · simp only; rw [hfj]; exact hr.take hj
    · simp only; rw [hfj]; simp; omega
    · simp only [List.length_take, List.length_drop]; omega
    · have h5 := hr.one
      simp only [List.all_eq_true] at h5 ⊢
      exact fun x hx => h5 x (List.mem_of_mem_drop (List.mem_of_mem_take hx))
  case hs =>
    dsimp only
    have e : cs.take (j * 4) ++ (cs.drop (j * 4)).take 4 ++ cs.drop ((j + 1) * 4) = cs := by
      rw [show (j + 1) * 4 = j * 4 + 4 by omega, ← List.drop_drop, List.append_assoc, List.take_append_drop, List.take_append_drop]
    rw [e]
    exact subA
  simp only at hk0 hA hi hik hJ hJ1
  dsimp only
  have hAl := hA.len
  rw [← hi] at hAl
  have hAJ : (A ++ J).length = k * 4 := by rw [List.length_append, hAl, hJ, ← Nat.add_mul]; congr 1; omega
  refine walk ?_
  refine ex_if rfl (fun hk => ?_) (fun hk => ?_)
  · have hk1 : k < xs.length := by omega
    obtain ⟨c, r, hcr, hc⟩ := hr.get hk1
    have hcl : c.length = 4 := RdOk.len hc
    have hr' : cs.drop ((k + 1) * 4) = r := by
      rw [show (k + 1) * 4 = k * 4 + 4 by omega, ← List.drop_drop, hcr, ← hcl, List.drop_left]
    have hft := delS_take p hk1
    have et : xs.take k ++ [xs[k]] = xs.take (k + 1) := (List.take_succ_eq_append_getElem hk1).symm
    refine walk ?_
    refine ops_ldat (us := c) rfl rfl (fun o u ho => ?_) hcl ?_
    · rw [hcr, show 0 + k * 4 + o = (A ++ J).length + o by rw [hAJ]; omega, List.append_assoc (A ++ J), List.getElem?_append_right (by omega)]
      rw [show (A ++ J).length + o - (A ++ J).length = o by omega, List.append_assoc, List.getElem?_append_left (List.getElem?_eq_some_iff.1 ho).1]
      exact ho
    refine ops_alloc rfl fun p7 _ => ?_
    refine ops_stall rfl hcl rfl (RdOk.one hc) ?_
    refine walk ?_
    refine ops_ldall rfl rfl hcl ?_
    refine ops_callv rfl rfl rfl (hask (xs.take k) c _ (by simp only [List.length_take]; omega) (RdOk.mono hl hc)) fun r2 H2 B hl2 ⟨er, eB, eH⟩ => ?_
    subst er eB eH
    cases hp : p (xs.take k) xs[k] with
    | false =>
      rw [hp] at hft
      refine walk ?_
      refine ops_ldall rfl rfl hcl ?_
      refine walk ?_
      refine ops_n (op_storeAt (b := b) (off := 0 + i * 4) (vs := c) (cs := A ++ J ++ cs.drop (k * 4) ++ sp) rfl rfl rfl hcl (RdOk.one hc) (by repeat (first | exact Has.here | apply Has.there)) ?_ ?_)
      · rw [List.length_append, List.length_append, hAJ, hcl]; have : (i + 1) * 4 ≤ k * 4 := Nat.mul_le_mul_right _ hik; omega
      refine walk ?_
      refine out_next hL (k + 1, i + 1, A ++ c, J.drop 4 ++ c) ⟨by simp only; omega, ?_, ?_, by simp only; omega, ?_, ?_⟩ (hs := ?_)
      · simp only; rw [hft]; exact hA.snoc hc
      · simp only; rw [hft, List.length_append, ← hi]; simp
      · simp only [List.length_append, List.length_drop, hJ, hcl]; omega
      · simp only [List.all_append, Bool.and_eq_true]
        refine ⟨?_, RdOk.one hc⟩
        simp only [List.all_eq_true] at hJ1 ⊢
        exact fun x hx => hJ1 x (List.mem_of_mem_drop hx)
      · dsimp only
        have hJs : 4 ≤ J.length := by rw [hJ]; omega
        have e : (A ++ J ++ cs.drop (k * 4) ++ sp).take (0 + i * 4) ++ c ++ (A ++ J ++ cs.drop (k * 4) ++ sp).drop (0 + i * 4 + c.length) = A ++ c ++ (J.drop 4 ++ c) ++ cs.drop ((k + 1) * 4) ++ sp := by
          rw [hr', hcr, hcl, Nat.zero_add, ← hAl]
          simp only [List.append_assoc]
          rw [List.take_left, ← List.drop_drop, List.drop_left, List.drop_append_of_le_length hJs]
        rw [e, et]
        exact subA
    | true =>
      rw [hp] at hft
      refine walk ?_
      refine out_next hL (k + 1, i, A, J ++ c) ⟨by simp only; omega, ?_, ?_, by simp only; omega, ?_, ?_⟩ (hs := ?_)
      · simp only; rw [hft]; simpa using hA
      · simp only; rw [hft]; simpa using hi
      · simp only [List.length_append, hJ, hcl]; omega
      · simp only [List.all_append, Bool.and_eq_true]; exact ⟨hJ1, RdOk.one hc⟩
      · dsimp only
        have e : A ++ (J ++ c) ++ cs.drop ((k + 1) * 4) ++ sp = A ++ J ++ cs.drop (k * 4) ++ sp := by rw [hr', hcr]; simp [List.append_assoc]
        rw [e, et]
        exact subA
  · have hke : k = xs.length := by omega
    subst hke
    rw [List.take_length] at hA hi
    have hd0 : cs.drop (xs.length * 4) = [] := List.drop_eq_nil_of_le (by omega)
    rw [hd0, List.append_nil, List.take_length]
    refine walk ?_
    refine ops_n (op_clear (b := b) (m := xs.length - i) (cap := cp - i) (off := 0 + i * 4) (cs := A ++ J ++ sp) rfl (by repeat (first | exact Has.here | apply Has.there)) ?_ (by decide +kernel) fun zs hz => ?_)
    · rw [List.length_append, hAJ, Nat.zero_add, ← Nat.add_mul]; have : (i + (xs.length - i)) * 4 = xs.length * 4 := by congr 1; omega
      omega
    refine walk ?_
    refine finB [ownS rEntry 4 48 37 HS (.slice (some ⟨b, 0, none⟩) i cp) (delS p [] xs), a xs] ?_ (hs := ?_)
    · exact ⟨rfl, rfl⟩
    have e : (A ++ J ++ sp).take (0 + i * 4) ++ zs ++ (A ++ J ++ sp).drop (0 + i * 4 + (xs.length - i) * 4) = A ++ (zs ++ sp) := by
      have e2 : 0 + i * 4 + (xs.length - i) * 4 = (A ++ J).length := by rw [hAJ, Nat.zero_add, ← Nat.add_mul]; congr 1; omega
      rw [e2, List.drop_left, Nat.zero_add, ← hAl, List.append_assoc A, List.take_left, List.append_assoc]
    rw [e]
    have hle := delS_len p xs []
    refine Sub.trans (own_shut (m := i) (cap := cp) hAl (by omega) g2 ?_) ?_
    · rw [List.length_append, List.length_append, hAl, hz, ← Nat.add_assoc, ← Nat.add_mul]
      rw [show i + (xs.length - i) = xs.length by omega]
      rw [List.length_append, g3] at g4; exact g4
    · rw [hi]
      exact (ownS_mk hA (Nat.le_trans (Nat.mul_le_mul_right _ hle) hsm)).trans subA
end Go.Proofs.Ytjkiioicjmaeoaa
