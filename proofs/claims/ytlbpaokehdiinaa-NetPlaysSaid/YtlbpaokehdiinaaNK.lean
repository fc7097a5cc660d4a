/- The net: losing all messages to an address. -/
import Derived.Test.YtlbpaokehdiinaaNI
import Derived.Test.YtlbpaokehdiinaaE7
set_option linter.unusedVariables false
set_option linter.unusedSimpArgs false
namespace Go.Proofs.Ytlbpaokehdiinaa
open Go Go.Sx Go.Proofs
theorem indexFunc_spec {W0 : World} {H HS : Heap} {v : Value} {xs : List Message} {f : FuncId} {cap : List Value} {a : HProp} {p : Message → Bool} [hf : TFn Try.prog f] (hl : HS.le H) (hask : Asks Try.prog W0 H rMessage f cap (fun c => .agg c.toArray) [a] p) :
    Ct Try.prog 35 #[v, .func (.func f) #[] cap.toArray] W0 H [ownS rMessage 19 216 42 HS v xs, a]
      (fun r H' B => B = [ownS rMessage 19 216 42 HS v xs, a] ∧ H' = H ∧ ∃ j, j ≤ xs.length ∧ (∀ i (h : i < xs.length), i < j → p xs[i] = false) ∧ ((j = xs.length ∧ r = I (-1)) ∨ (∃ h : j < xs.length, p xs[j] = true ∧ r = I j))) := by
  refine Ct.go fun R => ?_
  refine ex_shape v fun base cp e q1 q2 q3 => ?_
  subst e
  refine walk ?_
  refine ex_loop (fun k => k ≤ xs.length ∧ ∀ i (h : i < xs.length), i < k → p xs[i] = false) (fun k => [(0, .slice base xs.length cp), (1, .func (.func f) #[] cap.toArray), (7, I xs.length), (8, I k)]) (fun _ => H) (fun _ => ownS rMessage 19 216 42 HS (.slice base xs.length cp) xs :: a :: R) (fun k => xs.length - k) 0 ⟨Nat.zero_le _, fun i _ h => by omega⟩ fun k ⟨hk0, hno⟩ K hL => ?_
  refine walk ?_
  refine ex_if rfl (fun hk => ?_) (fun hk => ?_)
  · have hk1 : k < xs.length := by omega
    refine walk ?_
    refine ops_ixo rfl rfl rfl hk1 fun c hc => ?_
    refine ops_callv rfl rfl rfl (hask c _ (RdOk.mono hl hc)) fun r H' B hl' ⟨er, eB, eH⟩ => ?_
    subst er eB eH
    refine walk ?_
    refine ex_ifb rfl Iff.rfl (fun hp => ?_) (fun hp => ?_)
    · refine walk ?_
      refine finB [ownS rMessage 19 216 42 HS (.slice base xs.length cp) xs, a] ?_
      exact ⟨rfl, rfl, k, hk0, hno, .inr ⟨hk1, hp, rfl⟩⟩
    · refine walk ?_
      refine out_next hL (k + 1) ⟨by omega, fun i h hi => ?_⟩
      rcases Nat.lt_or_ge i k with h' | h'
      · exact hno i h h'
      · obtain rfl : i = k := by omega
        simpa using hp
  · refine walk ?_
    refine finB [ownS rMessage 19 216 42 HS (.slice base xs.length cp) xs, a] ?_
    exact ⟨rfl, rfl, xs.length, Nat.le_refl _, fun i h hi => hno i h (by omega), .inl ⟨rfl, rfl⟩⟩
theorem deleteFunc_spec {W0 : World} {H HS : Heap} {v : Value} {xs : List Message} {f : FuncId} {cap : List Value} {a : HProp} {p : Message → Bool} [hf : TFn Try.prog f] (hl : HS.le H) (hask : Asks Try.prog W0 H rMessage f cap (fun c => .agg c.toArray) [a] p) :
    Ct Try.prog 29 #[v, .func (.func f) #[] cap.toArray] W0 H [ownS rMessage 19 216 42 HS v xs, a] (fun r H' B => B = [ownS rMessage 19 216 42 HS r (xs.filter fun x => !p x), a] ∧ H' = H) := by
  refine Ct.go fun R => ?_
  refine walk ?_
  refine ops_call rfl rfl (indexFunc_spec (v := v) (xs := xs) hl hask) fun r1 H1 B hl1 ⟨eB, eH, j, hj, hno, hcase⟩ => ?_
  subst eB eH
  rcases hcase with ⟨rfl, rfl⟩ | ⟨hj1, hpj, rfl⟩
  · refine walk ?_
    refine finB [ownS rMessage 19 216 42 HS v xs, a] ?_
    refine ⟨?_, rfl⟩
    rw [List.filter_eq_self.2 fun x hx => ?_]
    obtain ⟨i, hi, rfl⟩ := List.getElem_of_mem hx
    simp [hno i hi hi]
  refine ops_rowS v (by omega) fun b cp cs sp e g1 g2 g3 g4 hr hsm => ?_
  subst e
  refine walk ?_
  have hfj : (xs.take (j + 1)).filter (fun x => !p x) = xs.take j := by
    rw [List.take_succ_eq_append_getElem hj1, List.filter_append, List.filter_eq_self.2 fun x hx => ?_]
    · simp [hpj]
    · obtain ⟨i, hi, rfl⟩ := List.getElem_of_mem hx
      simp only [List.length_take] at hi
      simp [List.getElem_take, hno i (by omega) (by omega)]
  have hmj : (j + 1) * 19 ≤ cs.length := by rw [g3]; exact Nat.mul_le_mul_right _ hj1
  refine ex_loop (σ := Nat × Nat × List Value × List Value) (fun s => s.1 ≤ xs.length ∧ RL rMessage HS s.2.2.1 ((xs.take s.1).filter fun x => !p x) ∧ s.2.1 = ((xs.take s.1).filter fun x => !p x).length ∧ s.2.1 < s.1 ∧ s.2.2.2.length = (s.1 - s.2.1) * 19 ∧ s.2.2.2.all (·.oneCell') = true)
    (fun s => [(0, .slice (some ⟨b, 0, none⟩) xs.length cp), (1, .func (.func f) #[] cap.toArray), (5, I s.2.1), (6, I s.1)]) (fun _ => H1) (fun s => row b 42 (s.2.2.1 ++ s.2.2.2 ++ cs.drop (s.1 * 19) ++ sp) :: a :: R) (fun s => xs.length - s.1) (j + 1, j, cs.take (j * 19), (cs.drop (j * 19)).take 19) ?h0 (hs0 := ?hs) fun ⟨k, i, A, J⟩ ⟨hk0, hA, hi, hik, hJ, hJ1⟩ K hL => ?_
  case h0 =>
    refine ⟨hj1, ?_, ?_, Nat.lt_succ_self _, ?_, ?_⟩
    · simp only; rw [hfj]; exact hr.take hj
    · simp only; rw [hfj]; simp; omega
    · simp only [List.length_take, List.length_drop]; omega
    · have h5 := hr.one
      simp only [List.all_eq_true] at h5 ⊢
      exact fun x hx => h5 x (List.mem_of_mem_drop (List.mem_of_mem_take hx))
  case hs =>
    dsimp only
    have e : cs.take (j * 19) ++ (cs.drop (j * 19)).take 19 ++ cs.drop ((j + 1) * 19) = cs := by
      rw [show (j + 1) * 19 = j * 19 + 19 by omega, ← List.drop_drop, List.append_assoc, List.take_append_drop, List.take_append_drop]
    rw [e]
    (repeat (first | exact Sub.refl _ | exact Sub.nil _ | (apply sub_pick; (repeat (first | exact Has.here | apply Has.there)); skip) | apply Sub.drop))
  simp only at hk0 hA hi hik hJ hJ1
  dsimp only
  have hAl := hA.len
  rw [← hi] at hAl
  have hAJ : (A ++ J).length = k * 19 := by rw [List.length_append, hAl, hJ, ← Nat.add_mul]; congr 1; omega
  refine walk ?_
  refine ex_if rfl (fun hk => ?_) (fun hk => ?_)
  · have hk1 : k < xs.length := by omega
    obtain ⟨c, r, hcr, hc⟩ := hr.get hk1
    have hcl : c.length = 19 := RdOk.len hc
    have hr' : cs.drop ((k + 1) * 19) = r := by
      rw [show (k + 1) * 19 = k * 19 + 19 by omega, ← List.drop_drop, hcr, ← hcl, List.drop_left]
    have hft : (xs.take (k + 1)).filter (fun x => !p x) = (xs.take k).filter (fun x => !p x) ++ [xs[k]].filter (fun x => !p x) := by
      rw [List.take_succ_eq_append_getElem hk1, List.filter_append]
    refine walk ?_
    refine ops_ldat (us := c) rfl rfl (fun o u ho => ?_) hcl ?_
    · rw [hcr, show 0 + k * 19 + o = (A ++ J).length + o by rw [hAJ]; omega, List.append_assoc (A ++ J), List.getElem?_append_right (by omega)]
      rw [show (A ++ J).length + o - (A ++ J).length = o by omega, List.append_assoc, List.getElem?_append_left (List.getElem?_eq_some_iff.1 ho).1]
      exact ho
    refine ops_alloc rfl fun p7 _ => ?_
    refine ops_stall rfl hcl rfl (RdOk.one hc) ?_
    refine walk ?_
    refine ops_ldall rfl rfl hcl ?_
    refine ops_callv rfl rfl rfl (hask c _ (RdOk.mono hl hc)) fun r2 H2 B hl2 ⟨er, eB, eH⟩ => ?_
    subst er eB eH
    refine walk ?_
    refine ex_ifb rfl Iff.rfl (fun hp => ?_) (fun hp => ?_)
    · refine walk ?_
      refine ops_ldall rfl rfl hcl ?_
      refine walk ?_
      refine ops_n (op_storeAt (b := b) (off := 0 + i * 19) (vs := c) (cs := A ++ J ++ cs.drop (k * 19) ++ sp) rfl rfl rfl hcl (RdOk.one hc) (by repeat (first | exact Has.here | apply Has.there)) ?_ ?_)
      · rw [List.length_append, List.length_append, hAJ, hcl]; have : (i + 1) * 19 ≤ k * 19 := Nat.mul_le_mul_right _ hik; omega
      refine walk ?_
      refine out_next hL (k + 1, i + 1, A ++ c, J.drop 19 ++ c) ⟨by simp only; omega, ?_, ?_, by simp only; omega, ?_, ?_⟩ (hs := ?_)
      · simp only; rw [hft]; simp only [hp, List.filter_cons, List.filter_nil, if_true]; exact hA.snoc hc
      · simp only; rw [hft, List.length_append, ← hi]; simp [hp]
      · simp only [List.length_append, List.length_drop, hJ, hcl]; have : k + 1 - (i + 1) = k - i := by omega
        rw [this]; have : 1 * 19 ≤ (k - i) * 19 := Nat.mul_le_mul_right _ (by omega); omega
      · simp only [List.all_append, Bool.and_eq_true]
        refine ⟨?_, RdOk.one hc⟩
        simp only [List.all_eq_true] at hJ1 ⊢
        exact fun x hx => hJ1 x (List.mem_of_mem_drop hx)
      · dsimp only
        have hJs : 19 ≤ J.length := by rw [hJ]; have : 1 * 19 ≤ (k - i) * 19 := Nat.mul_le_mul_right _ (by omega); omega
        have e : (A ++ J ++ cs.drop (k * 19) ++ sp).take (0 + i * 19) ++ c ++ (A ++ J ++ cs.drop (k * 19) ++ sp).drop (0 + i * 19 + c.length) = A ++ c ++ (J.drop 19 ++ c) ++ cs.drop ((k + 1) * 19) ++ sp := by
          rw [hr', hcr, hcl, Nat.zero_add, ← hAl]
          simp only [List.append_assoc]
          rw [List.take_left, ← List.drop_drop, List.drop_left, List.drop_append_of_le_length hJs]
        rw [e]
        (repeat (first | exact Sub.refl _ | exact Sub.nil _ | (apply sub_pick; (repeat (first | exact Has.here | apply Has.there)); skip) | apply Sub.drop))
    · refine walk ?_
      refine out_next hL (k + 1, i, A, J ++ c) ⟨by simp only; omega, ?_, ?_, by simp only; omega, ?_, ?_⟩ (hs := ?_)
      · simp only; rw [hft]; simp at hp; simp [hp]; exact hA
      · simp only; rw [hft]; simp at hp; simp [hp, hi]
      · simp only [List.length_append, hJ, hcl]; rw [show k + 1 - i = (k - i) + 1 by omega, Nat.add_mul]
      · simp only [List.all_append, Bool.and_eq_true]; exact ⟨hJ1, RdOk.one hc⟩
      · dsimp only
        have e : A ++ (J ++ c) ++ cs.drop ((k + 1) * 19) ++ sp = A ++ J ++ cs.drop (k * 19) ++ sp := by rw [hr', hcr]; simp [List.append_assoc]
        rw [e]
        (repeat (first | exact Sub.refl _ | exact Sub.nil _ | (apply sub_pick; (repeat (first | exact Has.here | apply Has.there)); skip) | apply Sub.drop))
  · have hke : k = xs.length := by omega
    subst hke
    rw [List.take_length] at hA hi
    have hd0 : cs.drop (xs.length * 19) = [] := List.drop_eq_nil_of_le (by omega)
    rw [hd0, List.append_nil]
    refine walk ?_
    refine ops_n (op_clear (b := b) (m := xs.length - i) (cap := cp - i) (off := 0 + i * 19) (cs := A ++ J ++ sp) rfl (by repeat (first | exact Has.here | apply Has.there)) ?_ (by decide +kernel) fun zs hz => ?_)
    · rw [List.length_append, hAJ, Nat.zero_add, ← Nat.add_mul]; have : (i + (xs.length - i)) * 19 = xs.length * 19 := by congr 1; omega
      omega
    refine walk ?_
    refine finB [ownS rMessage 19 216 42 HS (.slice (some ⟨b, 0, none⟩) i cp) (xs.filter fun x => !p x), a] ?_ (hs := ?_)
    · exact ⟨rfl, rfl⟩
    have e : (A ++ J ++ sp).take (0 + i * 19) ++ zs ++ (A ++ J ++ sp).drop (0 + i * 19 + (xs.length - i) * 19) = A ++ (zs ++ sp) := by
      have e2 : 0 + i * 19 + (xs.length - i) * 19 = (A ++ J).length := by rw [hAJ, Nat.zero_add, ← Nat.add_mul]; congr 1; omega
      rw [e2, List.drop_left, Nat.zero_add, ← hAl, List.append_assoc A, List.take_left, List.append_assoc]
    rw [e]
    have hle : (xs.filter fun x => !p x).length ≤ xs.length := List.length_filter_le _ _
    refine Sub.trans (own_shut (m := i) (cap := cp) hAl (by omega) g2 ?_) ?_
    · rw [List.length_append, List.length_append, hAl, hz, ← Nat.add_assoc, ← Nat.add_mul]
      rw [show i + (xs.length - i) = xs.length by omega]
      rw [List.length_append, g3] at g4; exact g4
    · rw [hi]
      exact (ownS_mk hA (Nat.le_trans (Nat.mul_le_mul_right _ hle) hsm)).trans (by (repeat (first | exact Sub.refl _ | exact Sub.nil _ | (apply sub_pick; (repeat (first | exact Has.here | apply Has.there)); skip) | apply Sub.drop)))
end Go.Proofs.Ytlbpaokehdiinaa
