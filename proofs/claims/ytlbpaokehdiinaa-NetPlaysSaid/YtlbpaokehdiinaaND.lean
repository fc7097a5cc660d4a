/- The net: taking a message out, doubling, losing. -/
import Derived.Test.YtlbpaokehdiinaaNC
set_option linter.unusedVariables false
set_option linter.unusedSimpArgs false
namespace Go.Proofs.Ytlbpaokehdiinaa
open Go Go.Sx Go.Proofs
/-- slices.Delete(s, k, k+1) -/
theorem delete_spec {W0 : World} {H : Heap} {b n cap k : Nat} {cs sp : List Value} (hk : k < n) (h1 : n ≤ cap) (h2 : cap ≤ 9223372036854775807) (h3 : cs.length = n * 19) (h4 : (cs ++ sp).length = cap * 19) (h5 : cs.all (·.oneCell') = true) :
    Ct Try.prog 21 #[.slice (some ⟨b, 0, none⟩) n cap, I k, I (k + 1 : Int)] W0 H [row b 42 (cs ++ sp)]
      (fun r H' B => r = .slice (some ⟨b, 0, none⟩) (n - 1) cap ∧ B = [own 42 19 (.slice (some ⟨b, 0, none⟩) (n - 1) cap) (n - 1) (cs.take (k * 19) ++ cs.drop ((k + 1) * 19))] ∧ H' = H) := by
  refine Ct.go fun R => ?_
  have hspl : sp.length = cap * 19 - n * 19 := by rw [List.length_append] at h4; omega
  have hfin : ∀ zs : List Value, zs.length = 19 → Sub (row b 42 (cs.take (k * 19) ++ cs.drop ((k + 1) * 19) ++ zs ++ sp) :: R) ([own 42 19 (.slice (some ⟨b, 0, none⟩) (n - 1) cap) (n - 1) (cs.take (k * 19) ++ cs.drop ((k + 1) * 19))] ++ R) := by
    intro zs hz
    rw [List.append_assoc]
    refine own_shut ?_ (by omega) h2 ?_
    · rw [List.length_append, List.length_take, List.length_drop, h3]; omega
    · simp only [List.length_append, List.length_take, List.length_drop, h3, hz, hspl]; omega
  by_cases hlast : k + 1 < cap
  · refine walk ?_
    refine ex_any 6 [] ?_
    (first | refine any_p 0 rfl rfl ?_ | refine any_ld 0 rfl rfl rfl ?_ | refine any_ldN 0 rfl rfl rfl ?_); (first | refine any_p 1 rfl rfl ?_ | refine any_ld 1 rfl rfl rfl ?_ | refine any_ldN 1 rfl rfl rfl ?_); (first | refine any_p 2 rfl rfl ?_ | refine any_ld 2 rfl rfl rfl ?_ | refine any_ldN 2 rfl rfl rfl ?_); (first | refine any_p 3 rfl rfl ?_ | refine any_ld 3 rfl rfl rfl ?_ | refine any_ldN 3 rfl rfl rfl ?_); (first | refine any_p 4 rfl rfl ?_ | refine any_ld 4 rfl rfl rfl ?_ | refine any_ldN 4 rfl rfl rfl ?_); (first | refine any_p 5 rfl rfl ?_ | refine any_ld 5 rfl rfl rfl ?_ | refine any_ldN 5 rfl rfl rfl ?_)
    refine any_rest rfl ?_
    refine ops_w rfl rfl (op_appendIn (m := k) (k := n - (k + 1)) (mk := n - 1) (cs' := cs.take (k * 19) ++ cs.drop ((k + 1) * 19) ++ cs.drop ((n - 1) * 19) ++ sp) (news := cs.drop ((k + 1) * 19)) rfl rfl (by repeat (first | exact Has.here | apply Has.there)) (src_row (sz := 19) (c := cap - (k + 1)) (by repeat (first | exact Has.here | apply Has.there)) (off := 0 + (k + 1) * 19) (fun j v hj => ?_) ?_ ?_) (by omega) ?_ (by omega) ?_ ?_)
    · rw [List.getElem?_drop] at hj
      rw [Nat.zero_add, List.getElem?_append_left (List.getElem?_eq_some_iff.1 hj).1]; exact hj
    · rw [List.length_drop, h3]; omega
    · simp only [List.all_eq_true] at h5 ⊢; exact fun x hx => h5 x (List.mem_of_mem_drop hx)
    · rw [List.length_drop, h3, Nat.zero_add, List.take_append_of_le_length (by omega), List.drop_append_of_le_length (by omega), ← List.append_assoc]
      congr 3
      omega
    · rw [List.length_drop, List.length_append, h3]; omega
    refine walk ?_
    refine ops_n (op_clear (m := 1) (cap := cap - (n - 1)) (off := 0 + (n - 1) * 19) (congrArg (fun z => some (Value.slice (some ⟨b, 0 + (n - 1) * 19, none⟩) z (cap - (n - 1)))) (show n - (n - 1) = 1 by omega)) (by repeat (first | exact Has.here | apply Has.there)) ?_ (by decide +kernel) fun zs hz => ?_)
    · simp only [List.length_append, List.length_take, List.length_drop, h3, hspl]; omega
    refine walk ?_
    refine finB [own 42 19 (.slice (some ⟨b, 0, none⟩) (n - 1) cap) (n - 1) (cs.take (k * 19) ++ cs.drop ((k + 1) * 19))] ?_ (hs := ?_)
    · exact ⟨rfl, rfl, rfl⟩
    refine Sub.trans ?_ (hfin zs hz)
    have e : (cs.take (k * 19) ++ cs.drop ((k + 1) * 19)).length = (n - 1) * 19 := by rw [List.length_append, List.length_take, List.length_drop, h3]; omega
    have e2 : (cs.drop ((n - 1) * 19)).length = 19 := by rw [List.length_drop, h3]; omega
    rw [show (cs.take (k * 19) ++ cs.drop ((k + 1) * 19) ++ cs.drop ((n - 1) * 19) ++ sp).take (0 + (n - 1) * 19) = cs.take (k * 19) ++ cs.drop ((k + 1) * 19) by
        rw [Nat.zero_add, ← e, List.append_assoc, List.take_left],
      show (cs.take (k * 19) ++ cs.drop ((k + 1) * 19) ++ cs.drop ((n - 1) * 19) ++ sp).drop (0 + (n - 1) * 19 + 1 * 19) = sp by
        rw [show 0 + (n - 1) * 19 + 1 * 19 = (cs.take (k * 19) ++ cs.drop ((k + 1) * 19) ++ cs.drop ((n - 1) * 19)).length by rw [List.length_append, e, e2]; omega, List.drop_left]]
    exact Sub.refl _
  · have hn : k + 1 = n := by omega
    have hc : n = cap := by omega
    subst hc
    subst hn
    refine walk ?_
    refine ex_any 6 [] ?_
    (first | refine any_p 0 rfl rfl ?_ | refine any_ld 0 rfl rfl rfl ?_ | refine any_ldN 0 rfl rfl rfl ?_); (first | refine any_p 1 rfl rfl ?_ | refine any_ld 1 rfl rfl rfl ?_ | refine any_ldN 1 rfl rfl rfl ?_); (first | refine any_p 2 rfl rfl ?_ | refine any_ld 2 rfl rfl rfl ?_ | refine any_ldN 2 rfl rfl rfl ?_); (first | refine any_p 3 rfl rfl ?_ | refine any_ld 3 rfl rfl rfl ?_ | refine any_ldN 3 rfl rfl rfl ?_); (first | refine any_p 4 rfl rfl ?_ | refine any_ld 4 rfl rfl rfl ?_ | refine any_ldN 4 rfl rfl rfl ?_)
    refine any_pure 5 rfl (op_slice (l := ((k : Int) + 1)) (h := ((k + 1 : Nat) : Int)) rfl rfl rfl (by omega) (by omega) (by omega)) ?_ (by decide +kernel) (fun _ _ _ h => h) (.refl _) (by (repeat (first | exact Sub.refl _ | exact Sub.nil _ | (apply sub_pick; (repeat (first | exact Has.here | apply Has.there)); skip) | apply Sub.drop))) rfl
    refine any_rest rfl ?_
    refine ops_w rfl rfl (op_appendIn (m := k) (k := 0) (mk := k) (cs' := cs ++ sp) (news := []) rfl (congrArg some (show slc (some ⟨b, 0, none⟩) (k + 1) (k + 1) (k + 1) 19 = .slice (some ⟨b, 0, none⟩) 0 0 by simp [slc])) (by repeat (first | exact Has.here | apply Has.there)) src_none rfl ?_ (by omega) ?_ ?_)
    · simp
    · simp only [List.length_nil, List.length_append, h3]; omega
    refine walk ?_
    refine ops_n (op_clear (m := 1) (cap := 1) (off := 0 + k * 19) (congrArg some (show Value.slice (some ⟨b, 0 + k * 19, none⟩) (k + 1 - k) (k + 1 - k) = .slice (some ⟨b, 0 + k * 19, none⟩) 1 1 by rw [show k + 1 - k = 1 by omega])) (by repeat (first | exact Has.here | apply Has.there)) ?_ (by decide +kernel) fun zs hz => ?_)
    · simp only [List.length_append, h3]; omega
    refine walk ?_
    refine finB [own 42 19 (.slice (some ⟨b, 0, none⟩) (k + 1 - 1) (k + 1)) (k + 1 - 1) (cs.take (k * 19) ++ cs.drop ((k + 1) * 19))] ?_ (hs := ?_)
    · exact ⟨rfl, rfl, rfl⟩
    refine Sub.trans ?_ (hfin zs hz)
    have e0 : sp = [] := List.eq_nil_of_length_eq_zero (by rw [hspl]; omega)
    subst e0
    have e1 : (cs ++ []).take (0 + k * 19) = cs.take (k * 19) := by simp
    have e2 : (cs ++ []).drop (0 + k * 19 + 1 * 19) = [] := List.drop_eq_nil_of_le (by simp [h3]; omega)
    have e3 : cs.drop ((k + 1) * 19) = [] := List.drop_eq_nil_of_le (by simp [h3])
    rw [e1, e2, e3]
    simp only [List.append_nil]
    exact Sub.refl _
end Go.Proofs.Ytlbpaokehdiinaa
