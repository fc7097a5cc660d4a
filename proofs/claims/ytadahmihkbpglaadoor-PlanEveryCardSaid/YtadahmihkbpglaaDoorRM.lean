/- slices.Repeat of one number; Wait. -/
import Derived.Test.YtadahmihkbpglaaDoorBG
import Derived.Test.YtadahmihkbpglaaDoorKC
import Derived.Test.YtadahmihkbpglaaDoorShelf3
import Derived.Laws.OwnMore
set_option linter.unusedVariables false
set_option linter.unusedSimpArgs false
namespace Go.Proofs.YtadahmihkbpglaaDoor
open Go Go.Sx Go.Proofs
theorem mul1_spec {W0 : World} {H : Heap} {n : Nat} (hn : n ≤ 24) :
    Ct Tryd.prog 63 #[.int .u64 1, .int .u64 n] W0 H [] (fun r H' B => r = .tuple #[.int .u64 0, .int .u64 n] ∧ B = [] ∧ H' = H) :=
  ct_pure fun w _ => (Tryd.bits_Mul 1 n (by omega) (by omega) w).mono fun e w' ⟨h1, h2⟩ => ⟨by rw [h1, show 1 * n / 18446744073709551616 = 0 by omega, show 1 * n % 18446744073709551616 = n by omega]; rfl, h2 ▸ .refl _ _⟩
theorem rep_cell {n : Nat} {c : Int} {j : Nat} {v : Value} {k : Nat} (hk : k ≤ n) (h : (List.replicate k (I c))[j]? = some v) : (List.replicate k (I c) ++ List.replicate (n - k) (I 0))[j]? = some v := by
  rw [List.getElem?_append_left (List.getElem?_eq_some_iff.1 h).1]; exact h
set_option maxRecDepth 100000 in
set_option maxHeartbeats 8000000 in
theorem repeat_spec {W0 : World} {H : Heap} {pb n : Nat} {c : Int} (h0 : HRow H pb 0 [I c]) (hc : fits c) (h1 : 1 ≤ n) (h24 : n ≤ 24) :
    Ct Tryd.prog 53 #[.slice (some ⟨pb, 0, none⟩) 1 1, I n] W0 H [] (fun r H' B => B = [ownS rInt 1 8 3 H r (List.replicate n c)] ∧ H' = H) := by
  refine Ct.go fun R => ?_
  refine walkG ?_
  rw [show IntKind.u64.wrap ((1 : Nat) : Int) = 1 by simp [IntKind.wrap, IntKind.bits, IntKind.signed], show IntKind.u64.wrap (n : Int) = n by simp [IntKind.wrap, IntKind.bits, IntKind.signed]; omega]
  refine ops_pcall rfl rfl (mul1_spec h24) ?_
  refine walkG ?_
  have hfn : fits (n : Int) := by unfold fits; omega
  refine walkG ?_
  refine ops_w rfl rfl (op_mkN (m := n) (cs := List.replicate n (I 0)) rfl rfl (by rw [Nat.mul_one]; exact toList_madeCells_one _ _) (by omega) (by omega) fun b hb => ?_)
  refine walkG ?_
  have hsrc : ∀ (L : List HProp) w, St W0 H w L → ∀ j v, [I c][j]? = some v → w.cell? ((⟨pb, 0, none⟩ : Addr).add j) = some v := fun L w hS j v hj => by
    rw [Addr.add_lit]; exact hS.hcell (h0 j v hj)
  refine ops_w rfl rfl (op_copyAt (us := [I c]) (a := ⟨pb, 0, none⟩) rfl rfl .here (hsrc _) (by show 1 = min 1 n; omega) (by simp; omega) rfl ?_)
  have hrow : (List.replicate n (I 0)).take 0 ++ [I c] ++ (List.replicate n (I 0)).drop (0 + [I c].length) = List.replicate 1 (I c) ++ List.replicate (n - 1) (I 0) := by simp
  rw [hrow]
  refine walk ?_
  refine ex_loop (σ := Nat) (fun k => 1 ≤ k ∧ k ≤ n) (fun k => [(7, .slice (some ⟨b, 0, none⟩) n n), (8, I k)]) (fun _ => H) (fun k => row b 3 (List.replicate k (I c) ++ List.replicate (n - k) (I 0)) :: R) (fun k => n - k) 1 ⟨Nat.le_refl _, h1⟩ fun k ⟨hk1, hkn⟩ K hL => ?_
  refine walk ?_
  refine ex_if rfl (fun hk => ?_) (fun hk => ?_)
  · have hk2 : k < n := by omega
    have hmin : (List.replicate (min k (n - k)) (I c)).length = Nat.min k (n - k) := by simp
    refine walk ?_
    refine ex_any 9 [] ?_
    (first | refine gny_p 0 rfl rfl rfl ?_ | refine gny_ld 0 rfl rfl rfl rfl ?_ | refine gny_ldH 0 rfl rfl rfl ‹HRow _ _ 0 _› rfl ?_ | refine gny_T 0 rfl rfl rfl ?_ | refine gny_F 0 rfl rfl rfl ?_ | refine gny_B 0 rfl rfl rfl ?_ | refine gny_skip 0 rfl rfl ?_ | refine gny_sp 0 rfl rfl rfl ?_ | refine gny_sB 0 rfl rfl rfl ?_ | refine gny_sld 0 rfl rfl rfl rfl ?_ | refine gny_sldH 0 rfl rfl rfl ‹HRow _ _ 0 _› rfl ?_ | refine gny_ldN 0 rfl rfl rfl rfl ?_ | refine gny_bld 0 rfl rfl rfl ?_); (first | refine gny_p 1 rfl rfl rfl ?_ | refine gny_ld 1 rfl rfl rfl rfl ?_ | refine gny_ldH 1 rfl rfl rfl ‹HRow _ _ 0 _› rfl ?_ | refine gny_T 1 rfl rfl rfl ?_ | refine gny_F 1 rfl rfl rfl ?_ | refine gny_B 1 rfl rfl rfl ?_ | refine gny_skip 1 rfl rfl ?_ | refine gny_sp 1 rfl rfl rfl ?_ | refine gny_sB 1 rfl rfl rfl ?_ | refine gny_sld 1 rfl rfl rfl rfl ?_ | refine gny_sldH 1 rfl rfl rfl ‹HRow _ _ 0 _› rfl ?_ | refine gny_ldN 1 rfl rfl rfl rfl ?_ | refine gny_bld 1 rfl rfl rfl ?_); (first | refine gny_p 2 rfl rfl rfl ?_ | refine gny_ld 2 rfl rfl rfl rfl ?_ | refine gny_ldH 2 rfl rfl rfl ‹HRow _ _ 0 _› rfl ?_ | refine gny_T 2 rfl rfl rfl ?_ | refine gny_F 2 rfl rfl rfl ?_ | refine gny_B 2 rfl rfl rfl ?_ | refine gny_skip 2 rfl rfl ?_ | refine gny_sp 2 rfl rfl rfl ?_ | refine gny_sB 2 rfl rfl rfl ?_ | refine gny_sld 2 rfl rfl rfl rfl ?_ | refine gny_sldH 2 rfl rfl rfl ‹HRow _ _ 0 _› rfl ?_ | refine gny_ldN 2 rfl rfl rfl rfl ?_ | refine gny_bld 2 rfl rfl rfl ?_); (first | refine gny_p 3 rfl rfl rfl ?_ | refine gny_ld 3 rfl rfl rfl rfl ?_ | refine gny_ldH 3 rfl rfl rfl ‹HRow _ _ 0 _› rfl ?_ | refine gny_T 3 rfl rfl rfl ?_ | refine gny_F 3 rfl rfl rfl ?_ | refine gny_B 3 rfl rfl rfl ?_ | refine gny_skip 3 rfl rfl ?_ | refine gny_sp 3 rfl rfl rfl ?_ | refine gny_sB 3 rfl rfl rfl ?_ | refine gny_sld 3 rfl rfl rfl rfl ?_ | refine gny_sldH 3 rfl rfl rfl ‹HRow _ _ 0 _› rfl ?_ | refine gny_ldN 3 rfl rfl rfl rfl ?_ | refine gny_bld 3 rfl rfl rfl ?_); (first | refine gny_p 4 rfl rfl rfl ?_ | refine gny_ld 4 rfl rfl rfl rfl ?_ | refine gny_ldH 4 rfl rfl rfl ‹HRow _ _ 0 _› rfl ?_ | refine gny_T 4 rfl rfl rfl ?_ | refine gny_F 4 rfl rfl rfl ?_ | refine gny_B 4 rfl rfl rfl ?_ | refine gny_skip 4 rfl rfl ?_ | refine gny_sp 4 rfl rfl rfl ?_ | refine gny_sB 4 rfl rfl rfl ?_ | refine gny_sld 4 rfl rfl rfl rfl ?_ | refine gny_sldH 4 rfl rfl rfl ‹HRow _ _ 0 _› rfl ?_ | refine gny_ldN 4 rfl rfl rfl rfl ?_ | refine gny_bld 4 rfl rfl rfl ?_); (first | refine gny_p 5 rfl rfl rfl ?_ | refine gny_ld 5 rfl rfl rfl rfl ?_ | refine gny_ldH 5 rfl rfl rfl ‹HRow _ _ 0 _› rfl ?_ | refine gny_T 5 rfl rfl rfl ?_ | refine gny_F 5 rfl rfl rfl ?_ | refine gny_B 5 rfl rfl rfl ?_ | refine gny_skip 5 rfl rfl ?_ | refine gny_sp 5 rfl rfl rfl ?_ | refine gny_sB 5 rfl rfl rfl ?_ | refine gny_sld 5 rfl rfl rfl rfl ?_ | refine gny_sldH 5 rfl rfl rfl ‹HRow _ _ 0 _› rfl ?_ | refine gny_ldN 5 rfl rfl rfl rfl ?_ | refine gny_bld 5 rfl rfl rfl ?_); (first | refine gny_p 6 rfl rfl rfl ?_ | refine gny_ld 6 rfl rfl rfl rfl ?_ | refine gny_ldH 6 rfl rfl rfl ‹HRow _ _ 0 _› rfl ?_ | refine gny_T 6 rfl rfl rfl ?_ | refine gny_F 6 rfl rfl rfl ?_ | refine gny_B 6 rfl rfl rfl ?_ | refine gny_skip 6 rfl rfl ?_ | refine gny_sp 6 rfl rfl rfl ?_ | refine gny_sB 6 rfl rfl rfl ?_ | refine gny_sld 6 rfl rfl rfl rfl ?_ | refine gny_sldH 6 rfl rfl rfl ‹HRow _ _ 0 _› rfl ?_ | refine gny_ldN 6 rfl rfl rfl rfl ?_ | refine gny_bld 6 rfl rfl rfl ?_) 
    have hrep : ∀ w, St W0 H w (row b 3 (List.replicate k (I c) ++ List.replicate (n - k) (I 0)) :: R) → ∀ j v, (List.replicate (min k (n - k)) (I c))[j]? = some v → w.cell? ((⟨b, 0, none⟩ : Addr).add j) = some v := fun w hS j v hj => by
      rw [Addr.add_lit, hS.rowCell, Nat.zero_add]
      have h2 := (List.getElem?_eq_some_iff.1 hj).1
      rw [List.length_replicate] at h2
      rw [List.getElem?_append_left (by simp; omega), List.getElem?_replicate, if_pos (by omega)]
      rw [List.getElem?_replicate, if_pos h2] at hj; exact hj
    refine gny_w 7 rfl rfl (op_copyAt (us := List.replicate (min k (n - k)) (I c)) (a := ⟨b, 0, none⟩) rfl rfl .here hrep hmin (by simp; omega) (by simp [List.all_replicate, Value.oneCell']) ⟨.refl _, (by (repeat (first | exact Sub.refl _ | exact Sub.nil _ | (apply sub_pick; (repeat (first | exact Has.here | apply Has.there)); skip) | apply Sub.drop))), ?_⟩)
    rw [show ((List.replicate (min k (n - k)) (I c)).length : Int) = ((min k (n - k) : Nat) : Int) by simp]
    have hm1 : 1 ≤ min k (n - k) := by omega
    have hm2 : min k (n - k) ≤ n - k := by omega
    generalize min k (n - k) = m at *
    have hrow2 : (List.replicate k (I c) ++ List.replicate (n - k) (I 0)).take (0 + k * 1) ++ List.replicate m (I c) ++ (List.replicate k (I c) ++ List.replicate (n - k) (I 0)).drop (0 + k * 1 + (List.replicate m (I c)).length) = List.replicate (k + m) (I c) ++ List.replicate (n - (k + m)) (I 0) := by
      rw [Nat.zero_add, Nat.mul_one, List.take_append_of_le_length (by simp), List.take_of_length_le (by simp), List.drop_append, List.drop_of_length_le (by simp), List.nil_append, List.length_replicate, List.length_replicate, List.drop_replicate, List.replicate_append_replicate]
      congr 2; omega
    (first | refine gny_p 8 rfl rfl rfl ?_ | refine gny_ld 8 rfl rfl rfl rfl ?_ | refine gny_ldH 8 rfl rfl rfl ‹HRow _ _ 0 _› rfl ?_ | refine gny_T 8 rfl rfl rfl ?_ | refine gny_F 8 rfl rfl rfl ?_ | refine gny_B 8 rfl rfl rfl ?_ | refine gny_skip 8 rfl rfl ?_ | refine gny_sp 8 rfl rfl rfl ?_ | refine gny_sB 8 rfl rfl rfl ?_ | refine gny_sld 8 rfl rfl rfl rfl ?_ | refine gny_sldH 8 rfl rfl rfl ‹HRow _ _ 0 _› rfl ?_ | refine gny_ldN 8 rfl rfl rfl rfl ?_ | refine gny_bld 8 rfl rfl rfl ?_)
    refine any_rest rfl ?_
    refine walk ?_
    rw [show (k : Int) + (m : Int) = ((k + m : Nat) : Int) by omega, hrow2]
    refine out_next hL (k + m) ⟨by omega, by omega⟩
  · clear hL
    obtain rfl : k = n := by omega
    have hsub : Sub (row b 3 (List.replicate k (I c) ++ List.replicate (k - k) (I 0)) :: R) (ownS rInt 1 8 3 H (.slice (some ⟨b, 0, none⟩) k k) (List.replicate k c) :: R) := by
      rw [Nat.sub_self, List.replicate_zero, List.append_nil]
      have h3 := own_of_row (b := b) (e := 3) (sz := 1) (m := (List.replicate k c).length) (xs := List.replicate k (I c)) (R := R) (by simp) (by simp [maxLen]; omega)
      have h4 : RL rInt H (List.replicate k (I c)) (List.replicate k c) := by
        have := RL.mk1 (R := rInt) (val := fun x => .int .i64 x) (ok := fits) (H := H) (xs := List.replicate k c) (fun x hx => by rw [List.eq_of_mem_replicate hx]; exact hc)
        simpa using this
      refine Sub.trans ?_ (ownS_mk (R := rInt) (w := 8) h4 (by simp [cap47]; omega))
      simpa using h3
    refine walk ?_
    refine finB [ownS rInt 1 8 3 H (.slice (some ⟨b, 0, none⟩) k k) (List.replicate k c)] ?_ (hs := hsub)
    exact ⟨rfl, rfl⟩
set_option maxHeartbeats 8000000 in
theorem wait_spec {W0 : World} {H : Heap} {c s n : Int} (hc : fits c) (hs : fits s) :
    Ct Tryd.prog 32 #[I c, I s, I n] W0 H [] (RPost (if n < 1 then zRoute else ⟨s, List.replicate (min n 24).toNat c⟩)) := by
  refine Ct.go fun R => ?_
  refine walk ?_
  refine ops_alloc rfl fun p6 _ => ?_
  refine walk ?_
  refine ex_if rfl (fun hn => ?_) (fun hn => ?_)
  · rw [if_pos hn]
    refine walk ?_
    refine finB [ownS rInt 1 8 3 H nilS []] ?_ (hs := Sub.trans (B := R) (by (repeat (first | exact Sub.refl _ | exact Sub.nil _ | (apply sub_pick; (repeat (first | exact Has.here | apply Has.there)); skip) | apply Sub.drop))) ownS_nil)
    exact ⟨_, rfl, rfl⟩
  · rw [if_neg hn]
    obtain ⟨j, hj, h1, h2⟩ : ∃ j : Nat, min n 24 = j ∧ 1 ≤ j ∧ j ≤ 24 := ⟨(min n 24).toNat, by omega, by omega, by omega⟩
    rw [hj, Int.toNat_natCast]
    refine walk ?_
    refine ops_bsN rfl rfl fun pb _ => ?_
    refine ops_frzR .here fun H1 hl1 hr1 => ?_
    refine walk ?_
    rw [hj]
    refine ops_call (vs := [.slice (some ⟨pb, 0, none⟩) 1 1, I j]) rfl rfl (repeat_spec hr1 hc h1 h2) fun r2 H2 B hl2 ⟨eB, eH⟩ => ?_
    subst eB eH
    refine ops_shape r2 fun d2 e2 e _ _ _ => ?_
    subst e
    refine walk ?_
    refine finB [ownS rInt 1 8 3 H2 (.slice d2 (List.replicate j c).length e2) (List.replicate j c)] ?_
    exact ⟨_, rfl, rfl⟩
end Go.Proofs.YtadahmihkbpglaaDoor
