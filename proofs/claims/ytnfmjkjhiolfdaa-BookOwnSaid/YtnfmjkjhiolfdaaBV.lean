/- The reference's book. -/
import Derived.Test.YtnfmjkjhiolfdaaBQ
import Derived.Test.YtnfmjkjhiolfdaaBM
import Derived.Test.YtnfmjkjhiolfdaaBH
import Derived.Test.YtnfmjkjhiolfdaaBK
import Derived.Test.YtnfmjkjhiolfdaaKC
set_option linter.unusedVariables false
set_option linter.unusedSimpArgs false
namespace Go.Proofs.Ytnfmjkjhiolfdaa
open Go Go.Sx Go.Proofs
/-- a reference book, read -/
def RBk (H : Heap) (s1 s2 : Value) (es : List Int) (rs : List Route) : Prop := SlB rInt 1 8 H s1 es ∧ SlB rRoute 2 32 H s2 rs
theorem RBk.mono {H H' : Heap} {s1 s2 : Value} {es : List Int} {rs : List Route} (h : RBk H s1 s2 es rs) (hl : H.le H') : RBk H' s1 s2 es rs := ⟨h.1.mono hl, h.2.mono hl⟩
def BkPost (es : List Int) (rs : List Route) (r : Value) (H' : Heap) (B : List HProp) : Prop := ∃ s1 s2, r = .agg [s1, s2].toArray ∧ RBk H' s1 s2 es rs ∧ B = []
theorem zrR {H : Heap} : ∀ n : Nat, RL rRoute H (List.replicate n [I 0, nilS]).flatten (List.replicate n zRoute)
  | 0 => rfl
  | n + 1 => ⟨[I 0, nilS], _, rfl, zRoute_reads, zrR n⟩
set_option maxRecDepth 100000 in
theorem refNew_spec {W0 : World} {H : Heap} : Ct Try.prog 11 #[] W0 H [] (BkPost zEpochs zRoutes) := by
  refine Ct.go fun R => ?_
  refine walk ?_
  refine ops_alloc rfl fun p0 _ => ?_
  refine walk ?_
  have fin : ∀ (b1 b2 : Nat) (H' : Heap), HRow H' b1 0 (List.replicate 16 (I 0)) → HRow H' b2 0 (List.replicate 16 [I 0, nilS]).flatten → RBk H' (.slice (some ⟨b1, 0, none⟩) 16 16) (.slice (some ⟨b2, 0, none⟩) 16 16) zEpochs zRoutes := fun b1 b2 H' h1 h2 =>
    ⟨⟨slr_of_hrow (xs := zEpochs) h1 (RL.mk1 (R := rInt) (val := fun x => .int .i64 x) (ok := fits) (xs := zEpochs) fun x hx => by rw [List.eq_of_mem_replicate hx]; exact fits0) (by simp [zEpochs]) (by omega), by simp [zEpochs, cap47]⟩,
      slr_of_hrow (xs := zRoutes) h2 (zrR 16) (by simp [zRoutes]) (by omega), by simp [zRoutes, cap47]⟩
  refine ex_any 3 [] ?_
  refine any_w2 0 1 rfl rfl (op_mkN (m := 16) (cs := List.replicate 16 (I 0)) rfl rfl (by kernel_rfl) (by omega) (by omega) fun b1 _ => ⟨.refl _, (by (repeat (first | exact Sub.refl _ | exact Sub.nil _ | (apply sub_pick; (repeat (first | exact Has.here | apply Has.there)); skip) | apply Sub.drop))), ?_⟩) (op_mkN (m := 16) (cs := (List.replicate 16 [I 0, nilS]).flatten) rfl rfl (by kernel_rfl) (by omega) (by omega) fun b2 _ => ⟨.refl _, (by (repeat (first | exact Sub.refl _ | exact Sub.nil _ | (apply sub_pick; (repeat (first | exact Has.here | apply Has.there)); skip) | apply Sub.drop))), ?_⟩)
  · refine gny_w 1 rfl rfl (op_mkN (m := 16) (cs := (List.replicate 16 [I 0, nilS]).flatten) rfl rfl (by kernel_rfl) (by omega) (by omega) fun b2 _ => ⟨.refl _, (by (repeat (first | exact Sub.refl _ | exact Sub.nil _ | (apply sub_pick; (repeat (first | exact Has.here | apply Has.there)); skip) | apply Sub.drop))), ?_⟩)
    (first | refine gny_p 2 rfl rfl rfl ?_ | refine gny_ld 2 rfl rfl rfl rfl ?_ | refine gny_ldH 2 rfl rfl rfl ‹HRow _ _ 0 _› rfl ?_ | refine gny_T 2 rfl rfl rfl ?_ | refine gny_F 2 rfl rfl rfl ?_ | refine gny_B 2 rfl rfl rfl ?_ | refine gny_skip 2 rfl rfl ?_ | refine gny_sp 2 rfl rfl rfl ?_ | refine gny_sB 2 rfl rfl rfl ?_ | refine gny_sld 2 rfl rfl rfl rfl ?_ | refine gny_sldH 2 rfl rfl rfl ‹HRow _ _ 0 _› rfl ?_ | refine gny_ldN 2 rfl rfl rfl rfl ?_ | refine gny_bld 2 rfl rfl rfl ?_)
    refine any_rest rfl ?_
    refine ops_frzR (b := b1) (by repeat (first | exact Has.here | apply Has.there)) fun H1 hl1 hr1 => ?_
    refine ops_frzR (b := b2) (by repeat (first | exact Has.here | apply Has.there)) fun H2 hl2 hr2 => ?_
    refine walk ?_
    refine fin0 ?_
    exact ⟨_, _, rfl, fin b1 b2 H2 (hr1.mono hl2) hr2, rfl⟩
  · refine gny_w 0 rfl rfl (op_mkN (m := 16) (cs := List.replicate 16 (I 0)) rfl rfl (by kernel_rfl) (by omega) (by omega) fun b1 _ => ⟨.refl _, (by (repeat (first | exact Sub.refl _ | exact Sub.nil _ | (apply sub_pick; (repeat (first | exact Has.here | apply Has.there)); skip) | apply Sub.drop))), ?_⟩)
    (first | refine gny_p 2 rfl rfl rfl ?_ | refine gny_ld 2 rfl rfl rfl rfl ?_ | refine gny_ldH 2 rfl rfl rfl ‹HRow _ _ 0 _› rfl ?_ | refine gny_T 2 rfl rfl rfl ?_ | refine gny_F 2 rfl rfl rfl ?_ | refine gny_B 2 rfl rfl rfl ?_ | refine gny_skip 2 rfl rfl ?_ | refine gny_sp 2 rfl rfl rfl ?_ | refine gny_sB 2 rfl rfl rfl ?_ | refine gny_sld 2 rfl rfl rfl rfl ?_ | refine gny_sldH 2 rfl rfl rfl ‹HRow _ _ 0 _› rfl ?_ | refine gny_ldN 2 rfl rfl rfl rfl ?_ | refine gny_bld 2 rfl rfl rfl ?_)
    refine any_rest rfl ?_
    refine ops_frzR (b := b1) (by repeat (first | exact Has.here | apply Has.there)) fun H1 hl1 hr1 => ?_
    refine ops_frzR (b := b2) (by repeat (first | exact Has.here | apply Has.there)) fun H2 hl2 hr2 => ?_
    refine walk ?_
    refine fin0 ?_
    exact ⟨_, _, rfl, fin b1 b2 H2 (hr1.mono hl2) hr2, rfl⟩
theorem with_spec {W0 : World} {H : Heap} {s1 s2 : Value} {c : List Value} {es : List Int} {rs : List Route} {j : Nat} {e : Int} {x : Route} (h : RBk H s1 s2 es rs) (hx : rRoute H c x) (hel : es.length = 16) (hrl : rs.length = 16) (hj : j < 16) (he : fits e) :
    Ct Try.prog 33 #[.agg [s1, s2].toArray, I j, I e, .agg c.toArray] W0 H [] (BkPost (es.set j e) (rs.set j x)) := by
  refine Ct.go (vs := [.agg [s1, s2].toArray, I j, I e, .agg c.toArray]) fun R => ?_
  obtain ⟨h1, h2⟩ := h
  obtain ⟨b1, c1, rfl, hc1, hd1⟩ := h1.1.shape
  obtain ⟨b2, c2, rfl, hc2, hd2⟩ := h2.1.shape
  have g0 := hx
  obtain ⟨s0, rfl, f0, h0⟩ := hx
  obtain ⟨b0, c0, rfl, hc0, hd0⟩ := h0.1.shape
  refine walk ?_
  refine ops_box rfl rfl fun p4 _ => ?_
  refine ops_box rfl rfl fun p7 _ => ?_
  refine ops_alloc rfl fun p8 _ => ?_
  refine walk ?_
  refine ops_mk0 (w := 8) rInt rfl fun b3 => ?_
  refine walk ?_
  refine ops_appS rfl rfl h1.1 (by simp [hel, cap47]) fun d1 e1 => ?_
  simp only [List.length_nil, Nat.zero_add, List.nil_append]
  refine walk ?_
  refine ops_mk0 (w := 32) rRoute rfl fun b4 => ?_
  refine walk ?_
  refine ops_appS rfl rfl h2.1 (by simp [hrl, cap47]) fun d2 e2 => ?_
  simp only [List.length_nil, Nat.zero_add, List.nil_append]
  refine walk ?_
  refine ops_stS (y' := e) rfl rfl rfl ⟨rfl, he⟩ (by omega) ?_
  refine walk ?_
  refine ops_stS (y' := x) rfl rfl rfl g0 (by omega) ?_
  refine walk ?_
  refine out_freeze (.slice d1 es.length e1) fun H1 hl1 hf1 => ?_
  refine out_freeze (.slice d2 rs.length e2) fun H2 hl2 hf2 => ?_
  refine fin0 ?_
  exact ⟨_, _, rfl, ⟨hf1.mono hl2, hf2⟩, rfl⟩
/-- another robot's present route needs one of its keys -/
def confK : Conf := fun rs j x t => ∃ i, i < 16 ∧ i ≠ j ∧ ∃ s ∈ (keysL x).map sb, s ∈ (keysL (cutR (rs.getD i zRoute) t)).map sb
open Classical in
noncomputable def confKB (rs : List Route) (j : Nat) (x : Route) (t : Int) : Bool := decide (confK rs j x t)
theorem confKB_iff {rs : List Route} {j : Nat} {x : Route} {t : Int} : confKB rs j x t = true ↔ confK rs j x t := by unfold confKB; simp
theorem confKB_true {rs : List Route} {j : Nat} {x : Route} {t : Int} (h : confK rs j x t) : confKB rs j x t = true := confKB_iff.2 h
theorem confKB_false {rs : List Route} {j : Nat} {x : Route} {t : Int} (h : ¬ confK rs j x t) : confKB rs j x t = false := by
  cases e : confKB rs j x t with
  | true => exact absurd (confKB_iff.1 e) h
  | false => rfl
set_option maxHeartbeats 8000000 in
theorem conflict_spec {W0 : World} {H : Heap} {s1 s2 : Value} {c : List Value} {es : List Int} {rs : List Route} {j : Nat} {x : Route} {t : Int} (h : RBk H s1 s2 es rs) (hx : rRoute H c x) (hrl : rs.length = 16) (hj : j < 16) (ht : fits t) :
    Ct Try.prog 35 #[.agg [s1, s2].toArray, I j, .agg c.toArray, I t] W0 H [] (fun r H' B => r = .bool (confKB rs j x t) ∧ B = []) := by
  refine Ct.go (vs := [.agg [s1, s2].toArray, I j, .agg c.toArray, I t]) fun R => ?_
  obtain ⟨h1, h2⟩ := h
  obtain ⟨b1, c1, rfl, hc1, hd1⟩ := h1.1.shape
  obtain ⟨b2, c2, rfl, hc2, hd2⟩ := h2.1.shape
  have g0 := hx
  obtain ⟨s0, rfl, f0, h0⟩ := hx
  obtain ⟨b0, c0, rfl, hc0, hd0⟩ := h0.1.shape
  refine walk ?_
  refine ops_box rfl rfl fun p4 _ => ?_
  refine ops_box rfl rfl fun p6 _ => ?_
  refine walk ?_
  refine ex_loop (σ := Nat × Heap) (fun s => s.1 ≤ 16 ∧ H.le s.2 ∧ ∀ i, i < s.1 → i ≠ j → ¬ ∃ s ∈ (keysL x).map sb, s ∈ (keysL (cutR (rs.getD i zRoute) t)).map sb) (fun s => [(1, I j), (3, I t), (4, .pointer (some ⟨p4, 0, none⟩)), (6, .pointer (some ⟨p6, 0, none⟩)), (9, I s.1)]) (fun s => s.2)
    (fun _ => row p4 43 [.slice b1 es.length c1, .slice b2 rs.length c2] :: row p6 28 (x.cv (.slice b0 x.Cells.length c0)) :: R) (fun s => 16 - s.1) (0, H) ⟨by simp, .refl _, by simp⟩ fun ⟨k, H2⟩ ⟨hk0, hl2, hnone⟩ K hL => ?_
  simp only at hk0 hl2 hnone
  dsimp only
  refine walk ?_
  refine ex_if rfl (fun hk => ?_) (fun hk => ?_)
  · have hk2 : k < rs.length := by omega
    have hk1 : k < 16 := by omega
    have hkd : rs.getD k zRoute = rs[k] := by simp [List.getD, hk2]
    by_cases hkj : k = j
    · refine walk ?_
      refine ex_any 14 [row p4 43 [.slice b1 es.length c1, .slice b2 rs.length c2], row p6 28 (x.cv (.slice b0 x.Cells.length c0))] ?_
      (first | refine gny_p 0 rfl rfl rfl ?_ | refine gny_ld 0 rfl rfl rfl rfl ?_ | refine gny_ldH 0 rfl rfl rfl ‹HRow _ _ 0 _› rfl ?_ | refine gny_T 0 rfl rfl rfl ?_ | refine gny_F 0 rfl rfl rfl ?_ | refine gny_B 0 rfl rfl rfl ?_ | refine gny_skip 0 rfl rfl ?_ | refine gny_sp 0 rfl rfl rfl ?_ | refine gny_sB 0 rfl rfl rfl ?_ | refine gny_sld 0 rfl rfl rfl rfl ?_ | refine gny_sldH 0 rfl rfl rfl ‹HRow _ _ 0 _› rfl ?_ | refine gny_ldN 0 rfl rfl rfl rfl ?_ | refine gny_bld 0 rfl rfl rfl ?_); (first | refine gny_p 1 rfl rfl rfl ?_ | refine gny_ld 1 rfl rfl rfl rfl ?_ | refine gny_ldH 1 rfl rfl rfl ‹HRow _ _ 0 _› rfl ?_ | refine gny_T 1 rfl rfl rfl ?_ | refine gny_F 1 rfl rfl rfl ?_ | refine gny_B 1 rfl rfl rfl ?_ | refine gny_skip 1 rfl rfl ?_ | refine gny_sp 1 rfl rfl rfl ?_ | refine gny_sB 1 rfl rfl rfl ?_ | refine gny_sld 1 rfl rfl rfl rfl ?_ | refine gny_sldH 1 rfl rfl rfl ‹HRow _ _ 0 _› rfl ?_ | refine gny_ldN 1 rfl rfl rfl rfl ?_ | refine gny_bld 1 rfl rfl rfl ?_); (first | refine gny_p 2 rfl rfl rfl ?_ | refine gny_ld 2 rfl rfl rfl rfl ?_ | refine gny_ldH 2 rfl rfl rfl ‹HRow _ _ 0 _› rfl ?_ | refine gny_T 2 rfl rfl rfl ?_ | refine gny_F 2 rfl rfl rfl ?_ | refine gny_B 2 rfl rfl rfl ?_ | refine gny_skip 2 rfl rfl ?_ | refine gny_sp 2 rfl rfl rfl ?_ | refine gny_sB 2 rfl rfl rfl ?_ | refine gny_sld 2 rfl rfl rfl rfl ?_ | refine gny_sldH 2 rfl rfl rfl ‹HRow _ _ 0 _› rfl ?_ | refine gny_ldN 2 rfl rfl rfl rfl ?_ | refine gny_bld 2 rfl rfl rfl ?_); (first | refine gny_p 3 rfl rfl rfl ?_ | refine gny_ld 3 rfl rfl rfl rfl ?_ | refine gny_ldH 3 rfl rfl rfl ‹HRow _ _ 0 _› rfl ?_ | refine gny_T 3 rfl rfl rfl ?_ | refine gny_F 3 rfl rfl rfl ?_ | refine gny_B 3 rfl rfl rfl ?_ | refine gny_skip 3 rfl rfl ?_ | refine gny_sp 3 rfl rfl rfl ?_ | refine gny_sB 3 rfl rfl rfl ?_ | refine gny_sld 3 rfl rfl rfl rfl ?_ | refine gny_sldH 3 rfl rfl rfl ‹HRow _ _ 0 _› rfl ?_ | refine gny_ldN 3 rfl rfl rfl rfl ?_ | refine gny_bld 3 rfl rfl rfl ?_); (first | refine gny_p 4 rfl rfl rfl ?_ | refine gny_ld 4 rfl rfl rfl rfl ?_ | refine gny_ldH 4 rfl rfl rfl ‹HRow _ _ 0 _› rfl ?_ | refine gny_T 4 rfl rfl rfl ?_ | refine gny_F 4 rfl rfl rfl ?_ | refine gny_B 4 rfl rfl rfl ?_ | refine gny_skip 4 rfl rfl ?_ | refine gny_sp 4 rfl rfl rfl ?_ | refine gny_sB 4 rfl rfl rfl ?_ | refine gny_sld 4 rfl rfl rfl rfl ?_ | refine gny_sldH 4 rfl rfl rfl ‹HRow _ _ 0 _› rfl ?_ | refine gny_ldN 4 rfl rfl rfl rfl ?_ | refine gny_bld 4 rfl rfl rfl ?_); (first | refine gny_p 5 rfl rfl rfl ?_ | refine gny_ld 5 rfl rfl rfl rfl ?_ | refine gny_ldH 5 rfl rfl rfl ‹HRow _ _ 0 _› rfl ?_ | refine gny_T 5 rfl rfl rfl ?_ | refine gny_F 5 rfl rfl rfl ?_ | refine gny_B 5 rfl rfl rfl ?_ | refine gny_skip 5 rfl rfl ?_ | refine gny_sp 5 rfl rfl rfl ?_ | refine gny_sB 5 rfl rfl rfl ?_ | refine gny_sld 5 rfl rfl rfl rfl ?_ | refine gny_sldH 5 rfl rfl rfl ‹HRow _ _ 0 _› rfl ?_ | refine gny_ldN 5 rfl rfl rfl rfl ?_ | refine gny_bld 5 rfl rfl rfl ?_); (first | refine gny_p 6 rfl rfl rfl ?_ | refine gny_ld 6 rfl rfl rfl rfl ?_ | refine gny_ldH 6 rfl rfl rfl ‹HRow _ _ 0 _› rfl ?_ | refine gny_T 6 rfl rfl rfl ?_ | refine gny_F 6 rfl rfl rfl ?_ | refine gny_B 6 rfl rfl rfl ?_ | refine gny_skip 6 rfl rfl ?_ | refine gny_sp 6 rfl rfl rfl ?_ | refine gny_sB 6 rfl rfl rfl ?_ | refine gny_sld 6 rfl rfl rfl rfl ?_ | refine gny_sldH 6 rfl rfl rfl ‹HRow _ _ 0 _› rfl ?_ | refine gny_ldN 6 rfl rfl rfl rfl ?_ | refine gny_bld 6 rfl rfl rfl ?_); (first | refine gny_p 7 rfl rfl rfl ?_ | refine gny_ld 7 rfl rfl rfl rfl ?_ | refine gny_ldH 7 rfl rfl rfl ‹HRow _ _ 0 _› rfl ?_ | refine gny_T 7 rfl rfl rfl ?_ | refine gny_F 7 rfl rfl rfl ?_ | refine gny_B 7 rfl rfl rfl ?_ | refine gny_skip 7 rfl rfl ?_ | refine gny_sp 7 rfl rfl rfl ?_ | refine gny_sB 7 rfl rfl rfl ?_ | refine gny_sld 7 rfl rfl rfl rfl ?_ | refine gny_sldH 7 rfl rfl rfl ‹HRow _ _ 0 _› rfl ?_ | refine gny_ldN 7 rfl rfl rfl rfl ?_ | refine gny_bld 7 rfl rfl rfl ?_); (first | refine gny_p 8 rfl rfl rfl ?_ | refine gny_ld 8 rfl rfl rfl rfl ?_ | refine gny_ldH 8 rfl rfl rfl ‹HRow _ _ 0 _› rfl ?_ | refine gny_T 8 rfl rfl rfl ?_ | refine gny_F 8 rfl rfl rfl ?_ | refine gny_B 8 rfl rfl rfl ?_ | refine gny_skip 8 rfl rfl ?_ | refine gny_sp 8 rfl rfl rfl ?_ | refine gny_sB 8 rfl rfl rfl ?_ | refine gny_sld 8 rfl rfl rfl rfl ?_ | refine gny_sldH 8 rfl rfl rfl ‹HRow _ _ 0 _› rfl ?_ | refine gny_ldN 8 rfl rfl rfl rfl ?_ | refine gny_bld 8 rfl rfl rfl ?_); (first | refine gny_p 9 rfl rfl rfl ?_ | refine gny_ld 9 rfl rfl rfl rfl ?_ | refine gny_ldH 9 rfl rfl rfl ‹HRow _ _ 0 _› rfl ?_ | refine gny_T 9 rfl rfl rfl ?_ | refine gny_F 9 rfl rfl rfl ?_ | refine gny_B 9 rfl rfl rfl ?_ | refine gny_skip 9 rfl rfl ?_ | refine gny_sp 9 rfl rfl rfl ?_ | refine gny_sB 9 rfl rfl rfl ?_ | refine gny_sld 9 rfl rfl rfl rfl ?_ | refine gny_sldH 9 rfl rfl rfl ‹HRow _ _ 0 _› rfl ?_ | refine gny_ldN 9 rfl rfl rfl rfl ?_ | refine gny_bld 9 rfl rfl rfl ?_); (first | refine gny_p 10 rfl rfl rfl ?_ | refine gny_ld 10 rfl rfl rfl rfl ?_ | refine gny_ldH 10 rfl rfl rfl ‹HRow _ _ 0 _› rfl ?_ | refine gny_T 10 rfl rfl rfl ?_ | refine gny_F 10 rfl rfl rfl ?_ | refine gny_B 10 rfl rfl rfl ?_ | refine gny_skip 10 rfl rfl ?_ | refine gny_sp 10 rfl rfl rfl ?_ | refine gny_sB 10 rfl rfl rfl ?_ | refine gny_sld 10 rfl rfl rfl rfl ?_ | refine gny_sldH 10 rfl rfl rfl ‹HRow _ _ 0 _› rfl ?_ | refine gny_ldN 10 rfl rfl rfl rfl ?_ | refine gny_bld 10 rfl rfl rfl ?_); (first | refine gny_p 11 rfl rfl rfl ?_ | refine gny_ld 11 rfl rfl rfl rfl ?_ | refine gny_ldH 11 rfl rfl rfl ‹HRow _ _ 0 _› rfl ?_ | refine gny_T 11 rfl rfl rfl ?_ | refine gny_F 11 rfl rfl rfl ?_ | refine gny_B 11 rfl rfl rfl ?_ | refine gny_skip 11 rfl rfl ?_ | refine gny_sp 11 rfl rfl rfl ?_ | refine gny_sB 11 rfl rfl rfl ?_ | refine gny_sld 11 rfl rfl rfl rfl ?_ | refine gny_sldH 11 rfl rfl rfl ‹HRow _ _ 0 _› rfl ?_ | refine gny_ldN 11 rfl rfl rfl rfl ?_ | refine gny_bld 11 rfl rfl rfl ?_); (first | refine gny_p 12 rfl rfl rfl ?_ | refine gny_ld 12 rfl rfl rfl rfl ?_ | refine gny_ldH 12 rfl rfl rfl ‹HRow _ _ 0 _› rfl ?_ | refine gny_T 12 rfl rfl rfl ?_ | refine gny_F 12 rfl rfl rfl ?_ | refine gny_B 12 rfl rfl rfl ?_ | refine gny_skip 12 rfl rfl ?_ | refine gny_sp 12 rfl rfl rfl ?_ | refine gny_sB 12 rfl rfl rfl ?_ | refine gny_sld 12 rfl rfl rfl rfl ?_ | refine gny_sldH 12 rfl rfl rfl ‹HRow _ _ 0 _› rfl ?_ | refine gny_ldN 12 rfl rfl rfl rfl ?_ | refine gny_bld 12 rfl rfl rfl ?_); (first | refine gny_p 13 rfl rfl rfl ?_ | refine gny_ld 13 rfl rfl rfl rfl ?_ | refine gny_ldH 13 rfl rfl rfl ‹HRow _ _ 0 _› rfl ?_ | refine gny_T 13 rfl rfl rfl ?_ | refine gny_F 13 rfl rfl rfl ?_ | refine gny_B 13 rfl rfl rfl ?_ | refine gny_skip 13 rfl rfl ?_ | refine gny_sp 13 rfl rfl rfl ?_ | refine gny_sB 13 rfl rfl rfl ?_ | refine gny_sld 13 rfl rfl rfl rfl ?_ | refine gny_sldH 13 rfl rfl rfl ‹HRow _ _ 0 _› rfl ?_ | refine gny_ldN 13 rfl rfl rfl rfl ?_ | refine gny_bld 13 rfl rfl rfl ?_)
      refine any_rest rfl ?_
      refine walk ?_
      refine out_next hL (k + 1, H2) ⟨by simp only; omega, hl2, fun i hi hij => ?_⟩
      simp only at hi
      exact hnone i (by omega) hij
    · refine walk ?_
      refine ex_any 14 [row p4 43 [.slice b1 es.length c1, .slice b2 rs.length c2], row p6 28 (x.cv (.slice b0 x.Cells.length c0))] ?_
      (first | refine gny_p 0 rfl rfl rfl ?_ | refine gny_ld 0 rfl rfl rfl rfl ?_ | refine gny_ldH 0 rfl rfl rfl ‹HRow _ _ 0 _› rfl ?_ | refine gny_T 0 rfl rfl rfl ?_ | refine gny_F 0 rfl rfl rfl ?_ | refine gny_B 0 rfl rfl rfl ?_ | refine gny_skip 0 rfl rfl ?_ | refine gny_sp 0 rfl rfl rfl ?_ | refine gny_sB 0 rfl rfl rfl ?_ | refine gny_sld 0 rfl rfl rfl rfl ?_ | refine gny_sldH 0 rfl rfl rfl ‹HRow _ _ 0 _› rfl ?_ | refine gny_ldN 0 rfl rfl rfl rfl ?_ | refine gny_bld 0 rfl rfl rfl ?_); (first | refine gny_p 1 rfl rfl rfl ?_ | refine gny_ld 1 rfl rfl rfl rfl ?_ | refine gny_ldH 1 rfl rfl rfl ‹HRow _ _ 0 _› rfl ?_ | refine gny_T 1 rfl rfl rfl ?_ | refine gny_F 1 rfl rfl rfl ?_ | refine gny_B 1 rfl rfl rfl ?_ | refine gny_skip 1 rfl rfl ?_ | refine gny_sp 1 rfl rfl rfl ?_ | refine gny_sB 1 rfl rfl rfl ?_ | refine gny_sld 1 rfl rfl rfl rfl ?_ | refine gny_sldH 1 rfl rfl rfl ‹HRow _ _ 0 _› rfl ?_ | refine gny_ldN 1 rfl rfl rfl rfl ?_ | refine gny_bld 1 rfl rfl rfl ?_); (first | refine gny_p 2 rfl rfl rfl ?_ | refine gny_ld 2 rfl rfl rfl rfl ?_ | refine gny_ldH 2 rfl rfl rfl ‹HRow _ _ 0 _› rfl ?_ | refine gny_T 2 rfl rfl rfl ?_ | refine gny_F 2 rfl rfl rfl ?_ | refine gny_B 2 rfl rfl rfl ?_ | refine gny_skip 2 rfl rfl ?_ | refine gny_sp 2 rfl rfl rfl ?_ | refine gny_sB 2 rfl rfl rfl ?_ | refine gny_sld 2 rfl rfl rfl rfl ?_ | refine gny_sldH 2 rfl rfl rfl ‹HRow _ _ 0 _› rfl ?_ | refine gny_ldN 2 rfl rfl rfl rfl ?_ | refine gny_bld 2 rfl rfl rfl ?_); (first | refine gny_p 3 rfl rfl rfl ?_ | refine gny_ld 3 rfl rfl rfl rfl ?_ | refine gny_ldH 3 rfl rfl rfl ‹HRow _ _ 0 _› rfl ?_ | refine gny_T 3 rfl rfl rfl ?_ | refine gny_F 3 rfl rfl rfl ?_ | refine gny_B 3 rfl rfl rfl ?_ | refine gny_skip 3 rfl rfl ?_ | refine gny_sp 3 rfl rfl rfl ?_ | refine gny_sB 3 rfl rfl rfl ?_ | refine gny_sld 3 rfl rfl rfl rfl ?_ | refine gny_sldH 3 rfl rfl rfl ‹HRow _ _ 0 _› rfl ?_ | refine gny_ldN 3 rfl rfl rfl rfl ?_ | refine gny_bld 3 rfl rfl rfl ?_); (first | refine gny_p 4 rfl rfl rfl ?_ | refine gny_ld 4 rfl rfl rfl rfl ?_ | refine gny_ldH 4 rfl rfl rfl ‹HRow _ _ 0 _› rfl ?_ | refine gny_T 4 rfl rfl rfl ?_ | refine gny_F 4 rfl rfl rfl ?_ | refine gny_B 4 rfl rfl rfl ?_ | refine gny_skip 4 rfl rfl ?_ | refine gny_sp 4 rfl rfl rfl ?_ | refine gny_sB 4 rfl rfl rfl ?_ | refine gny_sld 4 rfl rfl rfl rfl ?_ | refine gny_sldH 4 rfl rfl rfl ‹HRow _ _ 0 _› rfl ?_ | refine gny_ldN 4 rfl rfl rfl rfl ?_ | refine gny_bld 4 rfl rfl rfl ?_); (first | refine gny_p 5 rfl rfl rfl ?_ | refine gny_ld 5 rfl rfl rfl rfl ?_ | refine gny_ldH 5 rfl rfl rfl ‹HRow _ _ 0 _› rfl ?_ | refine gny_T 5 rfl rfl rfl ?_ | refine gny_F 5 rfl rfl rfl ?_ | refine gny_B 5 rfl rfl rfl ?_ | refine gny_skip 5 rfl rfl ?_ | refine gny_sp 5 rfl rfl rfl ?_ | refine gny_sB 5 rfl rfl rfl ?_ | refine gny_sld 5 rfl rfl rfl rfl ?_ | refine gny_sldH 5 rfl rfl rfl ‹HRow _ _ 0 _› rfl ?_ | refine gny_ldN 5 rfl rfl rfl rfl ?_ | refine gny_bld 5 rfl rfl rfl ?_); (first | refine gny_p 6 rfl rfl rfl ?_ | refine gny_ld 6 rfl rfl rfl rfl ?_ | refine gny_ldH 6 rfl rfl rfl ‹HRow _ _ 0 _› rfl ?_ | refine gny_T 6 rfl rfl rfl ?_ | refine gny_F 6 rfl rfl rfl ?_ | refine gny_B 6 rfl rfl rfl ?_ | refine gny_skip 6 rfl rfl ?_ | refine gny_sp 6 rfl rfl rfl ?_ | refine gny_sB 6 rfl rfl rfl ?_ | refine gny_sld 6 rfl rfl rfl rfl ?_ | refine gny_sldH 6 rfl rfl rfl ‹HRow _ _ 0 _› rfl ?_ | refine gny_ldN 6 rfl rfl rfl rfl ?_ | refine gny_bld 6 rfl rfl rfl ?_); (first | refine gny_p 7 rfl rfl rfl ?_ | refine gny_ld 7 rfl rfl rfl rfl ?_ | refine gny_ldH 7 rfl rfl rfl ‹HRow _ _ 0 _› rfl ?_ | refine gny_T 7 rfl rfl rfl ?_ | refine gny_F 7 rfl rfl rfl ?_ | refine gny_B 7 rfl rfl rfl ?_ | refine gny_skip 7 rfl rfl ?_ | refine gny_sp 7 rfl rfl rfl ?_ | refine gny_sB 7 rfl rfl rfl ?_ | refine gny_sld 7 rfl rfl rfl rfl ?_ | refine gny_sldH 7 rfl rfl rfl ‹HRow _ _ 0 _› rfl ?_ | refine gny_ldN 7 rfl rfl rfl rfl ?_ | refine gny_bld 7 rfl rfl rfl ?_)
      refine gny_ixp 8 rfl rfl rfl ((h2.mono hl2).1) hk2 fun q o ck hr hck => ?_
      refine gny_ldNH 9 rfl rfl rfl hr (RdOk.len (R := rRoute) hck) ?_
      (first | refine gny_p 10 rfl rfl rfl ?_ | refine gny_ld 10 rfl rfl rfl rfl ?_ | refine gny_ldH 10 rfl rfl rfl ‹HRow _ _ 0 _› rfl ?_ | refine gny_T 10 rfl rfl rfl ?_ | refine gny_F 10 rfl rfl rfl ?_ | refine gny_B 10 rfl rfl rfl ?_ | refine gny_skip 10 rfl rfl ?_ | refine gny_sp 10 rfl rfl rfl ?_ | refine gny_sB 10 rfl rfl rfl ?_ | refine gny_sld 10 rfl rfl rfl rfl ?_ | refine gny_sldH 10 rfl rfl rfl ‹HRow _ _ 0 _› rfl ?_ | refine gny_ldN 10 rfl rfl rfl rfl ?_ | refine gny_bld 10 rfl rfl rfl ?_)
      refine gny_call (vs := [.agg ck.toArray, I t]) 11 rfl rfl rfl (rcut_spec hck ht) fun r3 H3 B hl3 ⟨v, er, eB⟩ => ?_
      subst er eB
      refine ⟨(by (repeat (first | exact Sub.refl _ | exact Sub.nil _ | (apply sub_pick; (repeat (first | exact Has.here | apply Has.there)); skip) | apply Sub.drop))), ?_⟩
      refine any_freeze v fun H4 hl4 hv => ?_
      refine gny_call 12 rfl rfl rfl (common_spec (x := x) (y := cutR rs[k] t) (rRoute_up g0 (hl2.trans (hl3.trans hl4))) ⟨v, rfl, cutR_fits, hv⟩) fun r5 H5 B hl5 ⟨er, eB⟩ => ?_
      subst er eB
      refine ⟨(by (repeat (first | exact Sub.refl _ | exact Sub.nil _ | (apply sub_pick; (repeat (first | exact Has.here | apply Has.there)); skip) | apply Sub.drop))), ?_⟩
      (first | refine gny_p 13 rfl rfl rfl ?_ | refine gny_ld 13 rfl rfl rfl rfl ?_ | refine gny_ldH 13 rfl rfl rfl ‹HRow _ _ 0 _› rfl ?_ | refine gny_T 13 rfl rfl rfl ?_ | refine gny_F 13 rfl rfl rfl ?_ | refine gny_B 13 rfl rfl rfl ?_ | refine gny_skip 13 rfl rfl ?_ | refine gny_sp 13 rfl rfl rfl ?_ | refine gny_sB 13 rfl rfl rfl ?_ | refine gny_sld 13 rfl rfl rfl rfl ?_ | refine gny_sldH 13 rfl rfl rfl ‹HRow _ _ 0 _› rfl ?_ | refine gny_ldN 13 rfl rfl rfl rfl ?_ | refine gny_bld 13 rfl rfl rfl ?_)
      refine any_rest rfl ?_
      refine walk ?_
      refine ex_if rfl (fun hm => ?_) (fun hm => ?_)
      · refine walk ?_
        refine fin0 ?_
        exact ⟨by rw [confKB_true ⟨k, hk1, hkj, by rw [hkd]; exact hm⟩], rfl⟩
      · refine walk ?_
        refine out_next hL (k + 1, H5) ⟨by simp only; omega, hl2.trans (hl3.trans (hl4.trans hl5)), fun i hi hij => ?_⟩
        simp only at hi
        by_cases e : i = k
        · rw [e, hkd]; exact hm
        · exact hnone i (by omega) hij
  · clear hL
    obtain rfl : k = 16 := by omega
    refine walk ?_
    refine fin0 ?_
    refine ⟨?_, rfl⟩
    rw [confKB_false]
    rintro ⟨i, h1, h2, h3⟩
    exact hnone i h1 h2 h3
end Go.Proofs.Ytnfmjkjhiolfdaa
