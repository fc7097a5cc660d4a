/- The fixed fact. -/
import Derived.Test.YtnfmjkjhiolfdaaBO
import Derived.Test.YtnfmjkjhiolfdaaKC
set_option linter.unusedVariables false
set_option linter.unusedSimpArgs false
namespace Go.Proofs.Ytnfmjkjhiolfdaa
open Go Go.Sx Go.Proofs
def m0 : Map := ⟨4, 3, 2, [5]⟩
theorem cut_z {t : Int} : cutR zRoute t = zRoute := by unfold cutR; rw [if_neg]; rintro ⟨_, h⟩; simp [zRoute] at h
theorem zr_get {i : Nat} : zRoutes.getD i zRoute = zRoute := by
  have h : ∀ x ∈ zRoutes, x = zRoute := fun x hx => List.eq_of_mem_replicate hx
  rw [List.getD]
  cases e : zRoutes[i]? with
  | none => rfl
  | some x => exact h x (List.mem_of_getElem? e)
theorem atR_z {t : Int} : atR zRoute t = none := by unfold atR; split <;> simp [zRoute]
theorem meet_z {x : Route} : ¬ meetR x zRoute := by rintro ⟨_, t, p, q, _, e, _⟩; rw [atR_z] at e; cases e
theorem ap1 : applyC confM m0 zEpochs zRoutes 1 ⟨1, 0, zRoute⟩ 0 = (zEpochs.set 1 1, zRoutes, ⟨0, 1, zRoute⟩) := by
  unfold applyC applyIn
  rw [if_neg (by simp [robI]), if_pos rfl, zr_get, cut_z]; rfl
theorem ap2 : applyC confM m0 (zEpochs.set 1 1) zRoutes 2 ⟨1, 0, zRoute⟩ 0 = ((zEpochs.set 1 1).set 2 1, zRoutes, ⟨0, 1, zRoute⟩) := by
  unfold applyC applyIn
  rw [if_neg (by simp [robI]), if_pos rfl, zr_get, cut_z]; rfl
theorem chk {x y : Int} : checkR m0 ⟨5, [6, 7]⟩ = 0 ∧ checkR m0 ⟨5, [7, 6]⟩ = 0 := by decide
theorem ap3 : applyC confM m0 ((zEpochs.set 1 1).set 2 1) zRoutes 1 ⟨3, 1, ⟨5, [6, 7]⟩⟩ 4 = ((zEpochs.set 1 1).set 2 1, zRoutes.set 1 ⟨5, [6, 7]⟩, ⟨0, 1, ⟨5, [6, 7]⟩⟩) := by
  have h : ¬ confM zRoutes 1 ⟨5, [6, 7]⟩ 4 := by rintro ⟨i, _, _, h⟩; rw [zr_get, cut_z] at h; exact meet_z h
  unfold applyC applyIn
  rw [if_neg (by simp [robI]), if_neg (by decide), if_neg (by decide), if_neg (by decide), if_neg (by decide), if_neg (by decide), if_pos rfl, zr_get, cut_z]
  unfold resC
  rw [if_neg (by decide), if_neg (by decide), if_neg (by decide)]
  unfold takeC
  rw [if_neg (by decide), if_neg (by exact h)]; rfl
theorem ap4 : (applyC confM m0 ((zEpochs.set 1 1).set 2 1) (zRoutes.set 1 ⟨5, [6, 7]⟩) 2 ⟨3, 1, ⟨5, [7, 6]⟩⟩ 4).2.2 = ⟨140, 0, zRoute⟩ := by
  have h : confM (zRoutes.set 1 ⟨5, [6, 7]⟩) 2 ⟨5, [7, 6]⟩ 4 := by
    refine ⟨1, by omega, by omega, ?_⟩
    rw [show (zRoutes.set 1 ⟨5, [6, 7]⟩).getD 1 zRoute = ⟨5, [6, 7]⟩ from rfl, show cutR ⟨5, [6, 7]⟩ 4 = ⟨5, [6, 7]⟩ from rfl]
    exact ⟨⟨by decide, by decide⟩, 5, 7, 6, rfl, rfl, .inr ⟨6, 7, rfl, rfl, by decide, by decide, by decide⟩⟩
  unfold applyC applyIn
  rw [if_neg (by simp [robI]), if_neg (by decide), if_neg (by decide), if_neg (by decide), if_neg (by decide), if_neg (by decide), if_pos rfl]
  rw [show (zRoutes.set 1 ⟨5, [6, 7]⟩).getD (2 : Int).toNat zRoute = zRoute from rfl, cut_z]
  unfold resC
  rw [if_neg (by decide), if_neg (by decide), if_neg (by decide)]
  unfold takeC
  rw [if_neg (by decide), if_pos (by exact h)]
theorem ints_lit {H : Heap} {p : Nat} {xs : List Int} (h : HRow H p 0 (xs.map I)) (hf : ∀ x ∈ xs, fits x) (hl : xs.length ≤ 1000) : SlB rInt 1 8 H (.slice (some ⟨p, 0, none⟩) xs.length xs.length) xs :=
  ⟨slr_of_hrow (xs := xs) h (RL.mk1 (R := rInt) (val := fun x => .int .i64 x) (ok := fits) (xs := xs) hf) (by omega) (by omega), by simp only [cap47]; omega⟩
theorem m0_reads {H : Heap} {p : Nat} (h : HRow H p 0 [I 5]) : rMap H [I 4, I 3, I 2, .slice (some ⟨p, 0, none⟩) 1 1] m0 :=
  ⟨_, rfl, by unfold fits m0; simp, by unfold fits m0; simp, by unfold fits m0; simp, ints_lit (xs := [5]) h (by intro x hx; simp at hx; subst hx; unfold fits; omega) (by simp)⟩
theorem zcall_reads {H : Heap} {v e : Int} (h1 : fits v) (h2 : fits e) : rCall H [I v, I e, I 0, nilS] ⟨v, e, zRoute⟩ := ⟨nilS, rfl, h1, h2, fits0, SlB.nil⟩
theorem lcall_reads {H : Heap} {p : Nat} {a b : Int} (h : HRow H p 0 [I a, I b]) (ha : fits a) (hb : fits b) : rCall H [I 3, I 1, I 5, .slice (some ⟨p, 0, none⟩) 2 2] ⟨3, 1, ⟨5, [a, b]⟩⟩ :=
  ⟨_, rfl, by unfold fits; simp, by unfold fits; simp, by unfold fits; simp, ints_lit (xs := [a, b]) h (by intro x hx; simp at hx; rcases hx with rfl | rfl; exact ha; exact hb) (by simp)⟩
theorem f1 : fits 1 := by unfold fits; omega
theorem f4 : fits 4 := by unfold fits; omega
theorem f6 : fits 6 := by unfold fits; omega
theorem f7 : fits 7 := by unfold fits; omega
theorem zEs : ∀ e ∈ zEpochs, 0 ≤ e ∧ e ≤ 1000000 := fun e he => by rw [List.eq_of_mem_replicate he]; omega
theorem zRl : ∀ x ∈ zRoutes, x.Cells.length ≤ 24 := fun x hx => by rw [List.eq_of_mem_replicate hx]; simp [zRoute]
theorem es_set {es : List Int} {j : Nat} {e : Int} (h : ∀ e ∈ es, 0 ≤ e ∧ e ≤ 1000000) (h1 : 0 ≤ e ∧ e ≤ 1000000) : ∀ x ∈ es.set j e, 0 ≤ x ∧ x ≤ 1000000 := fun x hx => by
  rcases List.mem_or_eq_of_mem_set hx with hx | rfl
  · exact h x hx
  · exact h1
theorem rs_set {rs : List Route} {j : Nat} {y : Route} (h : ∀ x ∈ rs, x.Cells.length ≤ 24) (h1 : y.Cells.length ≤ 24) : ∀ x ∈ rs.set j y, x.Cells.length ≤ 24 := fun x hx => by
  rcases List.mem_or_eq_of_mem_set hx with hx | rfl
  · exact h x hx
  · exact h1
set_option maxHeartbeats 8000000 in
theorem awake_spec {W0 : World} {H : Heap} :
    Ct Try.prog 7 #[] W0 H [] (fun r H' B => r = .bool true ∧ B = []) := by
  refine Ct.go fun R => ?_
  refine walk ?_
  refine ops_bsN rfl rfl fun pb _ => ?_
  refine ops_frzR .here fun H1 hl1 hr1 => ?_
  refine walk ?_
  refine ops_call (vs := [.agg #[I 4, I 3, I 2, .slice (some ⟨pb, 0, none⟩) 1 1]]) rfl rfl (gNew_spec (m0_reads hr1)) fun r2 H2 B hl2 ⟨g, e, er, eB, h⟩ => ?_
  subst er eB
  obtain ⟨hg, hG, rfl⟩ : goodM m0 ∧ rG H2 g m0 ∧ e = I 0 := by
    rcases h with h | h
    · exact h
    · exact absurd (by decide) h.1
  have hGp := hG
  obtain ⟨⟨b, s, mb, mm, rfl, h1, h2, h3, h4⟩, hgd, hfs⟩ := hGp
  refine walk ?_
  refine ops_call rfl rfl (bNew_spec hG) fun r3 H3 B hl3 ⟨eB, eH⟩ => ?_
  subst eB eH
  refine ops_know .here (fun h hh => bookO_ptr hh) fun ⟨bb, eb⟩ => ?_
  subst eb
  refine walk ?_
  have A1 := apply_spec (W0 := W0) (p := .pointer (some ⟨bb, 0, none⟩)) (m := m0) (r := 1) (.refl H3) (zcall_reads (v := 1) (e := 0) f1 fits0) fits0 zEs zRl (by simp [zRoute])
  rw [ap1] at A1
  dsimp only [RepPost] at A1
  refine ops_call (vs := [.pointer (some ⟨bb, 0, none⟩), I 1, .agg #[I 1, I 0, I 0, nilS], I 0]) rfl rfl A1 fun r4 H4 B hl4 ⟨v4, er, eB⟩ => ?_
  subst er eB
  refine walk ?_
  rw [show decide ((1 : Int) ≠ 1) = false from rfl]
  refine walk ?_
  have A2 := apply_spec (W0 := W0) (p := .pointer (some ⟨bb, 0, none⟩)) (m := m0) (r := 2) (.refl H4) (zcall_reads (v := 1) (e := 0) f1 fits0) fits0 (es_set (j := 1) (e := 1) zEs (by omega)) zRl (by simp [zRoute])
  rw [ap2] at A2
  dsimp only [RepPost] at A2
  refine ops_call (vs := [.pointer (some ⟨bb, 0, none⟩), I 2, .agg #[I 1, I 0, I 0, nilS], I 0]) rfl rfl A2 fun r5 H5 B hl5 ⟨v5, er, eB⟩ => ?_
  subst er eB
  refine walk ?_
  rw [show decide ((1 : Int) ≠ 1) = false from rfl]
  refine walk ?_
  refine ops_bsN rfl rfl fun pc _ => ?_
  refine ops_frzR .here fun H6 hl6 hr6 => ?_
  refine walk ?_
  have A3 := apply_spec (W0 := W0) (p := .pointer (some ⟨bb, 0, none⟩)) (m := m0) (r := 1) (hl6) (lcall_reads hr6 f6 f7) f4 (es_set (j := 2) (e := 1) (es_set (j := 1) (e := 1) zEs (by omega)) (by omega)) zRl (by simp)
  rw [ap3] at A3
  dsimp only [RepPost] at A3
  refine ops_call (vs := [.pointer (some ⟨bb, 0, none⟩), I 1, .agg #[I 3, I 1, I 5, .slice (some ⟨pc, 0, none⟩) 2 2], I 4]) rfl rfl A3 fun r7 H7 B hl7 ⟨v7, er, eB⟩ => ?_
  subst er eB
  refine ops_shape v7 fun d1 e1 e _ _ _ => ?_
  replace e : v7 = .slice d1 2 e1 := e
  subst e
  refine ops_alloc rfl fun p4 _ => ?_
  refine walk ?_
  rw [show decide ((({ Code := 0, Epoch := 1, Route := ⟨5, [6, 7]⟩ } : Reply).Code : Int) = 0) = true from rfl]
  refine walk ?_
  refine ops_bsN rfl rfl fun pd _ => ?_
  refine ops_frzR .here fun H8 hl8 hr8 => ?_
  refine walk ?_
  have A4 := apply_spec (W0 := W0) (p := .pointer (some ⟨bb, 0, none⟩)) (m := m0) (r := 2) (hl8) (lcall_reads hr8 f7 f6) f4 (es_set (j := 2) (e := 1) (es_set (j := 1) (e := 1) zEs (by omega)) (by omega)) (rs_set (j := 1) (y := ⟨5, [6, 7]⟩) zRl (by simp)) (by simp)
  rw [ap4] at A4
  refine ops_call (vs := [.pointer (some ⟨bb, 0, none⟩), I 2, .agg #[I 3, I 1, I 5, .slice (some ⟨pd, 0, none⟩) 2 2], I 4]) rfl rfl A4 fun r9 H9 B hl9 ⟨v9, er, eB⟩ => ?_
  subst er eB
  refine walk ?_
  rw [show decide ((({ Code := 140, Epoch := 0, Route := zRoute } : Reply).Code : Int) = 140) = true from rfl]
  refine walk ?_
  refine fin0 ?_
  exact ⟨rfl, rfl⟩
end Go.Proofs.Ytnfmjkjhiolfdaa
