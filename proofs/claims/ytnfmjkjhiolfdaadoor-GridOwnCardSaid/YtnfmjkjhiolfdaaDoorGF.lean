/- The fixed fact; GridTicks. -/
import Derived.Test.YtnfmjkjhiolfdaaDoorGE
import Derived.Test.YtnfmjkjhiolfdaaDoorRB
set_option linter.unusedVariables false
set_option linter.unusedSimpArgs false
namespace Go.Proofs.YtnfmjkjhiolfdaaDoor
open Go Go.Sx Go.Proofs
theorem f3 : fits 3 := by unfold fits; omega
theorem f6 : fits 6 := by unfold fits; omega
theorem f7 : fits 7 := by unfold fits; omega
theorem next6 : (nextL m0 6).length = 4 := by
  have h1 : nextC m0 6 = [2, 6, 7, 10] := by decide +kernel
  have h2 : ([2, 6, 7, 10] : List Int).mergeSort (fun x y => decide (x ≤ y)) = [2, 6, 7, 10] := List.mergeSort_of_pairwise (by decide)
  unfold nextL
  rw [h1, h2]
  decide +kernel
theorem d0 : dgs 0 = [48] := by simp [dgs]
theorem d3 : dgs 3 = [51] := by simp [dgs, nd]
theorem d6 : dgs 6 = [54] := by simp [dgs, nd]
theorem d7 : dgs 7 = [55] := by simp [dgs, nd]
theorem p670 : isKey [112, 54, 45, 55, 64, 48] (6, 7, 0) := .inr ⟨by decide, by decide, by decide, by decide, by simp [passL, d0, show min (6 : Int) 7 = 6 by omega, show max (6 : Int) 7 = 7 by omega, d6, d7]⟩
theorem p763 : passL 7 6 3 = [112, 54, 45, 55, 64, 51] := by simp [passL, d3, show min (7 : Int) 6 = 6 by omega, show max (7 : Int) 6 = 7 by omega, d6, d7]
set_option maxHeartbeats 8000000 in
theorem awake12_spec {W0 : World} {H : Heap} (hP : PkH H) :
    Ct Tryd.prog 29 #[] W0 H [] (fun r H' B => r = .bool true ∧ B = []) := by
  refine Ct.go fun R => ?_
  refine walk ?_
  refine ops_bsN rfl rfl fun pb _ => ?_
  refine ops_frzR .here fun H1 hl1 hr1 => ?_
  refine walk ?_
  refine ops_call (vs := [.agg #[I 4, I 3, I 2, .slice (some ⟨pb, 0, none⟩) 1 1]]) rfl rfl (gNew_spec (m0_reads hr1)) fun r2 H2 B hl2 ⟨g, e, er, eB, h⟩ => ?_
  subst er eB
  obtain ⟨hg, hG, rfl⟩ : goodM m0 ∧ rG H2 g m0 ∧ e = I 0 := by
    rcases h with h | h
    · exact h
    · exact absurd (by decide) h.1
  have hGp := hG
  obtain ⟨⟨b, s, mb, mm, rfl, h1, h2, h3, h4⟩, hgd, hfs⟩ := hGp
  refine walkG ?_
  refine ops_pcall rfl rfl (gFree_spec hG) ?_
  rw [decide_eq_false (p := freeC m0 5) (by decide)]
  refine walkG ?_
  refine ops_call (vs := [.pointer (some ⟨b, 0, none⟩), I 6, I 7]) rfl rfl (gNear_spec hG) fun r3 H3 B hl3 ⟨er, eB⟩ => ?_
  subst er eB
  rw [decide_eq_true (p := nearC m0 6 7) (by decide)]
  refine walkG ?_
  have hP3 := hP.mono (hl1.trans (hl2.trans hl3))
  refine ops_call (vs := [.pointer (some ⟨b, 0, none⟩), .string (sb [112, 54, 45, 55, 64, 48])]) rfl rfl (home_spec hP3 (hG.mono hl3) (by simp [cap47])) fun r4 H4 B hl4 ⟨hr, eB, eH⟩ => ?_
  subst eB eH
  obtain rfl : r4 = .tuple #[I 1, I 0] := by
    rcases hr with ⟨k, hk, rfl⟩ | ⟨hno, _⟩
    · rw [hk.uniq p670 |>.symm]; rfl
    · exact absurd ⟨p670, by decide, by decide⟩ (hno (6, 7, 0))
  refine walkG ?_
  refine ops_pcall rfl rfl (gPass_spec hP3.tab f7 f6 f3) ?_
  rw [p763]
  have hs : sb [112, 54, 45, 55, 64, 51] = ByteArray.mk #[112, 54, 45, 55, 64, 51] := rfl
  refine walk ?_
  refine ops_call (vs := [.pointer (some ⟨b, 0, none⟩), I 6]) rfl rfl (gNext_yes (hG.mono hl3) (by decide)) fun r5 H5 B hl5 eB => ?_
  subst eB
  refine ops_shape r5 fun d1 e1 e _ _ _ => ?_
  subst e
  refine walkG ?_
  refine fin0 ?_
  exact ⟨by rw [next6]; rfl, rfl⟩
def laterBad (t n : Int) : Prop := (¬ tickI t ∨ n < -t) ∨ 1073741824 - t < n
instance {t n : Int} : Decidable (laterBad t n) := by unfold laterBad; infer_instance
def laterV (t n : Int) : Value := if laterBad t n then .tuple #[I 0, I 122] else .tuple #[I (t + n), I 0]
theorem later_spec {W0 : World} {H : Heap} {t n : Int} (hn : fits n) :
    Ct Tryd.prog 46 #[I t, I n] W0 H [] (fun r H' B => r = laterV t n ∧ B = [] ∧ H' = H) := by
  refine Ct.go fun R => ?_
  refine walkG ?_
  refine ex_if rfl (fun h => ?_) (fun h => ?_)
  · refine walk ?_
    refine fin0 ?_
    refine ⟨?_, rfl, rfl⟩
    unfold laterV
    rw [if_pos (by unfold laterBad tickI; omega)]
  · have h1 : tickI t := by unfold tickI; omega
    have h2 := h1
    simp only [tickI] at h2
    have hf : fits (t + n) := by unfold fits; omega
    refine walk ?_
    refine fin0 ?_
    refine ⟨?_, rfl, rfl⟩
    unfold laterV
    rw [if_neg (by unfold laterBad tickI; omega)]
set_option maxHeartbeats 8000000 in
theorem ticks_spec {W0 : World} {H : Heap} {t n : Int} (hP : PkH H) (ht : fits t) (hn : fits n) :
    Ct Tryd.prog 12 #[I t, I n] W0 H [] (fun r H' B => r = .bool true ∧ B = []) := by
  refine Ct.go fun R => ?_
  refine walk ?_
  refine ops_call (vs := []) rfl rfl (awake12_spec hP) fun r1 H1 B hl1 ⟨er, eB⟩ => ?_
  subst er eB
  refine walk ?_
  refine ops_pcall rfl rfl (later_spec hn) ?_
  unfold laterV
  by_cases hb : laterBad t n
  · rw [if_pos hb]
    refine walkG ?_
    refine ops_pcall rfl rfl tick_spec ?_
    refine walkG ?_
    refine ex_if rfl (fun h => ?_) (fun h => ?_)
    · refine walk ?_
      refine fin0 ?_
      exact ⟨rfl, rfl⟩
    · exact absurd hb (by unfold laterBad; exact h)
  · have hb2 := hb
    unfold laterBad at hb2
    simp only [tickI] at hb2
    have hf : fits (t + n) := by unfold fits; omega
    rw [if_neg hb]
    refine walkG ?_
    refine ops_pcall rfl rfl tick_spec ?_
    refine walkG ?_
    refine ex_if rfl (fun h => ?_) (fun h => ?_)
    · exact absurd h (by unfold laterBad at hb; exact hb)
    · refine walk ?_
      refine fin0 ?_
      exact ⟨rfl, rfl⟩
end Go.Proofs.YtnfmjkjhiolfdaaDoor
