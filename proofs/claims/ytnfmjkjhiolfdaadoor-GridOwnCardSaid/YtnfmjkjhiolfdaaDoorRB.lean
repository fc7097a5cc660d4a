/- A route with a list of its own; the fixed fact. -/
import Derived.Test.YtnfmjkjhiolfdaaDoorRA
import Derived.Test.YtnfmjkjhiolfdaaDoorBF
import Derived.Test.YtnfmjkjhiolfdaaDoorBI
import Derived.Test.YtnfmjkjhiolfdaaDoorKC
set_option linter.unusedVariables false
set_option linter.unusedSimpArgs false
namespace Go.Proofs.YtnfmjkjhiolfdaaDoor
open Go Go.Sx Go.Proofs
def m0 : Map := ⟨4, 3, 2, [5]⟩
theorem slr_take {α : Type} {R : Rd α} {sz : Nat} [RdOk R sz] {H : Heap} {base : Option Addr} {m cap k : Nat} {xs : List α} (hr : SlR R sz H (.slice base m cap) xs) (h : k ≤ xs.length) : SlR R sz H (.slice base k cap) (xs.take k) := by
  obtain ⟨cs, ⟨base', cap', e, hc, hl, h1c, he⟩, b⟩ := hr
  cases e
  have hk : (xs.take k).length = k := by simp; omega
  have hmul : k * sz ≤ xs.length * sz := Nat.mul_le_mul_right _ h
  refine ⟨cs.take (k * sz), hk.symm ▸ ⟨_, _, rfl, by omega, by rw [List.length_take, hl]; omega, ?_, ?_⟩, b.take h⟩
  · simp only [List.all_eq_true] at h1c ⊢
    exact fun u hu => h1c u (List.mem_of_mem_take hu)
  · rcases he with he | ⟨b, off, rfl, hrow⟩
    · exact .inl (by omega)
    · exact .inr ⟨b, off, rfl, hrow.take⟩
/-- a route with a list of its own, not too long -/
def clipR (x : Route) : Route := ⟨x.Start, x.Cells.take 40⟩
theorem own13_spec {W0 : World} {H : Heap} {c : List Value} {x : Route} (h0 : rRoute H c x) :
    Ct Tryd.prog 17 #[.agg c.toArray] W0 H [] (fun r H' B => ∃ s, r = .agg [I x.Start, s].toArray ∧ B = [ownS rInt 1 8 3 H s (clipR x).Cells] ∧ H' = H) := by
  refine Ct.go (vs := [.agg c.toArray]) fun R => ?_
  obtain ⟨s0, rfl, f0, h0⟩ := h0
  obtain ⟨b0, c0, rfl, hc0, hd0⟩ := h0.1.shape
  have hk : (min (x.Cells.length : Int) 40).toNat = (clipR x).Cells.length := by simp [clipR]; omega
  have hs := slr_take (k := (clipR x).Cells.length) h0.1 (by simp [clipR]; omega)
  rw [show x.Cells.take (clipR x).Cells.length = (clipR x).Cells by simp [clipR, List.take_take]] at hs
  refine walk ?_
  refine ops_box rfl rfl fun p1 _ => ?_
  refine ops_alloc rfl fun p2 _ => ?_
  refine walk ?_
  refine ops_mk0 (w := 8) rInt rfl fun b1 => ?_
  refine walk ?_
  rw [hk]
  refine ops_appS rfl rfl hs (by simp [clipR, cap47]; omega) fun d1 e1 => ?_
  simp only [List.length_nil, Nat.zero_add, List.nil_append]
  refine walk ?_
  refine finB [ownS rInt 1 8 3 H (.slice d1 (clipR x).Cells.length e1) (clipR x).Cells] ?_
  exact ⟨_, rfl, rfl, rfl⟩
theorem ints_lit {H : Heap} {p : Nat} {xs : List Int} (h : HRow H p 0 (xs.map I)) (hf : ∀ x ∈ xs, fits x) (hl : xs.length ≤ 1000) : SlB rInt 1 8 H (.slice (some ⟨p, 0, none⟩) xs.length xs.length) xs :=
  ⟨slr_of_hrow (xs := xs) h (RL.mk1 (R := rInt) (val := fun x => .int .i64 x) (ok := fits) (xs := xs) hf) (by omega) (by omega), by simp only [cap47]; omega⟩
theorem m0_reads {H : Heap} {p : Nat} (h : HRow H p 0 [I 5]) : rMap H [I 4, I 3, I 2, .slice (some ⟨p, 0, none⟩) 1 1] m0 :=
  ⟨_, rfl, by unfold fits m0; simp, by unfold fits m0; simp, by unfold fits m0; simp, ints_lit (xs := [5]) h (by intro x hx; simp at hx; subst hx; unfold fits; omega) (by simp)⟩
theorem rRoute_up {H H' : Heap} {c : List Value} {x : Route} (h : rRoute H c x) (hl : H.le H') : rRoute H' c x := RdOk.mono (R := rRoute) hl h
theorem strs_lit {H : Heap} {p : Nat} {xs : List ByteArray} (h : HRow H p 0 (xs.map fun x => Value.string x)) (hf : ∀ x ∈ xs, x.size ≤ cap47) (hl : xs.length ≤ 1000) : SlB rStr 1 16 H (.slice (some ⟨p, 0, none⟩) xs.length xs.length) xs :=
  ⟨slr_of_hrow (xs := xs) h (RL.mk1 (R := rStr) (val := fun x => .string x) (ok := fun x => x.size ≤ cap47) (xs := xs) hf) (by omega) (by omega), by simp only [cap47]; omega⟩
theorem r1_reads {H : Heap} {p : Nat} (h : HRow H p 0 [I 6, I 7, I 7]) : rRoute H [I 3, .slice (some ⟨p, 0, none⟩) 3 3] ⟨3, [6, 7, 7]⟩ :=
  ⟨_, rfl, by unfold fits; simp, ints_lit (xs := [6, 7, 7]) h (by intro x hx; simp at hx; rcases hx with rfl | rfl <;> (unfold fits; omega)) (by simp)⟩
theorem r2_reads {H : Heap} {p : Nat} (h : HRow H p 0 [I 7]) : rRoute H [I 4, .slice (some ⟨p, 0, none⟩) 1 1] ⟨4, [7]⟩ :=
  ⟨_, rfl, by unfold fits; simp, ints_lit (xs := [7]) h (by intro x hx; simp at hx; subst hx; unfold fits; omega) (by simp)⟩
theorem k1_keys : keysL ⟨3, [6, 7, 7]⟩ = [[99, 54, 64, 51], [112, 54, 45, 55, 64, 51], [99, 55, 64, 52], [99, 55, 64, 53]] := by
  have hp : plainR ⟨3, [6, 7, 7]⟩ := by decide
  have h3 : dgs 3 = [51] := by simp [dgs, nd]
  have h4 : dgs 4 = [52] := by simp [dgs, nd]
  have h5 : dgs 5 = [53] := by simp [dgs, nd]
  have h6 : dgs 6 = [54] := by simp [dgs, nd]
  have h7 : dgs 7 = [55] := by simp [dgs, nd]
  unfold keysL
  rw [if_pos hp]
  simp [keysFrom, slotL, passL, h3, h4, h5, show min (6 : Int) 7 = 6 by omega, show max (6 : Int) 7 = 7 by omega, h6, h7]
theorem m1_meet : meetB ⟨3, [6, 7, 7]⟩ ⟨4, [7]⟩ = true := meetB_true ⟨⟨by decide, by decide⟩, 4, 7, 7, rfl, rfl, .inl rfl⟩
set_option maxHeartbeats 8000000 in
theorem awake13_spec {W0 : World} {H : Heap} (hT : TabH Tryd.prog H) :
    Ct Tryd.prog 14 #[] W0 H [] (fun r H' B => r = .bool true ∧ B = []) := by
  refine Ct.go fun R => ?_
  refine walk ?_
  refine ops_bsN rfl rfl fun pb _ => ?_
  refine ops_frzR .here fun H1 hl1 hr1 => ?_
  refine walk ?_
  refine ops_call (vs := [.agg #[I 4, I 3, I 2, .slice (some ⟨pb, 0, none⟩) 1 1]]) rfl rfl (gNew_spec (m0_reads hr1)) fun r2 H2 B hl2 ⟨g, e, er, eB, h⟩ => ?_
  subst er eB
  obtain ⟨hg, hG, rfl⟩ : goodM m0 ∧ rG H2 g m0 ∧ e = I 0 := by
    rcases h with h | h
    · exact h
    · exact absurd (by decide) h.1
  have hGp := hG
  obtain ⟨⟨b, s, mb, mm, rfl, h1, h2, h3, h4⟩, hgd, hfs⟩ := hGp
  refine walk ?_
  refine ops_bsN rfl rfl fun pc _ => ?_
  refine ops_frzR .here fun H3 hl3 hr3 => ?_
  refine walk ?_
  refine ops_alloc rfl fun p3 _ => ?_
  refine walkG ?_
  refine ops_call (vs := [.pointer (some ⟨b, 0, none⟩), .agg #[I 3, .slice (some ⟨pc, 0, none⟩) 3 3]]) rfl rfl (check_spec (hG.mono hl3) (r1_reads hr3)) fun r4 H4 B hl4 ⟨er, eB⟩ => ?_
  subst er eB
  rw [show checkR m0 ⟨3, [6, 7, 7]⟩ = 0 by decide]
  refine walkG ?_
  refine ops_call (vs := [.agg #[I 3, .slice (some ⟨pc, 0, none⟩) 3 3]]) rfl rfl (pKeys_spec (hT.mono (hl1.trans (hl2.trans (hl3.trans hl4)))) (rRoute_up (r1_reads hr3) hl4)) fun r5 H5 B hl5 ⟨hks, eB⟩ => ?_
  subst eB
  rw [k1_keys] at hks
  refine walkG ?_
  refine ops_bsN rfl rfl fun pd _ => ?_
  refine ops_frzR .here fun H6 hl6 hr6 => ?_
  refine walkG ?_
  refine ops_pcall rfl rfl (texts_spec (hks.mono hl6).1 (strs_lit (xs := [[99, 54, 64, 51], [112, 54, 45, 55, 64, 51], [99, 55, 64, 52], [99, 55, 64, 53]].map sb) hr6 (by decide) (by decide)).1) ?_
  rw [decide_eq_true (p := _ = _) rfl]
  refine walkG ?_
  refine ops_bsN rfl rfl fun pe _ => ?_
  refine ops_frzR .here fun H7 hl7 hr7 => ?_
  refine walkG ?_
  have hmm := meet_spec (W0 := W0) (rRoute_up (r1_reads hr3) (hl4.trans (hl5.trans (hl6.trans hl7)))) (r2_reads hr7)
  rw [m1_meet] at hmm
  refine ops_pcall rfl rfl hmm ?_
  refine walkG ?_
  refine fin0 ?_
  exact ⟨rfl, rfl⟩
end Go.Proofs.YtnfmjkjhiolfdaaDoor
