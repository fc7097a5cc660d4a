/- The law's own. -/
import Derived.Test.YtkhbfjkioehgfaaGreatDoorLJ
set_option linter.unusedVariables false
set_option linter.unusedSimpArgs false
namespace Go.Proofs.YtkhbfjkioehgfaaGreatDoor
open Go Go.Sx Go.Proofs
def clipW (w : Work) : Work := ⟨w.Robot, w.Take.take 40, w.Drop.take 40⟩
theorem slr_take {H : Heap} {b0 : Option Addr} {c0 n j : Nat} {l : List ByteArray} (h : SlR rStr 1 H (.slice b0 n c0) l) (hj : j ≤ l.length) : SlR rStr 1 H (.slice b0 j c0) (l.take j) := by
  have h := h.slc (l := 0) (h := j) (Nat.zero_le _) hj
  have e0 : Sx.slc b0 c0 0 j 1 = .slice b0 j c0 := by unfold Sx.slc; cases b0 <;> simp [Addr.add]
  rw [e0] at h
  simpa using h
theorem lawOwn_spec {W0 : World} {H : Heap} {cw : List Value} {w : Work} (hw : rWork H cw w) :
    Ct Tryz.prog 11 #[.agg cw.toArray] W0 H [] (fun r H' B => ∃ cs, r = .agg cs.toArray ∧ rWork H' cs (clipW w) ∧ B = []) := by
  refine Ct.go (vs := [.agg cw.toArray]) fun R => ?_
  obtain ⟨s1, s2, rfl, hrob, hs1, hs2⟩ := hw
  obtain ⟨b1, c1, rfl, hc1, hd1⟩ := hs1.1.shape
  obtain ⟨b2, c2, rfl, hc2, hd2⟩ := hs2.1.shape
  have hk1 : (min (w.Take.length : Int) 40).toNat = (clipW w).Take.length := by simp [clipW]; omega
  have hk2 : (min (w.Drop.length : Int) 40).toNat = (clipW w).Drop.length := by simp [clipW]; omega
  have ht1 := slr_take (j := (clipW w).Take.length) hs1.1 (by simp [clipW]; omega)
  have ht2 := slr_take (j := (clipW w).Drop.length) hs2.1 (by simp [clipW]; omega)
  rw [show w.Take.take (clipW w).Take.length = (clipW w).Take by simp [clipW, List.take_take]] at ht1
  rw [show w.Drop.take (clipW w).Drop.length = (clipW w).Drop by simp [clipW, List.take_take]] at ht2
  refine walk ?_
  refine ops_box rfl rfl fun p1 _ => ?_
  refine ops_alloc rfl fun p2 _ => ?_
  refine walk ?_
  refine ops_mk0 (w := 16) rStr rfl fun b3 => ?_
  refine walk ?_
  rw [hk1]
  refine ops_appS rfl rfl ht1 (by simp [clipW, cap47]; omega) fun d1 e1 => ?_
  simp only [List.length_nil, Nat.zero_add, List.nil_append]
  refine walk ?_
  refine ops_mk0 (w := 16) rStr rfl fun b4 => ?_
  refine walk ?_
  rw [hk2]
  refine ops_appS rfl rfl ht2 (by simp [clipW, cap47]; omega) fun d2 e2 => ?_
  simp only [List.length_nil, Nat.zero_add, List.nil_append]
  refine walk ?_
  refine out_freeze (.slice d1 (clipW w).Take.length e1) fun H3 hl3 k1 => ?_
  refine out_freeze (.slice d2 (clipW w).Drop.length e2) fun H4 hl4 k2 => ?_
  refine fin0 ?_
  exact ⟨(clipW w).cv (.slice d1 (clipW w).Take.length e1) (.slice d2 (clipW w).Drop.length e2), rfl, ⟨_, _, rfl, hrob, k1.mono hl4, k2⟩, rfl⟩
end Go.Proofs.YtkhbfjkioehgfaaGreatDoor
