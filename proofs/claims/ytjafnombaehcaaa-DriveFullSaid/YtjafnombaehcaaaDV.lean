/- The document's example; whatever is played. -/
import Derived.Test.YtjafnombaehcaaaDU
set_option linter.unusedVariables false
set_option linter.unusedSimpArgs false
namespace Go.Proofs.Ytjafnombaehcaaa
open Go Go.Sx Go.Proofs
def nA : ByteArray := ⟨#[97]⟩
def w1 : Drive := appM newM nA [1, 2, 3]
def w2 : Drive := syncM w1 nA
def w3 : Drive := appM w2 nA [4, 5]
def w4 : Drive := crashM w3 [1]
theorem nA47 : nA.size ≤ cap47 := by decide
theorem wa1 : appC newM nA 3 = 0 := by decide +kernel
theorem wa2 : lookM w1 nA = 0 := by decide +kernel
theorem wa3 : appC w2 nA 2 = 0 := by decide +kernel
theorem wa4 : readC w4 nA = 0 := by decide +kernel
theorem wa5 : readT w4 nA = ⟨#[1, 2, 3, 4]⟩ := by decide +kernel
theorem wa6 : looseV w3 nA = 2 := by decide +kernel
theorem wa7 : looseV w4 nA = 0 := by decide +kernel
theorem wa8 : newM.Steps ≤ 1000000000 ∧ w1.Steps ≤ 1000000000 ∧ w2.Steps ≤ 1000000000 := by decide +kernel
theorem rl3 {H : Heap} : RL rU8 H [.int .u8 1, .int .u8 2, .int .u8 3] [1, 2, 3] := ⟨[.int .u8 1], _, rfl, ⟨rfl, rfl⟩, [.int .u8 2], _, rfl, ⟨rfl, rfl⟩, [.int .u8 3], _, rfl, ⟨rfl, rfl⟩, rfl⟩
theorem rl2 {H : Heap} : RL rU8 H [.int .u8 4, .int .u8 5] [4, 5] := ⟨[.int .u8 4], _, rfl, ⟨rfl, rfl⟩, [.int .u8 5], _, rfl, ⟨rfl, rfl⟩, rfl⟩
theorem rl1 {H : Heap} : RL rInt H [I 1] [1] := ⟨[I 1], _, rfl, ⟨rfl, by unfold fits; omega⟩, rfl⟩
set_option maxHeartbeats 4000000 in
theorem awake_spec {W0 : World} {H : Heap} :
    Ct Try.prog 8 #[] W0 H [] (fun r H' B => r = .bool true ∧ B = []) := by
  refine Ct.go (vs := []) fun R => ?_
  refine walk ?_
  refine ops_call rfl rfl new_spec fun r1 H1 B hl1 ⟨b, er, eB, eH⟩ => ?_
  subst er eB eH
  refine walk ?_
  refine ops_bsN rfl rfl fun p1 _ => ?_
  refine ops_frzR .here fun H2 hl2 hr2 => ?_
  have ha1 := append_spec (W0 := W0) (b := b) (m := newM) (n := nA) (ns := [1, 2, 3]) nA47 wa8.1 (v0 := .slice (some ⟨p1, 0, none⟩) 3 3) ⟨slr_of_hrow hr2 rl3 (Nat.le_refl _) (by decide), by decide⟩
  refine ops_call rfl rfl ha1 fun r3 H3 B hl3 ⟨er, eB, eH⟩ => ?_
  subst er eB eH
  rw [show appC newM nA ([1, 2, 3] : List Int).length = 0 from wa1, show appM newM nA [1, 2, 3] = w1 from rfl]
  refine walk ?_
  refine ops_call rfl rfl (sync_spec (b := b) (m := w1) (n := nA) nA47 wa8.2.1) fun r4 H4 B hl4 ⟨er, eB, eH⟩ => ?_
  subst er eB eH
  rw [wa2, show syncM w1 nA = w2 from rfl]
  refine walk ?_
  refine ops_bsN rfl rfl fun p5 _ => ?_
  refine ops_frzR .here fun H5 hl5 hr5 => ?_
  have ha2 := append_spec (W0 := W0) (b := b) (m := w2) (n := nA) (ns := [4, 5]) nA47 wa8.2.2 (v0 := .slice (some ⟨p5, 0, none⟩) 2 2) ⟨slr_of_hrow hr5 rl2 (Nat.le_refl _) (by decide), by decide⟩
  refine ops_call rfl rfl ha2 fun r6 H6 B hl6 ⟨er, eB, eH⟩ => ?_
  subst er eB eH
  rw [show appC w2 nA ([4, 5] : List Int).length = 0 from wa3, show appM w2 nA [4, 5] = w3 from rfl]
  refine walk ?_
  refine ops_bsN rfl rfl fun p7 _ => ?_
  refine ops_frzR .here fun H7 hl7 hr7 => ?_
  have ha3 := crash_spec (W0 := W0) (b := b) (m := w3) (ks := [1]) (v0 := .slice (some ⟨p7, 0, none⟩) 1 1) ⟨slr_of_hrow hr7 rl1 (Nat.le_refl _) (by decide), by decide⟩
  refine ops_call rfl rfl ha3 fun r8 H8 B hl8 ⟨q, er, eB, eH⟩ => ?_
  subst er eB eH
  rw [show crashM w3 [1] = w4 from rfl]
  refine walk ?_
  refine ops_call rfl rfl (read_spec (b := q) (m := w4) (n := nA) nA47) fun r9 H9 B hl9 ⟨v, ns, er, hns, eB, eH⟩ => ?_
  subst er eB eH
  rw [wa4]
  rw [wa5] at hns
  refine walk ?_
  refine ops_freeze v fun H10 hl10 hs10 => ?_
  refine walk ?_
  refine ops_b2sS rfl rfl hs10.1 ?_
  rw [hns]
  refine walk ?_
  rw [decide_eq_true (p := (⟨#[1, 2, 3, 4]⟩ : ByteArray) = ⟨#[1, 2, 3, 4]⟩) rfl]
  refine walk ?_
  refine ops_pcall rfl rfl (loose_spec (m := w3) (n := nA)) ?_
  rw [wa6]
  refine walk ?_
  refine ops_pcall rfl rfl (loose_spec (m := w4) (n := nA)) ?_
  rw [wa7]
  refine walk ?_
  refine fin0 ?_
  exact ⟨rfl, rfl⟩
set_option maxHeartbeats 4000000 in
theorem plays_spec {W0 : World} {H : Heap} {v0 : Value} {script : List Op} (h0 : SlB rOp 6 96 H v0 script) :
    Ct Try.prog 4 #[v0] W0 H [] (fun r H' B => r = .bool true ∧ B = []) := by
  refine Ct.go (vs := [v0]) fun R => ?_
  obtain ⟨b0, c0, rfl, hc0, hd0⟩ := h0.1.shape
  refine walk ?_
  refine ops_call rfl rfl (built_spec h0) fun r1 H1 B hl1 ⟨b1, c1, er, h1, eB⟩ => ?_
  subst er eB
  obtain ⟨b6, d6, rfl⟩ := rd_open h1
  refine walk ?_
  refine ops_alloc rfl fun p4 _ => ?_
  refine walk ?_
  refine ops_call rfl rfl awake_spec fun r2 H2 B hl2 ⟨er, eB⟩ => ?_
  subst er eB
  refine walk ?_
  refine fin0 ?_
  exact ⟨rfl, rfl⟩
end Go.Proofs.Ytjafnombaehcaaa
