/- CoordLoads, walked. -/
import Derived.Test.YthoafjeampbkeaaCUA
import Derived.Test.YthoafjeampbkeaaCTV
set_option linter.unusedVariables false
set_option linter.unusedSimpArgs false
namespace Go.Proofs.Ythoafjeampbkeaa
open Go Go.Sx Go.Proofs
theorem slr_mem {α : Type} {R : Sx.Rd α} {sz : Nat} [RdOk R sz] {H : Heap} {v : Value} {xs : List α} (h : SlR R sz H v xs) {x : α} (hx : x ∈ xs) : ∃ c, R H c x := by
  obtain ⟨k, hk, rfl⟩ := List.getElem_of_mem hx
  obtain ⟨b, c, e, _, _⟩ := h.shape
  subst e
  obtain ⟨_, _, c, _, _, _, hc⟩ := h.get hk
  exact ⟨c, hc⟩
theorem slr_takeC {α : Type} {R : Sx.Rd α} {sz : Nat} [RdOk R sz] {H : Heap} {base : Option Addr} {m cap k : Nat} {xs : List α} (hr : SlR R sz H (.slice base m cap) xs) (h : k ≤ xs.length) : SlR R sz H (.slice base k cap) (xs.take k) := by
  obtain ⟨cs, ⟨base', cap', e, hc, hl, h1c, he⟩, b⟩ := hr
  cases e
  have hk : (xs.take k).length = k := by simp; omega
  have hmul : k * sz ≤ xs.length * sz := Nat.mul_le_mul_right _ h
  refine ⟨cs.take (k * sz), hk.symm ▸ ⟨_, _, rfl, by omega, by rw [List.length_take, hl]; omega, ?_, ?_⟩, b.take h⟩
  · simp only [List.all_eq_true] at h1c ⊢
    exact fun u hu => h1c u (List.mem_of_mem_take hu)
  · rcases he with he | ⟨b, off, rfl, hrow⟩
    · exact .inl (by omega)
    · exact .inr ⟨b, off, rfl, hrow.take⟩
theorem rec_fits {H : Heap} {c : List Value} {q : Rec} (h : rRec H c q) : (∀ p ∈ q.Parts, fits p) ∧ fits q.Txn.Life ∧ fits q.Txn.Count ∧ q.Parts.length * 8 ≤ cap47 := by
  obtain ⟨w1, w2, w3, rfl, g1, g2, g3, g4, g5, g6, g7, g8⟩ := h
  refine ⟨fun p hp => ?_, g3, g4, g8.2⟩
  obtain ⟨c, hc⟩ := slr_mem g8.1 hp
  exact hc.2
set_option maxHeartbeats 8000000 in
set_option maxRecDepth 20000 in
theorem coordLoads_spec {W0 : World} {H : Heap} {node life : Int} {v : Value} {open_ : List Rec} (hf1 : fits node) (hf2 : fits life) (h0 : SlB rRec 9 120 H v open_) :
    Ct Try.prog 5 #[I node, I life, v] W0 H [] (fun r H' B => r = .bool true ∧ B = []) := by
  refine Ct.go (vs := [I node, I life, v]) fun R => ?_
  obtain ⟨b0, c0, rfl, hc0, hd0⟩ := h0.1.shape
  refine walk ?_
  refine ops_call (vs := []) rfl rfl cawake_spec fun r1 H1 B hl1 ⟨er, eB⟩ => ?_
  subst er eB
  refine walk ?_
  refine ops_mk0 (w := 120) rRec rfl fun b3 => ?_
  refine walk ?_
  have hk1 : (min (open_.length : Int) 20).toNat = (open_.take 20).length := by rw [List.length_take]; omega
  rw [hk1]
  have hts : SlR rRec 9 H1 (.slice b0 (open_.take 20).length c0) (open_.take 20) := by
    have h := slr_takeC (k := (open_.take 20).length) (h0.1.mono hl1) (by rw [List.length_take]; omega)
    rwa [show open_.take (open_.take 20).length = open_.take 20 by rw [List.length_take, List.take_eq_take_min]; simp [Nat.min_assoc, Nat.min_comm]] at h
  have hlen : (open_.take 20).length ≤ 20 := by rw [List.length_take]; omega
  refine ops_appS rfl rfl hts (by simp only [cap47, List.length_nil]; omega) fun d1 e1 => ?_
  simp only [List.length_nil, Nat.zero_add, List.nil_append]
  refine ops_freeze (.slice d1 (open_.take 20).length e1) fun H2 hl2 hsl => ?_
  have hrec : ∀ q ∈ open_.take 20, (∀ p ∈ q.Parts, fits p) ∧ fits q.Txn.Life ∧ fits q.Txn.Count ∧ q.Parts.length * 8 ≤ cap47 := fun q hq => by
    obtain ⟨c, hc⟩ := slr_mem hsl.1 hq
    exact rec_fits hc
  generalize open_.take 20 = l at *
  refine walk ?_
  refine ops_call rfl rfl (cload_spec (W0 := W0) hf1 hf2 hsl (by omega)) fun r3 H3 B hl3 hQ => ?_
  rcases hQ with ⟨⟨q, hq, hbad⟩, er, eB⟩ | ⟨hok, hnd, er, eB⟩ | ⟨hok, hnd, p, er, eB⟩
  · subst er eB
    refine walk ?_
    refine ops_call rfl rfl (rLoadC_spec (W0 := W0) hf1 hf2 (hsl.mono hl3) (by omega)) fun r4 H4 B hl4 ⟨eB, hR⟩ => ?_
    subst eB
    rcases hR with ⟨_, er⟩ | ⟨hok2, _⟩ | ⟨hok2, _⟩
    · subst er
      refine walk ?_
      refine ops_alloc rfl fun p9 _ => ?_
      refine walk ?_
      refine fin0 ?_
      exact ⟨rfl, rfl⟩
    · exact absurd (hok2 q hq) hbad
    · exact absurd (hok2 q hq) hbad
  · subst er eB
    refine walk ?_
    refine ops_call rfl rfl (rLoadC_spec (W0 := W0) hf1 hf2 (hsl.mono hl3) (by omega)) fun r4 H4 B hl4 ⟨eB, hR⟩ => ?_
    subst eB
    rcases hR with ⟨⟨q, hq, hbad⟩, _⟩ | ⟨_, _, er⟩ | ⟨_, hnd2, _⟩
    · exact absurd (hok q hq) hbad
    · subst er
      refine walk ?_
      refine ops_alloc rfl fun p9 _ => ?_
      refine walk ?_
      refine fin0 ?_
      exact ⟨rfl, rfl⟩
    · exact absurd hnd2 hnd
  · subst er eB
    refine walk ?_
    refine ops_call rfl rfl (rLoadC_spec (W0 := W0) hf1 hf2 (hsl.mono hl3) (by omega)) fun r4 H4 B hl4 ⟨eB, hR⟩ => ?_
    subst eB
    rcases hR with ⟨⟨q, hq, hbad⟩, _⟩ | ⟨_, hnd2, _⟩ | ⟨_, _, c, er, hc⟩
    · exact absurd (hok q hq) hbad
    · exact absurd hnd hnd2
    subst er
    have hc0 := hc
    obtain ⟨s1, rfl, g1, g2, g3, hs1⟩ := hc
    obtain ⟨b1, c1, rfl, _, _⟩ := hs1.1.shape
    have I0 : CInv 20 ⟨node, life, 0, loadTs l []⟩ := CInv.load hf1 hf2 hlen fun q hq => ⟨hok q hq, (hrec q hq).1, (hrec q hq).2.1, (hrec q hq).2.2.1⟩
    have hpl : ∀ k t, mget k (loadTs l []) = some t → t.parts.length * 8 ≤ cap47 := loadTs_all (P := fun _ t => t.parts.length * 8 ≤ cap47) (fun k t h => (by cases h)) fun q hq => (hrec q hq).2.2.2
    refine walk ?_
    refine ops_alloc rfl fun p9 _ => ?_
    refine walk ?_
    refine ops_L (L' := coordO H4 p ⟨node, life, 0, loadTs l []⟩ :: row p9 35 [I node, I life, I 0, .slice b1 (loadRs l).length c1] :: R) ?_ ?_
    · refine Sub.trans ?_ (coord_up hl4)
      (repeat (first | exact Sub.refl _ | exact Sub.nil _ | (apply sub_pick; (repeat (first | exact Has.here | apply Has.there)); skip) | apply Sub.drop))
    refine ops_call rfl rfl (ctells_spec (W0 := W0) (H := H4) (p := p) (m := ⟨node, life, 0, loadRs l⟩) I0 (by omega) hpl crel_load hc0) fun r5 H5 B hl5 ⟨er, eB⟩ => ?_
    subst er eB
    refine walk ?_
    refine fin0 ?_
    exact ⟨rfl, rfl⟩
end Go.Proofs.Ythoafjeampbkeaa
