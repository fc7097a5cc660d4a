/- Outcomes held against the reference's. -/
import Derived.Test.YthoafjeampbkeaaCUI
set_option linter.unusedVariables false
set_option linter.unusedSimpArgs false
namespace Go.Proofs.Ythoafjeampbkeaa
open Go Go.Sx Go.Proofs
set_option maxHeartbeats 8000000 in
set_option maxRecDepth 20000 in
theorem outcomes_spec {W0 : World} {H : Heap} {v0 v1 : Value} {l : List CoordOutcome} (h0 : SlR rOc 5 H v0 l) (h1 : SlR rO16 5 H v1 (l.map toOc)) :
    Ct Try.prog 41 #[v0, v1] W0 H [] (fun r H' B => r = .bool true ∧ B = [] ∧ H' = H) := by
  refine Ct.go (vs := [v0, v1]) fun R => ?_
  obtain ⟨b0, c0, rfl, hc0, hd0⟩ := h0.shape
  obtain ⟨b1, c1, rfl, hc1, hd1⟩ := h1.shape
  have hml : (l.map toOc).length = l.length := List.length_map ..
  rw [hml] at h1 hc1 ⊢
  refine walk ?_
  refine ex_loop (σ := Nat) (fun k => k ≤ l.length) (fun k => [(0, .slice b0 l.length c0), (1, .slice b1 l.length c1), (12, I l.length), (13, I k)]) (fun _ => H) (fun _ => R) (fun k => l.length - k) 0 (Nat.zero_le _) fun k hk0 K hL => ?_
  refine walk ?_
  refine ex_if rfl (fun hk => ?_) (fun hk => ?_)
  · have hk1 : k < l.length := by omega
    have hk2 : k < (l.map toOc).length := by omega
    obtain ⟨q, hq⟩ : ∃ q, l[k] = q := ⟨_, rfl⟩
    have hq2 : (l.map toOc)[k] = toOc q := by rw [List.getElem_map, hq]
    obtain ⟨⟨x1, x2, x3⟩, yy, dd⟩ := q
    have hyy : ¬ ¬ yy = yy := fun h => h rfl
    have hdd : ¬ ¬ dd = dd := fun h => h rfl
    refine walk ?_
    refine ops_ixp rfl rfl h0 hk1 fun ba oa ca ra ea => ?_
    rw [hq] at ea
    obtain ⟨rfl, _⟩ := ea
    change HRow H ba oa [I x1, I x2, I x3, .bool yy, .bool dd] at ra
    have ta : HRow H ba oa [I x1, I x2, I x3] := HRow.take (k := 3) ra
    refine walk ?_
    refine ops_ldNH rfl rfl ta rfl ?_
    refine walk ?_
    refine ops_ixp rfl rfl h1 hk2 fun bb ob cb rb eb => ?_
    rw [hq2] at eb
    obtain ⟨rfl, _⟩ := eb
    change HRow H bb ob [I x1, I x2, I x3, .bool yy, .bool dd] at rb
    have tb : HRow H bb ob [I x1, I x2, I x3] := HRow.take (k := 3) rb
    refine walk ?_
    refine ops_ldNH rfl rfl tb rfl ?_
    refine walk ?_
    refine ops_ixp rfl rfl h0 hk1 fun bc oc cc rc ec => ?_
    rw [hq] at ec
    obtain ⟨rfl, _⟩ := ec
    change HRow H bc oc [I x1, I x2, I x3, .bool yy, .bool dd] at rc
    refine walk ?_
    refine ops_ixp rfl rfl h1 hk2 fun bd od cd rd ed => ?_
    rw [hq2] at ed
    obtain ⟨rfl, _⟩ := ed
    change HRow H bd od [I x1, I x2, I x3, .bool yy, .bool dd] at rd
    refine walk ?_
    refine ops_ixp rfl rfl h0 hk1 fun be oe ce re ee => ?_
    rw [hq] at ee
    obtain ⟨rfl, _⟩ := ee
    change HRow H be oe [I x1, I x2, I x3, .bool yy, .bool dd] at re
    refine walk ?_
    refine ops_ixp rfl rfl h1 hk2 fun bf of cf rf ef => ?_
    rw [hq2] at ef
    obtain ⟨rfl, _⟩ := ef
    change HRow H bf of [I x1, I x2, I x3, .bool yy, .bool dd] at rf
    refine walk ?_
    exact out_next hL (k + 1) (by omega)
  · refine walk ?_
    refine fin0 ?_
    exact ⟨rfl, rfl, rfl⟩
end Go.Proofs.Ythoafjeampbkeaa
