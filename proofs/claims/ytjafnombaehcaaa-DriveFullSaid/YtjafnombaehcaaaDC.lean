/- The drive's small functions, over its parts. -/
import Derived.Test.YtjafnombaehcaaaDB
import Derived.Test.YtjafnombaehcaaaE31
set_option linter.unusedVariables false
set_option linter.unusedSimpArgs false
namespace Go.Proofs.Ytjafnombaehcaaa
open Go Go.Sx Go.Proofs
/-- a byte that a name may hold -/
def okB (x : Int) : Prop := ((97 ≤ x ∧ x ≤ 122) ∨ (48 ≤ x ∧ x ≤ 57)) ∨ x = 45 ∨ x = 46
instance {x : Int} : Decidable (okB x) := by unfold okB; infer_instance
/-- a name -/
def okL (l : List UInt8) : Prop := (1 ≤ l.length ∧ l.length ≤ 32) ∧ ∀ u ∈ l, okB (u.toNat : Int)
instance {l : List UInt8} : Decidable (okL l) := by unfold okL; infer_instance
set_option maxHeartbeats 4000000 in
theorem good_spec {W0 : World} {H : Heap} {l : List UInt8} (hl : l.length ≤ cap47) :
    Ct Try.prog 29 #[.string (sb l)] W0 H [] (fun r H' B => r = .bool (decide (okL l)) ∧ B = [] ∧ H' = H) := by
  refine Ct.go (vs := [.string (sb l)]) fun R => ?_
  have hsz : (sb l).size = l.length := sb_size l
  have hne : sb l = ⟨#[]⟩ ↔ l.length = 0 := by
    rw [show (⟨#[]⟩ : ByteArray) = sb [] from rfl, sb_inj]; exact List.length_eq_zero_iff.symm
  refine walkG ?_
  refine ex_if rfl (fun hq => ?_) (fun hq => ?_)
  · refine walk ?_
    refine fin0 ?_
    refine ⟨?_, rfl, rfl⟩
    rw [decide_eq_false]
    intro h
    simp only [okL] at h
    rw [hne, hsz] at hq
    omega
  rw [hne, hsz] at hq
  refine walk ?_
  rw [hsz]
  refine ex_loop (σ := Nat) (fun k => k ≤ l.length ∧ ∀ u ∈ l.take k, okB (u.toNat : Int)) (fun k => [(0, .string (sb l)), (13, I l.length), (14, I k)]) (fun _ => H) (fun _ => R) (fun k => l.length - k) 0 ⟨Nat.zero_le _, by simp⟩ fun k ⟨hk0, hk⟩ K hL => ?_
  refine walk ?_
  refine ex_if rfl (fun hk1 => ?_) (fun hk1 => ?_)
  · have hk2 : k < l.length := by omega
    have ht := List.take_succ_eq_append_getElem hk2
    have hgd : l.getD k 0 = l[k] := by simp [List.getD, hk2]
    refine walkG ?_
    rw [hgd]
    have hmem := List.getElem_mem hk2
    generalize l[k] = u at *
    refine ex_if rfl (fun hx => ?_) (fun hx => ?_)
    · refine walk ?_
      refine fin0 ?_
      refine ⟨?_, rfl, rfl⟩
      rw [decide_eq_false]
      intro h
      have := h.2 u hmem
      simp only [okB] at this
      omega
    · refine walk ?_
      refine out_next hL (k + 1) ⟨by omega, fun x hx' => ?_⟩
      rw [ht] at hx'
      rcases List.mem_append.1 hx' with hx' | hx'
      · exact hk x hx'
      · rw [List.mem_singleton.1 hx']
        simp only [okB]
        omega
  · clear hL
    obtain rfl : k = l.length := by omega
    rw [List.take_length] at hk
    refine walk ?_
    refine fin0 ?_
    refine ⟨?_, rfl, rfl⟩
    rw [decide_eq_true]
    exact ⟨by omega, hk⟩
/-- a name, as a text -/
def okN (n : ByteArray) : Prop := okL n.data.toList
instance {n : ByteArray} : Decidable (okN n) := by unfold okN; infer_instance
theorem goodN_spec {W0 : World} {H : Heap} {n : ByteArray} (hn : n.size ≤ cap47) :
    Ct Try.prog 29 #[.string n] W0 H [] (fun r H' B => r = .bool (decide (okN n)) ∧ B = [] ∧ H' = H) := by
  have h := good_spec (W0 := W0) (H := H) (l := n.data.toList) (by rw [← Lib.size_eq]; exact hn)
  rw [← sb_of n] at h
  exact h
abbrev nilP : Value := .pointer none
/-- what find answers -/
def findV (zs : List FE) (n : ByteArray) : Value := if okN n then (match mget n (msF zs) with | some v => .tuple #[v, I 0] | none => .tuple #[nilP, I 4]) else .tuple #[nilP, I 20]
abbrev dRow (b mb : Nat) (st : Int) (ar : Bool) (lf : Int) : HProp := row b 61 [.map (some mb), I st, .bool ar, I lf]
abbrev dMap (mb : Nat) (zs : List FE) : HProp := mapO Value.string rVal false Heap.empty mb (msF zs)
set_option maxHeartbeats 4000000 in
theorem find_spec {W0 : World} {H : Heap} {b mb : Nat} {st lf : Int} {ar : Bool} {zs : List FE} {n : ByteArray} (hn : n.size ≤ cap47) :
    Ct Try.prog 27 #[.pointer (some ⟨b, 0, none⟩), .string n] W0 H [dRow b mb st ar lf, dMap mb zs] (fun r H' B => r = findV zs n ∧ B = [dRow b mb st ar lf, dMap mb zs] ∧ H' = H) := by
  refine Ct.go (vs := [.pointer (some ⟨b, 0, none⟩), .string n]) fun R => ?_
  refine walk ?_
  refine ops_pcall rfl rfl (goodN_spec hn) ?_
  refine walk ?_
  refine ex_if rfl (fun hq => ?_) (fun hq => ?_)
  · refine walk ?_
    refine finB [dRow b mb st ar lf, dMap mb zs] ?_
    exact ⟨by unfold findV; rw [if_neg hq], rfl, rfl⟩
  have hok : okN n := Classical.not_not.1 hq
  refine walk ?_
  refine ops_lkO (RV := rVal) (val := fun x : Value => x) (z := nilP) rfl rfl ((by repeat (first | exact Has.here | apply Has.there))) ?_
  cases hm : mget n (msF zs) with
  | none =>
    have hv : findV zs n = .tuple #[nilP, I 4] := by unfold findV; rw [if_pos hok, hm]
    rw [Option.getD_none]
    refine walk ?_
    refine finB [dRow b mb st ar lf, dMap mb zs] ?_
    exact ⟨hv.symm, rfl, rfl⟩
  | some v =>
    have hv : findV zs n = .tuple #[v, I 0] := by unfold findV; rw [if_pos hok, hm]
    obtain ⟨e, he, hev⟩ := List.mem_map.1 (mget_mem hm)
    cases hev
    rw [Option.getD_some]
    refine walk ?_
    refine finB [dRow b mb st ar lf, dMap mb zs] ?_
    exact ⟨hv.symm, rfl, rfl⟩
/-- no step is left -/
def deadV (ar : Bool) (lf : Int) : Prop := ar = true ∧ lf ≤ 0
instance {ar : Bool} {lf : Int} : Decidable (deadV ar lf) := by unfold deadV; infer_instance
theorem dead_spec {W0 : World} {H : Heap} {b mb : Nat} {st lf : Int} {ar : Bool} :
    Ct Try.prog 19 #[.pointer (some ⟨b, 0, none⟩)] W0 H [dRow b mb st ar lf] (fun r H' B => r = .bool (decide (deadV ar lf)) ∧ B = [dRow b mb st ar lf] ∧ H' = H) := by
  refine Ct.go (vs := [.pointer (some ⟨b, 0, none⟩)]) fun R => ?_
  cases ar with
  | false =>
    refine walk ?_
    refine finB [dRow b mb st false lf] ?_
    exact ⟨by simp [deadV], rfl, rfl⟩
  | true =>
    refine walk ?_
    refine finB [dRow b mb st true lf] ?_
    exact ⟨by simp [deadV], rfl, rfl⟩
/-- a step is taken -/
theorem step_spec {W0 : World} {H : Heap} {b mb : Nat} {st lf : Int} {ar : Bool} (f1 : fits (st + 1)) (f2 : fits (lf - 1)) :
    Ct Try.prog 28 #[.pointer (some ⟨b, 0, none⟩)] W0 H [dRow b mb st ar lf] (fun r H' B => r = I (if deadV ar lf then 6 else 0) ∧ B = [dRow b mb (if deadV ar lf then st else st + 1) ar (if deadV ar lf then lf else lf - 1)] ∧ H' = H) := by
  refine Ct.go (vs := [.pointer (some ⟨b, 0, none⟩)]) fun R => ?_
  refine walk ?_
  refine ops_pcall rfl rfl dead_spec ?_
  refine walk ?_
  refine ex_if rfl (fun hq => ?_) (fun hq => ?_)
  · rw [if_pos hq, if_pos hq, if_pos hq]
    refine walk ?_
    refine finB [dRow b mb st ar lf] ?_
    exact ⟨rfl, rfl, rfl⟩
  · rw [if_neg hq, if_neg hq, if_neg hq]
    refine walk ?_
    refine finB [dRow b mb (st + 1) ar (lf - 1)] ?_
    exact ⟨rfl, rfl, rfl⟩
end Go.Proofs.Ytjafnombaehcaaa
