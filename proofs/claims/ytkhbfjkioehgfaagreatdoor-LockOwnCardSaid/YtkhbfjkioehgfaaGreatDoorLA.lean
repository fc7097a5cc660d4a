/- Lists of texts: cloned, joined. -/
import Derived.Test.YtkhbfjkioehgfaaGreatDoorSRF
import Derived.Test.YtkhbfjkioehgfaaGreatDoorL0
import Derived.Test.YtkhbfjkioehgfaaGreatDoorKC
import Derived.Test.YtkhbfjkioehgfaaGreatDoorKD
set_option linter.unusedVariables false
set_option linter.unusedSimpArgs false
namespace Go.Proofs.YtkhbfjkioehgfaaGreatDoor
open Go Go.Sx Go.Proofs
theorem cloneT_spec {W0 : World} {H : Heap} {v : Value} {xs : List ByteArray} (h0 : SlB rStr 1 16 H v xs) :
    Ct Tryz.prog 52 #[v] W0 H [] (fun r H' B => B = [ownS rStr 1 16 9 H r xs] ∧ H' = H) := by
  refine Ct.go fun R => ?_
  obtain ⟨b0, c0, rfl, hc0, hd0⟩ := h0.1.shape
  refine walk ?_
  refine ex_if rfl (fun h => ?_) (fun h => ?_)
  · subst h
    refine walk ?_
    obtain rfl : xs = [] := by
      obtain ⟨⟨cs, ⟨b, c, e, _, hl, _, h⟩, _⟩, _⟩ := h0
      cases e
      rcases h with h | ⟨b, off, h, _⟩
      · exact List.eq_nil_of_length_eq_zero h
      · cases h
    refine finB [ownS rStr 1 16 9 H (.slice none 0 0) []] ?_ (hs := ownS_nil)
    exact ⟨rfl, rfl⟩
  · refine walk ?_
    refine ops_mk0 (w := 16) rStr rfl fun b => ?_
    refine walk ?_
    refine ops_appS rfl rfl h0.1 (by simpa using h0.2) fun base cap => ?_
    refine walk ?_
    refine finB [_] ?_
    exact ⟨rfl, rfl⟩
theorem grow0_spec {W0 : World} {H : Heap} {n : Nat} (hn : n * 16 ≤ cap47) :
    Ct Tryz.prog 49 #[nilS, I n] W0 H [] (fun r H' B => B = [ownS rStr 1 16 9 H r []] ∧ H' = H) := by
  refine Ct.go fun R => ?_
  simp only [cap47] at hn
  have e0 : (n : Int) - (((0 : Nat) : Int) - ((0 : Nat) : Int)) = n := by omega
  by_cases h0 : n = 0
  · subst h0
    refine walk ?_
    refine finB [ownS rStr 1 16 9 H nilS []] ?_ (hs := ownS_nil)
    exact ⟨rfl, rfl⟩
  · refine walk ?_
    rw [e0]
    refine ops_zapp rfl rfl (by omega) (by omega) (by omega) fun b cap cs h1 h2 h3 => ?_
    refine walk ?_
    refine finB [ownS rStr 1 16 9 H (.slice (some ⟨b, 0, none⟩) 0 cap) []] ?_ (hs := own_room (by simpa using h3) h2)
    exact ⟨rfl, rfl⟩
def sumLen (xss : List (List ByteArray)) : Nat := (xss.map List.length).sum
theorem sumLen_snoc {xss : List (List ByteArray)} {x : List ByteArray} : sumLen (xss ++ [x]) = sumLen xss + x.length := by simp [sumLen]
theorem sumLen_take {xss : List (List ByteArray)} {k : Nat} : sumLen (xss.take k) ≤ sumLen xss := by
  have : sumLen xss = sumLen (xss.take k) + sumLen (xss.drop k) := by
    unfold sumLen; rw [← List.sum_append, ← List.map_append, List.take_append_drop]
  omega
theorem flat_len {xss : List (List ByteArray)} : xss.flatten.length = sumLen xss := by simp [sumLen, List.length_flatten]
set_option maxHeartbeats 4000000 in
theorem concat_spec {W0 : World} {H : Heap} {v : Value} {xss : List (List ByteArray)} (h0 : SlR (rSl rStr 1 16) 1 H v xss) (hs : sumLen xss * 16 ≤ cap47) :
    Ct Tryz.prog 25 #[v] W0 H [] (fun r H' B => B = [ownS rStr 1 16 9 H r xss.flatten] ∧ H' = H) := by
  refine Ct.go fun R => ?_
  obtain ⟨b0, c0, rfl, hc0, hd0⟩ := h0.shape
  have hs' := hs
  simp only [cap47] at hs'
  refine walk ?_
  refine ex_loop (σ := Nat × Int) (fun s => s.1 ≤ xss.length ∧ s.2 = sumLen (xss.take s.1)) (fun s => [(0, .slice b0 xss.length c0), (3, I s.2), (9, .slice b0 xss.length c0), (10, I xss.length), (11, I s.1)]) (fun _ => H) (fun _ => R) (fun s => xss.length - s.1) (0, 0) ⟨Nat.zero_le _, rfl⟩ fun ⟨k, z⟩ ⟨hk0, hz⟩ K hL => ?_
  simp only at hk0 hz
  dsimp only
  have hst := sumLen_take (xss := xss) (k := k)
  refine walk ?_
  refine ex_if rfl (fun hk => ?_) (fun hk => ?_)
  · have hk1 : k < xss.length := by omega
    have hst2 := sumLen_take (xss := xss) (k := k + 1)
    have hsn : sumLen (xss.take (k + 1)) = sumLen (xss.take k) + xss[k].length := by rw [List.take_succ_eq_append_getElem hk1, sumLen_snoc]
    refine walk ?_
    refine ops_ixp rfl rfl h0 hk1 fun b o c hr hc => ?_
    obtain ⟨w, rfl, hw⟩ := hc
    obtain ⟨b2, c2, rfl, _, _⟩ := hw.1.shape
    refine walk ?_
    exact out_next hL (k + 1, z + (xss[k].length : Nat)) ⟨by simp only; omega, by simp only; rw [hsn, hz]; omega⟩
  · clear hL
    obtain rfl : k = xss.length := by omega
    rw [List.take_length] at hz
    subst hz
    refine walk ?_
    refine ops_call (vs := [nilS, I (sumLen xss)]) rfl rfl (grow0_spec hs) fun r1 H1 B hl1 ⟨eB, eH⟩ => ?_
    subst eB eH
    refine walk ?_
    refine ex_loop (σ := Nat × Value) (fun s => s.1 ≤ xss.length) (fun s => [(6, s.2), (25, .slice b0 xss.length c0), (26, I xss.length), (27, I s.1)]) (fun _ => H1) (fun s => ownS rStr 1 16 9 H1 s.2 (xss.take s.1).flatten :: R) (fun s => xss.length - s.1) (0, r1) (Nat.zero_le _) fun ⟨k, v⟩ hk0 K hL => ?_
    simp only at hk0
    dsimp only
    refine walk ?_
    refine ex_if rfl (fun hk => ?_) (fun hk => ?_)
    · have hk1 : k < xss.length := by omega
      have hst2 := sumLen_take (xss := xss) (k := k + 1)
      have hsn : sumLen (xss.take (k + 1)) = sumLen (xss.take k) + xss[k].length := by rw [List.take_succ_eq_append_getElem hk1, sumLen_snoc]
      refine walk ?_
      refine ops_ixp rfl rfl h0 hk1 fun b o c hr hc => ?_
      obtain ⟨w, rfl, hw⟩ := hc
      obtain ⟨b2, c2, rfl, _, _⟩ := hw.1.shape
      refine walk ?_
      refine ops_appS rfl rfl hw.1 (by rw [flat_len]; simp only [cap47]; omega) fun d1 e1 => ?_
      refine walk ?_
      refine out_next hL (k + 1, _) (by simp only; omega) (hs := ?_)
      dsimp only
      rw [List.take_succ_eq_append_getElem hk1, List.flatten_append, List.length_append.symm]
      simp only [List.flatten_cons, List.flatten_nil, List.append_nil]
      exact Sub.refl _
    · clear hL
      obtain rfl : k = xss.length := by omega
      rw [List.take_length]
      refine walk ?_
      refine finB [ownS rStr 1 16 9 H1 v xss.flatten] ?_
      exact ⟨rfl, rfl⟩
end Go.Proofs.YtkhbfjkioehgfaaGreatDoor
