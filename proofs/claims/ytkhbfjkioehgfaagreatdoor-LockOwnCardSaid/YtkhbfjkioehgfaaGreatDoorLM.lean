/- The reference's Holder. -/
import Derived.Test.YtkhbfjkioehgfaaGreatDoorLL
set_option linter.unusedVariables false
set_option linter.unusedSimpArgs false
namespace Go.Proofs.YtkhbfjkioehgfaaGreatDoor
open Go Go.Sx Go.Proofs
def findH (l : List Hold) (k : ByteArray) : Option Hold := l.find? fun h => decide (h.Key = k)
def rHolderV (l : List Hold) (k : ByteArray) : Value := .tuple [I (match findH l k with | some h => h.Robot | none => 0), .bool (findH l k).isSome].toArray
theorem rHolder_spec {W0 : World} {H : Heap} {c : List Value} {m : Table} {k : ByteArray} (h0 : rTable H c m) :
    Ct Tryz.prog 38 #[.agg c.toArray, .string k] W0 H [] (fun r H' B => r = rHolderV m.Held k ∧ B = [] ∧ H' = H) := by
  refine Ct.go (vs := [.agg c.toArray, .string k]) fun R => ?_
  obtain ⟨s1, s2, rfl, hs1, hs2⟩ := h0
  obtain ⟨b1, c1, rfl, hc1, hd1⟩ := hs1.1.shape
  obtain ⟨b2, c2, rfl, hc2, hd2⟩ := hs2.1.shape
  obtain ⟨l, pr⟩ := m
  dsimp only at *
  refine walk ?_
  refine ops_box rfl rfl fun p2 _ => ?_
  refine walk ?_
  refine ex_loop (σ := Nat) (fun j => j ≤ l.length ∧ findH (l.take j) k = none) (fun j => [(1, .string k), (2, .pointer (some ⟨p2, 0, none⟩)), (6, I j)]) (fun _ => H) (fun _ => row p2 55 [.slice b1 l.length c1, .slice b2 pr.length c2] :: R) (fun j => l.length - j) 0 ⟨Nat.zero_le _, rfl⟩ fun j ⟨hj0, hj⟩ K hL => ?_
  refine walk ?_
  refine ex_if rfl (fun hk => ?_) (fun hk => ?_)
  · have hk1 : j < l.length := by omega
    have ht := List.take_succ_eq_append_getElem hk1
    refine walk ?_
    refine ops_ixp rfl rfl hs1.1 hk1 fun b o cc hr hc => ?_
    obtain ⟨rfl, hsz, hfr⟩ := hc
    refine walk ?_
    refine ex_if rfl (fun hq => ?_) (fun hq => ?_)
    · refine walk ?_
      refine ops_ixp rfl rfl hs1.1 hk1 fun b' o' cc' hr' hc' => ?_
      obtain ⟨rfl, _, _⟩ := hc'
      refine walk ?_
      refine fin0 ?_
      have e : findH l k = some l[j] := by
        have h1 : findH (l.take (j + 1)) k = some l[j] := by
          unfold findH at hj ⊢
          rw [ht, List.find?_append, hj]
          simp [hq]
        unfold findH at h1 ⊢
        have h2 : ∀ (u v : List Hold) (r : Hold), u.find? (fun h => decide (h.Key = k)) = some r → (u ++ v).find? (fun h => decide (h.Key = k)) = some r := fun u v r h => by rw [List.find?_append, h]; rfl
        have h3 := h2 _ (l.drop (j + 1)) _ h1
        simpa only [List.take_append_drop] using h3
      exact ⟨by unfold rHolderV; rw [e]; rfl, rfl, rfl⟩
    · refine walk ?_
      refine out_next hL (j + 1) ⟨by omega, ?_⟩
      unfold findH at hj ⊢
      rw [ht, List.find?_append, hj]
      simp [hq]
  · clear hL
    obtain rfl : j = l.length := by omega
    rw [List.take_length] at hj
    refine walk ?_
    refine fin0 ?_
    exact ⟨by unfold rHolderV; rw [hj]; rfl, rfl, rfl⟩
end Go.Proofs.YtkhbfjkioehgfaaGreatDoor
