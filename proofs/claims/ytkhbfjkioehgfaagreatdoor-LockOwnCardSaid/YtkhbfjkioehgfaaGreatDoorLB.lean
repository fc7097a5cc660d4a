/- Lists of texts: sorted, compacted; is one twice in a list? -/
import Derived.Test.YtkhbfjkioehgfaaGreatDoorLA
import Derived.Test.YtkhbfjkioehgfaaGreatDoorShelf2
set_option linter.unusedVariables false
set_option linter.unusedSimpArgs false
namespace Go.Proofs.YtkhbfjkioehgfaaGreatDoor
open Go Go.Sx Go.Proofs Go.Sort
section
variable {P : Program} {f : FuncId} {W0 : World} {H H0 : Heap} {T : Nat} {v : Value}
abbrev enS : ByteArray → Value := fun x => .string x
theorem enS_str (l : List UInt8) : enS (sb l) = encStr l := rfl
theorem row_str (xs : List ByteArray) : xs.map enS = (xs.map fun s => s.data.toList).map encStr := by
  rw [List.map_map]; rfl
theorem ct_sortS {xs : List ByteArray} (hsort : ∀ (blk off cap : Nat) (zs : List (List UInt8)) (w : World), Holds encStr w blk off zs.toArray → blk < w.heap.size → zs.length < 4611686018427387904 →
      Calls P f #[.slice (some ⟨blk, off, none⟩) zs.length cap] w fun e w' => e = .returned (.tuple #[]) ∧ ∃ n os, w' = grow (Go.Sort.putRow encStr (Sort.ahead w n) blk off (zs.mergeSort fun x y => decide (x ≤ y)).toArray) os)
    (hnone : ∀ (p : Option Addr) (cap : Nat) (w : World), Calls P f #[.slice p 0 cap] w fun e w' => e = .returned (.tuple #[]) ∧ w' = w) :
    Ct P f #[v] W0 H [ownS rStr 1 16 T H0 v xs] (fun r H' B => r = .tuple #[] ∧ B = [ownS rStr 1 16 T H0 v (sortT xs)] ∧ H' = H) := by
  intro w R hS
  obtain ⟨hA, hR, ⟨cs, ⟨hr, hw⟩, ho⟩, r, d, dA, dR, lA, lR⟩ := hS.parts
  obtain ⟨hcs, hok⟩ := RL.map1 hr
  obtain ⟨hl, hc⟩ := ho
  have hlen : (sortT xs).length = xs.length := by simp [sortT]
  have hok' : ∀ x ∈ sortT xs, x.size ≤ cap47 := fun x hx => by
    obtain ⟨l, hl1, rfl⟩ := List.mem_map.1 hx
    rw [List.mem_mergeSort] at hl1
    obtain ⟨q, hq, rfl⟩ := List.mem_map.1 hl1
    exact hok q hq
  have hrowS : (sortT xs).map enS = ((xs.map fun s => s.data.toList).mergeSort fun x y => decide (x ≤ y)).map encStr := by
    simp only [sortT, List.map_map]; rfl
  rcases hc with ⟨h0, b, rfl⟩ | ⟨b, cap, sp, rfl, hp0, h1, h2, h3, h4⟩
  · have hx : xs = [] := List.eq_nil_of_length_eq_zero h0
    subst hx
    refine (hnone b 0 w).mono ?_
    rintro e w' ⟨rfl, rfl⟩
    exact ⟨_, H, _, rfl, .refl _, ⟨rfl, rfl, rfl⟩, by simpa [sortT] using hS⟩
  · have hcs2 : cs = (xs.map fun s => s.data.toList).map encStr := hcs.trans (row_str xs)
    subst hcs2
    have hS' : St W0 H w (row b T ((xs.map fun s => s.data.toList).map encStr ++ sp) :: R) := St.of_parts hS.env hS.ro h4 r d dA dR lA lR
    have hso := hsort b 0 cap (xs.map fun s => s.data.toList) w hS'.holds (hp_lt (w := w) (b := b) hS'.ptRead.1) (by simp only [cap47] at hw; simp; omega)
    rw [List.length_map] at hso
    refine hso.mono ?_
    rintro e w' ⟨rfl, n, os, rfl⟩
    have hS2 := hS'.putRow (n := n) (os := os) (ys := (xs.map fun s => s.data.toList).mergeSort (fun x y => decide (x ≤ y))) (by simp)
    rw [← hrowS] at hS2
    refine ⟨_, H, [ownS rStr 1 16 T H0 (.slice (some ⟨b, 0, none⟩) xs.length cap) (sortT xs)], rfl, .refl _, ⟨rfl, rfl, rfl⟩, hS2.sub ?_⟩
    rintro h ⟨k1, k2, a, rr, q, l1, l2⟩
    refine ⟨k1, k2, ⟨_, ⟨RL.mk1 (R := rStr) (val := fun x => .string x) hok', by rw [hlen]; exact hw⟩, by simp [hlen], .inr ⟨b, cap, sp, by rw [hlen], hp0, by rw [hlen]; exact h1, h2, ?_, a⟩⟩, rr, q, l1, l2⟩
    simpa [hlen] using h3
/-- texts, each once of its run -/
def compT (xs : List ByteArray) : List ByteArray := (Lib.compact (xs.map fun s => s.data.toList)).map sb
theorem compT_len (xs : List ByteArray) : (compT xs).length ≤ xs.length := by
  have := compact_len (xs.map fun s => s.data.toList)
  simpa [compT] using this
theorem ct_compactS {xs : List ByteArray} (hcomp : ∀ (blk off cap : Nat) (zs : List (List UInt8)) (w : World), Holds encStr w blk off zs.toArray → zs.length ≤ 9223372036854775807 → zs.length ≤ cap →
      Calls P f #[.slice (some ⟨blk, off, none⟩) zs.length cap] w fun e w' => e = .returned (.slice (some ⟨blk, off, none⟩) (Lib.compact zs).length cap) ∧ ∃ q, w' = Go.Sort.putRow encStr (Sort.ahead w q) blk off (Lib.compact zs ++ List.replicate (zs.length - (Lib.compact zs).length) []).toArray)
    (hnone : ∀ (a : Option Addr) (cap : Nat) (w : World), Calls P f #[.slice a 0 cap] w fun e w' => e = .returned (.slice a 0 cap) ∧ w' = w) :
    Ct P f #[v] W0 H [ownS rStr 1 16 T H0 v xs] (fun r H' B => B = [ownS rStr 1 16 T H0 r (compT xs)] ∧ H' = H) := by
  intro w R hS
  obtain ⟨hA, hR, ⟨cs, ⟨hr, hw⟩, ho⟩, r, d, dA, dR, lA, lR⟩ := hS.parts
  obtain ⟨hcs, hok⟩ := RL.map1 hr
  obtain ⟨hl, hc⟩ := ho
  have hok' : ∀ x ∈ compT xs, x.size ≤ cap47 := fun x hx => by
    obtain ⟨l, hl1, rfl⟩ := List.mem_map.1 hx
    obtain ⟨q, hq, rfl⟩ := List.mem_map.1 (mem_compact.1 hl1)
    exact hok q hq
  have hlen := compT_len xs
  have hlc : (compT xs).length = (Lib.compact (xs.map fun s => s.data.toList)).length := by simp [compT]
  rcases hc with ⟨h0, b, rfl⟩ | ⟨b, cap, sp, rfl, hp0, h1, h2, h3, h4⟩
  · have hx : xs = [] := List.eq_nil_of_length_eq_zero h0
    subst hx
    refine (hnone b 0 w).mono ?_
    rintro e w' ⟨rfl, rfl⟩
    exact ⟨_, H, _, rfl, .refl _, ⟨rfl, rfl⟩, hS⟩
  · have hcs2 : cs = (xs.map fun s => s.data.toList).map encStr := hcs.trans (row_str xs)
    subst hcs2
    have hS' : St W0 H w (row b T ((xs.map fun s => s.data.toList).map encStr ++ sp) :: R) := St.of_parts hS.env hS.ro h4 r d dA dR lA lR
    have hco := hcomp b 0 cap (xs.map fun s => s.data.toList) w hS'.holds (by simp only [cap47] at hw; simp; omega) (by simpa using h1)
    rw [List.length_map] at hco
    refine hco.mono ?_
    rintro e w' ⟨rfl, q, rfl⟩
    have hS2 := hS'.putRow (n := q) (os := #[]) (ys := Lib.compact (xs.map fun (s : ByteArray) => s.data.toList) ++ List.replicate (xs.length - (Lib.compact (xs.map fun (s : ByteArray) => s.data.toList)).length) []) (by simp; omega)
    rw [grow_empty] at hS2
    refine ⟨_, H, [ownS rStr 1 16 T H0 (.slice (some ⟨b, 0, none⟩) (compT xs).length cap) (compT xs)], by rw [hlc], .refl _, ⟨rfl, rfl⟩, hS2.sub ?_⟩
    rintro h ⟨k1, k2, a, rr, qq, l1, l2⟩
    refine ⟨k1, k2, ⟨_, ⟨RL.mk1 (R := rStr) (val := fun x => .string x) hok', by omega⟩, by simp, .inr ⟨b, cap, (List.replicate (xs.length - (compT xs).length) ([] : List UInt8)).map encStr ++ sp, rfl, hp0, by omega, h2, ?_, ?_⟩⟩, rr, qq, l1, l2⟩
    · simp at h3 ⊢; omega
    · have : (compT xs).map (fun x => Value.string x) ++ ((List.replicate (xs.length - (compT xs).length) ([] : List UInt8)).map encStr ++ sp) = (Lib.compact (xs.map fun (s : ByteArray) => s.data.toList) ++ List.replicate (xs.length - (Lib.compact (xs.map fun (s : ByteArray) => s.data.toList)).length) []).map encStr ++ sp := by
        rw [← hlc]
        simp [compT]
      rw [this]; exact a
end
theorem sortS_ct {W0 : World} {H H0 : Heap} {v : Value} {xs : List ByteArray} :
    Ct Tryz.prog 26 #[v] W0 H [ownS rStr 1 16 9 H0 v xs] (fun r H' B => r = .tuple #[] ∧ B = [ownS rStr 1 16 9 H0 v (sortT xs)] ∧ H' = H) := ct_sortS Tryz.slices_Sort_string Tryz.slices_Sort_string_none
theorem compactS_ct {W0 : World} {H H0 : Heap} {v : Value} {xs : List ByteArray} :
    Ct Tryz.prog 27 #[v] W0 H [ownS rStr 1 16 9 H0 v xs] (fun r H' B => B = [ownS rStr 1 16 9 H0 r (compT xs)] ∧ H' = H) := ct_compactS Tryz.slices_Compact_string Tryz.slices_Compact_string_empty
end Go.Proofs.YtkhbfjkioehgfaaGreatDoor
