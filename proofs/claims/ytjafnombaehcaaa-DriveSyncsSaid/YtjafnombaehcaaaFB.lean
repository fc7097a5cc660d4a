/- DriveSyncs: the walk. -/
import Derived.Test.YtjafnombaehcaaaFA
import Derived.Test.YtjafnombaehcaaaE28
set_option linter.unusedVariables false
set_option linter.unusedSimpArgs false
namespace Go.Proofs.Ytjafnombaehcaaa
open Go Go.Sx Go.Proofs
abbrev nmL (m : Drive) : List ByteArray := m.Files.map (·.Name)
theorem sameF_read {m m' : Drive} (h : DK m) (h' : DK m') (hs : SameF m m') {k : Nat} (hk : k < (nmL m).length) : readT m (nmL m)[k] = readT m' (nmL m)[k] := by
  have hk1 : k < m.Files.length := by simpa using hk
  have hl : m.Files.length = m'.Files.length := by simpa using congrArg List.length hs
  have hk2 : k < m'.Files.length := by omega
  have e := congrArg (fun l => l[k]?) hs
  simp only [List.getElem?_map, List.getElem?_eq_getElem hk1, List.getElem?_eq_getElem hk2, Option.map_some, Option.some.injEq, Prod.mk.injEq] at e
  have e1 : (nmL m)[k] = m.Files[k].Name := List.getElem_map _
  rw [e1]
  unfold readT
  rw [at_mem h.up (List.getElem_mem hk1), e.1, at_mem h'.up (List.getElem_mem hk2)]
  exact e.2
theorem nm_size {m : Drive} (h : DK m) {k : Nat} (hk : k < (nmL m).length) : (nmL m)[k].size ≤ cap47 := by
  have hk1 : k < m.Files.length := by simpa using hk
  rw [show (nmL m)[k] = m.Files[k].Name from List.getElem_map _]
  exact okN_size (h.ok _ (List.getElem_mem hk1)).1
set_option maxHeartbeats 8000000 in
theorem same_spec {W0 : World} {H : Heap} {b q : Nat} {m m' : Drive} (hs : SameF m m') :
    Ct Try.prog 22 #[.pointer (some ⟨b, 0, none⟩), .pointer (some ⟨q, 0, none⟩)] W0 H [driveO b m, driveO q m'] (fun r H' B => r = .bool true ∧ B = [driveO b m, driveO q m'] ∧ H' = H) := by
  refine Ct.go (vs := [.pointer (some ⟨b, 0, none⟩), .pointer (some ⟨q, 0, none⟩)]) fun R => ?_
  refine ex_know (A := driveO b m) (p := DK m) (by repeat (first | exact Has.here | apply Has.there)) (fun h => driveO_know) fun hk => ?_
  refine ex_know (A := driveO q m') (p := DK m') (by repeat (first | exact Has.here | apply Has.there)) (fun h => driveO_know) fun hk' => ?_
  refine walk ?_
  refine ops_call rfl rfl (namesO_spec (b := b) (m := m)) fun r1 H1 B hl1 ⟨eB, eH⟩ => ?_
  subst eB eH
  refine ops_freeze r1 fun H2 hl2 hs2 => ?_
  obtain ⟨b1, c1, rfl, hc1, hd1⟩ := hs2.1.shape
  refine walk ?_
  refine ops_call rfl rfl (namesO_spec (b := q) (m := m')) fun r3 H3 B hl3 ⟨eB, eH⟩ => ?_
  subst eB eH
  rw [show m'.Files.map (·.Name) = nmL m from hs.names.symm]
  refine ops_freeze r3 fun H4 hl4 hs4 => ?_
  obtain ⟨b3, c3, rfl, hc3, hd3⟩ := hs4.1.shape
  have hrd : ∀ k (hk1 : k < (nmL m).length), readT m (nmL m)[k] = readT m' (nmL m)[k] := fun k hk1 => sameF_read hk hk' hs hk1
  have hsz : ∀ k (hk1 : k < (nmL m).length), (nmL m)[k].size ≤ cap47 := fun k hk1 => nm_size hk hk1
  have hs24 := (hs2.mono hl4).1
  have hs44 := hs4.1
  have hln : (nmL m).length ≤ 256 := by simpa using hk.len
  change SlR rStr 1 H4 (.slice b1 (nmL m).length c1) (nmL m) at hs24
  rw [show m.Files.map (·.Name) = nmL m from rfl]
  generalize nmL m = ns at *
  refine walk ?_
  refine ex_loop (σ := Nat) (fun k => k ≤ ns.length) (fun k => [(0, .pointer (some ⟨b, 0, none⟩)), (1, .pointer (some ⟨q, 0, none⟩)), (5, .slice b1 ns.length c1), (6, .slice b3 ns.length c3), (24, I ns.length), (25, I k)]) (fun _ => H4)
    (fun _ => driveO b m :: driveO q m' :: R) (fun k => ns.length - k) 0 (Nat.zero_le _) fun k hk0 K hL => ?_
  refine walk ?_
  refine ex_if rfl (fun hq => ?_) (fun hq => ?_)
  · have hk1 : k < ns.length := by omega
    have hr1 := hrd k hk1
    have hz1 := hsz k hk1
    clear hrd hsz
    refine walk ?_
    refine ops_call rfl rfl (read_spec (b := b) (m := m) (n := ns[k]) hz1) fun r5 H5 B hl5 ⟨v5, n5, er, hn5, eB, eH⟩ => ?_
    subst er eB eH
    refine ops_freeze v5 fun H7 hl7 hs7 => ?_
    have h27 := hs24.mono hl7
    refine walk ?_
    refine ops_call rfl rfl (read_spec (b := q) (m := m') (n := ns[k]) hz1) fun r6 H6 B hl6 ⟨v6, n6, er, hn6, eB, eH⟩ => ?_
    subst er eB eH
    refine ops_freeze v6 fun H8 hl8 hs8 => ?_
    have hs78 := hs7.mono hl8
    have hne1 : ¬ ¬ ns[k] = ns[k] := fun h => h rfl
    have hne2 : ¬ ¬ readT m ns[k] = readT m ns[k] := fun h => h rfl
    have h28 := hs24.mono (hl7.trans hl8)
    have h48 := hs44.mono (hl7.trans hl8)
    refine walk ?_
    refine ops_b2sS rfl rfl hs78.1 ?_
    refine walk ?_
    refine ops_b2sS rfl rfl hs8.1 ?_
    rw [hn5, hn6, ← hr1]
    have hfit : fits ((k : Int) + 1) := by unfold fits; omega
    refine walk ?_
    refine out_weak (hl7.trans hl8) ?_
    exact out_next hL (k + 1) (by omega)
  · clear hL
    refine walk ?_
    refine out_weak (hl2.trans hl4) ?_
    refine finB [driveO b m, driveO q m'] ?_
    exact ⟨rfl, rfl, rfl⟩
end Go.Proofs.Ytjafnombaehcaaa
