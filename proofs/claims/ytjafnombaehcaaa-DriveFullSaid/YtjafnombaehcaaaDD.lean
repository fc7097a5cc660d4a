/- The names, rising. -/
import Derived.Test.YtjafnombaehcaaaDC
import Derived.Test.YtjafnombaehcaaaShelf
set_option linter.unusedVariables false
set_option linter.unusedSimpArgs false
namespace Go.Proofs.Ytjafnombaehcaaa
open Go Go.Sx Go.Proofs Go.Shelf Go.RowKit Go.Maps Go.Sort
theorem sorts_at (m : Nat) : AnyZ.SortsIn Try.prog Try.sorted30_ren Fence.wide m :=
  ⟨fun blk off cap ss W hH hblk hsz => callsIn_wide.2 (AnyM.slices_Sort_string Try.sort45 blk off cap ss W hH hblk hsz),
   fun p cap W => callsIn_wide.2 (AnyM.slices_Sort_string_none Try.sort45 p cap W)⟩
theorem keys_ct {W0 : World} {H : Heap} {b : Nat} : Ct Try.prog 31 #[.map (some b)] W0 H [] (fun r H' B => ∃ p, r = .func (.func 46) #[] #[.pointer (some ⟨p, 0, none⟩)] ∧ B = [row p 59 [.map (some b)]] ∧ H' = H) :=
  ct_keys fun mb W => callsIn_wide.1 (AnyZ.keys_in Try.keys31 Fence.wide 5 trivial rfl mb W)
theorem sorted_ct {ν : Type} {RV : Sx.Rd ν} {W0 : World} {H H0 : Heap} {p b : Nat} {ms : List (ByteArray × ν)} (hs : ∀ q ∈ ms, q.1.size ≤ cap47) (hl : ms.length * 16 ≤ cap47) :
    Ct Try.prog 30 #[.func (.func 46) #[] #[.pointer (some ⟨p, 0, none⟩)]] W0 H [row p 59 [.map (some b)], mapO Value.string RV false H0 b ms] (fun r H' B => B = [ownS rStr 1 16 9 H r (sortT (ms.map (·.1))), mapO Value.string RV false H0 b ms] ∧ H' = H) :=
  ct_sortedKeys (k := 9) Try.underlying9 (fun w nn D0 R hown hp hc hm hb =>
    callsIn_wide.1 (AnyZ.sorted_in Try.sorted30 Fence.wide 5 trivial trivial trivial trivial rfl (by omega) (sorts_at _) (enters_of Try.func45 (by kernel_rfl) rfl) 46 #[.pointer (some ⟨p, 0, none⟩)] trivial (enters_of Try.func46 (by kernel_rfl) rfl) _ _ hm hb _
      (AnyZ.keys_gives (ρ := Try.keys31_ren) { Try.keys31 with } Fence.wide _ trivial rfl (by omega) p b nn D0 w hp hc hown))) hs hl
theorem names_spec {W0 : World} {H : Heap} {b mb : Nat} {st lf : Int} {ar : Bool} {zs : List FE} (hs : ∀ e ∈ zs, e.nm.size ≤ cap47) (hl : zs.length * 16 ≤ cap47) :
    Ct Try.prog 14 #[.pointer (some ⟨b, 0, none⟩)] W0 H [dRow b mb st ar lf, dMap mb zs] (fun r H' B => B = [ownS rStr 1 16 9 H r (sortT ((msF zs).map (·.1))), dMap mb zs, dRow b mb st ar lf] ∧ H' = H) := by
  refine Ct.go (vs := [.pointer (some ⟨b, 0, none⟩)]) fun R => ?_
  refine walk ?_
  refine ops_call rfl rfl keys_ct fun r1 H1 B hl1 ⟨p, er, eB, eH⟩ => ?_
  subst er eB eH
  have hc := sorted_ct (W0 := W0) (H := H1) (H0 := Heap.empty) (RV := rVal) (p := p) (b := mb) (ms := msF zs) (fun q hq => by obtain ⟨e, he, rfl⟩ := List.mem_map.1 hq; exact hs e he) (by simpa [msF] using hl)
  refine ops_call rfl rfl hc fun r2 H2 B hl2 ⟨eB, eH⟩ => ?_
  subst eB eH
  refine walk ?_
  refine finB [ownS rStr 1 16 9 H2 r2 (sortT ((msF zs).map (·.1))), dMap mb zs, dRow b mb st ar lf] ?_
  exact ⟨rfl, rfl⟩
end Go.Proofs.Ytjafnombaehcaaa
