/- All held keys. -/
import Derived.Test.YtkhbfjkioehgfaaGreatDoorLD
set_option linter.unusedVariables false
set_option linter.unusedSimpArgs false
namespace Go.Proofs.YtkhbfjkioehgfaaGreatDoor
open Go Go.Sx Go.Proofs Go.Shelf Go.RowKit Go.Maps Go.Sort
theorem sorts_at (m : Nat) : AnyZ.SortsIn Tryz.prog Tryz.sortedS_ren Fence.wide m :=
  ⟨fun blk off cap ss W hH hblk hsz => callsIn_wide.2 (AnyM.slices_Sort_string Tryz.sortS blk off cap ss W hH hblk hsz),
   fun p cap W => callsIn_wide.2 (AnyM.slices_Sort_string_none Tryz.sortS p cap W)⟩
theorem keys_ct {W0 : World} {H : Heap} {b : Nat} : Ct Tryz.prog 30 #[.map (some b)] W0 H [] (fun r H' B => ∃ p, r = .func (.func 54) #[] #[.pointer (some ⟨p, 0, none⟩)] ∧ B = [row p 67 [.map (some b)]] ∧ H' = H) :=
  ct_keys fun mb W => callsIn_wide.1 (AnyZ.keys_in Tryz.keysS Fence.wide 5 trivial rfl mb W)
theorem sorted_ct {ν : Type} {RV : Sx.Rd ν} {W0 : World} {H H0 : Heap} {p b : Nat} {ms : List (ByteArray × ν)} (hs : ∀ q ∈ ms, q.1.size ≤ cap47) (hl : ms.length * 16 ≤ cap47) :
    Ct Tryz.prog 29 #[.func (.func 54) #[] #[.pointer (some ⟨p, 0, none⟩)]] W0 H [row p 67 [.map (some b)], mapO Value.string RV false H0 b ms] (fun r H' B => B = [ownS rStr 1 16 9 H r (sortT (ms.map (·.1))), mapO Value.string RV false H0 b ms] ∧ H' = H) :=
  ct_sortedKeys (k := 9) Tryz.underlying9 (fun w nn D0 R hown hp hc hm hb =>
    callsIn_wide.1 (AnyZ.sorted_in Tryz.sortedS Fence.wide 5 trivial trivial trivial trivial rfl (by omega) (sorts_at _) (enters_of Tryz.func26 (by kernel_rfl) rfl) 54 #[.pointer (some ⟨p, 0, none⟩)] trivial (enters_of Tryz.func54 (by kernel_rfl) rfl) _ _ hm hb _
      (AnyZ.keys_gives (ρ := Tryz.keysS_ren) { Tryz.keysS with } Fence.wide _ trivial rfl (by omega) p b nn D0 w hp hc hown))) hs hl
theorem sortT_len (xs : List ByteArray) : (sortT xs).length = xs.length := by simp [sortT]
theorem mem_sortT {xs : List ByteArray} {x : ByteArray} : x ∈ sortT xs ↔ x ∈ xs := by
  unfold sortT
  simp only [List.mem_map, List.mem_mergeSort]
  constructor
  · rintro ⟨l, ⟨y, hy, rfl⟩, rfl⟩; exact hy
  · exact fun h => ⟨_, ⟨x, h, rfl⟩, rfl⟩
/-- what a table keeps to, so that it can be read -/
structure TsOk (s : TS) : Prop where
  hk : ∀ q ∈ s.held, q.1.size ≤ cap47
  hf : ∀ q ∈ s.held, fits q.2
  hn : s.held.length ≤ 1000000
  wf : ∀ q ∈ s.works, fits q.1.1 ∧ fits q.1.2.1 ∧ fits q.1.2.2
  wn : s.works.length ≤ 1000000
/-- all that is held, rising -/
def holdOf (s : TS) (k : ByteArray) : Hold := ⟨k, (mget k s.held).getD 0⟩
def holdsL (s : TS) : List Hold := (sortT (s.held.map (·.1))).map (holdOf s)
theorem mget_fits {s : TS} (h : TsOk s) (k : ByteArray) : fits ((mget k s.held).getD 0) := by
  cases hg : mget k s.held with
  | none => exact fits0
  | some v => exact h.hf (k, v) (mget_mem hg)
set_option maxHeartbeats 4000000 in
theorem holds_spec {W0 : World} {H : Heap} {p : Nat} {s : TS} (hs : TsOk s) :
    Ct Tryz.prog 14 #[.pointer (some ⟨p, 0, none⟩)] W0 H [tabO H p s] (fun r H' B => B = [ownS rHold 2 24 43 H' r (holdsL s), tabO H' p s]) := by
  refine Ct.go (vs := [.pointer (some ⟨p, 0, none⟩)]) fun R => ?_
  have hn := hs.hn
  have hcap : (1000000 : Nat) * 24 ≤ cap47 := by decide
  refine ex_open (A := tabO H p s) (σ := Nat × Nat × Nat) (B := fun a => [tRow p a.1 a.2.1 a.2.2, hMap H a.1 s, lMap H a.2.1 s, wMap H a.2.2 s]) (p := fun _ => True) (by repeat (first | exact Has.here | apply Has.there)) (fun h ⟨hb, lb, wb, hbig⟩ => ⟨(hb, lb, wb), trivial, hbig⟩) fun ⟨hb, lb, wb⟩ _ => ?_
  dsimp only
  refine walk ?_
  refine ops_call rfl rfl keys_ct fun r1 H1 B hl1 ⟨pk, er, eB, eH⟩ => ?_
  subst er eB eH
  have hc := sorted_ct (W0 := W0) (H := H1) (H0 := H1) (RV := rInt) (p := pk) (b := hb) (ms := s.held) hs.hk (by simp only [cap47]; omega)
  refine ops_call rfl rfl hc fun r2 H2 B hl2 ⟨eB, eH⟩ => ?_
  subst eB eH
  have hlen : (sortT (s.held.map (·.1))).length = s.held.length := by rw [sortT_len, List.length_map]
  have hmem : ∀ k ∈ sortT (s.held.map (·.1)), k.size ≤ cap47 := fun k hk => by
    obtain ⟨q, hq, rfl⟩ := List.mem_map.1 (mem_sortT.1 hk)
    exact hs.hk q hq
  unfold holdsL
  generalize sortT (s.held.map (·.1)) = ks at *
  refine ops_freeze r2 fun H3 hl3 hsl => ?_
  obtain ⟨b0, c0, rfl, hc0, hd0⟩ := hsl.1.shape
  refine walk ?_
  refine ex_loop (σ := Nat × Option Addr × Nat) (fun u => u.1 ≤ ks.length) (fun u => [(0, .pointer (some ⟨p, 0, none⟩)), (11, .slice b0 ks.length c0), (12, I ks.length), (13, I u.1), (3, .slice u.2.1 ((ks.take u.1).map (holdOf s)).length u.2.2)]) (fun _ => H3)
    (fun u => ownS rHold 2 24 43 H3 (.slice u.2.1 ((ks.take u.1).map (holdOf s)).length u.2.2) ((ks.take u.1).map (holdOf s)) :: hMap H2 hb s :: tRow p hb lb wb :: lMap H2 lb s :: wMap H2 wb s :: R) (fun u => ks.length - u.1) (0, none, 0) (Nat.zero_le _) (hs0 := ?_) fun ⟨k, d, e⟩ hk0 K hL => ?_
  rotate_left
  · simp only [List.take_zero, List.map_nil, List.length_nil]
    refine Sub.trans ?_ ownS_nil
    (repeat (first | exact Sub.refl _ | exact Sub.nil _ | (apply sub_pick; (repeat (first | exact Has.here | apply Has.there)); skip) | apply Sub.drop))
  simp only at hk0
  dsimp only
  have hll : ((ks.take k).map (holdOf s)).length = k := by simp; omega
  refine walk ?_
  refine ex_if rfl (fun hk => ?_) (fun hk => ?_)
  · have hk1 : k < ks.length := by omega
    have ht := List.take_succ_eq_append_getElem hk1
    refine walk ?_
    refine ops_ixp rfl rfl hsl.1 hk1 fun b o c hr hc => ?_
    obtain ⟨rfl, hsz⟩ := hc
    refine walk ?_
    refine ops_lkA (RV := rInt) (ag := false) (z := 0) rfl rfl (by repeat (first | exact Has.here | apply Has.there)) ?_
    refine walk ?_
    refine ops_app1 (y := holdOf s ks[k]) rfl rfl rfl ⟨rfl, hsz, mget_fits hs _⟩ (by rw [hll]; simp only [cap47]; omega) fun d3 e3 => ?_
    have hse : (ks.take k).map (holdOf s) ++ [holdOf s ks[k]] = (ks.take (k + 1)).map (holdOf s) := by rw [ht, List.map_append]; rfl
    have hsl2 : ((ks.take k).map (holdOf s)).length + 1 = ((ks.take (k + 1)).map (holdOf s)).length := by rw [← hse]; simp
    rw [hsl2, hse]
    refine walk ?_
    exact out_next hL (k + 1, d3, e3) (by simp only; omega)
  · clear hL
    obtain rfl : k = ks.length := by omega
    refine walk ?_
    rw [List.take_length] at *
    refine finB [ownS rHold 2 24 43 H3 (.slice d (ks.map (holdOf s)).length e) (ks.map (holdOf s)), tabO H3 p s] ?_ (hs := ?_)
    · exact rfl
    · refine Sub.trans ?_ (Sub.cons (Sub.trans (tab_fold (H := H2) (hb := hb) (lb := lb) (wb := wb)) (tab_up hl3)))
      (repeat (first | exact Sub.refl _ | exact Sub.nil _ | (apply sub_pick; (repeat (first | exact Has.here | apply Has.there)); skip) | apply Sub.drop))
end Go.Proofs.YtkhbfjkioehgfaaGreatDoor
