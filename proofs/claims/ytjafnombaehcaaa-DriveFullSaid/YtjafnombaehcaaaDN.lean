/- The reference's with and without. -/
import Derived.Test.YtjafnombaehcaaaDM
set_option linter.unusedVariables false
set_option linter.unusedSimpArgs false
namespace Go.Proofs.Ytjafnombaehcaaa
open Go Go.Sx Go.Proofs
theorem stepW_len {f g : RF} {s : Bool × List RF} : (stepW f s g).2.length ≤ s.2.length + 2 := by
  unfold stepW stepW2 stepW1
  split <;> split <;> simp <;> omega
theorem foldW_len {f : RF} : ∀ {l : List RF} {s : Bool × List RF}, (l.foldl (stepW f) s).2.length ≤ s.2.length + 2 * l.length
  | [], s => by simp
  | g :: l, s => by
    rw [List.foldl_cons]
    refine Nat.le_trans foldW_len ?_
    have := stepW_len (f := f) (g := g) (s := s)
    simp only [List.length_cons]; omega
set_option maxHeartbeats 8000000 in
theorem with_spec {W0 : World} {H : Heap} {m : Drive} {c cf : List Value} {f : RF} (h0 : rDrive H c m) (hf : rRF H cf f) (hz : m.Files.length ≤ 1000) :
    Ct Try.prog 42 #[.agg c.toArray, .agg cf.toArray] W0 H [] (fun r H' B => ∃ c', r = .agg c'.toArray ∧ rDrive H' c' (filesM m (withF m.Files f)) ∧ B = []) := by
  refine Ct.go (vs := [.agg c.toArray, .agg cf.toArray]) fun R => ?_
  obtain ⟨rfl, hf1, hf2, hf3⟩ := hf
  obtain ⟨s0, rfl, h1, f1, f2⟩ := h0
  obtain ⟨b0, c0, rfl, hc0, hd0⟩ := h1.1.shape
  obtain ⟨fs, st, ar, lf⟩ := m
  dsimp only at *
  refine walk ?_
  refine ops_box rfl rfl fun p2 _ => ?_
  refine walk ?_
  refine ops_box rfl rfl fun p3 _ => ?_
  refine walk ?_
  refine ops_alloc rfl fun p4 _ => ?_
  refine walk ?_
  refine ex_L (L' := ownS rRF 3 40 75 H nilS [] :: row p4 38 [nilS, I 0, .bool false, I 0] :: row p3 75 [.string f.Name, .string f.B, I f.Synced] :: row p2 38 [.slice b0 fs.length c0, I st, .bool ar, I lf] :: R) (Sub.trans (by (repeat (first | exact Sub.refl _ | exact Sub.nil _ | (apply sub_pick; (repeat (first | exact Has.here | apply Has.there)); skip) | apply Sub.drop))) ownS_nil) ?_
  refine ex_loop (σ := Nat × Option Addr × Nat) (fun s => s.1 ≤ fs.length)
    (fun s => [(2, .pointer (some ⟨p2, 0, none⟩)), (3, .pointer (some ⟨p3, 0, none⟩)), (4, .pointer (some ⟨p4, 0, none⟩)), (5, .slice s.2.1 ((fs.take s.1).foldl (stepW f) (false, [])).2.length s.2.2), (6, .bool ((fs.take s.1).foldl (stepW f) (false, [])).1), (7, I s.1)]) (fun _ => H)
    (fun s => ownS rRF 3 40 75 H (.slice s.2.1 ((fs.take s.1).foldl (stepW f) (false, [])).2.length s.2.2) ((fs.take s.1).foldl (stepW f) (false, [])).2 :: row p4 38 [nilS, I 0, .bool false, I 0] :: row p3 75 [.string f.Name, .string f.B, I f.Synced] :: row p2 38 [.slice b0 fs.length c0, I st, .bool ar, I lf] :: R)
    (fun s => fs.length - s.1) (0, none, 0) (Nat.zero_le _) fun ⟨k, d, e⟩ hk0 K hL => ?_
  dsimp only at hk0 ⊢
  have hsl := foldW_len (f := f) (l := fs.take k) (s := (false, []))
  rw [List.length_take] at hsl
  obtain ⟨s, hs⟩ : ∃ s, s = (fs.take k).foldl (stepW f) (false, []) := ⟨_, rfl⟩
  rw [← hs] at hsl ⊢
  simp only [List.length_nil] at hsl
  refine walk ?_
  refine ex_if rfl (fun hk1 => ?_) (fun hk1 => ?_)
  · have hk2 : k < fs.length := by omega
    have ht := List.take_succ_eq_append_getElem hk2
    have hs1 : (fs.take (k + 1)).foldl (stepW f) (false, []) = stepW f s fs[k] := by rw [ht, List.foldl_append, ← hs]; rfl
    obtain ⟨put, l⟩ := s
    dsimp only at hsl ⊢
    refine walk ?_
    have hcapA : (l.length + 1) * 40 ≤ cap47 := by simp only [cap47]; omega
    have hw1 : (stepW1 f (put, l) fs[k]).2.length ≤ l.length + 1 := by unfold stepW1; split <;> simp
    refine ops_cut1 (σ := Option Addr × Nat) (fun _ => True)
      (fun u => [(2, .pointer (some ⟨p2, 0, none⟩)), (3, .pointer (some ⟨p3, 0, none⟩)), (4, .pointer (some ⟨p4, 0, none⟩)), (5, .slice u.1 (stepW1 f (put, l) fs[k]).2.length u.2), (6, .bool (stepW1 f (put, l) fs[k]).1), (7, I k)]) (fun _ => H)
      (fun u => ownS rRF 3 40 75 H (.slice u.1 (stepW1 f (put, l) fs[k]).2.length u.2) (stepW1 f (put, l) fs[k]).2 :: row p4 38 [nilS, I 0, .bool false, I 0] :: row p3 75 [.string f.Name, .string f.B, I f.Synced] :: row p2 38 [.slice b0 fs.length c0, I st, .bool ar, I lf] :: R)
      (fun K2 hK2 => ?_) (fun ⟨d2, e2⟩ _ => ?_)
    · cases put with
      | true =>
        have hs2 : stepW1 f (true, l) fs[k] = (true, l) := if_neg fun h => by cases h.1
        rw [hs2] at hK2
        rw [show (!true) = false from rfl]
        refine walk ?_
        exact out_to hK2 (d, e) trivial
      | false =>
        rw [show (!false) = true from rfl]
        refine walk ?_
        refine ops_ixp rfl rfl h1.1 hk2 (fun b off cc hr hc => ?_)
        obtain ⟨rfl, hn1, hn2, hn3⟩ := hc
        refine walk ?_
        refine ex_if rfl (fun hq => ?_) (fun hq => ?_)
        · have hs2 : stepW1 f (false, l) fs[k] = (true, l ++ [f]) := if_pos ⟨rfl, hq⟩
          rw [hs2] at hK2
          refine walk ?_
          refine ops_app1 (y := f) rfl rfl rfl ⟨rfl, hf1, hf2, hf3⟩ hcapA fun d3 e3 => ?_
          rw [show l.length + 1 = (l ++ [f]).length by simp]
          refine walk ?_
          exact out_to hK2 (d3, e3) trivial
        · have hs2 : stepW1 f (false, l) fs[k] = (false, l) := if_neg fun h => hq h.2
          rw [hs2] at hK2
          refine walk ?_
          exact out_to hK2 (d, e) trivial
    have hs3 : stepW f (put, l) fs[k] = stepW2 f (stepW1 f (put, l) fs[k]) fs[k] := rfl
    rw [hs3] at hs1
    generalize stepW1 f (put, l) fs[k] = s1 at *
    obtain ⟨put1, l1⟩ := s1
    dsimp only at hw1 ⊢
    have hcapB : (l1.length + 1) * 40 ≤ cap47 := by simp only [cap47]; omega
    have hfsl := h1.2
    simp only [cap47] at hfsl
    refine walk ?_
    refine ops_ixp rfl rfl h1.1 hk2 (fun b off cc hr hc => ?_)
    obtain ⟨rfl, hn1, hn2, hn3⟩ := hc
    refine walk ?_
    refine ex_if rfl (fun hq => ?_) (fun hq => ?_)
    · have hs4 : (fs.take (k + 1)).foldl (stepW f) (false, []) = (put1, l1 ++ [fs[k]]) := hs1.trans (if_pos hq)
      clear hr
      refine walk ?_
      refine ops_ixp rfl rfl h1.1 hk2 (fun b off cc hr hc => ?_)
      obtain ⟨rfl, _, _, _⟩ := hc
      refine ops_ldNH rfl rfl hr rfl ?_
      refine ops_app1 (y := fs[k]) rfl rfl rfl ⟨rfl, hn1, hn2, hn3⟩ hcapB fun d3 e3 => ?_
      rw [show l1.length + 1 = (l1 ++ [fs[k]]).length by simp]
      refine walk ?_
      refine out_next hL (k + 1, d3, e3) (by dsimp only; omega) (hs := ?_) (hf := ?_)
      · dsimp only
        rw [hs4]
        (repeat (first | exact Sub.refl _ | exact Sub.nil _ | (apply sub_pick; (repeat (first | exact Has.here | apply Has.there)); skip) | apply Sub.drop))
      · dsimp only
        rw [hs4]
        repeat (first | exact fsub_nil _ | refine fsub_cons rfl ?_)
    · have hs4 : (fs.take (k + 1)).foldl (stepW f) (false, []) = (put1, l1) := hs1.trans (if_neg hq)
      refine walk ?_
      refine out_next hL (k + 1, d2, e2) (by dsimp only; omega) (hs := ?_) (hf := ?_)
      · dsimp only
        rw [hs4]
        (repeat (first | exact Sub.refl _ | exact Sub.nil _ | (apply sub_pick; (repeat (first | exact Has.here | apply Has.there)); skip) | apply Sub.drop))
      · dsimp only
        rw [hs4]
        repeat (first | exact fsub_nil _ | refine fsub_cons rfl ?_)
  · clear hL
    obtain rfl : k = fs.length := by omega
    rw [List.take_length] at hs
    have hwf : withF fs f = if s.1 = true then s.2 else s.2 ++ [f] := by rw [hs]; rfl
    obtain ⟨put, l⟩ := s
    dsimp only at hsl hwf ⊢
    cases put with
    | true =>
      rw [if_pos rfl] at hwf
      refine walk ?_
      refine out_freeze (.slice d l.length e) fun H3 hl3 hs3 => ?_
      refine fin0 ?_
      exact ⟨_, rfl, ⟨_, rfl, by rw [show (filesM ⟨fs, st, ar, lf⟩ (withF fs f)).Files = l from hwf]; exact hs3, f1, f2⟩, rfl⟩
    | false =>
      rw [if_neg (by decide)] at hwf
      have hcapA : (l.length + 1) * 40 ≤ cap47 := by simp only [cap47]; omega
      refine walk ?_
      refine ops_app1 (y := f) rfl rfl rfl ⟨rfl, hf1, hf2, hf3⟩ hcapA fun d3 e3 => ?_
      rw [show l.length + 1 = (l ++ [f]).length by simp]
      refine walk ?_
      refine out_freeze (.slice d3 (l ++ [f]).length e3) fun H3 hl3 hs3 => ?_
      refine fin0 ?_
      exact ⟨_, rfl, ⟨_, rfl, by rw [show (filesM ⟨fs, st, ar, lf⟩ (withF fs f)).Files = l ++ [f] from hwf]; exact hs3, f1, f2⟩, rfl⟩
set_option maxHeartbeats 8000000 in
theorem without_spec {W0 : World} {H : Heap} {m : Drive} {c : List Value} {n : ByteArray} (h0 : rDrive H c m) (hn : n.size ≤ cap47) :
    Ct Try.prog 49 #[.agg c.toArray, .string n] W0 H [] (fun r H' B => ∃ c', r = .agg c'.toArray ∧ rDrive H' c' (filesM m (outF m.Files n)) ∧ B = []) := by
  refine Ct.go (vs := [.agg c.toArray, .string n]) fun R => ?_
  obtain ⟨s0, rfl, h1, f1, f2⟩ := h0
  obtain ⟨b0, c0, rfl, hc0, hd0⟩ := h1.1.shape
  obtain ⟨fs, st, ar, lf⟩ := m
  dsimp only at *
  refine walk ?_
  refine ops_box rfl rfl fun p2 _ => ?_
  refine walk ?_
  refine ops_alloc rfl fun p4 _ => ?_
  refine walk ?_
  refine ex_L (L' := ownS rRF 3 40 75 H nilS [] :: row p4 38 [nilS, I 0, .bool false, I 0] :: row p2 38 [.slice b0 fs.length c0, I st, .bool ar, I lf] :: R) (Sub.trans (by (repeat (first | exact Sub.refl _ | exact Sub.nil _ | (apply sub_pick; (repeat (first | exact Has.here | apply Has.there)); skip) | apply Sub.drop))) ownS_nil) ?_
  refine ex_loop (σ := Nat × Option Addr × Nat) (fun s => s.1 ≤ fs.length)
    (fun s => [(1, .string n), (2, .pointer (some ⟨p2, 0, none⟩)), (4, .pointer (some ⟨p4, 0, none⟩)), (5, .slice s.2.1 (outF (fs.take s.1) n).length s.2.2), (6, I s.1)]) (fun _ => H)
    (fun s => ownS rRF 3 40 75 H (.slice s.2.1 (outF (fs.take s.1) n).length s.2.2) (outF (fs.take s.1) n) :: row p4 38 [nilS, I 0, .bool false, I 0] :: row p2 38 [.slice b0 fs.length c0, I st, .bool ar, I lf] :: R)
    (fun s => fs.length - s.1) (0, none, 0) (Nat.zero_le _) fun ⟨k, d, e⟩ hk0 K hL => ?_
  dsimp only at hk0 ⊢
  have hsl : (outF (fs.take k) n).length ≤ k := by
    refine Nat.le_trans (List.length_filter_le _ _) ?_
    rw [List.length_take]; omega
  obtain ⟨l, hl⟩ : ∃ l, l = outF (fs.take k) n := ⟨_, rfl⟩
  rw [← hl] at hsl ⊢
  have hfsl := h1.2
  refine walk ?_
  refine ex_if rfl (fun hk1 => ?_) (fun hk1 => ?_)
  · have hk2 : k < fs.length := by omega
    have ht := List.take_succ_eq_append_getElem hk2
    have hs1 : outF (fs.take (k + 1)) n = l ++ outF [fs[k]] n := by rw [ht, hl, outF, List.filter_append]; rfl
    have hcapA : (l.length + 1) * 40 ≤ cap47 := by simp only [cap47] at hfsl ⊢; omega
    simp only [cap47] at hfsl
    refine walk ?_
    refine ops_ixp rfl rfl h1.1 hk2 (fun b off cc hr hc => ?_)
    obtain ⟨rfl, hn1, hn2, hn3⟩ := hc
    refine walk ?_
    refine ex_if rfl (fun hq => ?_) (fun hq => ?_)
    · have hs4 : outF (fs.take (k + 1)) n = l ++ [fs[k]] := by rw [hs1]; simp [outF, hq]
      clear hr
      refine walk ?_
      refine ops_ixp rfl rfl h1.1 hk2 (fun b off cc hr hc => ?_)
      obtain ⟨rfl, _, _, _⟩ := hc
      refine ops_ldNH rfl rfl hr rfl ?_
      refine ops_app1 (y := fs[k]) rfl rfl rfl ⟨rfl, hn1, hn2, hn3⟩ hcapA fun d3 e3 => ?_
      rw [show l.length + 1 = (l ++ [fs[k]]).length by simp]
      refine walk ?_
      refine out_next hL (k + 1, d3, e3) (by dsimp only; omega) (hs := ?_) (hf := ?_)
      · dsimp only
        rw [hs4]
        (repeat (first | exact Sub.refl _ | exact Sub.nil _ | (apply sub_pick; (repeat (first | exact Has.here | apply Has.there)); skip) | apply Sub.drop))
      · dsimp only
        rw [hs4]
        repeat (first | exact fsub_nil _ | refine fsub_cons rfl ?_)
    · have hs4 : outF (fs.take (k + 1)) n = l := by rw [hs1]; simp [outF, Classical.not_not.1 hq]
      refine walk ?_
      refine out_next hL (k + 1, d, e) (by dsimp only; omega) (hs := ?_) (hf := ?_)
      · dsimp only
        rw [hs4]
        (repeat (first | exact Sub.refl _ | exact Sub.nil _ | (apply sub_pick; (repeat (first | exact Has.here | apply Has.there)); skip) | apply Sub.drop))
      · dsimp only
        rw [hs4]
        repeat (first | exact fsub_nil _ | refine fsub_cons rfl ?_)
  · clear hL
    obtain rfl : k = fs.length := by omega
    rw [List.take_length] at hl
    refine walk ?_
    refine out_freeze (.slice d l.length e) fun H3 hl3 hs3 => ?_
    refine fin0 ?_
    exact ⟨_, rfl, ⟨_, rfl, by rw [show (filesM ⟨fs, st, ar, lf⟩ (outF fs n)).Files = l from hl.symm]; exact hs3, f1, f2⟩, rfl⟩
end Go.Proofs.Ytjafnombaehcaaa
