/- A new floor that is all its own; GridOwn, walked. -/
import Derived.Test.YtnfmjkjhiolfdaaDoorGP
import Derived.Test.YtnfmjkjhiolfdaaDoorGO
import Derived.Test.YtnfmjkjhiolfdaaDoorE28
set_option linter.unusedVariables false
set_option linter.unusedSimpArgs false
namespace Go.Proofs.YtnfmjkjhiolfdaaDoor
open Go Go.Sx Go.Proofs
/-- a floor, owned -/
def gO (p : Value) (m : Map) : HProp := fun h => rG h p m
def GCost (H : Heap) (m : Map) (r : Value) (H' : Heap) (B : List HProp) : Prop := H' = H ∧ ∃ p e, r = .tuple #[p, e] ∧ ((goodM m ∧ e = I 0 ∧ B = [gO p m]) ∨ (¬ goodM m ∧ p = .pointer none ∧ e = I 120 ∧ B = []))
theorem gO_shut {pg mb : Nat} {T1 T2 : Nat} {H1 : Heap} {s : Value} {m : Map} {mm : List (Int × Int)} (hg : goodM m) (f3 : Sx.fits m.Shards) (hm : ∀ x, (mget x mm).getD 0 = if x ∈ m.Blocked then 1 else 0) :
    ∀ h, big [row pg T1 [I m.W, I m.H, I m.Shards, s, .map (some mb)], mapO (fun x : Int => Value.int .i64 x) rInt false H1 mb mm, ownS rInt 1 8 T2 H1 s m.Blocked] h → gO (.pointer (some ⟨pg, 0, none⟩)) m h := fun h hb => by
  obtain ⟨h1, h2, h3, ⟨a, la⟩, ⟨b, lb⟩, c, lc⟩ := big3 hb
  have hE : Heap.empty.le h := fun _ _ e => by simp [Heap.empty] at e
  exact ⟨⟨pg, s, mb, mm, rfl, row_reads a la, ownS_reads (ownS_flat (H' := Heap.empty) c) hE lc, mapO_reads (mapO_flat (H' := Heap.empty) b) hE lb, hm⟩, hg, f3⟩
set_option maxHeartbeats 8000000 in
theorem gNewC_spec {W0 : World} {H : Heap} {c : List Value} {m : Map} (h0 : rMap H c m) :
    Ct Tryd.prog 15 #[.agg c.toArray] W0 H [] (GCost H m) := by
  refine Ct.go fun R => ?_
  obtain ⟨s, rfl, f1, f2, f3, h0⟩ := h0
  obtain ⟨b0, c0, rfl, hc0, hd0⟩ := h0.1.shape
  have k0 := h0.1
  refine walk ?_
  refine ops_box rfl rfl fun p0 _ => ?_
  refine walkG ?_
  refine ex_if rfl (fun h => ?_) (fun h => ?_)
  · refine walk ?_
    refine fin0 ?_
    refine ⟨rfl, _, _, rfl, .inr ⟨fun e => ?_, rfl, rfl, rfl⟩⟩
    have e := e.1
    simp only [headM, sidesM] at e
    rw [Int.min_def] at h; split at h <;> omega
  have hh : headM m := by simp only [headM, sidesM]; rw [Int.min_def] at h; split at h <;> omega
  have hf := area_fits hh.1
  refine walk ?_
  refine ops_makeMap (fun x : Int => Value.int .i64 x) rInt false rfl fun mb hmb => ?_
  refine walk ?_
  refine ops_box rfl rfl fun pg _ => ?_
  refine walk ?_
  refine ops_call rfl rfl (cloneI_spec h0) fun r1 H1 B hl1 ⟨eB, eH⟩ => ?_
  subst eB eH
  refine ops_shape r1 fun d1 e1 e _ _ _ => ?_
  subst e
  refine walk ?_
  refine ex_loop (σ := Nat × List (Int × Int)) (fun s => s.1 ≤ m.Blocked.length ∧ (∀ x ∈ m.Blocked.take s.1, isC m x) ∧ ∀ x, (mget x s.2).getD 0 = if x ∈ m.Blocked.take s.1 then 1 else 0) (fun s => [(4, .pointer (some ⟨pg, 0, none⟩)), (50, .slice b0 m.Blocked.length c0), (51, I m.Blocked.length), (52, I s.1)]) (fun _ => H1)
    (fun s => row pg 82 [I m.W, I m.H, I m.Shards, .slice d1 m.Blocked.length e1, .map (some mb)] :: mapO (fun x : Int => Value.int .i64 x) rInt false H1 mb s.2 :: ownS rInt 1 8 3 H1 (.slice d1 m.Blocked.length e1) m.Blocked :: R) (fun s => m.Blocked.length - s.1) (0, []) ⟨Nat.zero_le _, by simp, by simp [mget]⟩ fun ⟨k, mm⟩ ⟨hk0, ht, hm⟩ K hL => ?_
  simp only at hk0 ht hm
  dsimp only
  refine walk ?_
  refine ex_if rfl (fun hk => ?_) (fun hk => ?_)
  · have hk1 : k < m.Blocked.length := by omega
    refine walk ?_
    refine ops_pcall rfl rfl (gIsO_spec hf) ?_
    refine walkG ?_
    refine ex_if rfl (fun hq => ?_) (fun hq => ?_)
    · refine walk ?_
      refine fin0 ?_
      exact ⟨rfl, _, _, rfl, .inr ⟨fun e => hq (e.2 _ (List.getElem_mem _)), rfl, rfl, rfl⟩⟩
    · refine walk ?_
      have hone : rInt H1 [I 1] (1 : Int) := ⟨rfl, by unfold fits; omega⟩
      refine ops_update rfl (cs := [I 1]) rfl hone (by repeat (first | exact Has.here | apply Has.there)) ?_
      refine walk ?_
      refine out_next hL (k + 1, mset (m.Blocked[k]) 1 mm) ⟨by simp only; omega, fun x hx => ?_, fun x => ?_⟩
      · simp only at hx
        rw [List.take_succ_eq_append_getElem hk1] at hx
        rcases List.mem_append.1 hx with hx | hx
        · exact ht x hx
        · rw [List.mem_singleton.1 hx]; exact Classical.not_not.1 hq
      · simp only
        rw [mget_mset, List.take_succ_eq_append_getElem hk1]
        by_cases e : x = m.Blocked[k]
        · rw [if_pos e, if_pos (List.mem_append.2 (.inr (List.mem_singleton.2 e)))]; rfl
        · rw [if_neg e, hm]
          by_cases e2 : x ∈ m.Blocked.take k
          · rw [if_pos e2, if_pos (List.mem_append_left _ e2)]
          · rw [if_neg e2, if_neg]
            intro h
            rcases List.mem_append.1 h with h | h
            · exact e2 h
            · exact e (List.mem_singleton.1 h)
  · clear hL
    obtain rfl : k = m.Blocked.length := by omega
    rw [List.take_length] at ht
    rw [List.take_length] at hm
    refine walk ?_
    refine finB [gO (.pointer (some ⟨pg, 0, none⟩)) m] ?_ (hs := ?_)
    · exact ⟨rfl, _, _, rfl, .inl ⟨⟨hh, ht⟩, rfl, rfl⟩⟩
    · refine sub_fold (B := [row pg 82 [I m.W, I m.H, I m.Shards, .slice d1 m.Blocked.length e1, .map (some mb)], mapO (fun x : Int => Value.int .i64 x) rInt false H1 mb mm, ownS rInt 1 8 3 H1 (.slice d1 m.Blocked.length e1) m.Blocked]) (Sub.refl _) (gO_shut ⟨hh, ht⟩ f3 hm)
set_option maxRecDepth 100000 in
set_option maxHeartbeats 16000000 in
theorem ownG_spec {W0 : World} {H : Heap} {c : List Value} {m : Map} {x : Int} (hP : PkH H) (h0 : rMap H c m) (fx : fits x) :
    Ct Tryd.prog 11 #[.agg c.toArray, I x] W0 H [] (fun r H' B => r = .bool true ∧ B = []) := by
  refine Ct.go (vs := [.agg c.toArray, I x]) fun R => ?_
  have g0 := h0
  obtain ⟨s0, rfl, f1, f2, f3, h0⟩ := h0
  refine walk ?_
  refine ops_box rfl rfl fun p2 _ => ?_
  refine walk ?_
  refine ops_call (vs := []) rfl rfl (awake12_spec hP) fun r1 H1 B hl1 ⟨er, eB⟩ => ?_
  subst er eB
  refine walk ?_
  refine ops_call (vs := [.agg (m.cv s0).toArray]) rfl rfl (own12_spec (RdOk.mono (R := rMap) hl1 g0)) fun r2 H2 B hl2 ⟨v2, er, eB, eH⟩ => ?_
  subst er eB eH
  refine ops_shape v2 fun d2 e2 e _ _ _ => ?_
  subst e
  refine ops_freeze (.slice d2 (clipM m).Blocked.length e2) fun H3 hl3 hv2 => ?_
  refine walk ?_
  have hcl : (clipM m).Blocked.length ≤ 300 := by simp [clipM]; omega
  have gm : rMap H3 ((clipM m).cv (.slice d2 (clipM m).Blocked.length e2)) (clipM m) := ⟨_, rfl, f1, f2, f3, hv2⟩
  have hle3 : H.le H3 := hl1.trans hl3
  clear hl2 hl1 hl3
  have fm : (Sx.fits (clipM m).W ∧ Sx.fits (clipM m).H) ∧ Sx.fits (clipM m).Shards := ⟨⟨f1, f2⟩, f3⟩
  generalize clipM m = m' at *
  have hbl := hv2.2
  have f77 : Sx.fits 77 := by unfold Sx.fits; omega
  refine ops_mk0 (w := 8) rInt rfl fun b1 => ?_
  refine walk ?_
  refine ops_appS rfl rfl hv2.1 (by simp only [List.length_nil, cap47]; omega) fun d1 e1 => ?_
  simp only [List.length_nil, Nat.zero_add, List.nil_append]
  refine walk ?_
  refine ops_app1 (y := (77 : Int)) rfl rfl rfl ⟨rfl, f77⟩ (by simp only [cap47]; omega) fun dr er => ?_
  refine walk ?_
  refine ops_alloc rfl fun p6 _ => ?_
  refine walk ?_
  refine ops_shape (.slice dr (m'.Blocked.length + 1) er) fun x1 x2 xe hx1 hx2 _ => ?_
  injection xe with xe1 xe2 xe3
  subst xe1 xe3
  rw [List.length_append, List.length_singleton] at hx1
  refine walk ?_
  have htk : (m'.Blocked ++ [77]).take m'.Blocked.length = m'.Blocked := by simp
  have hlast : ∀ h, (m'.Blocked ++ [77])[m'.Blocked.length]'h = 77 := fun h => by simp
  refine ops_lendS (.slice dr (m'.Blocked.length + 1) er) fun D hD hdj hleD hsD => ?_
  have hpre := slr_take (k := m'.Blocked.length) hsD.1 (by simp)
  rw [htk] at hpre
  have gin : rMap (union H3 D) [I m'.W, I m'.H, I m'.Shards, .slice dr m'.Blocked.length er] m' := ⟨_, rfl, fm.1.1, fm.1.2, fm.2, hpre, hbl⟩
  refine ops_call (vs := [.agg [I m'.W, I m'.H, I m'.Shards, .slice dr m'.Blocked.length er].toArray]) rfl rfl (gNewC_spec gin) fun r4 H4 B hl4 ⟨eH, p, e, er', h⟩ => ?_
  subst eH er'
  refine ops_back hD hdj (.refl _) ?_
  rcases h with ⟨hm, rfl, rfl⟩ | ⟨hm, rfl, rfl, rfl⟩
  rotate_left
  · refine walk ?_
    refine ops_pcall rfl rfl (rGood_spec gm) ?_
    rw [decide_eq_false hm]
    refine walk ?_
    refine ops_ixo1 rfl rfl rfl (j := m'.Blocked.length) (by simp) ?_
    rw [hlast]
    refine walk ?_
    refine fin0 ?_
    exact ⟨rfl, rfl⟩
  refine ops_lend (A := gO p m') (by repeat (first | exact Has.here | apply Has.there)) fun Dg hG0 _ hleg hDg => ?_
  have hG : rG (union H3 Dg) p m' := rG.mono hG0 hDg
  have gm4 := RdOk.mono (R := rMap) hleg gm
  have hv4 := hv2.mono hleg
  clear hdj hleD hsD hpre gin hD hl4
  generalize union H3 Dg = H4 at *
  have hGp := hG
  obtain ⟨⟨bg, s', mb, mm, rfl, q1, q2, q3, q4⟩, hgd, hfs⟩ := hGp
  refine walk ?_
  refine ops_lendS (.slice dr (m'.Blocked.length + 1) er) fun D hD hdj hleD hsD => ?_
  have hpre := slr_take (k := m'.Blocked.length) hsD.1 (by simp)
  rw [htk] at hpre
  refine ops_pcall rfl rfl (ints_spec hpre (hv4.mono hleD).1) ?_
  rw [decide_eq_true (p := m'.Blocked = m'.Blocked) rfl]
  refine ops_back hD hdj (.refl _) ?_
  clear hdj hleD hsD hpre hD
  refine walk ?_
  refine ops_ixo1 rfl rfl rfl (j := m'.Blocked.length) (by simp) ?_
  rw [hlast]
  refine walk ?_
  have f0 : Sx.fits 0 := by unfold Sx.fits; omega
  have fm1 : Sx.fits (-1) := by unfold Sx.fits; omega
  have fm2 : Sx.fits (-2) := by unfold Sx.fits; omega
  refine ex_loop (σ := Nat × List Int) (fun s => s.1 ≤ m'.Blocked.length + 1 ∧ s.2.length = m'.Blocked.length + 1) (fun s => [(1, I x), (2, .pointer (some ⟨p2, 0, none⟩)), (5, .slice dr (m'.Blocked.length + 1) er), (7, .pointer (some ⟨bg, 0, none⟩)), (70, I ((m'.Blocked.length + 1 : Nat) : Int)), (71, I s.1)]) (fun _ => H4) (fun s => ownS rInt 1 8 3 H3 (.slice dr (m'.Blocked.length + 1) er) s.2 :: row p2 24 (m'.cv (.slice d2 m'.Blocked.length e2)) :: R) (fun s => m'.Blocked.length + 1 - s.1) (0, m'.Blocked ++ [77]) ⟨Nat.zero_le _, by simp⟩ fun ⟨k, ys⟩ ⟨hk0, hy⟩ K hL => ?_
  simp only at hk0 hy
  dsimp only
  refine walk ?_
  refine ex_if rfl (fun hk => ?_) (fun hk => ?_)
  · refine walk ?_
    refine ops_stS (y' := (0 : Int)) rfl rfl rfl ⟨rfl, f0⟩ (by omega) ?_
    refine walk ?_
    refine out_next hL (k + 1, ys.set k 0) ⟨by simp only; omega, by simpa using hy⟩
  clear hL
  refine walk ?_
  refine ops_call (vs := [.pointer (some ⟨bg, 0, none⟩)]) rfl rfl (map_spec hG) fun r7 H7 B hl7 ⟨v7, er, eB, eH⟩ => ?_
  subst er eB eH
  refine ops_shape v7 fun d7 e7 e _ _ _ => ?_
  subst e
  refine walk ?_
  refine ops_alloc rfl fun p10 _ => ?_
  refine walk ?_
  refine ex_loop (σ := Nat × List Int) (fun s => s.1 ≤ m'.Blocked.length ∧ s.2.length = m'.Blocked.length) (fun s => [(1, I x), (2, .pointer (some ⟨p2, 0, none⟩)), (7, .pointer (some ⟨bg, 0, none⟩)), (10, .pointer (some ⟨p10, 0, none⟩)), (82, I m'.Blocked.length), (83, I s.1)]) (fun _ => H7) (fun s => ownS rInt 1 8 3 H7 (.slice d7 m'.Blocked.length e7) s.2 :: row p10 24 (m'.cv (.slice d7 m'.Blocked.length e7)) :: row p2 24 (m'.cv (.slice d2 m'.Blocked.length e2)) :: R) (fun s => m'.Blocked.length - s.1) (0, m'.Blocked) ⟨Nat.zero_le _, rfl⟩ fun ⟨k2, ys2⟩ ⟨hk0, hy2⟩ K hL => ?_
  simp only at hk0 hy2
  dsimp only
  refine walk ?_
  refine ex_if rfl (fun hk => ?_) (fun hk => ?_)
  · refine walk ?_
    refine ops_stS (y' := (-1 : Int)) rfl rfl rfl ⟨rfl, fm1⟩ (by omega) ?_
    refine walk ?_
    refine out_next hL (k2 + 1, ys2.set k2 (-1)) ⟨by simp only; omega, by simpa using hy2⟩
  clear hL
  refine walk ?_
  refine ops_call (vs := [.pointer (some ⟨bg, 0, none⟩), I x]) rfl rfl (gNext_any hG) fun r12 H12 B hl12 eB => ?_
  subst eB
  refine ops_shape r12 fun d12 e12 e _ _ _ => ?_
  subst e
  have hG12 := hG.mono hl12
  have gm12 := RdOk.mono (R := rMap) hl12 gm4
  refine walk ?_
  refine ex_loop (σ := Nat × List Int) (fun s => s.1 ≤ (nextR m' x).length ∧ s.2.length = (nextR m' x).length) (fun s => [(1, I x), (2, .pointer (some ⟨p2, 0, none⟩)), (7, .pointer (some ⟨bg, 0, none⟩)), (12, .slice d12 (nextR m' x).length e12), (95, I (nextR m' x).length), (96, I s.1)]) (fun _ => H12) (fun s => ownS rInt 1 8 3 H12 (.slice d12 (nextR m' x).length e12) s.2 :: row p2 24 (m'.cv (.slice d2 m'.Blocked.length e2)) :: R) (fun s => (nextR m' x).length - s.1) (0, nextR m' x) ⟨Nat.zero_le _, rfl⟩ fun ⟨k3, ys3⟩ ⟨hk0, hy3⟩ K hL => ?_
  simp only at hk0 hy3
  dsimp only
  refine walk ?_
  refine ex_if rfl (fun hk => ?_) (fun hk => ?_)
  · refine walk ?_
    refine ops_stS (y' := (-2 : Int)) rfl rfl rfl ⟨rfl, fm2⟩ (by omega) ?_
    refine walk ?_
    refine out_next hL (k3 + 1, ys3.set k3 (-2)) ⟨by simp only; omega, by simpa using hy3⟩
  clear hL
  refine walk ?_
  refine ex_any 16 [row p2 24 (m'.cv (.slice d2 m'.Blocked.length e2))] ?_
  (first | refine gny_p 0 rfl rfl rfl ?_ | refine gny_ld 0 rfl rfl rfl rfl ?_ | refine gny_ldH 0 rfl rfl rfl ‹HRow _ _ 0 _› rfl ?_ | refine gny_T 0 rfl rfl rfl ?_ | refine gny_F 0 rfl rfl rfl ?_ | refine gny_B 0 rfl rfl rfl ?_ | refine gny_skip 0 rfl rfl ?_ | refine gny_sp 0 rfl rfl rfl ?_ | refine gny_sB 0 rfl rfl rfl ?_ | refine gny_sld 0 rfl rfl rfl rfl ?_ | refine gny_sldH 0 rfl rfl rfl ‹HRow _ _ 0 _› rfl ?_ | refine gny_ldN 0 rfl rfl rfl rfl ?_ | refine gny_bld 0 rfl rfl rfl ?_); (first | refine gny_p 3 rfl rfl rfl ?_ | refine gny_ld 3 rfl rfl rfl rfl ?_ | refine gny_ldH 3 rfl rfl rfl ‹HRow _ _ 0 _› rfl ?_ | refine gny_T 3 rfl rfl rfl ?_ | refine gny_F 3 rfl rfl rfl ?_ | refine gny_B 3 rfl rfl rfl ?_ | refine gny_skip 3 rfl rfl ?_ | refine gny_sp 3 rfl rfl rfl ?_ | refine gny_sB 3 rfl rfl rfl ?_ | refine gny_sld 3 rfl rfl rfl rfl ?_ | refine gny_sldH 3 rfl rfl rfl ‹HRow _ _ 0 _› rfl ?_ | refine gny_ldN 3 rfl rfl rfl rfl ?_ | refine gny_bld 3 rfl rfl rfl ?_); (first | refine gny_p 4 rfl rfl rfl ?_ | refine gny_ld 4 rfl rfl rfl rfl ?_ | refine gny_ldH 4 rfl rfl rfl ‹HRow _ _ 0 _› rfl ?_ | refine gny_T 4 rfl rfl rfl ?_ | refine gny_F 4 rfl rfl rfl ?_ | refine gny_B 4 rfl rfl rfl ?_ | refine gny_skip 4 rfl rfl ?_ | refine gny_sp 4 rfl rfl rfl ?_ | refine gny_sB 4 rfl rfl rfl ?_ | refine gny_sld 4 rfl rfl rfl rfl ?_ | refine gny_sldH 4 rfl rfl rfl ‹HRow _ _ 0 _› rfl ?_ | refine gny_ldN 4 rfl rfl rfl rfl ?_ | refine gny_bld 4 rfl rfl rfl ?_)
  refine gny_call (vs := [.pointer (some ⟨bg, 0, none⟩)]) 1 rfl rfl rfl (map_spec hG12) fun r13 H13 B hl13 ⟨v13, er, eB, eH⟩ => ?_
  subst er eB eH
  refine ⟨(by (repeat (first | exact Sub.refl _ | exact Sub.nil _ | (apply sub_pick; (repeat (first | exact Has.here | apply Has.there)); skip) | apply Sub.drop))), ?_⟩
  refine any_freeze v13 fun H14 hl14 hz14 => ?_
  (first | refine gny_p 2 rfl rfl rfl ?_ | refine gny_ld 2 rfl rfl rfl rfl ?_ | refine gny_ldH 2 rfl rfl rfl ‹HRow _ _ 0 _› rfl ?_ | refine gny_T 2 rfl rfl rfl ?_ | refine gny_F 2 rfl rfl rfl ?_ | refine gny_B 2 rfl rfl rfl ?_ | refine gny_skip 2 rfl rfl ?_ | refine gny_sp 2 rfl rfl rfl ?_ | refine gny_sB 2 rfl rfl rfl ?_ | refine gny_sld 2 rfl rfl rfl rfl ?_ | refine gny_sldH 2 rfl rfl rfl ‹HRow _ _ 0 _› rfl ?_ | refine gny_ldN 2 rfl rfl rfl rfl ?_ | refine gny_bld 2 rfl rfl rfl ?_)
  refine gny_pcall 5 rfl rfl rfl (ints_spec hz14.1 (hv4.mono (hl12.trans hl14)).1) ?_
  rw [decide_eq_true (p := m'.Blocked = m'.Blocked) rfl]
  (first | refine gny_p 6 rfl rfl rfl ?_ | refine gny_ld 6 rfl rfl rfl rfl ?_ | refine gny_ldH 6 rfl rfl rfl ‹HRow _ _ 0 _› rfl ?_ | refine gny_T 6 rfl rfl rfl ?_ | refine gny_F 6 rfl rfl rfl ?_ | refine gny_B 6 rfl rfl rfl ?_ | refine gny_skip 6 rfl rfl ?_ | refine gny_sp 6 rfl rfl rfl ?_ | refine gny_sB 6 rfl rfl rfl ?_ | refine gny_sld 6 rfl rfl rfl rfl ?_ | refine gny_sldH 6 rfl rfl rfl ‹HRow _ _ 0 _› rfl ?_ | refine gny_ldN 6 rfl rfl rfl rfl ?_ | refine gny_bld 6 rfl rfl rfl ?_); (first | refine gny_p 7 rfl rfl rfl ?_ | refine gny_ld 7 rfl rfl rfl rfl ?_ | refine gny_ldH 7 rfl rfl rfl ‹HRow _ _ 0 _› rfl ?_ | refine gny_T 7 rfl rfl rfl ?_ | refine gny_F 7 rfl rfl rfl ?_ | refine gny_B 7 rfl rfl rfl ?_ | refine gny_skip 7 rfl rfl ?_ | refine gny_sp 7 rfl rfl rfl ?_ | refine gny_sB 7 rfl rfl rfl ?_ | refine gny_sld 7 rfl rfl rfl rfl ?_ | refine gny_sldH 7 rfl rfl rfl ‹HRow _ _ 0 _› rfl ?_ | refine gny_ldN 7 rfl rfl rfl rfl ?_ | refine gny_bld 7 rfl rfl rfl ?_); (first | refine gny_p 8 rfl rfl rfl ?_ | refine gny_ld 8 rfl rfl rfl rfl ?_ | refine gny_ldH 8 rfl rfl rfl ‹HRow _ _ 0 _› rfl ?_ | refine gny_T 8 rfl rfl rfl ?_ | refine gny_F 8 rfl rfl rfl ?_ | refine gny_B 8 rfl rfl rfl ?_ | refine gny_skip 8 rfl rfl ?_ | refine gny_sp 8 rfl rfl rfl ?_ | refine gny_sB 8 rfl rfl rfl ?_ | refine gny_sld 8 rfl rfl rfl rfl ?_ | refine gny_sldH 8 rfl rfl rfl ‹HRow _ _ 0 _› rfl ?_ | refine gny_ldN 8 rfl rfl rfl rfl ?_ | refine gny_bld 8 rfl rfl rfl ?_); (first | refine gny_p 10 rfl rfl rfl ?_ | refine gny_ld 10 rfl rfl rfl rfl ?_ | refine gny_ldH 10 rfl rfl rfl ‹HRow _ _ 0 _› rfl ?_ | refine gny_T 10 rfl rfl rfl ?_ | refine gny_F 10 rfl rfl rfl ?_ | refine gny_B 10 rfl rfl rfl ?_ | refine gny_skip 10 rfl rfl ?_ | refine gny_sp 10 rfl rfl rfl ?_ | refine gny_sB 10 rfl rfl rfl ?_ | refine gny_sld 10 rfl rfl rfl rfl ?_ | refine gny_sldH 10 rfl rfl rfl ‹HRow _ _ 0 _› rfl ?_ | refine gny_ldN 10 rfl rfl rfl rfl ?_ | refine gny_bld 10 rfl rfl rfl ?_); (first | refine gny_p 11 rfl rfl rfl ?_ | refine gny_ld 11 rfl rfl rfl rfl ?_ | refine gny_ldH 11 rfl rfl rfl ‹HRow _ _ 0 _› rfl ?_ | refine gny_T 11 rfl rfl rfl ?_ | refine gny_F 11 rfl rfl rfl ?_ | refine gny_B 11 rfl rfl rfl ?_ | refine gny_skip 11 rfl rfl ?_ | refine gny_sp 11 rfl rfl rfl ?_ | refine gny_sB 11 rfl rfl rfl ?_ | refine gny_sld 11 rfl rfl rfl rfl ?_ | refine gny_sldH 11 rfl rfl rfl ‹HRow _ _ 0 _› rfl ?_ | refine gny_ldN 11 rfl rfl rfl rfl ?_ | refine gny_bld 11 rfl rfl rfl ?_)
  refine gny_call (vs := [.pointer (some ⟨bg, 0, none⟩), I x]) 9 rfl rfl rfl (gNext_any (hG12.mono hl14)) fun r15 H15 B hl15 eB => ?_
  subst eB
  refine ⟨(by (repeat (first | exact Sub.refl _ | exact Sub.nil _ | (apply sub_pick; (repeat (first | exact Has.here | apply Has.there)); skip) | apply Sub.drop))), ?_⟩
  refine any_freeze r15 fun H16 hl16 hz16 => ?_
  refine gny_call (vs := [.agg (m'.cv (.slice d2 m'.Blocked.length e2)).toArray, I x]) 12 rfl rfl rfl (rNext_spec (RdOk.mono (R := rMap) (hl14.trans (hl15.trans hl16)) gm12) hgd.1) fun r17 H17 B hl17 ⟨eB, eH⟩ => ?_
  subst eB eH
  refine ⟨(by (repeat (first | exact Sub.refl _ | exact Sub.nil _ | (apply sub_pick; (repeat (first | exact Has.here | apply Has.there)); skip) | apply Sub.drop))), ?_⟩
  refine any_freeze r17 fun H18 hl18 hz18 => ?_
  refine gny_pcall 13 rfl rfl rfl (ints_spec (hz16.mono hl18).1 hz18.1) ?_
  rw [decide_eq_true (p := nextR m' x = nextR m' x) rfl]
  (first | refine gny_p 14 rfl rfl rfl ?_ | refine gny_ld 14 rfl rfl rfl rfl ?_ | refine gny_ldH 14 rfl rfl rfl ‹HRow _ _ 0 _› rfl ?_ | refine gny_T 14 rfl rfl rfl ?_ | refine gny_F 14 rfl rfl rfl ?_ | refine gny_B 14 rfl rfl rfl ?_ | refine gny_skip 14 rfl rfl ?_ | refine gny_sp 14 rfl rfl rfl ?_ | refine gny_sB 14 rfl rfl rfl ?_ | refine gny_sld 14 rfl rfl rfl rfl ?_ | refine gny_sldH 14 rfl rfl rfl ‹HRow _ _ 0 _› rfl ?_ | refine gny_ldN 14 rfl rfl rfl rfl ?_ | refine gny_bld 14 rfl rfl rfl ?_); (first | refine gny_p 15 rfl rfl rfl ?_ | refine gny_ld 15 rfl rfl rfl rfl ?_ | refine gny_ldH 15 rfl rfl rfl ‹HRow _ _ 0 _› rfl ?_ | refine gny_T 15 rfl rfl rfl ?_ | refine gny_F 15 rfl rfl rfl ?_ | refine gny_B 15 rfl rfl rfl ?_ | refine gny_skip 15 rfl rfl ?_ | refine gny_sp 15 rfl rfl rfl ?_ | refine gny_sB 15 rfl rfl rfl ?_ | refine gny_sld 15 rfl rfl rfl rfl ?_ | refine gny_sldH 15 rfl rfl rfl ‹HRow _ _ 0 _› rfl ?_ | refine gny_ldN 15 rfl rfl rfl rfl ?_ | refine gny_bld 15 rfl rfl rfl ?_)
  refine any_rest rfl ?_
  have hleF := ((hle3.trans hleg).trans (hl12.trans hl14)).trans ((hl15.trans hl16).trans hl18)
  refine walk ?_
  refine fin0 ?_
  exact ⟨rfl, rfl⟩
end Go.Proofs.YtnfmjkjhiolfdaaDoor
