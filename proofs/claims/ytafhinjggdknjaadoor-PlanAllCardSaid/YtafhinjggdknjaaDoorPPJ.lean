/- Plan, walked. -/
import Derived.Test.YtafhinjggdknjaaDoorPGL
import Derived.Test.YtafhinjggdknjaaDoorPLF
import Derived.Test.YtafhinjggdknjaaDoorPPI
import Derived.Test.YtafhinjggdknjaaDoorPRA
set_option linter.unusedVariables false
set_option linter.unusedSimpArgs false
namespace Go.Proofs.YtafhinjggdknjaaDoor
open Go Go.Sx Go.X Go.Proofs
theorem gNext_any {W0 : GW} {H : Heap} {p : Value} {m : Map} {x : Int} (h : rG W0 H p m) :
    Ct Tryd.prog 24 #[p, I x] W0 H [] (fun r H' B => B = [ownS rInt 1 8 3 H' r (nextR m x)]) := by
  by_cases hx : freeC m x
  · rw [← next_eq h.good.1.1 hx]; exact gNext_yes h hx
  · rw [nextR_no hx]
    intro w R hS
    refine CallsV.mono (gNext_no h hx w R hS) fun e w' ⟨r, H', B, h1, h2, ⟨h3, h4, h5⟩, h6⟩ => ?_
    subst h3 h4 h5
    exact ⟨_, _, _, h1, h2, rfl, h6.sub (ownS_nil (R := rInt) (sz := 1) (w := 8) (T := 3) (H := H') (base := none))⟩
theorem look_ok {m : Map} {j : Job} (h : lookV m j = 0) : (freeC m j.Cell ∧ freeC m j.Goal) ∧ (1 ≤ j.N ∧ j.N ≤ 24) ∧ (0 ≤ j.Tick ∧ j.Tick + j.N - 1 ≤ 1073741824) := by
  unfold lookV at h
  split at h
  · omega
  rename_i h1
  split at h
  · omega
  rename_i h2
  split at h
  · omega
  rename_i h3
  simp only [laterBad, tickI] at h3
  exact ⟨Classical.not_not.1 h1, by omega, by omega, by omega⟩
noncomputable def PlanPost (m : Map) (j : Job) (r : Value) (H' : Heap) (B : List HProp) : Prop :=
  (lookV m j ≠ 0 ∧ r = .tuple #[.agg #[I 0, nilS], I (lookV m j)] ∧ B = []) ∨
  (lookV m j = 0 ∧ planT m j.Taken j.Goal (j.N - 1).toNat j.Tick j.Cell = none ∧ r = .tuple #[.agg #[I 0, nilS], I 180] ∧ B = []) ∨
  (lookV m j = 0 ∧ (planT m j.Taken j.Goal (j.N - 1).toNat j.Tick j.Cell).isSome = true ∧ ∃ v, r = .tuple #[.agg #[I j.Tick, v], I 0] ∧ B = [ownS rInt 1 8 3 H' v (planP m j.Taken j.Goal (j.N - 1).toNat j.Tick j.Cell)])
theorem planT_off {m : Map} {tk : List ByteArray} {goal t c : Int} {k : Nat} (h : ¬ avM m tk t c = true) : planT m tk goal k t c = none := by
  cases k with
  | zero => rw [planT_zero, if_neg h]
  | succ k => rw [planT_succ, if_neg h]
theorem planP_at {m : Map} {tk : List ByteArray} {goal : Int} : ∀ {i k : Nat} {t c : Int}, i < k → ∃ d, (planP m tk goal k t c)[i]? = some d ∧ (planP m tk goal k t c)[i + 1]? = some (toV (planT m tk goal (k - i) (t + i) d)).next
  | 0, k + 1, t, c, _ => by
    refine ⟨c, by rw [planP_succ]; rfl, ?_⟩
    rw [planP_succ]
    obtain ⟨l, e, _⟩ := planP_head (m := m) (tk := tk) (goal := goal) (k := k) (t := t + 1) (c := (toV (planT m tk goal (k + 1) t c)).next)
    rw [e, show t + ((0 : Nat) : Int) = t by omega]; rfl
  | i + 1, k + 1, t, c, h => by
    obtain ⟨d, h1, h2⟩ := planP_at (m := m) (tk := tk) (goal := goal) (i := i) (k := k) (t := t + 1) (c := (toV (planT m tk goal (k + 1) t c)).next) (by omega)
    refine ⟨d, by rw [planP_succ]; exact h1, ?_⟩
    rw [planP_succ, show k + 1 - (i + 1) = k - i by omega, show t + ((i + 1 : Nat) : Int) = t + 1 + i by omega]
    exact h2
theorem toV_small {m : Map} (hs : sidesM m) {tk : List ByteArray} {goal : Int} (hg : isC m goal) {k : Nat} {t c : Int} (h0 : 0 ≤ t) (hb : t + k + 1 ≤ 2000000000) (hk : k ≤ 24) : 0 ≤ (toV (planT m tk goal k t c)).passes ∧ (toV (planT m tk goal k t c)).passes ≤ 25 := by
  cases h : planT m tk goal k t c with
  | none => simp [toV]
  | some x => exact (tab_small hs hg h0 hb hk h).2.2.1
set_option maxRecDepth 100000 in
set_option maxHeartbeats 32000000 in
theorem plan_spec {W0 : GW} {H : Heap} {p : Value} {c : List Value} {m : Map} {j : Job} (hT : TabH Tryd.prog H) (h : rG W0 H p m) (h0 : rJob H c j) (hl : j.Taken.length ≤ 100) :
    Ct Tryd.prog 9 #[p, .agg c.toArray] W0 H [] (PlanPost m j) := by
  refine Ct.go (vs := [p, .agg c.toArray]) fun R => ?_
  have g0 := h0
  obtain ⟨s0, rfl, f1, f2, f3, f4, h0⟩ := h0
  obtain ⟨b0, c0, rfl, _, _⟩ := h0.1.shape
  have k0 := h0.1
  refine walk ?_
  refine ops_box rfl rfl fun p3 _ => ?_
  refine ops_alloc rfl fun p4 _ => ?_
  refine walk ?_
  refine ex_scope ?_
  refine walk ?_
  refine ops_pcall rfl rfl (look_spec h g0) ?_
  refine walk ?_
  refine ex_if rfl (fun hq => ?_) (fun hq => ?_)
  · refine walk ?_
    refine out_scope_ret ?_
    refine fin0 ?_
    exact .inl ⟨hq, rfl, rfl⟩
  have hlook : lookV m j = 0 := Classical.not_not.1 hq
  refine walk ?_
  refine ops_makeMap Value.string rInt false rfl fun mb hmb => ?_
  refine walk ?_
  refine ex_loop (σ := Nat × List (ByteArray × Int)) (fun s => s.1 ≤ j.Taken.length ∧ ∀ x, (mget x s.2).getD 0 = if x ∈ j.Taken.take s.1 then 1 else 0) (fun s => [(0, p), (3, .pointer (some ⟨p3, 0, none⟩)), (4, .pointer (some ⟨p4, 0, none⟩)), (7, .map (some mb)), (30, .slice b0 j.Taken.length c0), (31, I j.Taken.length), (32, I s.1)]) (fun _ => H)
    (fun s => mapO Value.string rInt false H mb s.2 :: row p4 41 [I 0, nilS] :: row p3 34 (j.cv (.slice b0 j.Taken.length c0)) :: R) (fun s => j.Taken.length - s.1) (0, []) ⟨Nat.zero_le _, by simp [mget]⟩ fun ⟨k, mm⟩ ⟨hk0, hm⟩ K hL => ?_
  simp only at hk0 hm
  dsimp only
  refine walk ?_
  refine ex_if rfl (fun hk => ?_) (fun hk => ?_)
  · have hk1 : k < j.Taken.length := by omega
    refine walk ?_
    have hone : rInt H [I 1] (1 : Int) := ⟨rfl, by unfold fits; omega⟩
    refine ops_update rfl (cs := [I 1]) rfl hone (by repeat (first | exact Has.here | apply Has.there)) ?_
    refine walk ?_
    refine out_next hL (k + 1, mset (j.Taken[k]) 1 mm) ⟨by simp only; omega, fun x => ?_⟩
    simp only
    rw [mget_mset, List.take_succ_eq_append_getElem hk1]
    by_cases e : x = j.Taken[k]
    · rw [if_pos e, if_pos (List.mem_append.2 (.inr (List.mem_singleton.2 e)))]; rfl
    · rw [if_neg e, hm]
      by_cases e2 : x ∈ j.Taken.take k
      · rw [if_pos e2, if_pos (List.mem_append_left _ e2)]
      · rw [if_neg e2, if_neg]
        intro h
        rcases List.mem_append.1 h with h | h
        · exact e2 h
        · exact e (List.mem_singleton.1 h)
  clear hL
  obtain rfl : k = j.Taken.length := by omega
  rw [List.take_length] at hm
  refine walk ?_
  refine ops_frzMap (by repeat (first | exact Has.here | apply Has.there)) (.refl _) fun H1 hl1 hm1 => ?_
  refine ops_call (vs := [p]) rfl rfl (map_spec (h.mono hl1)) fun r1 H2 B hl2 ⟨v1, er, eB, eH⟩ => ?_
  subst er eB eH
  refine ops_shape v1 fun d1 e1 e _ _ _ => ?_
  subst e
  refine walk ?_
  refine ops_alloc rfl fun p10 _ => ?_
  have hw := h.good.1.1
  have har := area hw
  have hfa := area_fits hw
  obtain ⟨n, hn⟩ : ∃ n : Nat, m.W * m.H = n := ⟨(m.W * m.H).toNat, by omega⟩
  obtain ⟨⟨fc, fg⟩, hN1, hT1⟩ := look_ok hlook
  obtain ⟨N, hN⟩ : ∃ N : Nat, j.N = N := ⟨j.N.toNat, by omega⟩
  have hcf : ∀ x : Int, isC m x → 0 ≤ x ∧ x < n := fun x hx => by simp only [isC] at hx; omega
  refine walk ?_
  rw [hN]
  refine ops_mkT rVal nilS N rfl ⟨rfl, rfl⟩ (by simp only [cap47]; omega) (by simp only [cap47]; omega) fun bt => ?_
  generalize (some (⟨bt, 0, none⟩ : Addr)) = bt
  refine walk ?_
  rw [hN]
  refine ex_loop (σ := Nat × List Value × Heap) (fun s => (s.1 ≤ N ∧ s.2.1.length = N) ∧ H2.le s.2.2 ∧ ∀ r (hr : r < s.2.1.length), s.1 ≤ r → SlR rRV 5 s.2.2 s.2.1[r] (rowP m j.Taken j.Goal (N - 1 - r) (j.Tick + r) n n)) (fun s => [(0, p), (3, .pointer (some ⟨p3, 0, none⟩)), (4, .pointer (some ⟨p4, 0, none⟩)), (7, .map (some mb)), (10, .pointer (some ⟨p10, 0, none⟩)), (11, .slice bt N N), (12, I ((s.1 : Int) - 1))]) (fun s => s.2.2)
    (fun s => ownS rVal 1 24 72 H2 (.slice bt N N) s.2.1 :: row p10 24 (m.cv (.slice d1 m.Blocked.length e1)) :: row p4 41 [I 0, nilS] :: row p3 34 (j.cv (.slice b0 j.Taken.length c0)) :: R) (fun s => s.1) (N, List.replicate N nilS, H2) ⟨⟨Nat.le_refl _, by simp⟩, .refl _, fun r hr hk => by simp at hr; omega⟩ fun ⟨k, vals, Hk⟩ ⟨⟨hk0, hvl⟩, hlk, hrows⟩ K hL => ?_
  simp only at hk0 hvl hlk hrows
  dsimp only
  refine walk ?_
  refine ex_if rfl (fun hk => ?_) (fun hk => ?_)
  · obtain ⟨i, rfl⟩ : ∃ i, k = i + 1 := ⟨k - 1, by omega⟩
    have hi : ((i + 1 : Nat) : Int) - 1 = i := by omega
    simp only [hi]
    clear hk
    refine walk ?_
    refine ex_scope ?_
    refine walk ?_
    rw [hn]
    refine ops_mkT rRV zRV n rfl ⟨rfl, fitV_z⟩ (by simp only [cap47]; omega) (by simp only [cap47]; omega) fun br => ?_
    generalize (some (⟨br, 0, none⟩ : Addr)) = br
    refine walk ?_
    refine ops_stS (y' := Value.slice br n n) rfl rfl rfl ⟨rfl, rfl⟩ (by omega) ?_
    refine ops_lendS (.slice bt N N) fun D hD hdj hleD hsD => ?_
    refine walk ?_
    refine ex_label ?_
    refine walk ?_
    refine ops_ix (j := i) rfl rfl rfl hsD.1 (by simp; omega) ?_
    rw [List.getElem_set_self]
    refine walk ?_
    have hKn : N - 1 - i ≤ 24 := by omega
    have ft : fits (j.Tick + i) := by unfold fits; omega
    have nt : numI (j.Tick + i) := by unfold numI; omega
    refine ex_loop (σ := Nat × Heap) (fun s => s.1 ≤ n ∧ (union Hk D).le s.2) (fun s => [(0, p), (3, .pointer (some ⟨p3, 0, none⟩)), (4, .pointer (some ⟨p4, 0, none⟩)), (7, .map (some mb)), (10, .pointer (some ⟨p10, 0, none⟩)), (11, .slice bt N N), (12, I i), (13, I (j.Tick + i)), (68, I n), (69, I s.1)]) (fun s => s.2) (fun s => ownS rRV 5 40 76 Hk (.slice br n n) (rowP m j.Taken j.Goal (N - 1 - i) (j.Tick + i) n s.1) :: row p10 24 (m.cv (.slice d1 m.Blocked.length e1)) :: row p4 41 [I 0, nilS] :: row p3 34 (j.cv (.slice b0 j.Taken.length c0)) :: R) (fun s => n - s.1) (0, union Hk D) ⟨Nat.zero_le _, .refl _⟩ (hs0 := by dsimp only; rw [rowP_zero]; exact subA) fun ⟨c, Hc⟩ ⟨hc0, hlc⟩ Kc hLc => ?_
    simp only at hc0 hlc
    dsimp only
    refine walk ?_
    refine ex_if rfl (fun hc => ?_) (fun hc => ?_)
    · have hleH : H.le Hc := hl1.trans (hl2.trans (hlk.trans (hleD.trans hlc)))
      have hG := h.mono hleH
      have hTc := hT.mono hleH
      have hmc := hm1.mono (hl2.trans (hlk.trans (hleD.trans hlc)))
      have hc1 : c < n := by omega
      have fcc : fits (c : Int) := by unfold fits; omega
      have nc : numI (c : Int) := by unfold numI; omega
      refine walk ?_
      refine ops_pcall rfl rfl (gFree_spec hG) ?_
      refine walkG ?_
      refine ops_gcall rfl rfl (fun hg => gSlot_spec hTc nc nt) ?_
      refine walkG ?_
      refine ops_glkH (z := (0 : Int)) rfl rfl hmc ?_
      refine walkG ?_
      have hsT := hsD.mono hlc
      have hrl : (rowP m j.Taken j.Goal (N - 1 - i) (j.Tick + i) n c).length = n := rowP_len
      refine ex_if rfl (fun hq => ?_) (fun hq => ?_)
      · have hno : planT m j.Taken j.Goal (N - 1 - i) (j.Tick + i) c = none := planT_off (fun e => by
          rw [av_iff] at e
          rcases hq with hq | hq
          · exact hq e.1
          · rw [hm, if_neg e.2] at hq; exact hq rfl)
        rw [← rowP_skip hc1 hno]
        refine walk ?_
        refine out_next hLc (c + 1, Hc) ⟨by simp only; omega, hlc⟩
      have hav : avM m j.Taken (j.Tick + i) c = true := av_iff.2 ⟨Classical.not_not.1 fun e => hq (.inl e), fun e => hq (.inr (by rw [hm, if_pos e]; omega))⟩
      clear hq
      have hcC := (av_iff.1 hav).1.2
      refine walk ?_
      refine ex_if rfl (fun hq => ?_) (fun hq => ?_)
      · have hK : N - 1 - i = 0 := by omega
        have hpt : planT m j.Taken j.Goal (N - 1 - i) (j.Tick + i) c = some ⟨if (c : Int) = j.Goal then j.Tick + i else bigT, distM m j.Goal c, 0, 0⟩ := by rw [hK, planT_zero, if_pos hav]
        have hfit := toV_fit hw (tk := j.Taken) fg.2 (k := N - 1 - i) (t := j.Tick + i) (c := c) (by omega) (by omega) (by omega)
        have hsucc := rowP_succ (m := m) (tk := j.Taken) (goal := j.Goal) (k := N - 1 - i) (t := j.Tick + i) hc1
        rw [hpt] at hfit hsucc
        refine walk ?_
        refine ops_pcall rfl rfl (far_spec hG hcC fg.2) ?_
        refine walk ?_
        refine ops_alloc rfl fun p15 _ => ?_
        refine walk ?_
        refine ex_if rfl (fun hg => ?_) (fun hg => ?_)
        · rw [if_pos hg] at hfit hsucc
          refine walk ?_
          refine ex_any 6 [row p15 76 [.bool true, I (j.Tick + i), I (distM m j.Goal c), I 0, I 0]] ?_
          refine stepY 0 ?_; refine stepY 1 ?_; refine stepY 4 ?_; refine stepY 5 ?_
          refine gny_el 2 3 (jj := i) rfl rfl rfl rfl rfl hsT.1 (by simp; omega) ?_
          rw [List.getElem_set_self]
          refine any_rest rfl ?_
          refine ops_stS (y' := toV (some ⟨j.Tick + i, distM m j.Goal c, 0, 0⟩)) rfl rfl rfl ⟨rfl, hfit⟩ (by omega) ?_
          rw [← hsucc]
          refine walk ?_
          refine out_next hLc (c + 1, Hc) ⟨by simp only; omega, hlc⟩
        · rw [if_neg hg] at hfit hsucc
          refine walk ?_
          refine ex_any 6 [row p15 76 [.bool true, I bigT, I (distM m j.Goal c), I 0, I 0]] ?_
          refine stepY 0 ?_; refine stepY 1 ?_; refine stepY 4 ?_; refine stepY 5 ?_
          refine gny_el 2 3 (jj := i) rfl rfl rfl rfl rfl hsT.1 (by simp; omega) ?_
          rw [List.getElem_set_self]
          refine any_rest rfl ?_
          refine ops_stS (y' := toV (some ⟨bigT, distM m j.Goal c, 0, 0⟩)) rfl rfl rfl ⟨rfl, hfit⟩ (by omega) ?_
          rw [← hsucc]
          refine walk ?_
          refine out_next hLc (c + 1, Hc) ⟨by simp only; omega, hlc⟩
      have hi1 : i + 1 < N := by omega
      obtain ⟨K, hK⟩ : ∃ K, N - 1 - i = K + 1 := ⟨N - 1 - i - 1, by omega⟩
      have hrow := hrows (i + 1) (by omega) (Nat.le_refl _)
      rw [show N - 1 - (i + 1) = K by omega, show j.Tick + ((i + 1 : Nat) : Int) = j.Tick + i + 1 by omega] at hrow
      obtain ⟨bx, cx, hbx, _, _⟩ := hrow.shape
      rw [hbx, rowP_len] at hrow
      rw [rowP_len] at hbx
      have hst := planT_succ (m := m) (tk := j.Taken) (goal := j.Goal) (k := K) (t := j.Tick + i) (c := c)
      rw [if_pos hav] at hst
      obtain ⟨f, hf⟩ : ∃ f, f = candP (pkM j.Taken) j.Goal (fun d => planT m j.Taken j.Goal K (j.Tick + i + 1) d) (j.Tick + i) c := ⟨_, rfl⟩
      rw [← hf] at hst
      have hself : (rowP m j.Taken j.Goal (N - 1 - i) (j.Tick + i) n c).set c (toV (bestOf f ((nextR m c).take 0))) = (rowP m j.Taken j.Goal (N - 1 - i) (j.Tick + i) n c) := rowP_self hc1
      have hsucc := rowP_succ (m := m) (tk := j.Taken) (goal := j.Goal) (k := N - 1 - i) (t := j.Tick + i) hc1
      rw [hK] at hsucc
      rw [hst] at hsucc
      rw [← hK] at hsucc
      refine walk ?_
      refine ops_call (vs := [p, I c]) rfl rfl (gNext_any hG) fun r2 H3 B hl3 eB => ?_
      subst eB
      refine ops_freeze r2 fun H4 hl4 hnx => ?_
      obtain ⟨bn, cn, rfl, _, _⟩ := hnx.1.shape
      have hl34 : Hc.le H4 := hl3.trans hl4
      refine walk ?_
      refine ex_loop (σ := Nat × Heap) (fun s => s.1 ≤ (nextR m c).length ∧ H4.le s.2) (fun s => [(0, p), (3, .pointer (some ⟨p3, 0, none⟩)), (4, .pointer (some ⟨p4, 0, none⟩)), (7, .map (some mb)), (10, .pointer (some ⟨p10, 0, none⟩)), (11, .slice bt N N), (12, I i), (13, I (j.Tick + i)), (14, I c), (68, I n), (69, I c), (110, .slice bn (nextR m c).length cn), (111, I (nextR m c).length), (112, I s.1)]) (fun s => s.2) (fun s => ownS rRV 5 40 76 Hk (.slice br n n) ((rowP m j.Taken j.Goal (N - 1 - i) (j.Tick + i) n c).set c (toV (bestOf f ((nextR m c).take s.1)))) :: row p10 24 (m.cv (.slice d1 m.Blocked.length e1)) :: row p4 41 [I 0, nilS] :: row p3 34 (j.cv (.slice b0 j.Taken.length c0)) :: R) (fun s => (nextR m c).length - s.1) (0, H4) ⟨Nat.zero_le _, .refl _⟩ (hs0 := by dsimp only; rw [hself]; exact subA) fun ⟨q, Hq⟩ ⟨hq0, hlq⟩ Kq hLq => ?_
      simp only at hq0 hlq
      dsimp only
      refine walk ?_
      refine ex_if rfl (fun hq => ?_) (fun hq => ?_)
      · have hq1 : q < (nextR m c).length := by omega
        have hto : isC m (nextR m c)[q] := next_cell (List.getElem_mem hq1)
        have htake := List.take_succ_eq_append_getElem hq1
        have hnq := hnx.mono hlq
        have hlcq : Hc.le Hq := hl34.trans hlq
        have hsQ := hsT.mono hlcq
        have hTq := hTc.mono hlcq
        have hmq := hmc.mono hlcq
        have hrq := hrow.mono (hleD.trans (hlc.trans hlcq))
        refine walk ?_
        refine ops_ix (j := q) rfl rfl rfl hnq.1 hq1 ?_
        generalize (nextR m c)[q] = to at *
        obtain ⟨d, rfl⟩ : ∃ d : Nat, to = d := ⟨to.toNat, by have := hcf _ hto; omega⟩
        have hd : d < n := by have := hcf _ hto; omega
        have fd : fits (d : Int) := by unfold fits; omega
        refine walk ?_
        rw [show (i : Int) + 1 = ((i + 1 : Nat) : Int) by omega]
        refine ops_ix (j := i + 1) rfl rfl rfl hsQ.1 (by simp; omega) ?_
        rw [List.getElem_set_ne (by omega), hbx]
        refine walk ?_
        refine ops_ixp (j := d) rfl rfl hrq (by rw [rowP_len]; exact hd) fun by1 oy cy hry hcy => ?_
        rw [rowP_get hd, if_pos hd] at hcy
        have hsm := toV_small hw (tk := j.Taken) fg.2 (k := K) (t := j.Tick + i + 1) (c := d) (by omega) (by omega) (by omega)
        have hxc := xV_cand (m := m) (tk := j.Taken) (goal := j.Goal) (t := j.Tick + i) (c := c) (to := d) (k := K) (cur := bestOf f ((nextR m c).take q))
        rw [← hf, ← bestOf_snoc, ← htake] at hxc
        generalize toV (planT m j.Taken j.Goal K (j.Tick + i + 1) d) = y at *
        obtain ⟨rfl, hfy⟩ := hcy
        obtain ⟨yok, yco, yfa, ypa, ynx⟩ := y
        obtain ⟨⟨fy1, fy2⟩, fy3, fy4⟩ := hfy
        simp only at hsm fy1 fy2 fy3 fy4
        have hry2 : HRow Hq by1 oy [.bool yok, I yco, I yfa, I ypa, I ynx] := hry
        refine ops_ldNH rfl rfl hry2 rfl ?_
        refine ops_alloc rfl fun p18 _ => ?_
        refine walk ?_
        refine ex_cutk (σ := Unit) (fun _ => True) (fun _ => [(0, p), (3, .pointer (some ⟨p3, 0, none⟩)), (4, .pointer (some ⟨p4, 0, none⟩)), (7, .map (some mb)), (10, .pointer (some ⟨p10, 0, none⟩)), (11, .slice bt N N), (12, I i), (13, I (j.Tick + i)), (14, I c), (68, I n), (69, I c), (110, .slice bn (nextR m c).length cn), (111, I (nextR m c).length), (112, I q), (17, I d), (18, .pointer (some ⟨p18, 0, none⟩))]) (fun _ => Hq) (fun _ => row p18 76 [.bool (yok && (decide ((d : Int) = c) || pkM j.Taken (j.Tick + i) c d)), I yco, I yfa, I (if (d : Int) = c then ypa else ypa + 1), I ynx] :: ownS rRV 5 40 76 Hk (.slice br n n) ((rowP m j.Taken j.Goal (N - 1 - i) (j.Tick + i) n c).set c (toV (bestOf f ((nextR m c).take q)))) :: row p10 24 (m.cv (.slice d1 m.Blocked.length e1)) :: row p4 41 [I 0, nilS] :: row p3 34 (j.cv (.slice b0 j.Taken.length c0)) :: R) (fun Kx hKx => ?_) fun _ _ => ?_
        · refine ex_if rfl (fun hdc => ?_) (fun hdc => ?_)
          · have hdc' : ¬ (d : Int) = c := hdc
            rw [if_neg hdc', decide_eq_false hdc', Bool.false_or] at hKx
            cases yok with
            | false =>
              refine walk ?_
              refine out_to hKx () trivial
            | true =>
              refine walk ?_
              refine ops_pcall rfl rfl (gPass_spec hTq nc (by unfold numI; omega) nt) ?_
              refine walkG ?_
              refine ops_lkH (z := (0 : Int)) rfl rfl hmq ?_
              rw [hm]
              have hpk : (if sb (passL c d (j.Tick + i)) ∈ j.Taken then (1 : Int) else 0) = 0 ↔ pkM j.Taken (j.Tick + i) c d = true := by
                rw [pk_iff]; split <;> simp_all
              refine walkG ?_
              simp only [hpk, Bool.decide_eq_true]
              refine walk ?_
              refine out_to hKx () trivial
          · have hdc' : (d : Int) = c := Classical.not_not.1 hdc
            rw [if_pos hdc', decide_eq_true hdc', Bool.true_or, Bool.and_true] at hKx
            refine walk ?_
            refine out_to hKx () trivial
        have hbc : ∀ x : RestV, ((rowP m j.Taken j.Goal (N - 1 - i) (j.Tick + i) n c).set c (toV (bestOf f ((nextR m c).take q)))).set c x = (rowP m j.Taken j.Goal (N - 1 - i) (j.Tick + i) n c).set c x := fun x => List.set_set ..
        refine walkG ?_
        refine ex_cutk (σ := Unit) (fun _ => True) (fun _ => [(0, p), (3, .pointer (some ⟨p3, 0, none⟩)), (4, .pointer (some ⟨p4, 0, none⟩)), (7, .map (some mb)), (10, .pointer (some ⟨p10, 0, none⟩)), (11, .slice bt N N), (12, I i), (13, I (j.Tick + i)), (14, I c), (68, I n), (69, I c), (110, .slice bn (nextR m c).length cn), (111, I (nextR m c).length), (112, I q), (17, I d), (18, .pointer (some ⟨p18, 0, none⟩))]) (fun _ => Hq) (fun _ => row p18 76 [.bool (yok && (decide ((d : Int) = c) || pkM j.Taken (j.Tick + i) c d)), I (if (c : Int) = j.Goal ∧ yco = j.Tick + i + 1 then j.Tick + i else yco), I yfa, I (if (d : Int) = c then ypa else ypa + 1), I ynx] :: ownS rRV 5 40 76 Hk (.slice br n n) ((rowP m j.Taken j.Goal (N - 1 - i) (j.Tick + i) n c).set c (toV (bestOf f ((nextR m c).take q)))) :: row p10 24 (m.cv (.slice d1 m.Blocked.length e1)) :: row p4 41 [I 0, nilS] :: row p3 34 (j.cv (.slice b0 j.Taken.length c0)) :: R) (fun Kx hKx => ?_) fun _ _ => ?_
        · refine ex_if rfl (fun hcd => ?_) (fun hcd => ?_)
          · rw [if_pos hcd] at hKx
            refine walk ?_
            refine out_to hKx () trivial
          · rw [if_neg hcd] at hKx
            refine walk ?_
            refine out_to hKx () trivial
        refine walk ?_
        obtain ⟨xo, xc, xf, xp, xn, hx⟩ : ∃ xo xc xf xp xn, (⟨xo, xc, xf, xp, xn⟩ : RestV) = xV (pkM j.Taken (j.Tick + i) c d) j.Goal (j.Tick + i) c d ⟨yok, yco, yfa, ypa, ynx⟩ := ⟨_, _, _, _, _, rfl⟩
        have hfx : fitV ⟨xo, xc, xf, xp, xn⟩ := by
          rw [hx]
          refine ⟨⟨?_, fy2⟩, ?_, fd⟩
          · simp only [xV]; split
            · exact ft
            · exact fy1
          · simp only [xV]; split <;> unfold fits <;> omega
        rw [← hx] at hxc
        refine ex_L (L' := row p18 76 [.bool xo, I xc, I xf, I xp, I xn] :: ownS rRV 5 40 76 Hk (.slice br n n) ((rowP m j.Taken j.Goal (N - 1 - i) (j.Tick + i) n c).set c (toV (bestOf f ((nextR m c).take q)))) :: row p10 24 (m.cv (.slice d1 m.Blocked.length e1)) :: row p4 41 [I 0, nilS] :: row p3 34 (j.cv (.slice b0 j.Taken.length c0)) :: R) (by
          simp only [xV, RestV.mk.injEq] at hx
          obtain ⟨rfl, rfl, rfl, rfl, rfl⟩ := hx
          exact Sub.refl _) ?_
        clear hx
        have hlen : ((rowP m j.Taken j.Goal (N - 1 - i) (j.Tick + i) n c).set c (toV (bestOf f ((nextR m c).take q)))).length = n := by rw [List.length_set, rowP_len]
        have hget : ((rowP m j.Taken j.Goal (N - 1 - i) (j.Tick + i) n c).set c (toV (bestOf f ((nextR m c).take q))))[c]'(by omega) = (toV (bestOf f ((nextR m c).take q))) := List.getElem_set_self ..
        refine ex_lendS (.slice br n n) fun Dr hDr hdr hlr hsr => ?_
        refine ex_any 8 [row p18 76 [.bool xo, I xc, I xf, I xp, I xn]] ?_
        refine stepY 0 ?_; refine stepY 1 ?_; refine stepY 2 ?_; refine stepY 5 ?_
        refine gny_el 3 4 (jj := i) rfl rfl rfl rfl rfl (hsQ.mono hlr).1 (by simp; omega) ?_
        rw [List.getElem_set_self]
        refine gny_ixp 6 (j := c) rfl rfl rfl hsr.1 (by omega) fun bz oz cz hrz hcz => ?_
        rw [hget] at hcz
        obtain ⟨rfl, hfz⟩ := hcz
        obtain ⟨zo, zc, zf, zp, zn, hz⟩ : ∃ zo zc zf zp zn, (toV (bestOf f ((nextR m c).take q))) = ⟨zo, zc, zf, zp, zn⟩ := ⟨_, _, _, _, _, rfl⟩
        rw [hz] at hrz hxc
        have hrz2 : HRow (union Hq Dr) bz oz [.bool zo, I zc, I zf, I zp, I zn] := hrz
        refine gny_ldNH 7 rfl rfl rfl hrz2 rfl ?_
        refine any_rest rfl ?_
        have hbt := better_spec (W0 := W0) (H := union Hq Dr) (a := ⟨xo, xc, xf, xp, xn⟩) (b := ⟨zo, zc, zf, zp, zn⟩)
        simp only [RestV.cv] at hbt
        refine ops_call rfl rfl hbt fun r5 H5 B hl5 ⟨er, eB⟩ => ?_
        subst er eB
        refine ops_back hDr hdr hl5 ?_
        refine walk ?_
        refine ex_if rfl (fun hb => ?_) (fun hb => ?_)
        · rw [if_pos hb] at hxc
          refine walk ?_
          refine ex_any 6 [row p18 76 [.bool xo, I xc, I xf, I xp, I xn]] ?_
          refine stepY 0 ?_; refine stepY 1 ?_; refine stepY 4 ?_; refine stepY 5 ?_
          refine gny_el 2 3 (jj := i) rfl rfl rfl rfl rfl hsQ.1 (by simp; omega) ?_
          rw [List.getElem_set_self]
          refine any_rest rfl ?_
          refine ops_stS (y' := (⟨xo, xc, xf, xp, xn⟩ : RestV)) rfl rfl rfl ⟨rfl, hfx⟩ (by omega) ?_
          rw [List.set_set, hxc]
          refine walk ?_
          refine out_next hLq (q + 1, Hq) ⟨by simp only; omega, hlq⟩
        · rw [if_neg hb] at hxc
          rw [hz, hxc]
          refine walk ?_
          refine out_next hLq (q + 1, Hq) ⟨by simp only; omega, hlq⟩
      · clear hLq
        obtain rfl : q = (nextR m c).length := by omega
        rw [List.take_length, ← hsucc]
        refine walk ?_
        refine out_next hLc (c + 1, Hq) ⟨by simp only; omega, hlc.trans (hl34.trans hlq)⟩
    · clear hLc
      obtain rfl : n = c := by omega
      refine walk ?_
      refine out_back hD hdj hlc ?_
      refine out_freeze (.slice br n n) fun H5 hl5 hr5 => ?_
      refine out_scope ?_
      refine walk ?_
      refine out_next hL (i, vals.set i (.slice br n n), H5) ⟨⟨by simp only; omega, by simpa using hvl⟩, hlk.trans hl5, fun r hr hkr => ?_⟩
      simp only [List.length_set] at hr hkr
      simp only
      by_cases e : r = i
      · subst e
        rw [List.getElem_set_self]
        exact hr5.1
      · rw [List.getElem_set_ne (fun h => e h.symm)]
        exact (hrows r hr (by omega)).mono hl5
  · clear hL
    obtain rfl : k = 0 := by omega
    obtain ⟨c0', hcell⟩ : ∃ q : Nat, j.Cell = q := ⟨j.Cell.toNat, by have := hcf _ fc.2; omega⟩
    have hc0 : c0' < n := by have := hcf _ fc.2; omega
    have hr0 := hrows 0 (by omega) (Nat.le_refl _)
    rw [Nat.sub_zero, show j.Tick + ((0 : Nat) : Int) = j.Tick by omega] at hr0
    obtain ⟨bx, cx, hbx, _, _⟩ := hr0.shape
    rw [hbx, rowP_len] at hr0
    rw [rowP_len] at hbx
    refine ex_freeze (.slice bt N N) fun H6 hl6 ht => ?_
    refine walk ?_
    refine ops_ix (j := 0) rfl rfl rfl ht.1 (by omega) ?_
    rw [hbx]
    refine walk ?_
    rw [hcell]
    refine ops_ixp (j := c0') rfl rfl (hr0.mono hl6) (by rw [rowP_len]; exact hc0) fun by1 oy cy hry hcy => ?_
    rw [rowP_get hc0, if_pos hc0] at hcy
    have hPN : (j.N - 1).toNat = N - 1 := by omega
    cases ho : planT m j.Taken j.Goal (N - 1) j.Tick c0' with
    | none =>
      rw [ho] at hcy
      obtain ⟨rfl, _⟩ := hcy
      have hry2 : HRow H6 by1 oy [.bool false, I 0, I 0, I 0, I 0] := hry
      refine walk ?_
      refine out_scope_ret ?_
      refine fin0 ?_
      exact .inr (.inl ⟨hlook, by rw [hPN, hcell]; exact ho, rfl, rfl⟩)
    | some x =>
      rw [ho] at hcy
      obtain ⟨rfl, _⟩ := hcy
      have hry2 : HRow H6 by1 oy [.bool true, I x.comes, I x.far, I x.passes, I x.next] := hry
      obtain ⟨hok, _⟩ := plan_good (m := m) (tk := j.Taken) (goal := j.Goal) (k := N - 1) (t := j.Tick) (c := c0') (by have : bigT = 9223372036854775807 := rfl; omega) (by rw [ho]; rfl)
      obtain ⟨P, hP⟩ : ∃ P, P = planP m j.Taken j.Goal (N - 1) j.Tick c0' := ⟨_, rfl⟩
      have hPl : P.length = N := by obtain ⟨l, e, h⟩ := planP_head (m := m) (tk := j.Taken) (goal := j.Goal) (k := N - 1) (t := j.Tick) (c := c0'); rw [hP, e, List.length_cons, h]; omega
      have hP1 : P.take 1 = [(c0' : Int)] := by obtain ⟨l, e, h⟩ := planP_head (m := m) (tk := j.Taken) (goal := j.Goal) (k := N - 1) (t := j.Tick) (c := c0'); rw [hP, e]; rfl
      have hPc : ∀ x ∈ P, isC m x := fun x hx => (ok_free hok x (by rw [← hP]; exact hx)).2
      have fcell : fits (c0' : Int) := by unfold fits; omega
      have ftick : fits j.Tick := by unfold fits; omega
      refine walk ?_
      rw [hcell]
      have hw1 := wait_spec (W0 := W0) (H := H6) (c := c0') (s := j.Tick) (n := 1) fcell ftick
      rw [if_neg (by omega), show List.replicate (min (1 : Int) 24).toNat (c0' : Int) = [(c0' : Int)] from rfl] at hw1
      refine ops_call rfl rfl hw1 fun r6 H7 B hl7 ⟨v6, er, eB⟩ => ?_
      subst er eB
      refine ops_shape v6 fun d6 e6 e _ _ _ => ?_
      subst e
      refine walk ?_
      refine ops_alloc rfl fun p19 _ => ?_
      refine walk ?_
      refine ex_label ?_
      refine walk ?_
      refine ex_loop (σ := Nat × Option Addr × Nat × Heap) (fun s => s.1 + 1 ≤ N ∧ H7.le s.2.2.2) (fun s => [(3, .pointer (some ⟨p3, 0, none⟩)), (4, .pointer (some ⟨p4, 0, none⟩)), (11, .slice bt N N), (19, .pointer (some ⟨p19, 0, none⟩)), (20, I s.1)]) (fun s => s.2.2.2)
        (fun s => ownS rInt 1 8 3 H7 (.slice s.2.1 (s.1 + 1) s.2.2.1) (P.take (s.1 + 1)) :: row p19 41 [I j.Tick, .slice s.2.1 (s.1 + 1) s.2.2.1] :: row p4 41 [I 0, nilS] :: row p3 34 (j.cv (.slice b0 j.Taken.length c0)) :: R) (fun s => N - s.1) (0, d6, e6, H7) ⟨by simp only; omega, .refl _⟩ (hs0 := by dsimp only; rw [hP1]; exact subA) fun ⟨i, b7, e7, Hx⟩ ⟨hi0, hlx⟩ Kx hLx => ?_
      simp only at hi0 hlx
      dsimp only
      refine walk ?_
      refine ex_if rfl (fun hq => ?_) (fun hq => ?_)
      · clear hLx
        obtain rfl : i = N - 1 := by omega
        rw [show N - 1 + 1 = N by omega, List.take_of_length_le (by omega)]
        refine walk ?_
        refine out_scope_ret ?_
        refine finB [ownS rInt 1 8 3 Hx (.slice b7 N e7) P] ?_ (hs := (sub_flat H7 Hx).trans subA)
        refine .inr (.inr ⟨hlook, by rw [hPN, hcell, ho]; rfl, .slice b7 N e7, rfl, ?_⟩)
        rw [hPN, hcell, ← hP]
      · have hi1 : i + 1 < N := by omega
        obtain ⟨d0, hd0, hd1⟩ := planP_at (m := m) (tk := j.Taken) (goal := j.Goal) (i := i) (k := N - 1) (t := j.Tick) (c := c0') (by omega)
        rw [← hP] at hd0 hd1
        have hPi : i < P.length := by omega
        have hPi1 : i + 1 < P.length := by omega
        rw [List.getElem?_eq_getElem hPi, Option.some.injEq] at hd0
        rw [List.getElem?_eq_getElem hPi1, Option.some.injEq] at hd1
        have hdc := hPc _ (List.getElem_mem hPi)
        have htk2 : P.take (i + 1 + 1) = P.take (i + 1) ++ [P[i + 1]] := List.take_succ_eq_append_getElem hPi1
        have htl : (P.take (i + 1)).length = i + 1 := by rw [List.length_take]; omega
        have hgi : (P.take (i + 1))[i]'(by omega) = d0 := by rw [List.getElem_take]; exact hd0
        rw [hd1] at htk2
        rw [hd0] at hdc
        obtain ⟨d, rfl⟩ : ∃ d : Nat, d0 = d := ⟨d0.toNat, by have := hcf _ hdc; omega⟩
        have hd : d < n := by have := hcf _ hdc; omega
        have hri := hrows i (by omega) (Nat.zero_le _)
        rw [show N - 1 - i = N - 1 - i from rfl] at hri
        obtain ⟨bz, cz, hbz, _, _⟩ := hri.shape
        rw [hbz, rowP_len] at hri
        rw [rowP_len] at hbz
        refine ex_lendS (.slice b7 (i + 1) e7) fun Dr hDr hdr hlr hsr => ?_
        have htx := ht.mono (hl7.trans (hlx.trans hlr))
        have hrx := hri.mono (hl6.trans (hl7.trans (hlx.trans hlr)))
        refine walk ?_
        refine ex_any 15 [row p19 41 [I j.Tick, .slice b7 (i + 1) e7]] ?_
        refine stepY 0 ?_; refine stepY 1 ?_; refine stepY 2 ?_; refine stepY 5 ?_; refine stepY 6 ?_; refine stepY 7 ?_
        refine gny_el 3 4 (jj := i) rfl rfl rfl rfl rfl htx.1 (by omega) ?_
        rw [hbz]
        have hsr1 := hsr.1
        refine gny_el 8 9 (jj := i) rfl rfl rfl rfl rfl hsr1 (by omega) ?_
        rw [hgi]
        refine gny_ixp 10 (j := d) rfl rfl rfl hrx (by rw [rowP_len]; exact hd) fun by2 oy2 cy2 hry3 hcy2 => ?_
        rw [rowP_get hd, if_pos hd] at hcy2
        obtain ⟨zo, zc, zf, zp, zn, hz⟩ : ∃ zo zc zf zp zn, toV (planT m j.Taken j.Goal (N - 1 - i) (j.Tick + i) d) = ⟨zo, zc, zf, zp, zn⟩ := ⟨_, _, _, _, _, rfl⟩
        rw [hz] at hcy2 htk2
        obtain ⟨rfl, _, _, hfzn⟩ := hcy2
        simp only at hfzn htk2
        have hry4 : HRow (union Hx Dr) by2 oy2 [.bool zo, I zc, I zf, I zp, I zn] := hry3
        refine stepY 11 ?_
        refine gny_ldHo 12 4 rfl rfl hry4 rfl rfl ?_
        refine gny_bsN 13 rfl rfl rfl fun pb hb => ?_
        refine any_frzR .here fun H8 hl8 hr8 => ?_
        have hf1 : ∀ x ∈ [zn], fits x := fun x hx => by rw [List.mem_singleton.1 hx]; exact hfzn
        have hs1 : SlB rInt 1 8 H8 (.slice (some ⟨pb, 0, none⟩) 1 1) [zn] := ⟨slr_of_hrow (xs := [zn]) hr8 (RL.mk1 (R := rInt) (val := fun x => .int .i64 x) (ok := fits) hf1) (by simp) (by simp), by simp only [List.length_singleton, cap47]; omega⟩
        have hrt : rRoute H8 [I j.Tick, .slice b7 (i + 1) e7] ⟨j.Tick, P.take (i + 1)⟩ := ⟨_, rfl, ftick, hsr.mono hl8⟩
        have hj := join_spec (W0 := W0) hrt hs1 (by simp only [htl, List.length_singleton, cap47]; omega)
        simp only [← htk2] at hj
        refine gny_call 14 rfl rfl rfl hj fun r9 H9 B hl9 ⟨v9, er, eB⟩ => ?_
        subst er eB
        refine ⟨subA, ?_⟩
        refine any_shape v9 fun d9 e9 e _ _ _ => ?_
        subst e
        refine any_rest rfl ?_
        refine walk ?_
        have htl2 : (P.take (i + 1 + 1)).length = i + 1 + 1 := by rw [List.length_take]; omega
        dsimp only
        rw [htl2]
        refine out_back hDr hdr (hl8.trans hl9) ?_
        refine out_next hLx (i + 1, d9, e9, Hx) ⟨by simp only; omega, hlx⟩ (hs := ?_)
        dsimp only
        refine (Sub.drop (Sub.refl _)).trans ((sub_flat H9 H7).trans ?_)
        exact subA
end Go.Proofs.YtafhinjggdknjaaDoor
