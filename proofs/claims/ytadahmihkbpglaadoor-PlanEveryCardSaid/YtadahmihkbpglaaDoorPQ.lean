/- The document's Step, Error, Every, walked. -/
import Derived.Test.YtadahmihkbpglaaDoorPO
import Derived.Test.YtadahmihkbpglaaDoorBG
import Derived.Test.YtadahmihkbpglaaDoorPI
import Derived.Test.YtadahmihkbpglaaDoorE31
set_option linter.unusedVariables false
set_option linter.unusedSimpArgs false
namespace Go.Proofs.YtadahmihkbpglaaDoor
open Go Go.Sx Go.Proofs
set_option maxHeartbeats 4000000 in
theorem rNext_spec {W0 : World} {H : Heap} {c : List Value} {m : Map} {x : Int} (h0 : rMap H c m) (hg : headM m) :
    Ct Tryd.prog 42 #[.agg c.toArray, I x] W0 H [] (fun r H' B => B = [ownS rInt 1 8 3 H r (nextR m x)] ∧ H' = H) := by
  refine Ct.go (vs := [.agg c.toArray, I x]) fun R => ?_
  have g0 := h0
  have har := area_fits hg.1
  have hr := area hg.1
  obtain ⟨s0, rfl, f1, f2, f3, h0⟩ := h0
  refine walk ?_
  refine ops_box rfl rfl fun p2 _ => ?_
  refine walk ?_
  refine ex_L (ownS_nil (R := rInt) (sz := 1) (w := 8) (T := 3) (H := H) (base := none)) ?_
  refine ex_loop (σ := Nat × Value) (fun s => s.1 ≤ (m.W * m.H).toNat) (fun s => [(1, I x), (2, .pointer (some ⟨p2, 0, none⟩)), (5, s.2), (6, I s.1)]) (fun _ => H) (fun s => row p2 24 (m.cv s0) :: ownS rInt 1 8 3 H s.2 (nextU m x s.1) :: R) (fun s => (m.W * m.H).toNat - s.1) (0, nilS) (Nat.zero_le _) (hs0 := fun _ h => big_swap h) fun ⟨k, v⟩ hk0 K hL => ?_
  simp only at hk0
  dsimp only
  refine walk ?_
  refine ex_if rfl (fun hk => ?_) (fun hk => ?_)
  · refine walk ?_
    refine ops_pcall rfl rfl (rFree_spec g0 har) ?_
    refine walkG ?_
    refine ops_gcall rfl rfl (fun hg' => rFree_spec g0 har) ?_
    refine walkG ?_
    refine ops_gcall rfl rfl (fun hg' => rBeside_spec g0 hg.1) ?_
    refine walkG ?_
    have hbound : (k : Int) + 1 ≤ 256 := by omega
    have hstep := nextU_succ (m := m) (x := x) (k := k)
    have hlen := nextU_len (m := m) (x := x) (k := k)
    have fk : fits (k : Int) := by unfold fits; omega
    refine ex_if rfl (fun hq => ?_) (fun hq => ?_)
    · have hq' : freeC m x ∧ stepTo m x k := ⟨hq.1.1, hq.1.2, hq.2⟩
      rw [if_pos hq'] at hstep
      refine walk ?_
      refine ops_app1 (y := (k : Int)) rfl rfl rfl ⟨rfl, fk⟩ (by simp only [cap47]; omega) fun d1 e1 => ?_
      refine walk ?_
      refine out_next hL (k + 1, _) (by simp only; omega) (hs := ?_)
      dsimp only
      rw [hstep]
      (repeat (first | exact Sub.refl _ | exact Sub.nil _ | (apply sub_pick; (repeat (first | exact Has.here | apply Has.there)); skip) | apply Sub.drop))
    · have hq' : ¬ (freeC m x ∧ stepTo m x k) := fun e => hq ⟨⟨e.1, e.2.1⟩, e.2.2⟩
      rw [if_neg hq'] at hstep
      refine walk ?_
      refine out_next hL (k + 1, v) (by simp only; omega) (hs := ?_)
      dsimp only
      rw [hstep]
      (repeat (first | exact Sub.refl _ | exact Sub.nil _ | (apply sub_pick; (repeat (first | exact Has.here | apply Has.there)); skip) | apply Sub.drop))
  · clear hL
    obtain rfl : k = (m.W * m.H).toNat := by omega
    refine walk ?_
    refine finB [ownS rInt 1 8 3 H v (nextR m x)] ?_
    exact ⟨rfl, rfl⟩
theorem has_spec {W0 : World} {H : Heap} {v : Value} {tk : List ByteArray} {s : ByteArray} (h0 : SlR rStr 1 H v tk) :
    Ct Tryd.prog 41 #[v, .string s] W0 H [] (fun r H' B => r = .bool (decide (s ∈ tk)) ∧ B = [] ∧ H' = H) := by
  refine Ct.go fun R => ?_
  obtain ⟨b0, c0, rfl, hc0, hd0⟩ := h0.shape
  refine walk ?_
  refine ex_loop (σ := Nat) (fun k => k ≤ tk.length ∧ s ∉ tk.take k) (fun k => [(0, .slice b0 tk.length c0), (1, .string s), (5, I k)]) (fun _ => H) (fun _ => R) (fun k => tk.length - k) 0 ⟨Nat.zero_le _, by simp⟩ fun k ⟨hk0, hk⟩ K hL => ?_
  refine walk ?_
  refine ex_if rfl (fun hk1 => ?_) (fun hk1 => ?_)
  · have hk2 : k < tk.length := by omega
    have ht := List.take_succ_eq_append_getElem hk2
    refine walk ?_
    refine ex_if rfl (fun hx => ?_) (fun hx => ?_)
    · refine walk ?_
      refine fin0 ?_
      exact ⟨by rw [decide_eq_true]; rw [← hx]; exact List.getElem_mem _, rfl, rfl⟩
    · refine walk ?_
      refine out_next hL (k + 1) ⟨by omega, fun h => ?_⟩
      rw [ht] at h
      rcases List.mem_append.1 h with h | h
      · exact hk h
      · exact hx (List.mem_singleton.1 h).symm
  · clear hL
    obtain rfl : k = tk.length := by omega
    rw [List.take_length] at hk
    refine walk ?_
    refine fin0 ?_
    exact ⟨by rw [decide_eq_false hk], rfl, rfl⟩
/-- may one go from a at a tick to b? -/
def stepM (m : Map) (tk : List ByteArray) (a b t : Int) : Prop := (nearC m a b ∧ ¬ sb (slotL b (t + 1)) ∈ tk) ∧ (a = b ∨ ¬ sb (passL a b t) ∈ tk)
instance {m : Map} {tk : List ByteArray} {a b t : Int} : Decidable (stepM m tk a b t) := by unfold stepM; infer_instance
set_option maxHeartbeats 4000000 in
theorem step18_spec {W0 : World} {H : Heap} {c : List Value} {v : Value} {m : Map} {tk : List ByteArray} {a b t : Int} (h0 : rMap H c m) (hw : sidesM m) (h1 : SlR rStr 1 H v tk) (fa : fits a) (fb : fits b) (ft : fits t) (ft1 : fits (t + 1)) :
    Ct Tryd.prog 43 #[.agg c.toArray, v, I a, I b, I t] W0 H [] (fun r H' B => r = .bool (decide (stepM m tk a b t)) ∧ B = [] ∧ H' = H) := by
  refine Ct.go (vs := [.agg c.toArray, v, I a, I b, I t]) fun R => ?_
  have g0 := h0
  obtain ⟨s0, rfl, f1, f2, f3, h0⟩ := h0
  obtain ⟨b0, c0, rfl, hc0, hd0⟩ := h1.shape
  refine walk ?_
  refine ops_box rfl rfl fun p5 _ => ?_
  refine walk ?_
  refine ops_pcall rfl rfl (rNear_spec g0 hw) ?_
  refine walkG ?_
  refine ops_gcall rfl rfl (fun hg => slot_spec fb ft1) ?_
  refine walkG ?_
  refine ops_gcall rfl rfl (fun hg => has_spec h1) ?_
  refine walkG ?_
  refine ops_gcall rfl rfl (fun hg => pass_spec fa fb ft) ?_
  refine walkG ?_
  refine ops_gcall rfl rfl (fun hg => has_spec h1) ?_
  refine walkG ?_
  refine fin0 ?_
  exact ⟨rfl, rfl, rfl⟩
theorem tick18_spec {W0 : World} {H : Heap} {t : Int} :
    Ct Tryd.prog 40 #[I t] W0 H [] (fun r H' B => r = .bool (decide (tickI t)) ∧ B = [] ∧ H' = H) := by
  refine Ct.go fun R => ?_
  refine walkG ?_
  refine fin0 ?_
  exact ⟨bdec (by unfold tickI; omega), rfl, rfl⟩
set_option maxHeartbeats 4000000 in
theorem error18_spec {W0 : World} {H : Heap} {c : List Value} {m : Map} {j : Job} (h0 : rMap H c m) (hw : sidesM m) (ft : fits j.Tick) (fn : fits j.N) :
    Ct Tryd.prog 17 #[.agg c.toArray, I j.Cell, I j.Tick, I j.Goal, I j.N] W0 H [] (fun r H' B => r = I (lookV m j) ∧ B = [] ∧ H' = H) := by
  refine Ct.go (vs := [.agg c.toArray, I j.Cell, I j.Tick, I j.Goal, I j.N]) fun R => ?_
  have g0 := h0
  have har := area_fits hw
  obtain ⟨s0, rfl, f1, f2, f3, h0⟩ := h0
  refine walk ?_
  refine ops_box rfl rfl fun p5 _ => ?_
  refine walk ?_
  refine ops_pcall rfl rfl (rFree_spec g0 har) ?_
  refine walkG ?_
  refine ops_gcall rfl rfl (fun hg => rFree_spec g0 har) ?_
  refine walkG ?_
  refine ex_if rfl (fun hq => ?_) (fun hq => ?_)
  · refine walk ?_
    refine fin0 ?_
    refine ⟨?_, rfl, rfl⟩
    unfold lookV
    rw [if_pos (fun e => by rcases hq with hq | hq; exact hq e.1; exact hq e.2)]
  have hfr : freeC m j.Cell ∧ freeC m j.Goal := ⟨Classical.not_not.1 fun e => hq (.inl e), Classical.not_not.1 fun e => hq (.inr e)⟩
  refine walkG ?_
  refine ex_if rfl (fun hn => ?_) (fun hn => ?_)
  · refine walk ?_
    refine fin0 ?_
    refine ⟨?_, rfl, rfl⟩
    unfold lookV
    rw [if_neg (fun e => e hfr), if_pos (by omega)]
  refine walk ?_
  refine ops_pcall rfl rfl tick18_spec ?_
  refine walkG ?_
  refine ops_gcall rfl rfl (fun hg => tick18_spec) ?_
  refine walkG ?_
  have hl3 : lookV m j = if laterBad j.Tick (j.N - 1) then 122 else 0 := by unfold lookV; rw [if_neg (fun e => e hfr), if_neg (by omega)]
  refine ex_if rfl (fun hb => ?_) (fun hb => ?_)
  · refine walk ?_
    refine fin0 ?_
    refine ⟨?_, rfl, rfl⟩
    rw [hl3, if_pos]
    simp only [laterBad, tickI] at *
    omega
  · refine walk ?_
    refine fin0 ?_
    refine ⟨?_, rfl, rfl⟩
    rw [hl3, if_neg]
    simp only [laterBad, tickI] at *
    omega
set_option maxRecDepth 100000 in
set_option maxHeartbeats 16000000 in
theorem every_spec {W0 : World} {c : List Value} {m : Map} {goal t : Int} {n : Nat} {tkv : Value} {tk : List ByteArray} (hm : goodM m) (hgC : isC m goal) (hn : 1 ≤ n ∧ n ≤ 24) (ht : 0 ≤ t ∧ t + n ≤ 1073741825) : ∀ (d : Nat) {H : Heap} {v : Value} {p : List Int} {x : Int}, rMap H c m → SlB rStr 1 16 H tkv tk → SlB rInt 1 8 H v (p ++ [x]) → p.length + 1 + d = n → freeC m x → (p ≠ [] → okM m tk t (p ++ [x])) →
    Ct Tryd.prog 18 #[.agg c.toArray, I goal, I t, I n, tkv, v] W0 H [] (fun r H' B => (∃ l, SlB rInt 1 8 H' r l ∧ EveryP m tk t n (p ++ [x]) l) ∧ B = []) := by
  intro d
  induction d using Nat.strongRecOn with
  | _ d ih =>
  intro H v p x h0 h1 h2 hd hx hok
  refine Ct.go (vs := [.agg c.toArray, I goal, I t, I n, tkv, v]) fun R => ?_
  have g0 := h0
  obtain ⟨s0, rfl, f1, f2, f3, h0⟩ := h0
  obtain ⟨bt, ct, rfl, _, _⟩ := h1.1.shape
  have hpl : (p ++ [x]).length = p.length + 1 := by rw [List.length_append, List.length_singleton]
  obtain ⟨bs, cs, rfl, _, _⟩ := h2.1.shape
  have hlast : ∀ h, (p ++ [x])[p.length]'h = x := fun h => by simp
  have hxc := hx.2
  have hcf := area hm.1.1
  have fx : fits x := by simp only [isC] at hxc; unfold fits; omega
  have ft : fits t := by unfold fits; omega
  have h2s := h2.1
  rw [hpl] at h2 h2s ⊢
  refine walk ?_
  refine ops_box rfl rfl fun p6 _ => ?_
  refine walk ?_
  rw [show ((p.length + 1 : Nat) : Int) - 1 = (p.length : Int) by omega]
  refine ops_ix (j := p.length) rfl rfl rfl h2s (by omega) ?_
  rw [hlast]
  refine walkG ?_
  refine ops_gcall rfl rfl (fun hg => slot_spec fx ft) ?_
  refine walkG ?_
  refine ops_gcall rfl rfl (fun hg => has_spec h1.1) ?_
  refine walkG ?_
  refine ex_if rfl (fun hq => ?_) (fun hq => ?_)
  · refine walk ?_
    refine fin0 ?_
    refine ⟨⟨[], SlB.nil, .inl ⟨rfl, fun l hl ho => ?_⟩⟩, rfl⟩
    have hp0 : p = [] := List.length_eq_zero_iff.1 (by omega)
    subst hp0
    have := ok_keys.1 (ok_prefix (d := x) (sofar := []) ho)
    exact this.2 (slotL x t) (by simp [keysFrom]) hq.2
  have hok1 : okM m tk t (p ++ [x]) := by
    by_cases hp0 : p = []
    · subst hp0
      exact av_iff.2 ⟨hx, fun e => hq ⟨by simp, e⟩⟩
    · exact hok hp0
  clear hq
  refine walk ?_
  refine ex_if rfl (fun hq => ?_) (fun hq => ?_)
  · refine walk ?_
    refine fin0 ?_
    exact ⟨⟨p ++ [x], h2, every_end hok1 (by omega)⟩, rfl⟩
  refine walk ?_
  refine ops_call (vs := [.agg (m.cv s0).toArray, I x]) rfl rfl (rNext_spec g0 hm.1) fun r2 H2 B hl2 ⟨eB, eH⟩ => ?_
  subst eB eH
  refine ops_freeze r2 fun H3 hl3 hnx => ?_
  obtain ⟨bn, cn, rfl, _, _⟩ := hnx.1.shape
  refine walk ?_
  refine ex_loop (σ := Nat × List Int × Option Addr × Nat × Heap) (fun s => s.1 ≤ (nextR m x).length ∧ H3.le s.2.2.2.2 ∧ EveryL m tk t n (p ++ [x]) ((nextR m x).take s.1) s.2.1 ∧ SlB rInt 1 8 s.2.2.2.2 (.slice s.2.2.1 s.2.1.length s.2.2.2.1) s.2.1) (fun s => [(1, I goal), (2, I t), (3, I n), (4, .slice bt tk.length ct), (5, .slice bs (p.length + 1) cs), (6, .pointer (some ⟨p6, 0, none⟩)), (13, I x), (15, .slice bn (nextR m x).length cn), (14, .slice s.2.2.1 s.2.1.length s.2.2.2.1), (16, I s.1)]) (fun s => s.2.2.2.2) (fun _ => row p6 24 (m.cv s0) :: R) (fun s => (nextR m x).length - s.1) (0, [], none, 0, H3) ⟨Nat.zero_le _, .refl _, by rw [List.take_zero]; exact everyL_nil, SlB.nil⟩ fun ⟨k, best, bb, cb, Hk⟩ ⟨hk0, hlk, hI, hbk⟩ K hL => ?_
  simp only at hk0 hlk hI hbk
  dsimp only
  refine walk ?_
  refine ex_if rfl (fun hk => ?_) (fun hk => ?_)
  · have hk1 : k < (nextR m x).length := by omega
    have htk := List.take_succ_eq_append_getElem hk1
    have hqc := next_cell (List.getElem_mem hk1)
    have hlk0 := hl3.trans hlk
    have gk := RdOk.mono (R := rMap) hlk0 g0
    have htkk := h1.mono hlk0
    have h2k := h2.mono hlk0
    have hnk := hnx.mono hlk
    have fq : fits (nextR m x)[k] := by simp only [isC] at hqc; unfold fits; omega
    have fts : fits (t + p.length) := by unfold fits; omega
    have fts1 : fits (t + p.length + 1) := by unfold fits; omega
    have ets : t + ((p.length + 1 : Nat) : Int) - 1 = t + p.length := by omega
    have hEb : best ≠ [] → okM m tk t best ∧ best.length = n := fun e => by
      rcases hI with ⟨h, _⟩ | ⟨h1, h2, _⟩
      · exact absurd h e
      · exact ⟨h1, h2⟩
    refine walk ?_
    refine ex_any 12 [row p6 24 (m.cv s0)] ?_
    (first | refine gny_p 0 rfl rfl rfl ?_ | refine gny_ld 0 rfl rfl rfl rfl ?_ | refine gny_ldH 0 rfl rfl rfl ‹HRow _ _ 0 _› rfl ?_ | refine gny_T 0 rfl rfl rfl ?_ | refine gny_F 0 rfl rfl rfl ?_ | refine gny_B 0 rfl rfl rfl ?_ | refine gny_skip 0 rfl rfl ?_ | refine gny_sp 0 rfl rfl rfl ?_ | refine gny_sB 0 rfl rfl rfl ?_ | refine gny_sld 0 rfl rfl rfl rfl ?_ | refine gny_sldH 0 rfl rfl rfl ‹HRow _ _ 0 _› rfl ?_ | refine gny_ldN 0 rfl rfl rfl rfl ?_ | refine gny_bld 0 rfl rfl rfl ?_); (first | refine gny_p 1 rfl rfl rfl ?_ | refine gny_ld 1 rfl rfl rfl rfl ?_ | refine gny_ldH 1 rfl rfl rfl ‹HRow _ _ 0 _› rfl ?_ | refine gny_T 1 rfl rfl rfl ?_ | refine gny_F 1 rfl rfl rfl ?_ | refine gny_B 1 rfl rfl rfl ?_ | refine gny_skip 1 rfl rfl ?_ | refine gny_sp 1 rfl rfl rfl ?_ | refine gny_sB 1 rfl rfl rfl ?_ | refine gny_sld 1 rfl rfl rfl rfl ?_ | refine gny_sldH 1 rfl rfl rfl ‹HRow _ _ 0 _› rfl ?_ | refine gny_ldN 1 rfl rfl rfl rfl ?_ | refine gny_bld 1 rfl rfl rfl ?_); (first | refine gny_p 2 rfl rfl rfl ?_ | refine gny_ld 2 rfl rfl rfl rfl ?_ | refine gny_ldH 2 rfl rfl rfl ‹HRow _ _ 0 _› rfl ?_ | refine gny_T 2 rfl rfl rfl ?_ | refine gny_F 2 rfl rfl rfl ?_ | refine gny_B 2 rfl rfl rfl ?_ | refine gny_skip 2 rfl rfl ?_ | refine gny_sp 2 rfl rfl rfl ?_ | refine gny_sB 2 rfl rfl rfl ?_ | refine gny_sld 2 rfl rfl rfl rfl ?_ | refine gny_sldH 2 rfl rfl rfl ‹HRow _ _ 0 _› rfl ?_ | refine gny_ldN 2 rfl rfl rfl rfl ?_ | refine gny_bld 2 rfl rfl rfl ?_); (first | refine gny_p 3 rfl rfl rfl ?_ | refine gny_ld 3 rfl rfl rfl rfl ?_ | refine gny_ldH 3 rfl rfl rfl ‹HRow _ _ 0 _› rfl ?_ | refine gny_T 3 rfl rfl rfl ?_ | refine gny_F 3 rfl rfl rfl ?_ | refine gny_B 3 rfl rfl rfl ?_ | refine gny_skip 3 rfl rfl ?_ | refine gny_sp 3 rfl rfl rfl ?_ | refine gny_sB 3 rfl rfl rfl ?_ | refine gny_sld 3 rfl rfl rfl rfl ?_ | refine gny_sldH 3 rfl rfl rfl ‹HRow _ _ 0 _› rfl ?_ | refine gny_ldN 3 rfl rfl rfl rfl ?_ | refine gny_bld 3 rfl rfl rfl ?_); (first | refine gny_p 4 rfl rfl rfl ?_ | refine gny_ld 4 rfl rfl rfl rfl ?_ | refine gny_ldH 4 rfl rfl rfl ‹HRow _ _ 0 _› rfl ?_ | refine gny_T 4 rfl rfl rfl ?_ | refine gny_F 4 rfl rfl rfl ?_ | refine gny_B 4 rfl rfl rfl ?_ | refine gny_skip 4 rfl rfl ?_ | refine gny_sp 4 rfl rfl rfl ?_ | refine gny_sB 4 rfl rfl rfl ?_ | refine gny_sld 4 rfl rfl rfl rfl ?_ | refine gny_sldH 4 rfl rfl rfl ‹HRow _ _ 0 _› rfl ?_ | refine gny_ldN 4 rfl rfl rfl rfl ?_ | refine gny_bld 4 rfl rfl rfl ?_)
    refine gny_el 5 6 (jj := k) rfl rfl rfl rfl rfl hnk.1 hk1 ?_
    (first | refine gny_p 7 rfl rfl rfl ?_ | refine gny_ld 7 rfl rfl rfl rfl ?_ | refine gny_ldH 7 rfl rfl rfl ‹HRow _ _ 0 _› rfl ?_ | refine gny_T 7 rfl rfl rfl ?_ | refine gny_F 7 rfl rfl rfl ?_ | refine gny_B 7 rfl rfl rfl ?_ | refine gny_skip 7 rfl rfl ?_ | refine gny_sp 7 rfl rfl rfl ?_ | refine gny_sB 7 rfl rfl rfl ?_ | refine gny_sld 7 rfl rfl rfl rfl ?_ | refine gny_sldH 7 rfl rfl rfl ‹HRow _ _ 0 _› rfl ?_ | refine gny_ldN 7 rfl rfl rfl rfl ?_ | refine gny_bld 7 rfl rfl rfl ?_); (first | refine gny_p 8 rfl rfl rfl ?_ | refine gny_ld 8 rfl rfl rfl rfl ?_ | refine gny_ldH 8 rfl rfl rfl ‹HRow _ _ 0 _› rfl ?_ | refine gny_T 8 rfl rfl rfl ?_ | refine gny_F 8 rfl rfl rfl ?_ | refine gny_B 8 rfl rfl rfl ?_ | refine gny_skip 8 rfl rfl ?_ | refine gny_sp 8 rfl rfl rfl ?_ | refine gny_sB 8 rfl rfl rfl ?_ | refine gny_sld 8 rfl rfl rfl rfl ?_ | refine gny_sldH 8 rfl rfl rfl ‹HRow _ _ 0 _› rfl ?_ | refine gny_ldN 8 rfl rfl rfl rfl ?_ | refine gny_bld 8 rfl rfl rfl ?_); (first | refine gny_p 9 rfl rfl rfl ?_ | refine gny_ld 9 rfl rfl rfl rfl ?_ | refine gny_ldH 9 rfl rfl rfl ‹HRow _ _ 0 _› rfl ?_ | refine gny_T 9 rfl rfl rfl ?_ | refine gny_F 9 rfl rfl rfl ?_ | refine gny_B 9 rfl rfl rfl ?_ | refine gny_skip 9 rfl rfl ?_ | refine gny_sp 9 rfl rfl rfl ?_ | refine gny_sB 9 rfl rfl rfl ?_ | refine gny_sld 9 rfl rfl rfl rfl ?_ | refine gny_sldH 9 rfl rfl rfl ‹HRow _ _ 0 _› rfl ?_ | refine gny_ldN 9 rfl rfl rfl rfl ?_ | refine gny_bld 9 rfl rfl rfl ?_); (first | refine gny_p 10 rfl rfl rfl ?_ | refine gny_ld 10 rfl rfl rfl rfl ?_ | refine gny_ldH 10 rfl rfl rfl ‹HRow _ _ 0 _› rfl ?_ | refine gny_T 10 rfl rfl rfl ?_ | refine gny_F 10 rfl rfl rfl ?_ | refine gny_B 10 rfl rfl rfl ?_ | refine gny_skip 10 rfl rfl ?_ | refine gny_sp 10 rfl rfl rfl ?_ | refine gny_sB 10 rfl rfl rfl ?_ | refine gny_sld 10 rfl rfl rfl rfl ?_ | refine gny_sldH 10 rfl rfl rfl ‹HRow _ _ 0 _› rfl ?_ | refine gny_ldN 10 rfl rfl rfl rfl ?_ | refine gny_bld 10 rfl rfl rfl ?_); (first | refine gny_p 11 rfl rfl rfl ?_ | refine gny_ld 11 rfl rfl rfl rfl ?_ | refine gny_ldH 11 rfl rfl rfl ‹HRow _ _ 0 _› rfl ?_ | refine gny_T 11 rfl rfl rfl ?_ | refine gny_F 11 rfl rfl rfl ?_ | refine gny_B 11 rfl rfl rfl ?_ | refine gny_skip 11 rfl rfl ?_ | refine gny_sp 11 rfl rfl rfl ?_ | refine gny_sB 11 rfl rfl rfl ?_ | refine gny_sld 11 rfl rfl rfl rfl ?_ | refine gny_sldH 11 rfl rfl rfl ‹HRow _ _ 0 _› rfl ?_ | refine gny_ldN 11 rfl rfl rfl rfl ?_ | refine gny_bld 11 rfl rfl rfl ?_)
    rw [ets]
    refine any_rest rfl ?_
    generalize hqe : (nextR m x)[k] = q at *
    refine ops_pcall rfl rfl (step18_spec gk hm.1.1 htkk.1 fx fq fts fts1) ?_
    refine walk ?_
    have hsn := ok_snoc (m := m) (tk := tk) (p := p) (t := t) (c := x) (d := q)
    refine ex_if rfl (fun hst => ?_) (fun hst => ?_)
    · refine walk ?_
      refine out_next hL (k + 1, best, bb, cb, Hk) ⟨by simp only; omega, hlk, ?_, hbk⟩
      simp only
      rw [htk]
      refine everyL_skip hI fun e => hst ?_
      obtain ⟨_, e2, e3, e4⟩ := hsn.1 e
      exact ⟨⟨e2, e3⟩, e4.imp (fun h => h.symm) id⟩
    replace hst : stepM m tk x q (t + p.length) := Classical.not_not.1 hst
    have hok2 : okM m tk t (p ++ [x] ++ [q]) := hsn.2 ⟨hok1, hst.1.1, hst.1.2, hst.2.imp (fun h => h.symm) id⟩
    have hcap1 : ([].length (α := Int) + (p ++ [x]).length) * 8 ≤ cap47 := by simp only [List.length_nil, hpl, cap47]; omega
    have hcap2 : (([] ++ (p ++ [x]) : List Int).length + 1) * 8 ≤ cap47 := by simp only [List.nil_append, hpl, cap47]; omega
    have hiq : rInt Hk [I q] q := ⟨rfl, fq⟩
    refine walk ?_
    refine ex_any 14 [row p6 24 (m.cv s0)] ?_
    (first | refine gny_p 0 rfl rfl rfl ?_ | refine gny_ld 0 rfl rfl rfl rfl ?_ | refine gny_ldH 0 rfl rfl rfl ‹HRow _ _ 0 _› rfl ?_ | refine gny_T 0 rfl rfl rfl ?_ | refine gny_F 0 rfl rfl rfl ?_ | refine gny_B 0 rfl rfl rfl ?_ | refine gny_skip 0 rfl rfl ?_ | refine gny_sp 0 rfl rfl rfl ?_ | refine gny_sB 0 rfl rfl rfl ?_ | refine gny_sld 0 rfl rfl rfl rfl ?_ | refine gny_sldH 0 rfl rfl rfl ‹HRow _ _ 0 _› rfl ?_ | refine gny_ldN 0 rfl rfl rfl rfl ?_ | refine gny_bld 0 rfl rfl rfl ?_); (first | refine gny_p 1 rfl rfl rfl ?_ | refine gny_ld 1 rfl rfl rfl rfl ?_ | refine gny_ldH 1 rfl rfl rfl ‹HRow _ _ 0 _› rfl ?_ | refine gny_T 1 rfl rfl rfl ?_ | refine gny_F 1 rfl rfl rfl ?_ | refine gny_B 1 rfl rfl rfl ?_ | refine gny_skip 1 rfl rfl ?_ | refine gny_sp 1 rfl rfl rfl ?_ | refine gny_sB 1 rfl rfl rfl ?_ | refine gny_sld 1 rfl rfl rfl rfl ?_ | refine gny_sldH 1 rfl rfl rfl ‹HRow _ _ 0 _› rfl ?_ | refine gny_ldN 1 rfl rfl rfl rfl ?_ | refine gny_bld 1 rfl rfl rfl ?_); (first | refine gny_p 2 rfl rfl rfl ?_ | refine gny_ld 2 rfl rfl rfl rfl ?_ | refine gny_ldH 2 rfl rfl rfl ‹HRow _ _ 0 _› rfl ?_ | refine gny_T 2 rfl rfl rfl ?_ | refine gny_F 2 rfl rfl rfl ?_ | refine gny_B 2 rfl rfl rfl ?_ | refine gny_skip 2 rfl rfl ?_ | refine gny_sp 2 rfl rfl rfl ?_ | refine gny_sB 2 rfl rfl rfl ?_ | refine gny_sld 2 rfl rfl rfl rfl ?_ | refine gny_sldH 2 rfl rfl rfl ‹HRow _ _ 0 _› rfl ?_ | refine gny_ldN 2 rfl rfl rfl rfl ?_ | refine gny_bld 2 rfl rfl rfl ?_); (first | refine gny_p 3 rfl rfl rfl ?_ | refine gny_ld 3 rfl rfl rfl rfl ?_ | refine gny_ldH 3 rfl rfl rfl ‹HRow _ _ 0 _› rfl ?_ | refine gny_T 3 rfl rfl rfl ?_ | refine gny_F 3 rfl rfl rfl ?_ | refine gny_B 3 rfl rfl rfl ?_ | refine gny_skip 3 rfl rfl ?_ | refine gny_sp 3 rfl rfl rfl ?_ | refine gny_sB 3 rfl rfl rfl ?_ | refine gny_sld 3 rfl rfl rfl rfl ?_ | refine gny_sldH 3 rfl rfl rfl ‹HRow _ _ 0 _› rfl ?_ | refine gny_ldN 3 rfl rfl rfl rfl ?_ | refine gny_bld 3 rfl rfl rfl ?_); (first | refine gny_p 4 rfl rfl rfl ?_ | refine gny_ld 4 rfl rfl rfl rfl ?_ | refine gny_ldH 4 rfl rfl rfl ‹HRow _ _ 0 _› rfl ?_ | refine gny_T 4 rfl rfl rfl ?_ | refine gny_F 4 rfl rfl rfl ?_ | refine gny_B 4 rfl rfl rfl ?_ | refine gny_skip 4 rfl rfl ?_ | refine gny_sp 4 rfl rfl rfl ?_ | refine gny_sB 4 rfl rfl rfl ?_ | refine gny_sld 4 rfl rfl rfl rfl ?_ | refine gny_sldH 4 rfl rfl rfl ‹HRow _ _ 0 _› rfl ?_ | refine gny_ldN 4 rfl rfl rfl rfl ?_ | refine gny_bld 4 rfl rfl rfl ?_); (first | refine gny_p 6 rfl rfl rfl ?_ | refine gny_ld 6 rfl rfl rfl rfl ?_ | refine gny_ldH 6 rfl rfl rfl ‹HRow _ _ 0 _› rfl ?_ | refine gny_T 6 rfl rfl rfl ?_ | refine gny_F 6 rfl rfl rfl ?_ | refine gny_B 6 rfl rfl rfl ?_ | refine gny_skip 6 rfl rfl ?_ | refine gny_sp 6 rfl rfl rfl ?_ | refine gny_sB 6 rfl rfl rfl ?_ | refine gny_sld 6 rfl rfl rfl rfl ?_ | refine gny_sldH 6 rfl rfl rfl ‹HRow _ _ 0 _› rfl ?_ | refine gny_ldN 6 rfl rfl rfl rfl ?_ | refine gny_bld 6 rfl rfl rfl ?_); (first | refine gny_p 8 rfl rfl rfl ?_ | refine gny_ld 8 rfl rfl rfl rfl ?_ | refine gny_ldH 8 rfl rfl rfl ‹HRow _ _ 0 _› rfl ?_ | refine gny_T 8 rfl rfl rfl ?_ | refine gny_F 8 rfl rfl rfl ?_ | refine gny_B 8 rfl rfl rfl ?_ | refine gny_skip 8 rfl rfl ?_ | refine gny_sp 8 rfl rfl rfl ?_ | refine gny_sB 8 rfl rfl rfl ?_ | refine gny_sld 8 rfl rfl rfl rfl ?_ | refine gny_sldH 8 rfl rfl rfl ‹HRow _ _ 0 _› rfl ?_ | refine gny_ldN 8 rfl rfl rfl rfl ?_ | refine gny_bld 8 rfl rfl rfl ?_); (first | refine gny_p 9 rfl rfl rfl ?_ | refine gny_ld 9 rfl rfl rfl rfl ?_ | refine gny_ldH 9 rfl rfl rfl ‹HRow _ _ 0 _› rfl ?_ | refine gny_T 9 rfl rfl rfl ?_ | refine gny_F 9 rfl rfl rfl ?_ | refine gny_B 9 rfl rfl rfl ?_ | refine gny_skip 9 rfl rfl ?_ | refine gny_sp 9 rfl rfl rfl ?_ | refine gny_sB 9 rfl rfl rfl ?_ | refine gny_sld 9 rfl rfl rfl rfl ?_ | refine gny_sldH 9 rfl rfl rfl ‹HRow _ _ 0 _› rfl ?_ | refine gny_ldN 9 rfl rfl rfl rfl ?_ | refine gny_bld 9 rfl rfl rfl ?_)
    refine gny_el 10 11 (jj := k) rfl rfl rfl rfl rfl hnk.1 hk1 ?_
    rw [hqe]
    refine any_w2 5 12 rfl rfl (op_mk0S (wd := 8) rInt fun b1 => ⟨.refl _, (by (repeat (first | exact Sub.refl _ | exact Sub.nil _ | (apply sub_pick; (repeat (first | exact Has.here | apply Has.there)); skip) | apply Sub.drop))), ?_⟩) (op_bs1 rfl rfl rfl fun b2 => ⟨.refl _, (by (repeat (first | exact Sub.refl _ | exact Sub.nil _ | (apply sub_pick; (repeat (first | exact Has.here | apply Has.there)); skip) | apply Sub.drop))), ?_⟩)
    · refine any_w2 7 12 rfl rfl (op_appSS rfl h2k.1 hcap1 fun d1 e1 => ⟨.refl _, (by (repeat (first | exact Sub.refl _ | exact Sub.nil _ | (apply sub_pick; (repeat (first | exact Has.here | apply Has.there)); skip) | apply Sub.drop))), ?_⟩) (op_bs1 rfl rfl rfl fun b2 => ⟨.refl _, (by (repeat (first | exact Sub.refl _ | exact Sub.nil _ | (apply sub_pick; (repeat (first | exact Has.here | apply Has.there)); skip) | apply Sub.drop))), ?_⟩)
      · refine any_w 12 rfl (op_bs1 rfl rfl rfl fun b2 => ⟨.refl _, (by (repeat (first | exact Sub.refl _ | exact Sub.nil _ | (apply sub_pick; (repeat (first | exact Has.here | apply Has.there)); skip) | apply Sub.drop))), ?_⟩)
        refine any_w 13 rfl (op_appRS rfl hiq hcap2 fun d2 e2 => ⟨.refl _, (by (repeat (first | exact Sub.refl _ | exact Sub.nil _ | (apply sub_pick; (repeat (first | exact Has.here | apply Has.there)); skip) | apply Sub.drop))), ?_⟩)
        refine any_rest rfl ?_
        refine ops_freeze (.slice d2 (([] ++ (p ++ [x])).length + 1) e2) fun H5 hl5 hf => ?_
        have hf2 : SlB rInt 1 8 H5 (.slice d2 (([] ++ (p ++ [x])).length + 1) e2) (p ++ [x] ++ [q]) := hf
        have hih := ih (d - 1) (by omega) (RdOk.mono (R := rMap) hl5 gk) (htkk.mono hl5) hf2 (by rw [List.length_append, List.length_singleton]; omega) hst.1.1.1.2 (fun _ => hok2)
        refine ops_call rfl rfl hih fun r7 H7 B hl7 ⟨⟨l, hl, hE⟩, eB⟩ => ?_
        subst eB
        obtain ⟨bl, cl, rfl, _, _⟩ := hl.1.shape
        have hl57 := hl5.trans hl7
        have hEl : l ≠ [] → okM m tk t l ∧ l.length = n := fun e => by
          rcases hE with ⟨h, _⟩ | ⟨h1, h2, _⟩
          · exact absurd h e
          · exact ⟨h1, h2⟩
        have hbt : 0 < (l.length : Int) ∧ ¬ (best.length : Int) = 0 → Ct Tryd.prog 16 #[.agg (m.cv s0).toArray, I goal, .slice bl l.length cl, .slice bb best.length cb] W0 H7 [] (fun r H' B => r = .bool (decide (betN goal (distM m goal) l best)) ∧ B = [] ∧ H' = H7) := fun hg => by
          obtain ⟨o1, o2⟩ := hEl (List.ne_nil_of_length_pos (by omega))
          obtain ⟨o3, o4⟩ := hEb (fun e => hg.2 (by rw [e]; rfl))
          exact better18_spec (RdOk.mono (R := rMap) hl57 gk) hm.1.1 hgC hl.1 (hbk.mono hl57).1 (List.ne_nil_of_length_pos (by omega)) (by rw [o2, o4]) (fun y hy => (ok_free o1 y hy).2) (fun y hy => (ok_free o3 y hy).2)
        refine walkG ?_
        refine ops_gcall rfl rfl (fun hg => hbt hg) ?_
        refine walkG ?_
        obtain ⟨hs1, hs2⟩ := everyL_step hI hE
        rw [← htk] at hs1 hs2
        refine ex_if rfl (fun hq => ?_) (fun hq => ?_)
        · refine walk ?_
          refine out_next hL (k + 1, l, bl, cl, H7) ⟨by simp only; omega, hlk.trans hl57, hs2 (List.ne_nil_of_length_pos (by omega)), hl⟩
        · refine walk ?_
          refine out_next hL (k + 1, best, bb, cb, H7) ⟨by simp only; omega, hlk.trans hl57, ?_, hbk.mono hl57⟩
          simp only
          by_cases hl0 : l = []
          · exact hs1 hl0
          · have hb0 : best ≠ [] := fun e => hq ⟨by have := List.length_pos_iff.2 hl0; omega, .inl (by rw [e]; rfl)⟩
            have := everyL_keep hI hE hb0
            rw [← htk] at this
            exact this
      · refine any_w 7 rfl (op_appSS rfl h2k.1 hcap1 fun d1 e1 => ⟨.refl _, (by (repeat (first | exact Sub.refl _ | exact Sub.nil _ | (apply sub_pick; (repeat (first | exact Has.here | apply Has.there)); skip) | apply Sub.drop))), ?_⟩)
        refine any_w 13 rfl (op_appRS rfl hiq hcap2 fun d2 e2 => ⟨.refl _, (by (repeat (first | exact Sub.refl _ | exact Sub.nil _ | (apply sub_pick; (repeat (first | exact Has.here | apply Has.there)); skip) | apply Sub.drop))), ?_⟩)
        refine any_rest rfl ?_
        refine ops_freeze (.slice d2 (([] ++ (p ++ [x])).length + 1) e2) fun H5 hl5 hf => ?_
        have hf2 : SlB rInt 1 8 H5 (.slice d2 (([] ++ (p ++ [x])).length + 1) e2) (p ++ [x] ++ [q]) := hf
        have hih := ih (d - 1) (by omega) (RdOk.mono (R := rMap) hl5 gk) (htkk.mono hl5) hf2 (by rw [List.length_append, List.length_singleton]; omega) hst.1.1.1.2 (fun _ => hok2)
        refine ops_call rfl rfl hih fun r7 H7 B hl7 ⟨⟨l, hl, hE⟩, eB⟩ => ?_
        subst eB
        obtain ⟨bl, cl, rfl, _, _⟩ := hl.1.shape
        have hl57 := hl5.trans hl7
        have hEl : l ≠ [] → okM m tk t l ∧ l.length = n := fun e => by
          rcases hE with ⟨h, _⟩ | ⟨h1, h2, _⟩
          · exact absurd h e
          · exact ⟨h1, h2⟩
        have hbt : 0 < (l.length : Int) ∧ ¬ (best.length : Int) = 0 → Ct Tryd.prog 16 #[.agg (m.cv s0).toArray, I goal, .slice bl l.length cl, .slice bb best.length cb] W0 H7 [] (fun r H' B => r = .bool (decide (betN goal (distM m goal) l best)) ∧ B = [] ∧ H' = H7) := fun hg => by
          obtain ⟨o1, o2⟩ := hEl (List.ne_nil_of_length_pos (by omega))
          obtain ⟨o3, o4⟩ := hEb (fun e => hg.2 (by rw [e]; rfl))
          exact better18_spec (RdOk.mono (R := rMap) hl57 gk) hm.1.1 hgC hl.1 (hbk.mono hl57).1 (List.ne_nil_of_length_pos (by omega)) (by rw [o2, o4]) (fun y hy => (ok_free o1 y hy).2) (fun y hy => (ok_free o3 y hy).2)
        refine walkG ?_
        refine ops_gcall rfl rfl (fun hg => hbt hg) ?_
        refine walkG ?_
        obtain ⟨hs1, hs2⟩ := everyL_step hI hE
        rw [← htk] at hs1 hs2
        refine ex_if rfl (fun hq => ?_) (fun hq => ?_)
        · refine walk ?_
          refine out_next hL (k + 1, l, bl, cl, H7) ⟨by simp only; omega, hlk.trans hl57, hs2 (List.ne_nil_of_length_pos (by omega)), hl⟩
        · refine walk ?_
          refine out_next hL (k + 1, best, bb, cb, H7) ⟨by simp only; omega, hlk.trans hl57, ?_, hbk.mono hl57⟩
          simp only
          by_cases hl0 : l = []
          · exact hs1 hl0
          · have hb0 : best ≠ [] := fun e => hq ⟨by have := List.length_pos_iff.2 hl0; omega, .inl (by rw [e]; rfl)⟩
            have := everyL_keep hI hE hb0
            rw [← htk] at this
            exact this
    · refine any_w 5 rfl (op_mk0S (wd := 8) rInt fun b1 => ⟨.refl _, (by (repeat (first | exact Sub.refl _ | exact Sub.nil _ | (apply sub_pick; (repeat (first | exact Has.here | apply Has.there)); skip) | apply Sub.drop))), ?_⟩)
      refine any_w 7 rfl (op_appSS rfl h2k.1 hcap1 fun d1 e1 => ⟨.refl _, (by (repeat (first | exact Sub.refl _ | exact Sub.nil _ | (apply sub_pick; (repeat (first | exact Has.here | apply Has.there)); skip) | apply Sub.drop))), ?_⟩)
      refine any_w 13 rfl (op_appRS rfl hiq hcap2 fun d2 e2 => ⟨.refl _, (by (repeat (first | exact Sub.refl _ | exact Sub.nil _ | (apply sub_pick; (repeat (first | exact Has.here | apply Has.there)); skip) | apply Sub.drop))), ?_⟩)
      refine any_rest rfl ?_
      refine ops_freeze (.slice d2 (([] ++ (p ++ [x])).length + 1) e2) fun H5 hl5 hf => ?_
      have hf2 : SlB rInt 1 8 H5 (.slice d2 (([] ++ (p ++ [x])).length + 1) e2) (p ++ [x] ++ [q]) := hf
      have hih := ih (d - 1) (by omega) (RdOk.mono (R := rMap) hl5 gk) (htkk.mono hl5) hf2 (by rw [List.length_append, List.length_singleton]; omega) hst.1.1.1.2 (fun _ => hok2)
      refine ops_call rfl rfl hih fun r7 H7 B hl7 ⟨⟨l, hl, hE⟩, eB⟩ => ?_
      subst eB
      obtain ⟨bl, cl, rfl, _, _⟩ := hl.1.shape
      have hl57 := hl5.trans hl7
      have hEl : l ≠ [] → okM m tk t l ∧ l.length = n := fun e => by
        rcases hE with ⟨h, _⟩ | ⟨h1, h2, _⟩
        · exact absurd h e
        · exact ⟨h1, h2⟩
      have hbt : 0 < (l.length : Int) ∧ ¬ (best.length : Int) = 0 → Ct Tryd.prog 16 #[.agg (m.cv s0).toArray, I goal, .slice bl l.length cl, .slice bb best.length cb] W0 H7 [] (fun r H' B => r = .bool (decide (betN goal (distM m goal) l best)) ∧ B = [] ∧ H' = H7) := fun hg => by
        obtain ⟨o1, o2⟩ := hEl (List.ne_nil_of_length_pos (by omega))
        obtain ⟨o3, o4⟩ := hEb (fun e => hg.2 (by rw [e]; rfl))
        exact better18_spec (RdOk.mono (R := rMap) hl57 gk) hm.1.1 hgC hl.1 (hbk.mono hl57).1 (List.ne_nil_of_length_pos (by omega)) (by rw [o2, o4]) (fun y hy => (ok_free o1 y hy).2) (fun y hy => (ok_free o3 y hy).2)
      refine walkG ?_
      refine ops_gcall rfl rfl (fun hg => hbt hg) ?_
      refine walkG ?_
      obtain ⟨hs1, hs2⟩ := everyL_step hI hE
      rw [← htk] at hs1 hs2
      refine ex_if rfl (fun hq => ?_) (fun hq => ?_)
      · refine walk ?_
        refine out_next hL (k + 1, l, bl, cl, H7) ⟨by simp only; omega, hlk.trans hl57, hs2 (List.ne_nil_of_length_pos (by omega)), hl⟩
      · refine walk ?_
        refine out_next hL (k + 1, best, bb, cb, H7) ⟨by simp only; omega, hlk.trans hl57, ?_, hbk.mono hl57⟩
        simp only
        by_cases hl0 : l = []
        · exact hs1 hl0
        · have hb0 : best ≠ [] := fun e => hq ⟨by have := List.length_pos_iff.2 hl0; omega, .inl (by rw [e]; rfl)⟩
          have := everyL_keep hI hE hb0
          rw [← htk] at this
          exact this
  · clear hL
    obtain rfl : k = (nextR m x).length := by omega
    rw [List.take_length] at hI
    refine walk ?_
    refine fin0 ?_
    exact ⟨⟨best, hbk, everyL_done (by omega) hI⟩, rfl⟩
end Go.Proofs.YtadahmihkbpglaaDoor
