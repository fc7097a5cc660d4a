/- GridShards, walked. -/
import Derived.Test.YtnfmjkjhiolfdaaDoorGF
set_option linter.unusedVariables false
set_option linter.unusedSimpArgs false
namespace Go.Proofs.YtnfmjkjhiolfdaaDoor
open Go Go.Sx Go.Proofs
theorem u16 (x : Int) : ∃ j : Nat, (IntKind.u64.wrap x).tmod 16 = j ∧ j ≤ 15 := by
  have hw : 0 ≤ IntKind.u64.wrap x := by simp [IntKind.wrap, IntKind.bits, IntKind.signed]; omega
  refine ⟨((IntKind.u64.wrap x).tmod 16).toNat, ?_, ?_⟩ <;> rw [Int.tmod_eq_emod_of_nonneg hw] <;> omega
theorem umod (x : Int) {k : Int} (h : 0 < k) : ∃ j : Nat, (IntKind.u64.wrap x).tmod k = j ∧ (j : Int) < k := by
  have hw : 0 ≤ IntKind.u64.wrap x := by simp [IntKind.wrap, IntKind.bits, IntKind.signed]; omega
  refine ⟨((IntKind.u64.wrap x).tmod k).toNat, ?_, ?_⟩ <;> rw [Int.tmod_eq_emod_of_nonneg hw]
  · have := Int.emod_nonneg (IntKind.u64.wrap x) (b := k) (by omega); omega
  · have := Int.emod_lt_of_pos (IntKind.u64.wrap x) h; omega
/-- a column's shard -/
theorem col_shard {m : Map} (hg : headM m) {x y : Nat} (hx : (x : Int) < m.W) (hy : (y : Int) < m.H) : isC m ((y : Int) * m.W + x) ∧ shardM m ((y : Int) * m.W + x) = ((x * m.Shards.toNat / m.W.toNat : Nat) : Int) := by
  simp only [headM, sidesM] at hg
  have h1 : ((y : Int) * m.W + x).tmod m.W = x := by
    have hp : 0 ≤ (y : Int) * m.W := Int.mul_nonneg (by omega) (by omega)
    rw [Int.tmod_eq_emod_of_nonneg (by omega), Int.add_comm, Int.add_mul_emod_self_right, Int.emod_eq_of_lt (by omega) hx]
  refine ⟨⟨?_, ?_⟩, ?_⟩
  · have hp : 0 ≤ (y : Int) * m.W := Int.mul_nonneg (by omega) (by omega)
    omega
  · have h2 : (y : Int) * m.W ≤ (m.H - 1) * m.W := Int.mul_le_mul_of_nonneg_right (by omega) (by omega)
    rw [Int.sub_mul, Int.one_mul, Int.mul_comm m.H] at h2
    omega
  · unfold shardM
    rw [h1, Int.tdiv_eq_ediv_of_nonneg (Int.mul_nonneg (by omega) (by omega))]
    have e1 : m.Shards = (m.Shards.toNat : Int) := by omega
    have e2 : m.W = (m.W.toNat : Int) := by omega
    rw [e1, e2]; simp
theorem shard_step {x s w : Nat} (h0 : 0 < w) (hs : s ≤ w) : x * s / w ≤ (x + 1) * s / w ∧ (x + 1) * s / w ≤ x * s / w + 1 := by
  rw [Nat.succ_mul]
  refine ⟨Nat.div_le_div_right (by omega), ?_⟩
  calc (x * s + s) / w ≤ (x * s + w) / w := Nat.div_le_div_right (by omega)
    _ = x * s / w + 1 := Nat.add_div_right _ h0
theorem shard_last {s w : Nat} (h0 : 0 < w) (h1 : 1 ≤ s) (hs : s ≤ w) : (w - 1) * s / w = s - 1 := by
  have e : (w - 1) * s = w * (s - 1) + (w - s) := by
    obtain ⟨a, rfl⟩ : ∃ a, w = a + 1 := ⟨w - 1, by omega⟩
    obtain ⟨b, rfl⟩ : ∃ b, s = b + 1 := ⟨s - 1, by omega⟩
    simp only [Nat.add_sub_cancel]
    rw [Nat.mul_succ, Nat.succ_mul]; omega
  rw [e, Nat.mul_add_div h0, Nat.div_eq_of_lt (by omega)]; rfl
set_option maxHeartbeats 16000000 in
theorem shards_spec {W0 : World} {H : Heap} {w h s : Int} (hP : PkH H) (fw : fits w) (fh : fits h) (fs : fits s) :
    Ct Tryd.prog 8 #[I w, I h, I s] W0 H [] (fun r H' B => r = .bool true ∧ B = []) := by
  refine Ct.go fun R => ?_
  obtain ⟨a, ea, ha⟩ := u16 w
  obtain ⟨b, eb, hb⟩ := u16 h
  have fa : fits ((IntKind.u64.wrap w).tmod 16) := by rw [ea]; unfold fits; omega
  have fb : fits ((IntKind.u64.wrap h).tmod 16) := by rw [eb]; unfold fits; omega
  have p16 : (0 : Int) < 16 := by omega
  refine walk ?_
  refine ops_call (vs := []) rfl rfl (awake12_spec hP) fun r1 H1 B hl1 ⟨er, eB⟩ => ?_
  subst er eB
  refine walk ?_
  rw [ea, eb]
  have e32 : IntKind.u64.wrap (min 4 ((a : Int) + 1)) = min 4 ((a : Int) + 1) := by simp [IntKind.wrap, IntKind.bits, IntKind.signed]; omega
  rw [e32]
  have hk : 0 < min 4 ((a : Int) + 1) := by omega
  obtain ⟨c, ec, hc⟩ := umod s hk
  have fc : fits ((IntKind.u64.wrap s).tmod (min 4 ((a : Int) + 1))) := by rw [ec]; unfold fits; omega
  refine walk ?_
  rw [ec]
  refine walk ?_
  have hm : rMap H1 [I ((a : Int) + 1), I ((b : Int) + 1), I ((c : Int) + 1), nilS] ⟨(a : Int) + 1, (b : Int) + 1, (c : Int) + 1, []⟩ := ⟨_, rfl, by unfold fits; simp only; omega, by unfold fits; simp only; omega, by unfold fits; simp only; omega, SlB.nil⟩
  have hgd : goodM ⟨(a : Int) + 1, (b : Int) + 1, (c : Int) + 1, []⟩ := ⟨by simp only [headM, sidesM]; omega, fun _ h => (by cases h)⟩
  refine ops_call (vs := [.agg #[I ((a : Int) + 1), I ((b : Int) + 1), I ((c : Int) + 1), nilS]]) rfl rfl (gNew_spec hm) fun r2 H2 B hl2 ⟨g, e, er, eB, h'⟩ => ?_
  subst er eB
  rcases h' with ⟨_, hG, rfl⟩ | ⟨hno, _⟩
  rotate_left
  · exact absurd hgd hno
  have hGp := hG
  obtain ⟨⟨bg, s', mb, mm, rfl, q1, q2, q3, q4⟩, _, hfs⟩ := hGp
  have hcol : ∀ x y : Nat, x < a + 1 → y < b + 1 → isC ⟨(a : Int) + 1, (b : Int) + 1, (c : Int) + 1, []⟩ ((y : Int) * ((a : Int) + 1) + x) ∧ shardM ⟨(a : Int) + 1, (b : Int) + 1, (c : Int) + 1, []⟩ ((y : Int) * ((a : Int) + 1) + x) = ((x * (c + 1) / (a + 1) : Nat) : Int) := fun x y hx hy => by
    have h := col_shard (m := ⟨(a : Int) + 1, (b : Int) + 1, (c : Int) + 1, []⟩) hgd.1 (x := x) (y := y) (by simp only; omega) (by simp only; omega)
    simp only [show ((c : Int) + 1).toNat = c + 1 by omega, show ((a : Int) + 1).toNat = a + 1 by omega] at h
    exact h
  have hcol0 : ∀ x : Nat, x < a + 1 → isC ⟨(a : Int) + 1, (b : Int) + 1, (c : Int) + 1, []⟩ (x : Int) ∧ shardM ⟨(a : Int) + 1, (b : Int) + 1, (c : Int) + 1, []⟩ (x : Int) = ((x * (c + 1) / (a + 1) : Nat) : Int) := fun x hx => by
    have h := hcol x 0 hx (by omega)
    rwa [show ((0 : Nat) : Int) * ((a : Int) + 1) + x = x by simp] at h
  have hca : c + 1 ≤ a + 1 := by omega
  refine walk ?_
  refine ex_loop (σ := Nat × Nat) (fun q => q.1 ≤ a + 1 ∧ q.2 = (q.1 - 1) * (c + 1) / (a + 1)) (fun q => [(0, I ((a : Int) + 1)), (1, I ((b : Int) + 1)), (2, I ((c : Int) + 1)), (7, .pointer (some ⟨bg, 0, none⟩)), (9, I q.2), (10, I q.1)]) (fun _ => H2) (fun _ => R) (fun q => a + 1 - q.1) (0, 0) ⟨Nat.zero_le _, by simp⟩ fun ⟨x, last⟩ ⟨hx0, hlast⟩ K hL => ?_
  simp only at hx0 hlast
  dsimp only
  refine walk ?_
  refine ex_if rfl (fun hx => ?_) (fun hx => ?_)
  · have hx1 : x < a + 1 := by omega
    obtain ⟨z, hz⟩ : ∃ z : Nat, x * (c + 1) / (a + 1) = z := ⟨_, rfl⟩
    have hc0 := hcol0 x hx1
    rw [hz] at hc0
    have hz0 : x = 0 → z = 0 := fun e => by subst e; simpa using hz.symm
    have hz1 : last ≤ z ∧ z ≤ last + 1 := by
      by_cases e : x = 0
      · subst e; rw [hz0 rfl]; simp at hlast; omega
      · obtain ⟨x', rfl⟩ : ∃ x', x = x' + 1 := ⟨x - 1, by omega⟩
        have := shard_step (x := x') (s := c + 1) (w := a + 1) (by omega) hca
        rw [← hz, hlast]; simpa using this
    have hz2 := (shard_facts hgd.1 hc0.1).2
    rw [hc0.2] at hz2
    simp only at hz2
    refine walk ?_
    refine ops_pcall rfl rfl (shard_yes hG hc0.1) ?_
    rw [hc0.2]
    by_cases e0 : x = 0
    · have ez : z = 0 := hz0 e0
      refine walk ?_
      refine ex_loop (σ := Nat) (fun y => 1 ≤ y ∧ y ≤ b + 1) (fun y => [(0, I ((a : Int) + 1)), (1, I ((b : Int) + 1)), (2, I ((c : Int) + 1)), (7, .pointer (some ⟨bg, 0, none⟩)), (9, I z), (10, I x), (11, I z), (13, I y)]) (fun _ => H2) (fun _ => R) (fun y => b + 1 - y) 1 ⟨Nat.le_refl _, by omega⟩ fun y ⟨hy1, hyb⟩ K2 hL2 => ?_
      refine walk ?_
      refine ex_if rfl (fun hy => ?_) (fun hy => ?_)
      · have hy2 : y < b + 1 := by omega
        have hc1 := hcol x y hx1 hy2
        rw [hz] at hc1
        have hm1 : 0 ≤ (y : Int) * ((a : Int) + 1) := Int.mul_nonneg (by omega) (by omega)
        have hm2 : (y : Int) * ((a : Int) + 1) ≤ 16 * 16 := Int.mul_le_mul (by omega) (by omega) (by omega) (by omega)
        have hf1 : fits ((y : Int) * ((a : Int) + 1)) := by unfold fits; omega
        have hf2 : fits ((y : Int) * ((a : Int) + 1) + x) := by unfold fits; omega
        refine walk ?_
        refine ops_pcall rfl rfl (shard_yes hG hc1.1) ?_
        rw [hc1.2]
        refine walk ?_
        refine out_next hL2 (y + 1) ⟨by omega, by omega⟩
      · clear hL2
        refine walk ?_
        refine out_next hL (x + 1, z) ⟨by simp only; omega, by simp only [Nat.add_sub_cancel]; exact hz.symm⟩
    · refine walk ?_
      refine ex_loop (σ := Nat) (fun y => 1 ≤ y ∧ y ≤ b + 1) (fun y => [(0, I ((a : Int) + 1)), (1, I ((b : Int) + 1)), (2, I ((c : Int) + 1)), (7, .pointer (some ⟨bg, 0, none⟩)), (9, I z), (10, I x), (11, I z), (13, I y)]) (fun _ => H2) (fun _ => R) (fun y => b + 1 - y) 1 ⟨Nat.le_refl _, by omega⟩ fun y ⟨hy1, hyb⟩ K2 hL2 => ?_
      refine walk ?_
      refine ex_if rfl (fun hy => ?_) (fun hy => ?_)
      · have hy2 : y < b + 1 := by omega
        have hc1 := hcol x y hx1 hy2
        rw [hz] at hc1
        have hm1 : 0 ≤ (y : Int) * ((a : Int) + 1) := Int.mul_nonneg (by omega) (by omega)
        have hm2 : (y : Int) * ((a : Int) + 1) ≤ 16 * 16 := Int.mul_le_mul (by omega) (by omega) (by omega) (by omega)
        have hf1 : fits ((y : Int) * ((a : Int) + 1)) := by unfold fits; omega
        have hf2 : fits ((y : Int) * ((a : Int) + 1) + x) := by unfold fits; omega
        refine walk ?_
        refine ops_pcall rfl rfl (shard_yes hG hc1.1) ?_
        rw [hc1.2]
        refine walk ?_
        refine out_next hL2 (y + 1) ⟨by omega, by omega⟩
      · clear hL2
        refine walk ?_
        refine out_next hL (x + 1, z) ⟨by simp only; omega, by simp only [Nat.add_sub_cancel]; exact hz.symm⟩
  · clear hL
    obtain rfl : x = a + 1 := by omega
    have hl : last = c := by
      have := shard_last (s := c + 1) (w := a + 1) (by omega) (by omega) hca
      rw [hlast]; simpa using this
    subst hl
    refine walk ?_
    refine fin0 ?_
    exact ⟨by simp, rfl⟩
end Go.Proofs.YtnfmjkjhiolfdaaDoor
