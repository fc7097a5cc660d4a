/- Shards and homes. -/
import Derived.Test.YtnfmjkjhiolfdaaDoorGD
import Derived.Test.YtnfmjkjhiolfdaaDoorBD
set_option linter.unusedVariables false
set_option linter.unusedSimpArgs false
namespace Go.Proofs.YtnfmjkjhiolfdaaDoor
open Go Go.Sx Go.Proofs
/-- the shard of a cell -/
def shardM (m : Map) (c : Int) : Int := (c.tmod m.W * m.Shards).tdiv m.W
theorem shard_facts {m : Map} (hg : headM m) {c : Int} (hc : isC m c) : (0 ≤ c.tmod m.W * m.Shards ∧ c.tmod m.W * m.Shards ≤ 64) ∧ 0 ≤ shardM m c ∧ shardM m c < m.Shards := by
  obtain ⟨⟨x1, x2⟩, _⟩ := cell_xy hg.1 hc
  simp only [headM, sidesM] at hg
  have hp : 0 ≤ c.tmod m.W * m.Shards := Int.mul_nonneg x1 (by omega)
  have h2 : c.tmod m.W * m.Shards ≤ 16 * 4 := Int.mul_le_mul (by omega) (by omega) (by omega) (by omega)
  refine ⟨⟨hp, by omega⟩, ?_⟩
  unfold shardM
  rw [Int.tdiv_eq_ediv_of_nonneg hp]
  refine ⟨Int.ediv_nonneg hp (by omega), Int.ediv_lt_of_lt_mul (by omega) ?_⟩
  rw [Int.mul_comm]
  exact Int.mul_lt_mul_of_pos_left x2 (by omega)
theorem shard_no {W0 : World} {H : Heap} {p : Value} {m : Map} {x : Int} (h : rG H p m) (hx : ¬ isC m x) :
    Ct Tryd.prog 36 #[p, I x] W0 H [] (fun r H' B => r = .tuple #[I 0, I 121] ∧ B = [] ∧ H' = H) := by
  refine Ct.go fun R => ?_
  refine walk ?_
  refine ops_pcall rfl rfl (place_no h hx) ?_
  refine walk ?_
  refine fin0 ?_
  exact ⟨rfl, rfl, rfl⟩
theorem shard_yes {W0 : World} {H : Heap} {p : Value} {m : Map} {x : Int} (h : rG H p m) (hx : isC m x) :
    Ct Tryd.prog 36 #[p, I x] W0 H [] (fun r H' B => r = .tuple #[I (shardM m x), I 0] ∧ B = [] ∧ H' = H) := by
  refine Ct.go fun R => ?_
  refine walk ?_
  refine ops_pcall rfl rfl (place_yes h hx) ?_
  obtain ⟨⟨b, s, mb, mm, rfl, h1, h2, h3, h4⟩, hg, hfs⟩ := h
  obtain ⟨⟨f1, f2⟩, f3, f4⟩ := shard_facts hg.1 hx
  have hs := hg.1
  simp only [headM, sidesM] at hs
  have g0 : fits (x.tmod m.W * m.Shards) := by unfold fits; omega
  have g1 : 0 < m.W ∧ fits ((x.tmod m.W * m.Shards).tdiv m.W) := ⟨by omega, by unfold shardM at f3 f4; unfold fits; omega⟩
  refine walkG ?_
  refine fin0 ?_
  exact ⟨rfl, rfl, rfl⟩
theorem rShard_spec {W0 : World} {H : Heap} {c : List Value} {m : Map} {x : Int} (h0 : rMap H c m) (hg : headM m) (hx : isC m x) :
    Ct Tryd.prog 51 #[.agg c.toArray, I x] W0 H [] (fun r H' B => r = I (shardM m x) ∧ B = [] ∧ H' = H) := by
  refine Ct.go (vs := [.agg c.toArray, I x]) fun R => ?_
  obtain ⟨s0, rfl, f1, f2, f3, h0⟩ := h0
  obtain ⟨⟨e1, e2⟩, e3, e4⟩ := shard_facts hg hx
  have hs := hg
  simp only [headM, sidesM] at hs
  have g0 : fits (x.tmod m.W * m.Shards) := by unfold fits; omega
  have g1 : 0 < m.W ∧ fits ((x.tmod m.W * m.Shards).tdiv m.W) := ⟨by omega, by unfold shardM at e3 e4; unfold fits; omega⟩
  have g2 : 0 < m.W := g1.1
  refine walk ?_
  refine ops_box rfl rfl fun p2 _ => ?_
  refine walk ?_
  refine fin0 ?_
  exact ⟨rfl, rfl, rfl⟩
/-- k is a key of the map's, written so -/
def homeOk (m : Map) (l : List UInt8) (k : Int × Int × Int) : Prop := isKey l k ∧ isC m k.1 ∧ (0 ≤ k.2.1 → besideC m k.1 k.2.1)
theorem homeOk.uniq {m : Map} {l : List UInt8} {k k' : Int × Int × Int} (h : homeOk m l k) (h' : isKey l k') : k' = k := h'.uniq h.1
def HomeP (m : Map) (l : List UInt8) (r : Value) : Prop := (∃ k, homeOk m l k ∧ r = .tuple #[I (shardM m k.1), I 0]) ∨ ((∀ k, ¬ homeOk m l k) ∧ r = .tuple #[I 0, I 121])
def RHomeP (m : Map) (l : List UInt8) (r : Value) : Prop := (∃ k, homeOk m l k ∧ r = I (shardM m k.1)) ∨ ((∀ k, ¬ homeOk m l k) ∧ r = I (-1))
theorem isKey.fits {l : List UInt8} {k : Int × Int × Int} (h : isKey l k) : Sx.fits k.1 ∧ Sx.fits k.2.1 ∧ Sx.fits k.2.2 := by
  simp only [isKey, tickI] at h
  unfold Sx.fits
  rcases h with ⟨h1, h2, h3, _⟩ | ⟨h1, h2, h3, h4, _⟩ <;> omega
set_option maxHeartbeats 8000000 in
theorem home_spec {W0 : World} {H : Heap} {p : Value} {m : Map} {l : List UInt8} (hP : PkH H) (h : rG H p m) (hl : l.length ≤ cap47) :
    Ct Tryd.prog 43 #[p, .string (sb l)] W0 H [] (fun r H' B => HomeP m l r ∧ B = [] ∧ H' = H) := by
  refine Ct.go fun R => ?_
  refine walk ?_
  refine ops_call rfl rfl (read_spec hP hl) fun r1 H1 B hl1 ⟨hr, eB, eH⟩ => ?_
  subst eB eH
  rcases hr with ⟨⟨a, b, t⟩, hk, rfl⟩ | ⟨hno, rfl⟩
  · refine walk ?_
    refine ops_alloc rfl fun p6 _ => ?_
    refine walkG ?_
    refine ops_gcall rfl rfl (fun hg => gBeside_spec h) ?_
    refine walkG ?_
    dsimp only
    refine ex_if rfl (fun hq => ?_) (fun hq => ?_)
    · refine walk ?_
      refine fin0 ?_
      refine ⟨.inr ⟨fun k hk' => ?_, rfl⟩, rfl, rfl⟩
      obtain rfl := hk'.uniq hk
      exact hq.2 (hk'.2.2 hq.1)
    · by_cases hi : isC m a
      · refine walk ?_
        refine ops_pcall rfl rfl (shard_yes h hi) ?_
        refine walk ?_
        refine fin0 ?_
        exact ⟨.inl ⟨(a, b, t), ⟨hk, hi, fun hb => Classical.not_not.1 fun e => hq ⟨hb, e⟩⟩, rfl⟩, rfl, rfl⟩
      · refine walk ?_
        refine ops_pcall rfl rfl (shard_no h hi) ?_
        refine walk ?_
        refine fin0 ?_
        refine ⟨.inr ⟨fun k hk' => ?_, rfl⟩, rfl, rfl⟩
        obtain rfl := hk'.uniq hk
        exact hi hk'.2.1
  · refine walk ?_
    refine ops_alloc rfl fun p6 _ => ?_
    refine walkG ?_
    refine fin0 ?_
    exact ⟨.inr ⟨fun k hk => hno k hk.1, rfl⟩, rfl, rfl⟩
set_option maxHeartbeats 8000000 in
theorem rHome_spec {W0 : World} {H : Heap} {c : List Value} {m : Map} {l : List UInt8} (h0 : rMap H c m) (hg : headM m) (hl : l.length ≤ cap47) :
    Ct Tryd.prog 44 #[.agg c.toArray, .string (sb l)] W0 H [] (fun r H' B => RHomeP m l r ∧ B = [] ∧ H' = H) := by
  refine Ct.go (vs := [.agg c.toArray, .string (sb l)]) fun R => ?_
  have g0 := h0
  have har := area_fits hg.1
  obtain ⟨s0, rfl, f1, f2, f3, h0⟩ := h0
  refine walk ?_
  refine ops_box rfl rfl fun p2 _ => ?_
  refine walk ?_
  refine ops_call rfl rfl (rRead_spec hl) fun r1 H1 B hl1 ⟨hr, eB, eH⟩ => ?_
  subst eB eH
  rcases hr with ⟨⟨a, b, t⟩, hk, rfl⟩ | ⟨hno, rfl⟩
  · refine walk ?_
    refine ops_alloc rfl fun p5 _ => ?_
    refine walkG ?_
    refine ops_pcall rfl rfl (rIs_spec g0 har) ?_
    dsimp only
    by_cases hi : isC m a
    · rw [decide_eq_true hi]
      refine walkG ?_
      refine ops_gcall rfl rfl (fun hg' => rBeside_spec g0 hg.1) ?_
      refine walkG ?_
      refine ex_if rfl (fun hq => ?_) (fun hq => ?_)
      · refine walk ?_
        refine fin0 ?_
        refine ⟨.inr ⟨fun k hk' => ?_, rfl⟩, rfl, rfl⟩
        obtain rfl := hk'.uniq hk
        exact hq.2 (hk'.2.2 hq.1)
      · refine walk ?_
        refine ops_pcall rfl rfl (rShard_spec g0 hg hi) ?_
        refine walk ?_
        refine fin0 ?_
        exact ⟨.inl ⟨(a, b, t), ⟨hk, hi, fun hb => Classical.not_not.1 fun e => hq ⟨hb, e⟩⟩, rfl⟩, rfl, rfl⟩
    · rw [decide_eq_false hi]
      refine walkG ?_
      refine fin0 ?_
      refine ⟨.inr ⟨fun k hk' => ?_, rfl⟩, rfl, rfl⟩
      obtain rfl := hk'.uniq hk
      exact hi hk'.2.1
  · refine walk ?_
    refine ops_alloc rfl fun p5 _ => ?_
    refine walkG ?_
    refine fin0 ?_
    exact ⟨.inr ⟨fun k hk => hno k hk.1, rfl⟩, rfl, rfl⟩
end Go.Proofs.YtnfmjkjhiolfdaaDoor
