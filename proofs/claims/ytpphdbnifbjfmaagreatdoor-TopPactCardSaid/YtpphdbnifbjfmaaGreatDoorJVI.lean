/- TopPact, walked. -/
import Derived.Test.YtpphdbnifbjfmaaGreatDoorJE48
import Derived.Test.YtpphdbnifbjfmaaGreatDoorJVH
import Derived.Test.YtpphdbnifbjfmaaGreatDoorJYO
set_option linter.unusedVariables false
set_option linter.unusedSimpArgs false
namespace Go.Proofs.YtpphdbnifbjfmaaGreatDoor
open Go Go.Sx Go.Proofs
def keyT (i : Nat) : ByteArray := ⟨#[116]⟩ ++ sb [UInt8.ofNat (97 + i % 26), UInt8.ofNat (97 + i / 26 % 26)]
theorem keyT_inj {a b : Nat} (ha : a < 676) (hb : b < 676) (h : keyT a = keyT b) : a = b := by
  have e : ∀ i, keyT i = sb [116, UInt8.ofNat (97 + i % 26), UInt8.ofNat (97 + i / 26 % 26)] := fun i => by
    unfold keyT
    rw [show (⟨#[116]⟩ : ByteArray) = sb [116] from rfl, sb_append]; rfl
  rw [e a, e b] at h
  replace h := sb_inj h
  simp only [List.cons.injEq, and_true, true_and] at h
  have h1 := congrArg UInt8.toNat h.1
  have h2 := congrArg UInt8.toNat h.2
  simp only [UInt8.toNat_ofNat'] at h1 h2
  omega
theorem keyT_size (i : Nat) : (keyT i).size = 3 := by
  unfold keyT
  rw [ByteArray.size_append, sb_size]; rfl
def wkT (i : Nat) : Work := ⟨i, [keyT i], []⟩
def topM (i : Nat) : List Work := [wkT i, zWork, wkT i]
def topWs (i : Nat) : List (Int × Work) := [(0, wkT i), (2, wkT i)]
def ShapeJ (j : Nat) (B : List BT) : Prop := ∀ b ∈ B, ∃ i, i < j ∧ b.ws = topWs i
theorem works_top {i : Nat} : works0 0 (topM i) = topWs i := by
  simp [topM, works0, wkT, zWork, topWs]
theorem wkT_ok {i : Nat} (hi : i < 120) : ∀ x ∈ topM i, OkW x := fun x hx => by
  have h1 : OkW (wkT i) := ⟨by simp [wkT], by simp [wkT], by show fits (i : Int); unfold fits; omega, fun k hk => by
    have hk' : k ∈ ([keyT i] ++ [] : List ByteArray) := hk
    simp only [List.append_nil, List.mem_cons, List.not_mem_nil, or_false] at hk'
    rw [hk', keyT_size]; simp [cap47]⟩
  simp only [topM, List.mem_cons, List.not_mem_nil, or_false] at hx
  rcases hx with rfl | rfl | rfl
  · exact h1
  · exact okz0
  · exact h1
theorem topWs_mem {i : Nat} {q : Int × Work} (h : q ∈ topWs i) : q.2 = wkT i := by
  simp only [topWs, List.mem_cons, List.not_mem_nil, or_false] at h
  rcases h with rfl | rfl <;> rfl
theorem PPlay.noWorks {n : Nat} {w w' : PW} {k a e : Int} {works : List Work} (h : PPlay n w k a works w' e) (hk : k ≠ 1) : PPlay n w k a [] w' e := by
  cases h with
  | bad h => exact .bad fun hc => h (hc.elim (fun h1 => absurd h1.1 hk) .inr)
  | begin h1 => exact absurd h1 hk
  | none hk h => exact .none hk h
  | deliver hk j ha h w' out hh => exact .deliver hk j ha h w' out hh
  | fail hk j ha h w' w'' out hh i hi hc => exact .fail hk j ha h w' _ out hh i hi hc
  | drop hk j ha h => exact .drop hk j ha h
  | copy hk j ha h hf => exact .copy hk j ha h hf
  | full hk j ha h hf => exact .full hk j ha h hf
  | step hk i ha h => exact .step hk i ha h
  | tick hk h0 h => exact .tick hk h0 h
  | crash hk i ha h w' hc => exact .crash hk i ha h w' hc
theorem TI.quietP {n K m : Nat} {B : List BT} {w w' : PW} {k a e : Int} (T : TI B w) (I : WInv n K B w) (hK : K < 300) (hk : k ≠ 1) (h : PPlay m w k a [] w' e) : TI B w' := by
  obtain ⟨B', _, T', hB⟩ := T.play I hK (fun x hx => by cases hx) h (fun h => absurd h hk) (fun h => absurd h hk)
  rcases hB with rfl | ⟨h1, _⟩
  · exact T'
  · exact absurd h1 hk
def hsum (w : PW) (key : ByteArray) (r : Int) (i : Nat) : Nat := ((List.range i).map (heldAt w key r)).sum
theorem hsum_succ {w : PW} {key : ByteArray} {r : Int} {i : Nat} : hsum w key r (i + 1) = hsum w key r i + heldAt w key r i := by
  unfold hsum
  rw [List.range_succ, List.map_append, List.sum_append]; simp
theorem hsum_le {n K : Nat} {B : List BT} {w : PW} (I : WInv n K B w) {key : ByteArray} {r : Int} : ∀ {i : Nat}, i ≤ w.ns.length → hsum w key r i ≤ i
  | 0, _ => by simp [hsum]
  | i + 1, h => by
    rw [hsum_succ]
    have h1 := hsum_le I (key := key) (r := r) (i := i) (by omega)
    have h2 : heldAt w key r i ≤ 1 := by rw [heldAt_eq I (by omega)]; split <;> omega
    omega
theorem count_succ {l : List Hold} {k : Nat} (h : k < l.length) {key : ByteArray} {r : Int} : (l.take (k + 1)).countP (isH key r) = (l.take k).countP (isH key r) + if l[k].Key = key ∧ l[k].Robot = r then 1 else 0 := by
  rw [List.take_succ_eq_append_getElem h, List.countP_append]
  simp only [List.countP_cons, List.countP_nil, isH, decide_eq_true_eq, Nat.zero_add]
theorem top_step {j m : Nat} {B : List BT} {w w' : PW} {k a e : Int} {works : List Work} (hj : j < 120) (I : WInv 3 j B w) (T : TI B w) (hs : ShapeJ j B) (hk : k = 1 → works = topM j) (h : PPlay m w k a works w' e) :
    ∃ B', WInv 3 (j + 1) B' w' ∧ TI B' w' ∧ ShapeJ (j + 1) B' := by
  have up : ∀ {B'}, B' = B → ShapeJ (j + 1) B' := fun e => by
    subst e; intro b hb; obtain ⟨i, h1, h2⟩ := hs b hb; exact ⟨i, by omega, h2⟩
  by_cases hk1 : k = 1
  · have hw := hk hk1
    subst hw
    obtain ⟨B', I', T', hB⟩ := T.play I (by omega) (wkT_ok hj) h (fun _ q hq => by rw [works_top] at hq; rw [topWs_mem hq]; rfl) (fun _ b' hb' q hq q' hq' key hk1 hk2 => by
      rw [works_top] at hq
      obtain ⟨i, hi, e2⟩ := hs b' hb'
      rw [e2] at hq'
      rw [topWs_mem hq] at hk1
      rw [topWs_mem hq'] at hk2
      simp only [wkT, List.mem_cons, List.not_mem_nil, or_false] at hk1 hk2
      have := keyT_inj (by omega) (by omega) (hk1.symm.trans hk2)
      omega)
    refine ⟨B', I', T', ?_⟩
    rcases hB with e1 | ⟨_, b, rfl, e2⟩
    · exact up e1
    · intro c hc
      rcases List.mem_cons.1 hc with rfl | hc
      · exact ⟨j, by omega, by rw [e2, works_top]⟩
      · obtain ⟨i, h1, h2⟩ := hs c hc; exact ⟨i, by omega, h2⟩
  · obtain ⟨B', I', T', hB⟩ := T.play I (by omega) (fun x hx => by cases hx) (h.noWorks hk1) (fun h => absurd h hk1) (fun h => absurd h hk1)
    refine ⟨B', I', T', ?_⟩
    rcases hB with e1 | ⟨h1, _⟩
    · exact up e1
    · exact absurd h1 hk1
set_option maxHeartbeats 32000000 in
set_option maxRecDepth 20000 in
theorem topPact_spec {W0 : World} {H : Heap} {v : Value} {script : List Move} (hP : PkH H) (h0 : SlB rMove 3 40 H v script) :
    Ct Tryz.prog 3 #[v] W0 H [] (fun r H' B => r = .bool true ∧ B = []) := by
  refine Ct.go (vs := [v]) fun R => ?_
  obtain ⟨b0, c0, rfl, hc0, hd0⟩ := h0.1.shape
  have hf1 : fits (1 : Int) := by unfold fits; omega
  have hf2 : fits (2 : Int) := by unfold fits; omega
  have hf5 : fits (5 : Int) := by unfold fits; omega
  have hf6 : fits (6 : Int) := by unfold fits; omega
  have hf8 : fits (8 : Int) := by unfold fits; omega
  refine walk ?_
  refine ops_call rfl rfl (wnew_spec (W0 := W0) (H := H) (nodes := 3)) fun r2 H2 B hl2 hq => ?_
  obtain ⟨hbad, _⟩ | ⟨n, p, hn, hn4, er, eB⟩ := hq
  · omega
  obtain rfl : n = 3 := by omega
  subst er eB
  refine walk ?_
  refine ops_call (vs := []) rfl rfl (alive_spec (W0 := W0) (H := H2) (hP.mono hl2)) fun r1 H1 B hl1 ⟨er, eB⟩ => ?_
  subst er eB
  refine walk ?_
  refine ops_makeMap ek3 rCW true rfl fun wb _ => ?_
  refine walk ?_
  refine ops_makeMap ek3 rInt false rfl fun pb _ => ?_
  refine walk ?_
  refine ex_L (L' := worldO H1 p (newW 3) :: mapO ek3 rInt false H1 pb [] :: mapO ek3 rCW true H1 wb [] :: R) ?_ ?_
  · refine Sub.trans (B := worldO H2 p (newW 3) :: mapO ek3 rInt false H1 pb [] :: mapO ek3 rCW true H1 wb [] :: R) subA (world_up hl1)
  refine ex_cutb (σ := PW × Heap) (fun u => (∃ K B, K ≤ 120 ∧ WInv 3 K B u.1 ∧ TI B u.1 ∧ Shape B) ∧ u.1.log.length ≤ 120 ∧ H1.le u.2) (fun u => [(3, ptrC p), (5, .map (some wb)), (6, .map (some pb))]) (fun u => u.2)
    (fun u => worldO u.2 p u.1 :: mapO ek3 rInt false H1 pb [] :: mapO ek3 rCW true H1 wb [] :: R) (fun K9 hK9 => ?_) fun ⟨w, HB⟩ ⟨⟨KB, B0, hKB, IW, TW, hsh⟩, hlg, hlB⟩ => ?_
  rotate_left
  · simp only at IW TW hsh hlg hlB
    dsimp only
    have hlHB : H.le HB := hl2.trans (hl1.trans hlB)
    refine walk ?_
    refine ex_loop (σ := Nat × PW × Heap) (fun u => ((u.1 ≤ 50 ∧ Rounds (KB + 1) w u.1 u.2.1) ∧ (WInv 3 KB B0 u.2.1 ∧ TI B0 u.2.1) ∧ u.2.1.log.length ≤ 120 + 2004 * u.1) ∧ HB.le u.2.2) (fun u => [(3, ptrC p), (5, .map (some wb)), (6, .map (some pb)), (10, I u.1)]) (fun u => u.2.2)
      (fun u => worldO u.2.2 p u.2.1 :: mapO ek3 rInt false H1 pb [] :: mapO ek3 rCW true H1 wb [] :: R) (fun u => 50 - u.1) (0, w, HB) ⟨⟨⟨Nat.zero_le _, .nil⟩, ⟨IW, TW⟩, by simp only; omega⟩, .refl _⟩ fun ⟨q, z, HQ⟩ ⟨⟨⟨hq0, hR⟩, ⟨Iz, Tz⟩, hzl⟩, hlQ⟩ K hL => ?_
    simp only at hq0 hR Iz Tz hzl hlQ
    dsimp only
    by_cases hq1 : q < 50
    · have hq2 : (q : Int) < 50 := by omega
      have hPQ := hP.mono (hlHB.trans hlQ)
      refine walk ?_
      refine ops_call rfl rfl (wplay_spec (W0 := W0) (H := HQ) (p := p) (m := ⟨6, 8, []⟩) hPQ Iz (by omega) SlB.nil hf6 hf8) fun r1 H3 B hl3 ⟨w1, e1, p1, er, eB⟩ => ?_
      subst er eB
      have I1 : WInv 3 KB B0 w1 := Iz.quiet (k := 6) (by decide) p1
      have T1 : TI B0 w1 := Tz.quietP Iz (by omega) (by show (6 : Int) ≠ 1; decide) p1
      have g1 := p1.log
      refine walk ?_
      refine ex_loop (σ := Nat × PW × Heap) (fun u => (u.1 ≤ 3 ∧ Steps (KB + 1) w1 u.1 u.2.1 ∧ (WInv 3 KB B0 u.2.1 ∧ TI B0 u.2.1) ∧ u.2.1.log.length ≤ z.log.length + 1 + u.1) ∧ H3.le u.2.2) (fun u => [(3, ptrC p), (5, .map (some wb)), (6, .map (some pb)), (10, I q), (11, I u.1)]) (fun u => u.2.2)
        (fun u => worldO u.2.2 p u.2.1 :: mapO ek3 rInt false H1 pb [] :: mapO ek3 rCW true H1 wb [] :: R) (fun u => 3 - u.1) (0, w1, H3) ⟨⟨Nat.zero_le _, .nil, ⟨I1, T1⟩, by simpa using g1⟩, .refl _⟩ fun ⟨i, v, HK⟩ ⟨⟨hi0, hS, ⟨Iv, Tv⟩, hlg2⟩, hlK⟩ K2 hL2 => ?_
      simp only at hi0 hS Iv Tv hlg2 hlK
      dsimp only
      by_cases hi1 : i < 3
      · have hi2 : (i : Int) < 3 := by omega
        have hfi : fits (i : Int) := by unfold fits; omega
        refine walk ?_
        refine ops_call rfl rfl (wplay_spec (W0 := W0) (H := HK) (p := p) (m := ⟨5, i, []⟩) (hPQ.mono (hl3.trans hlK)) Iv (by omega) SlB.nil hf5 hfi) fun r2 H4 B hl4 ⟨w2, e2, p2, er, eB⟩ => ?_
        subst er eB
        have I2 : WInv 3 KB B0 w2 := Iv.quiet (k := 5) (by decide) p2
        have T2 : TI B0 w2 := Tv.quietP Iv (by omega) (by show (5 : Int) ≠ 1; decide) p2
        have g2 := p2.log
        refine walk ?_
        exact out_next hL2 (i + 1, w2, H4) ⟨⟨by simp only; omega, hS.more p2, ⟨I2, T2⟩, by simp only; omega⟩, hlK.trans hl4⟩
      obtain rfl : i = 3 := by omega
      clear hL2
      refine walk ?_
      refine ex_loop (σ := Nat × PW × Heap) (fun u => (u.1 ≤ 2000 ∧ Dels (KB + 1) v u.1 u.2.1 ∧ TI B0 u.2.1) ∧ HK.le u.2.2) (fun u => [(3, ptrC p), (5, .map (some wb)), (6, .map (some pb)), (10, I q), (12, I u.1)]) (fun u => u.2.2)
        (fun u => worldO u.2.2 p u.2.1 :: mapO ek3 rInt false H1 pb [] :: mapO ek3 rCW true H1 wb [] :: R) (fun u => 2000 - u.1) (0, v, HK) ⟨⟨Nat.zero_le _, .nil, Tv⟩, .refl _⟩ fun ⟨j, x, HJ⟩ ⟨⟨hj0, hD, Tx⟩, hlJ⟩ K3 hL3 => ?_
      simp only at hj0 hD Tx hlJ
      dsimp only
      obtain ⟨Ix, hxl⟩ := hD.inv Iv
      by_cases hj1 : j < 2000
      · have hj2 : (j : Int) < 2000 := by omega
        by_cases hx0 : x.net = []
        · have hx9 : ¬ (0 : Int) < (x.net.length : Int) := by rw [hx0]; decide
          clear hL3
          refine walk ?_
          refine ops_call rfl rfl (wflight_spec (W0 := W0) (H := HJ) (p := p) (w := x)) fun r3 H4 B hl4 ⟨er, eB, eH⟩ => ?_
          subst er eB eH
          refine walk ?_
          exact out_next hL (q + 1, x, H4) ⟨⟨⟨by simp only; omega, hR.more (Steps.round p1 hS hD (.inr hx0))⟩, ⟨Ix, Tx⟩, by simp only; omega⟩, hlQ.trans (hl3.trans (hlK.trans hlJ))⟩
        · have hx1 : (0 : Int) < (x.net.length : Int) := by
            have := List.length_pos_iff.2 hx0
            omega
          refine walk ?_
          refine ops_call rfl rfl (wflight_spec (W0 := W0) (H := HJ) (p := p) (w := x)) fun r3 H4 B hl4 ⟨er, eB, eH⟩ => ?_
          subst er eB eH
          refine walk ?_
          refine ops_call rfl rfl (wplay_spec (W0 := W0) (H := H4) (p := p) (m := ⟨2, 0, []⟩) (hPQ.mono (hl3.trans (hlK.trans hlJ))) Ix (by omega) SlB.nil hf2 fits0) fun r4 H5 B hl5 ⟨x', e4, p4, er, eB⟩ => ?_
          subst er eB
          have Tx' : TI B0 x' := Tx.quietP Ix (by omega) (by show (2 : Int) ≠ 1; decide) p4
          refine walk ?_
          exact out_next hL3 (j + 1, x', H5) ⟨⟨by simp only; omega, hD.more hx0 p4, Tx'⟩, hlJ.trans hl5⟩
      · obtain rfl : j = 2000 := by omega
        clear hL3
        refine walk ?_
        exact out_next hL (q + 1, x, HJ) ⟨⟨⟨by simp only; omega, hR.more (Steps.round p1 hS hD (.inl rfl))⟩, ⟨Ix, Tx⟩, by simp only; omega⟩, hlQ.trans (hl3.trans (hlK.trans hlJ))⟩
    obtain rfl : q = 50 := by omega
    clear hL
    have hnw := hR.now
    refine walk ?_
    refine ops_call rfl rfl (wlog_spec (W0 := W0) (H := HQ) (p := p) (w := z) (by unfold cap47; omega)) fun r30 H30 B hl30 eB => ?_
    subst eB
    refine ops_freeze r30 fun H31 hl31 hs31 => ?_
    obtain ⟨bl, cl, rfl, _, _⟩ := hs31.1.shape
    obtain ⟨l, hll⟩ : ∃ l, z.log = l := ⟨_, rfl⟩
    have hnt : ∀ e ∈ l, NtOk B0 e := fun e he => Tz.nt e (by rw [hll]; exact he)
    have hln : l.length ≤ 200000 := by rw [← hll]; omega
    rw [hll] at hs31 ⊢
    refine ops_L (L' := mapO ek3 rCW true H31 wb [] :: worldO H30 p z :: mapO ek3 rInt false H31 pb [] :: R) ?_ ?_
    · refine Sub.trans (B := mapO ek3 rCW true H1 wb [] :: mapO ek3 rInt false H1 pb [] :: worldO H30 p z :: R) subA ?_
      refine Sub.trans (mapO_up (hlB.trans (hlQ.trans (hl30.trans hl31)))) ?_
      refine Sub.trans (Sub.cons (mapO_up (hlB.trans (hlQ.trans (hl30.trans hl31))))) ?_
      exact subA
    refine walk ?_
    refine ex_loop (σ := Nat × List (K3 × CW) × List (K3 × Int)) (fun u => u.1 ≤ l.length ∧ (u.2.1.map (·.1)).Nodup ∧ worksOf (l.take u.1) (fun k => (mget k u.2.1).map (·.2)) ∧ partsOf (l.take u.1) (fun k => mget k u.2.2)) (fun u => [(3, ptrC p), (5, .map (some wb)), (6, .map (some pb)), (114, .slice bl l.length cl), (115, I l.length), (116, I u.1)]) (fun _ => H31)
      (fun u => worldO H30 p z :: mapO ek3 rInt false H31 pb u.2.2 :: mapO ek3 rCW true H31 wb u.2.1 :: R) (fun u => l.length - u.1) (0, [], []) ⟨Nat.zero_le _, by simp, fun k u hk => (by cases hk), fun x => ⟨fun ⟨e, he, _⟩ => (by cases he), fun _ => rfl⟩⟩ fun ⟨j, Wl, Pl⟩ ⟨hj0, hnd, hWl, hPl⟩ K hL => ?_
    simp only at hj0 hnd hWl hPl
    dsimp only
    by_cases hj1 : j < l.length
    · have hj2 : (j : Int) < (l.length : Int) := by omega
      have htk := List.take_succ_eq_append_getElem hj1
      have hng := hnt l[j] (List.getElem_mem hj1)
      refine walk ?_
      refine ops_ixp rfl rfl hs31.1 hj1 fun b o cc hr hc => ?_
      generalize l[j] = g at hr hc htk hng
      obtain ⟨gn, ⟨rk, ⟨rn, rl, rc⟩, ⟨yr, yt, yd⟩, ryes, rp⟩⟩ := g
      obtain ⟨s1, s2, s3, rfl, f0, f1, f2, f3, f4, f5, g1, g2, g3⟩ := hc
      dsimp only at f0 f1 f2 f3 f4 f5 g1 g2 g3
      obtain ⟨d1, e1', rfl, _, _⟩ := g1.1.shape
      obtain ⟨d2, e2', rfl, _, _⟩ := g2.1.shape
      obtain ⟨d3, e3', rfl, _, _⟩ := g3.1.shape
      change HRow H31 b o [I gn, I rk, I rn, I rl, I rc, I yr, .slice d1 yt.length e1', .slice d2 yd.length e2', .bool ryes, .slice d3 rp.length e3'] at hr
      refine walk ?_
      refine ops_ldNH rfl rfl hr rfl ?_
      refine ops_alloc rfl fun p14 _ => ?_
      by_cases hk2 : rk = 2
      · subst hk2
        refine walk ?_
        refine ops_update (RV := rCW) (ag := true) (cs := [I yr, .slice d1 yt.length e1', .slice d2 yd.length e2']) (u := (([I yr, .slice d1 yt.length e1', .slice d2 yd.length e2'], ⟨yr, yt, yd⟩) : CW)) rfl rfl ⟨rfl, ⟨_, _, rfl, f5, g1, g2⟩⟩ (by repeat (first | exact Has.here | apply Has.there)) ?_
        refine walk ?_
        refine out_next hL (j + 1, mset (rn, rl, rc) ([I yr, .slice d1 yt.length e1', .slice d2 yd.length e2'], ⟨yr, yt, yd⟩) Wl, Pl) ⟨by simp only; omega, mset_nodup hnd, ?_, ?_⟩
        · simp only
          rw [htk]
          have := hWl.put (e := ⟨gn, ⟨2, ⟨rn, rl, rc⟩, ⟨yr, yt, yd⟩, ryes, rp⟩⟩) rfl
          intro k u hk
          refine this k u ?_
          dsimp only
          simp only [mget_mset] at hk
          split at hk
          · next ek =>
            simp only [Option.map_some, Option.some.injEq] at hk
            rw [if_pos (show Txn.k ⟨rn, rl, rc⟩ = k from ek.symm), ← hk]
          · next ek =>
            rw [if_neg (show ¬ Txn.k ⟨rn, rl, rc⟩ = k from fun e => ek e.symm)]
            exact hk
        · simp only
          rw [htk]
          exact hPl.skip (by show (2 : Int) ≠ 4; decide)
      by_cases hk4 : rk = 4
      · subst hk4
        have hp2 : rp.length = 2 := hng.parts hsh rfl
        refine walk ?_
        refine ops_update (RV := rInt) (ag := false) (cs := [I rp.length]) (u := ((rp.length : Nat) : Int)) rfl rfl ⟨rfl, by unfold fits; omega⟩ (by repeat (first | exact Has.here | apply Has.there)) ?_
        refine walk ?_
        refine out_next hL (j + 1, Wl, mset (rn, rl, rc) ((rp.length : Nat) : Int) Pl) ⟨by simp only; omega, hnd, ?_, ?_⟩
        · simp only
          rw [htk]
          exact hWl.skip
        · simp only
          rw [htk]
          have := hPl.put (e := ⟨gn, ⟨4, ⟨rn, rl, rc⟩, ⟨yr, yt, yd⟩, ryes, rp⟩⟩) rfl
          intro x
          dsimp only
          rw [mget_mset, hp2]
          have h9 := this x
          dsimp only at h9
          by_cases ek : x.k = (rn, rl, rc)
          · rw [if_pos ek]; rw [if_pos (show Txn.k ⟨rn, rl, rc⟩ = x.k from ek.symm)] at h9; exact h9
          · rw [if_neg ek]; rw [if_neg (show ¬ Txn.k ⟨rn, rl, rc⟩ = x.k from fun e => ek e.symm)] at h9; exact h9
      refine walk ?_
      refine out_next hL (j + 1, Wl, Pl) ⟨by simp only; omega, hnd, ?_, ?_⟩
      · simp only
        rw [htk]
        exact hWl.skip
      · simp only
        rw [htk]
        exact hPl.skip hk4
    obtain rfl : j = l.length := by omega
    clear hL
    rw [List.take_length] at hWl hPl
    refine walk ?_
    refine ops_L (L' := worldO H31 p z :: mapO ek3 rInt false H31 pb Pl :: mapO ek3 rCW true H31 wb Wl :: R) (world_up hl31) ?_
    refine ops_call rfl rfl (wnow_spec (W0 := W0) (H := H31) (p := p) (w := z)) fun r4 H4 B hl4 ⟨er, eB, eH⟩ => ?_
    subst er eB eH
    by_cases hT : 536870912 < z.now
    · refine walk ?_
      refine fin0 ?_
      exact ⟨rfl, rfl⟩
    have hbl := IW.bl
    obtain ⟨I9, Q9, hn9, hs9⟩ := rounds_q IW rfl (by omega) (k := 49) hR
    have hs0 : sayW z = [] := List.eq_nil_of_length_eq_zero (by omega)
    have hset := settledW Iz Q9 hs0
    have hop : ∀ i (h : i < z.ns.length), openL z.ns[i].cs = [] := fun i h => by
      have := (hset (i : Int)).2.1
      unfold openW at this
      rw [nAt_nat h] at this
      exact this
    rw [← hll] at hWl hPl
    have hlaw : ∀ q ∈ Wl, _ := fun q hq => top_law Iz Tz hsh hop hWl hPl (k := q.1) (u := q.2.2) (by rw [mget_of_mem hnd hq]; rfl)
    refine walk ?_
    refine ops_mrange rfl rfl (by repeat (first | exact Has.here | apply Has.there)) fun rr => ?_
    refine walk ?_
    refine ex_loop (σ := Nat × Heap) (fun u => H4.le u.2) (fun u => [(3, ptrC p), (5, .map (some wb)), (6, .map (some pb)), (148, .pointer (some ⟨rr, 0, none⟩))]) (fun u => u.2)
      (fun u => mapIt ek3 rCW true H4 wb rr Wl u.1 :: worldO u.2 p z :: mapO ek3 rInt false H4 pb Pl :: R) (fun u => u.1) (Wl.length, H4) (.refl _) fun ⟨lf, HI⟩ hlI K hL => ?_
    simp only at hlI
    dsimp only
    refine walk ?_
    refine ops_mnext rfl rfl (by repeat (first | exact Has.here | apply Has.there)) ?_ fun q cs hlf hqm hqr => ?_
    · clear hL
      refine walk ?_
      refine fin0 ?_
      exact ⟨rfl, rfl⟩
    obtain ⟨⟨kn, kl, kc⟩, ⟨qc, qw⟩⟩ := q
    obtain ⟨rfl, hqr⟩ := hqr
    have hqr2 : rWork H4 cs qw := hqr
    clear hqr
    obtain ⟨s1, s2, rfl, hqf, hq1, hq2⟩ := hqr2
    obtain ⟨d1, e1', rfl, _, _⟩ := hq1.1.shape
    obtain ⟨d2, e2', rfl, _, _⟩ := hq2.1.shape
    refine walk ?_
    obtain ⟨rob, key, hw9, hcnt⟩ := hlaw _ hqm
    dsimp only at hw9 hcnt
    subst hw9
    dsimp only at hqf hq1 hq2 ⊢
    change Ops _ _ _ _ ((150, .bool true) :: (149, .tuple #[.bool true, ek3 (kn, kl, kc), .agg #[I rob, .slice d1 1 e1', .slice d2 0 e2']]) :: _) _ (mapAt ek3 rCW true H4 wb rr Wl (lf - 1) ((kn, kl, kc), [I rob, .slice d1 1 e1', .slice d2 0 e2'], ⟨rob, [key], []⟩) [I rob, .slice d1 1 e1', .slice d2 0 e2'] :: _) _ _ _ _
    refine ops_mhere rfl rfl (by repeat (first | exact Has.here | apply Has.there)) ?_
    change Ops _ _ _ _ ((151, .tuple #[.agg #[I kn, I kl, I kc], .agg #[I rob, .slice d1 1 e1', .slice d2 0 e2']]) :: _) _ _ _ _ _ _
    refine walk ?_
    refine ops_alloc rfl fun p15 _ => ?_
    refine ops_alloc rfl fun p16 _ => ?_
    refine walk ?_
    refine ex_loop (σ := Nat × Heap) (fun u => u.1 ≤ 3 ∧ HI.le u.2) (fun u => [(3, ptrC p), (5, .map (some wb)), (6, .map (some pb)), (148, .pointer (some ⟨rr, 0, none⟩)), (15, .pointer (some ⟨p15, 0, none⟩)), (16, .pointer (some ⟨p16, 0, none⟩)), (17, I (hsum z key rob u.1)), (18, I u.1)]) (fun u => u.2)
      (fun u => worldO u.2 p z :: row p15 45 [I kn, I kl, I kc] :: row p16 38 [I rob, .slice d1 1 e1', .slice d2 0 e2'] :: mapAt ek3 rCW true H4 wb rr Wl (lf - 1) ((kn, kl, kc), [I rob, .slice d1 1 e1', .slice d2 0 e2'], ⟨rob, [key], []⟩) [I rob, .slice d1 1 e1', .slice d2 0 e2'] :: mapO ek3 rInt false H4 pb Pl :: R) (fun u => 3 - u.1) (0, HI) ⟨Nat.zero_le _, .refl _⟩ fun ⟨i, HA⟩ ⟨hi0, hlA⟩ K2 hL2 => ?_
    simp only at hi0 hlA
    dsimp only
    have hs3 := hsum_le Iz (key := key) (r := rob) (i := i) (by rw [Iz.len]; exact hi0)
    by_cases hi1 : i < 3
    · have hi2 : (i : Int) < 3 := by omega
      refine walk ?_
      refine ops_call rfl rfl (wholds_spec (W0 := W0) (H := HA) (p := p) (w := z) (a := i) Iz.ts) fun r5 H5 B hl5 eB => ?_
      subst eB
      refine ops_freeze r5 fun H6 hl6 hsh' => ?_
      obtain ⟨bh, ch, rfl, _, _⟩ := hsh'.1.shape
      obtain ⟨hs, hhs⟩ : ∃ hs, holdsW z i = hs := ⟨_, rfl⟩
      have hsucc := hsum_succ (w := z) (key := key) (r := rob) (i := i)
      have hca : heldAt z key rob i = hs.countP (isH key rob) := by unfold heldAt; rw [hhs]
      rw [hhs] at hsh' ⊢
      have hcap := hsh'.2
      simp only [cap47] at hcap
      refine walk ?_
      refine ex_loop (σ := Nat) (fun k => k ≤ hs.length) (fun k => [(3, ptrC p), (5, .map (some wb)), (6, .map (some pb)), (148, .pointer (some ⟨rr, 0, none⟩)), (15, .pointer (some ⟨p15, 0, none⟩)), (16, .pointer (some ⟨p16, 0, none⟩)), (17, I ((hsum z key rob i + (hs.take k).countP (isH key rob) : Nat) : Int)), (18, I i), (160, .slice bh hs.length ch), (161, I hs.length), (162, I k)]) (fun _ => H6)
        (fun _ => worldO H5 p z :: row p15 45 [I kn, I kl, I kc] :: row p16 38 [I rob, .slice d1 1 e1', .slice d2 0 e2'] :: mapAt ek3 rCW true H4 wb rr Wl (lf - 1) ((kn, kl, kc), [I rob, .slice d1 1 e1', .slice d2 0 e2'], ⟨rob, [key], []⟩) [I rob, .slice d1 1 e1', .slice d2 0 e2'] :: mapO ek3 rInt false H4 pb Pl :: R) (fun k => hs.length - k) 0 (Nat.zero_le _) fun k hk0 K3 hL3 => ?_
      by_cases hk1 : k < hs.length
      · have hk2 : (k : Int) < (hs.length : Int) := by omega
        have hcs := count_succ hk1 (key := key) (r := rob)
        have hcl : (hs.take k).countP (isH key rob) ≤ k := Nat.le_trans (List.countP_le_length) (by rw [List.length_take]; omega)
        refine walk ?_
        refine ops_ixp rfl rfl hsh'.1 hk1 fun b o cc hr hc => ?_
        obtain ⟨⟨hk, hrb⟩, hhk⟩ : ∃ h, hs[k] = h := ⟨_, rfl⟩
        rw [hhk] at hc hcs
        obtain ⟨rfl, hks, hrf⟩ := hc
        dsimp only at hks hrf hcs
        change HRow H6 b o [.string hk, I hrb] at hr
        refine ops_ldNH rfl rfl hr rfl ?_
        refine ops_alloc rfl fun p20 _ => ?_
        have hq6 := hq1.mono (hlI.trans (hlA.trans (hl5.trans hl6)))
        haveI hn00 : NatOf (0 : Int) 0 := ⟨rfl⟩
        have h01 : 0 < [key].length := Nat.succ_pos _
        by_cases hke : hk = key
        · by_cases hre : hrb = rob
          · rw [if_pos ⟨hke, hre⟩] at hcs
            have he : ((hsum z key rob i + (hs.take k).countP (isH key rob) : Nat) : Int) + 1 = ((hsum z key rob i + (hs.take (k + 1)).countP (isH key rob) : Nat) : Int) := by rw [hcs]; omega
            refine walk ?_
            refine ops_ixp rfl rfl hq6.1 (j := 0) h01 fun b9 o9 c9 hr9 hc9 => ?_
            obtain ⟨rfl, _⟩ := hc9
            refine walk ?_
            rw [he]
            exact out_next hL3 (k + 1) (by omega)
          · rw [if_neg (fun h => hre h.2)] at hcs
            have he : hsum z key rob i + (hs.take k).countP (isH key rob) = hsum z key rob i + (hs.take (k + 1)).countP (isH key rob) := by rw [hcs, Nat.add_zero]
            refine walk ?_
            refine ops_ixp rfl rfl hq6.1 (j := 0) h01 fun b9 o9 c9 hr9 hc9 => ?_
            obtain ⟨rfl, _⟩ := hc9
            refine walk ?_
            rw [he]
            exact out_next hL3 (k + 1) (by omega)
        · rw [if_neg (fun h => hke h.1)] at hcs
          have he : hsum z key rob i + (hs.take k).countP (isH key rob) = hsum z key rob i + (hs.take (k + 1)).countP (isH key rob) := by rw [hcs, Nat.add_zero]
          refine walk ?_
          refine ops_ixp rfl rfl hq6.1 (j := 0) h01 fun b9 o9 c9 hr9 hc9 => ?_
          obtain ⟨rfl, _⟩ := hc9
          refine walk ?_
          rw [he]
          exact out_next hL3 (k + 1) (by omega)
      · obtain rfl : k = hs.length := by omega
        clear hL3
        have he : hsum z key rob i + (hs.take hs.length).countP (isH key rob) = hsum z key rob (i + 1) := by rw [List.take_length, hsucc, hca]
        rw [he]
        refine walk ?_
        refine out_next hL2 (i + 1, H6) ⟨by simp only; omega, hlA.trans (hl5.trans hl6)⟩ (hs := ?_)
        exact world_up hl6
    · obtain rfl : i = 3 := by omega
      clear hL2
      have h3 : ((hsum z key rob 3 : Nat) : Int) = (mget (kn, kl, kc) Pl).getD 0 := by
        rw [← hcnt]
        simp [hsum, List.range_succ, Nat.add_assoc]
      refine walk ?_
      refine ops_lkO (RV := rInt) (z := 0) rfl rfl (by repeat (first | exact Has.here | apply Has.there)) ?_
      rw [← h3]
      have hnn : ¬ ¬ ((hsum z key rob 3 : Nat) : Int) = ((hsum z key rob 3 : Nat) : Int) := fun h => h rfl
      refine walk ?_
      refine out_next hL (lf - 1, HA) (hlI.trans hlA) (hs := ?_)
      · refine Sub.trans (B := mapAt ek3 rCW true H4 wb rr Wl (lf - 1) ((kn, kl, kc), [I rob, .slice d1 1 e1', .slice d2 0 e2'], ⟨rob, [key], []⟩) [I rob, .slice d1 1 e1', .slice d2 0 e2'] :: worldO HA p z :: mapO ek3 rInt false H4 pb Pl :: R) subA ?_
        exact mapAt_it
  refine ex_loop (σ := Nat × PW × Heap) (fun u => ((u.1 ≤ script.length ∧ u.1 ≤ 120) ∧ (∃ B, WInv 3 u.1 B u.2.1 ∧ TI B u.2.1 ∧ ShapeJ u.1 B) ∧ u.2.1.log.length ≤ u.1) ∧ H1.le u.2.2)
    (fun u => [(0, .slice b0 script.length c0), (3, ptrC p), (5, .map (some wb)), (6, .map (some pb)), (7, I u.1)]) (fun u => u.2.2)
    (fun u => worldO u.2.2 p u.2.1 :: mapO ek3 rInt false H1 pb [] :: mapO ek3 rCW true H1 wb [] :: R) (fun u => script.length - u.1) (0, newW 3, H1) ⟨⟨⟨Nat.zero_le _, by omega⟩, ⟨[], winv0 (by omega), ti0, fun b hb => (by cases hb)⟩, Nat.le_refl _⟩, .refl _⟩ fun ⟨j, w, HK⟩ ⟨⟨⟨hj0, hj120⟩, ⟨B0, I0, T0, hsj⟩, hlg⟩, hlK⟩ K hL => ?_
  simp only at hj0 hj120 I0 T0 hsj hlg hlK
  dsimp only
  have hlHK : H.le HK := hl2.trans (hl1.trans hlK)
  have hfin : (∃ K B, K ≤ 120 ∧ WInv 3 K B w ∧ TI B w ∧ Shape B) ∧ w.log.length ≤ 120 ∧ H1.le HK := ⟨⟨_, _, hj120, I0, T0, fun b hb => by obtain ⟨i, _, e⟩ := hsj b hb; exact ⟨_, _, e⟩⟩, by omega, hlK⟩
  by_cases hj1 : j < script.length
  case neg =>
    obtain rfl : j = script.length := by omega
    clear hL
    refine walk ?_
    exact out_to hK9 (w, HK) hfin
  by_cases hj2 : j < 120
  case neg =>
    obtain rfl : j = 120 := by omega
    have hj3 : (120 : Int) < (script.length : Int) := by omega
    clear hL
    refine walk ?_
    exact out_to hK9 (w, HK) hfin
  have hj3 : (j : Int) < (script.length : Int) := by omega
  have hj4 : (j : Int) < 120 := by omega
  have hsl := h0.1.mono hlHK
  obtain ⟨m, hm⟩ : ∃ m, script[j] = m := ⟨_, rfl⟩
  refine walk ?_
  refine ops_ixp rfl rfl hsl hj1 fun ba oa ca hra hca => ?_
  rw [hm] at hca
  obtain ⟨sa, rfl, ka, kb, ga⟩ := hca
  obtain ⟨xa, ya, rfl, _, _⟩ := ga.1.shape
  change HRow HK ba oa [I m.Kind, I m.A, .slice xa m.Works.length ya] at hra
  refine walk ?_
  refine ops_ldNH rfl rfl hra rfl ?_
  refine ops_alloc rfl fun p8 _ => ?_
  refine ops_cut2 (σ := Move × (Option Addr × Nat) × Heap) (fun u => ((u.1.Kind = 1 → u.1.Works = topM j) ∧ fits u.1.Kind ∧ fits u.1.A ∧ SlB rWork 3 56 u.2.2 (.slice u.2.1.1 u.1.Works.length u.2.1.2) u.1.Works) ∧ HK.le u.2.2) (fun u => [(0, .slice b0 script.length c0), (3, ptrC p), (5, .map (some wb)), (6, .map (some pb)), (7, I j), (8, .pointer (some ⟨p8, 0, none⟩))]) (fun u => u.2.2)
    (fun u => row p8 33 [I u.1.Kind, I u.1.A, .slice u.2.1.1 u.1.Works.length u.2.1.2] :: worldO HK p w :: mapO ek3 rInt false H1 pb [] :: mapO ek3 rCW true H1 wb [] :: R) (fun K8 hK8 => ?_) fun ⟨m', ⟨xb, yb⟩, HM⟩ ⟨⟨hmk, hmf, hma, hmw⟩, hlM⟩ => ?_
  · by_cases hk1 : m.Kind = 1
    case neg =>
      refine walk ?_
      exact out_to hK8 (m, (xa, ya), HK) ⟨⟨fun h => absurd h hk1, ka, kb, ga⟩, .refl _⟩
    have hw0 : 0 ≤ IntKind.u64.wrap m.A := by simp only [IntKind.wrap]; exact Int.emod_nonneg _ (by decide)
    have hq0 : 0 ≤ (IntKind.u64.wrap m.A).tmod 3 := Int.tmod_nonneg _ hw0
    have hq3 : (IntKind.u64.wrap m.A).tmod 3 < 3 := Int.tmod_lt_of_pos _ (by decide)
    have hqf : fits ((IntKind.u64.wrap m.A).tmod 3) := by unfold fits; omega
    have ht : ((j : Int)).tmod 26 = (j % 26 : Nat) := by rw [Int.tmod_eq_emod_of_nonneg (by omega)]; omega
    have hd : ((j : Int)).tdiv 26 = (j / 26 : Nat) := by rw [Int.tdiv_eq_ediv_of_nonneg (by omega)]; omega
    have htd : (((j : Int)).tdiv 26).tmod 26 = (j / 26 % 26 : Nat) := by rw [hd, Int.tmod_eq_emod_of_nonneg (by omega)]; omega
    have hf26 : fits (97 + (j : Int).tmod 26) := by rw [ht]; unfold fits; omega
    have hf27 : fits (97 + ((j : Int).tdiv 26).tmod 26) := by rw [htd]; unfold fits; omega
    have hf28 : fits ((j : Int).tdiv 26) := by rw [hd]; unfold fits; omega
    have hfj : fits (j : Int) := by unfold fits; omega
    have hg1 : 0 ≤ (j : Int).tmod 26 ∧ (j : Int).tmod 26 < 26 := by rw [ht]; omega
    have hg2 : 0 ≤ ((j : Int).tdiv 26).tmod 26 ∧ ((j : Int).tdiv 26).tmod 26 < 26 := by rw [htd]; omega
    refine walk ?_
    refine ops_bsN rfl rfl fun pb' _ => ?_
    refine ops_b2s [IntKind.u8.wrap (97 + (j : Int).tmod 26), IntKind.u8.wrap (97 + ((j : Int).tdiv 26).tmod 26)] rfl rfl .here ?_
    have hnm : (⟨#[116]⟩ : ByteArray) ++ sb ([IntKind.u8.wrap (97 + (j : Int).tmod 26), IntKind.u8.wrap (97 + ((j : Int).tdiv 26).tmod 26)].map fun n => UInt8.ofNat n.toNat) = keyT j := by
      unfold keyT
      rw [ht, htd, IntKind.wrap_u8, IntKind.wrap_u8]
      simp only [List.map_cons, List.map_nil]
      rw [show ((97 + ((j % 26 : Nat) : Int)) % 256).toNat = 97 + j % 26 by omega, show ((97 + ((j / 26 % 26 : Nat) : Int)) % 256).toNat = 97 + j / 26 % 26 by omega]
    refine ops_catS rfl rfl (by rw [show ByteArray.size ⟨#[116]⟩ = 1 from rfl, sb_size]; simp only [List.length_map, List.length_cons, List.length_nil]; decide) ?_
    rw [hnm]
    have hksz : (keyT j).size ≤ cap47 := by rw [keyT_size]; decide
    generalize hkt : keyT j = kt at *
    refine walk ?_
    refine ops_w rfl rfl (op_bs1 rfl rfl rfl fun b9 => ?_)
    refine walk ?_
    refine ops_w rfl rfl (op_bs1 rfl rfl rfl fun b10 => ?_)
    refine walk ?_
    refine ops_L (L' := row b9 9 [.string kt] :: row b10 9 [.string kt] :: row p8 33 [I m.Kind, I ((IntKind.u64.wrap m.A).tmod 3), .slice xa m.Works.length ya] :: worldO HK p w :: mapO ek3 rInt false H1 pb [] :: mapO ek3 rCW true H1 wb [] :: R) subA ?_
    refine ops_frzR .here fun H5 hl5 hr5 => ?_
    refine ops_frzR .here fun H6 hl6 hr6 => ?_
    have hsa : SlB rStr 1 16 H6 (.slice (some ⟨b9, 0, none⟩) 1 1) [kt] := ⟨slr_of_hrow (R := rStr) (xs := [kt]) (hr5.mono hl6) ⟨[.string kt], [], rfl, ⟨rfl, hksz⟩, rfl⟩ (by simp) (by omega), by show 1 * 16 ≤ cap47; decide⟩
    have hsb : SlB rStr 1 16 H6 (.slice (some ⟨b10, 0, none⟩) 1 1) [kt] := ⟨slr_of_hrow (R := rStr) (xs := [kt]) hr6 ⟨[.string kt], [], rfl, ⟨rfl, hksz⟩, rfl⟩ (by simp) (by omega), by show 1 * 16 ≤ cap47; decide⟩
    refine ops_bsM (sz := 3) [[I j, .slice (some ⟨b9, 0, none⟩) 1 1, nilS], [I 0, nilS, nilS], [I j, .slice (some ⟨b10, 0, none⟩) 1 1, nilS]] rfl rfl ⟨⟨rfl, rfl⟩, ⟨rfl, rfl⟩, ⟨rfl, rfl⟩, trivial⟩ (fun pw _ => ?_)
    refine ops_frzR .here fun H7 hl7 hr7 => ?_
    have hmw : SlB rWork 3 56 H7 (.slice (some ⟨pw, 0, none⟩) 3 3) (topM j) := by
      unfold topM wkT
      rw [hkt]
      exact ⟨slr_of_hrow (R := rWork) (xs := [⟨j, [kt], []⟩, zWork, ⟨j, [kt], []⟩]) hr7 ⟨[I j, .slice (some ⟨b9, 0, none⟩) 1 1, nilS], _, rfl, ⟨_, _, rfl, hfj, hsa.mono hl7, SlB.nil⟩, ⟨[I 0, nilS, nilS], _, rfl, ⟨_, _, rfl, fits0, SlB.nil, SlB.nil⟩, ⟨[I j, .slice (some ⟨b10, 0, none⟩) 1 1, nilS], [], rfl, ⟨_, _, rfl, hfj, hsb.mono hl7, SlB.nil⟩, rfl⟩⟩⟩ (by simp) (by omega), by show 3 * 56 ≤ cap47; decide⟩
    refine walk ?_
    exact out_to hK8 (⟨m.Kind, (IntKind.u64.wrap m.A).tmod 3, topM j⟩, (some ⟨pw, 0, none⟩, 3), H7) ⟨⟨fun _ => rfl, ka, hqf, hmw⟩, hl5.trans (hl6.trans hl7)⟩
  simp only at hmk hmf hma hmw hlM
  dsimp only
  refine ex_L (L' := worldO HM p w :: row p8 33 [I m'.Kind, I m'.A, .slice xb m'.Works.length yb] :: mapO ek3 rInt false H1 pb [] :: mapO ek3 rCW true H1 wb [] :: R) ?_ ?_
  · refine Sub.trans (B := worldO HK p w :: row p8 33 [I m'.Kind, I m'.A, .slice xb m'.Works.length yb] :: mapO ek3 rInt false H1 pb [] :: mapO ek3 rCW true H1 wb [] :: R) subA (world_up hlM)
  refine walk ?_
  refine ops_call rfl rfl (wplay_spec (W0 := W0) (H := HM) (p := p) (s := .slice xb m'.Works.length yb) (m := m') (hP.mono (hlHK.trans hlM)) I0 (by omega) hmw hmf hma) fun r9 H9 B hl9 ⟨w', e, hp, er, eB⟩ => ?_
  subst er eB
  have hlg' := hp.log
  obtain ⟨B', I', T', hs'⟩ := top_step hj2 I0 T0 hsj hmk hp
  refine walk ?_
  exact out_next hL (j + 1, w', H9) ⟨⟨⟨by simp only; omega, by simp only; omega⟩, ⟨B', I', T', hs'⟩, by simp only; omega⟩, hlK.trans (hlM.trans hl9)⟩
end Go.Proofs.YtpphdbnifbjfmaaGreatDoor
