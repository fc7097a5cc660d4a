/- What the listed package variables give; the start that fits; a law whose calls start goroutines and read them. -/
import Derived.Test.YtafhinjggdknjaaDoorPE8
import Derived.Test.YtafhinjggdknjaaDoorPEP
import Derived.Test.YtafhinjggdknjaaDoorPGL
import Derived.Test.YtafhinjggdknjaaDoorPMA
import Derived.Test.YtafhinjggdknjaaDoorPPA
import Derived.Laws.OwnMore
import Derived.Laws.BitsLemmas
import Derived.Lib.ItoaNum
import Derived.Test.YtafhinjggdknjaaDoorRows
import Derived.Stop.LaidErr
import Derived.LaidMore
import Derived.LaidHandle
import Derived.MakeChecks
import Derived.Lib.LaidTab
import Derived.Conc.LeavingOf
import Derived.Conc.Holds
set_option linter.unusedVariables false
set_option linter.unusedSimpArgs false
namespace Go.Proofs.YtafhinjggdknjaaDoor
open Go Go.Sx Go.X Go.Proofs
def RPost (x : Route) (r : Value) (H' : Heap) (B : List HProp) : Prop := ∃ v, r = .agg [I x.Start, v].toArray ∧ B = [ownS rInt 1 8 3 H' v x.Cells]
theorem grow0_spec {W0 : GW} {H : Heap} {n : Nat} (hn : n * 8 ≤ cap47) :
    Ct Tryd.prog 67 #[nilS, I n] W0 H [] (fun r H' B => B = [ownS rInt 1 8 3 H r []] ∧ H' = H) := by
  refine Ct.go fun R => ?_
  simp only [cap47] at hn
  have e0 : (n : Int) - (((0 : Nat) : Int) - ((0 : Nat) : Int)) = n := by omega
  by_cases h0 : n = 0
  · subst h0
    refine walk ?_
    refine finB [ownS rInt 1 8 3 H nilS []] ?_ (hs := ownS_nil)
    exact ⟨rfl, rfl⟩
  · refine walk ?_
    rw [e0]
    refine ops_zapp rfl rfl (by omega) (by omega) (by omega) fun b cap cs h1 h2 h3 => ?_
    refine walk ?_
    refine finB [ownS rInt 1 8 3 H (.slice (some ⟨b, 0, none⟩) 0 cap) []] ?_ (hs := own_room (by simpa using h3) h2)
    exact ⟨rfl, rfl⟩
def sumLen (xss : List (List Int)) : Nat := (xss.map List.length).sum
theorem sumLen_snoc {xss : List (List Int)} {x : List Int} : sumLen (xss ++ [x]) = sumLen xss + x.length := by simp [sumLen]
theorem sumLen_take {xss : List (List Int)} {k : Nat} : sumLen (xss.take k) ≤ sumLen xss := by
  have : sumLen xss = sumLen (xss.take k) + sumLen (xss.drop k) := by
    unfold sumLen; rw [← List.sum_append, ← List.map_append, List.take_append_drop]
  omega
theorem flat_len {xss : List (List Int)} : xss.flatten.length = sumLen xss := by simp [sumLen, List.length_flatten]
set_option maxHeartbeats 4000000 in
theorem concat_spec {W0 : GW} {H : Heap} {v : Value} {xss : List (List Int)} (h0 : SlR (rSl rInt 1 8) 1 H v xss) (hs : sumLen xss * 8 ≤ cap47) :
    Ct Tryd.prog 56 #[v] W0 H [] (fun r H' B => B = [ownS rInt 1 8 3 H r xss.flatten] ∧ H' = H) := by
  refine Ct.go fun R => ?_
  obtain ⟨b0, c0, rfl, hc0, hd0⟩ := h0.shape
  have hs' := hs
  simp only [cap47] at hs'
  refine walk ?_
  refine ex_loop (σ := Nat × Int) (fun s => s.1 ≤ xss.length ∧ s.2 = sumLen (xss.take s.1)) (fun s => [(0, .slice b0 xss.length c0), (3, I s.2), (9, .slice b0 xss.length c0), (10, I xss.length), (11, I s.1)]) (fun _ => H) (fun _ => R) (fun s => xss.length - s.1) (0, 0) ⟨Nat.zero_le _, rfl⟩ fun ⟨k, z⟩ ⟨hk0, hz⟩ K hL => ?_
  simp only at hk0 hz
  dsimp only
  have hst := sumLen_take (xss := xss) (k := k)
  refine walk ?_
  refine ex_if rfl (fun hk => ?_) (fun hk => ?_)
  · have hk1 : k < xss.length := by omega
    have hst2 := sumLen_take (xss := xss) (k := k + 1)
    have hsn : sumLen (xss.take (k + 1)) = sumLen (xss.take k) + xss[k].length := by rw [List.take_succ_eq_append_getElem hk1, sumLen_snoc]
    refine walk ?_
    refine ops_ixp rfl rfl h0 hk1 fun b o c hr hc => ?_
    obtain ⟨w, rfl, hw⟩ := hc
    obtain ⟨b2, c2, rfl, _, _⟩ := hw.1.shape
    refine walk ?_
    exact out_next hL (k + 1, z + (xss[k].length : Nat)) ⟨by simp only; omega, by simp only; rw [hsn, hz]; omega⟩
  · clear hL
    obtain rfl : k = xss.length := by omega
    rw [List.take_length] at hz
    subst hz
    refine walk ?_
    refine ops_call (vs := [nilS, I (sumLen xss)]) rfl rfl (grow0_spec hs) fun r1 H1 B hl1 ⟨eB, eH⟩ => ?_
    subst eB eH
    refine walk ?_
    refine ex_loop (σ := Nat × Value) (fun s => s.1 ≤ xss.length) (fun s => [(6, s.2), (25, .slice b0 xss.length c0), (26, I xss.length), (27, I s.1)]) (fun _ => H1) (fun s => ownS rInt 1 8 3 H1 s.2 (xss.take s.1).flatten :: R) (fun s => xss.length - s.1) (0, r1) (Nat.zero_le _) fun ⟨k, v⟩ hk0 K hL => ?_
    simp only at hk0
    dsimp only
    refine walk ?_
    refine ex_if rfl (fun hk => ?_) (fun hk => ?_)
    · have hk1 : k < xss.length := by omega
      have hst2 := sumLen_take (xss := xss) (k := k + 1)
      have hsn : sumLen (xss.take (k + 1)) = sumLen (xss.take k) + xss[k].length := by rw [List.take_succ_eq_append_getElem hk1, sumLen_snoc]
      refine walk ?_
      refine ops_ixp rfl rfl h0 hk1 fun b o c hr hc => ?_
      obtain ⟨w, rfl, hw⟩ := hc
      obtain ⟨b2, c2, rfl, _, _⟩ := hw.1.shape
      refine walk ?_
      refine ops_appS rfl rfl hw.1 (by rw [flat_len]; simp only [cap47]; omega) fun d1 e1 => ?_
      refine walk ?_
      refine out_next hL (k + 1, _) (by simp only; omega) (hs := ?_)
      dsimp only
      rw [List.take_succ_eq_append_getElem hk1, List.flatten_append, List.length_append.symm]
      simp only [List.flatten_cons, List.flatten_nil, List.append_nil]
      exact Sub.refl _
    · clear hL
      obtain rfl : k = xss.length := by omega
      rw [List.take_length]
      refine walk ?_
      refine finB [ownS rInt 1 8 3 H1 v xss.flatten] ?_
      exact ⟨rfl, rfl⟩
set_option maxHeartbeats 4000000 in
theorem join_spec {W0 : GW} {H : Heap} {c : List Value} {v : Value} {x : Route} {more : List Int} (h0 : rRoute H c x) (h1 : SlB rInt 1 8 H v more) (hs : (x.Cells.length + more.length) * 8 ≤ cap47) :
    Ct Tryd.prog 28 #[.agg c.toArray, v] W0 H [] (RPost ⟨x.Start, x.Cells ++ more⟩) := by
  refine Ct.go (vs := [.agg c.toArray, v]) fun R => ?_
  obtain ⟨s, rfl, h2, h0⟩ := h0
  obtain ⟨b0, c0, rfl, hc0, hd0⟩ := h0.1.shape
  obtain ⟨b1, c1, rfl, hc1, hd1⟩ := h1.1.shape
  refine walk ?_
  refine ops_box rfl rfl fun p2 _ => ?_
  refine ops_alloc rfl fun p4 _ => ?_
  refine walk ?_
  refine ex_any 8 [row p2 41 (x.cv (.slice b0 x.Cells.length c0))] ?_
  refine stepY 0 ?_; refine stepY 1 ?_; refine stepY 2 ?_; refine stepY 3 ?_; refine stepY 4 ?_
  refine gny_bsN 5 rfl rfl rfl fun pb _ => ?_
  refine any_frzR .here fun H1 hl1 hr1 => ?_
  have hs2 : SlR (rSl rInt 1 8) 1 H1 (.slice (some ⟨pb, 0, none⟩) 2 2) [x.Cells, more] := slr_of_hrow (R := rSl rInt 1 8) (xs := [x.Cells, more]) hr1 (show RL (rSl rInt 1 8) H1 [.slice b0 x.Cells.length c0, .slice b1 more.length c1] [x.Cells, more] from ⟨[_], [_], rfl, ⟨_, rfl, h0.mono hl1⟩, ⟨[_], [], rfl, ⟨_, rfl, h1.mono hl1⟩, rfl⟩⟩) (by simp) (by omega)
  have hcat := concat_spec (W0 := W0) hs2 (by simpa [sumLen] using hs)
  rw [show [x.Cells, more].flatten = x.Cells ++ more by simp] at hcat
  refine gny_call (vs := [.slice (some ⟨pb, 0, none⟩) 2 2]) 6 rfl rfl rfl hcat fun r1 H2 B hl2 ⟨eB, eH⟩ => ?_
  subst eB eH
  refine ⟨subA, ?_⟩
  refine any_shape r1 fun d1 e1 e _ _ _ => ?_
  subst e
  refine stepY 7 ?_
  refine any_rest rfl ?_
  refine walk ?_
  refine finB [ownS rInt 1 8 3 H2 (.slice d1 (x.Cells ++ more).length e1) (x.Cells ++ more)] ?_
  exact ⟨_, rfl, rfl⟩
set_option maxRecDepth 100000 in
set_option maxHeartbeats 8000000 in
theorem repeat_spec {W0 : GW} {H : Heap} {pb n : Nat} {c : Int} (h0 : HRow H pb 0 [I c]) (hc : fits c) (h1 : 1 ≤ n) (h24 : n ≤ 24) :
    Ct Tryd.prog 55 #[.slice (some ⟨pb, 0, none⟩) 1 1, I n] W0 H [] (fun r H' B => B = [ownS rInt 1 8 3 H r (List.replicate n c)] ∧ H' = H) := by
  refine Ct.go fun R => ?_
  refine walkG ?_
  rw [show IntKind.u64.wrap ((1 : Nat) : Int) = 1 by simp [IntKind.wrap, IntKind.bits, IntKind.signed], show IntKind.u64.wrap (n : Int) = n by simp [IntKind.wrap, IntKind.bits, IntKind.signed]; omega]
  refine ops_pcall rfl rfl (mul1_spec h24) ?_
  refine walkG ?_
  have hfn : fits (n : Int) := by unfold fits; omega
  refine walkG ?_
  refine ops_w rfl rfl (op_mkN (m := n) (cs := List.replicate n (I 0)) rfl rfl (by rw [Nat.mul_one]; exact toList_madeCells_one _ _) (by omega) (by omega) fun b hb => ?_)
  refine walkG ?_
  have hsrc : ∀ (L : List HProp) {W1 : World} w, St W1 H w L → ∀ j v, [I c][j]? = some v → w.cell? ((⟨pb, 0, none⟩ : Addr).add j) = some v := fun L {W1} w hS j v hj => by
    rw [Addr.add_lit]; exact hS.hcell (h0 j v hj)
  refine ops_w rfl rfl (op_copyAt (us := [I c]) (a := ⟨pb, 0, none⟩) rfl rfl .here (hsrc _) (by show 1 = min 1 n; omega) (by simp; omega) rfl ?_)
  have hrow : (List.replicate n (I 0)).take 0 ++ [I c] ++ (List.replicate n (I 0)).drop (0 + [I c].length) = List.replicate 1 (I c) ++ List.replicate (n - 1) (I 0) := by simp
  rw [hrow]
  refine walk ?_
  refine ex_loop (σ := Nat) (fun k => 1 ≤ k ∧ k ≤ n) (fun k => [(7, .slice (some ⟨b, 0, none⟩) n n), (8, I k)]) (fun _ => H) (fun k => row b 3 (List.replicate k (I c) ++ List.replicate (n - k) (I 0)) :: R) (fun k => n - k) 1 ⟨Nat.le_refl _, h1⟩ fun k ⟨hk1, hkn⟩ K hL => ?_
  refine walk ?_
  refine ex_if rfl (fun hk => ?_) (fun hk => ?_)
  · have hk2 : k < n := by omega
    have hmin : (List.replicate (min k (n - k)) (I c)).length = Nat.min k (n - k) := by simp
    refine walk ?_
    refine ex_any 9 [] ?_
    refine stepY 0 ?_; refine stepY 1 ?_; refine stepY 2 ?_; refine stepY 3 ?_; refine stepY 4 ?_; refine stepY 5 ?_; refine stepY 6 ?_ 
    have hrep : ∀ {W1 : World} w, St W1 H w (row b 3 (List.replicate k (I c) ++ List.replicate (n - k) (I 0)) :: R) → ∀ j v, (List.replicate (min k (n - k)) (I c))[j]? = some v → w.cell? ((⟨b, 0, none⟩ : Addr).add j) = some v := fun {W1} w hS j v hj => by
      rw [Addr.add_lit, hS.rowCell, Nat.zero_add]
      have h2 := (List.getElem?_eq_some_iff.1 hj).1
      rw [List.length_replicate] at h2
      rw [List.getElem?_append_left (by simp; omega), List.getElem?_replicate, if_pos (by omega)]
      rw [List.getElem?_replicate, if_pos h2] at hj; exact hj
    refine gny_w 7 rfl rfl (op_copyAt (us := List.replicate (min k (n - k)) (I c)) (a := ⟨b, 0, none⟩) rfl rfl .here hrep hmin (by simp; omega) (by simp [List.all_replicate, Value.oneCell']) ⟨.refl _, subA, ?_⟩)
    rw [show ((List.replicate (min k (n - k)) (I c)).length : Int) = ((min k (n - k) : Nat) : Int) by simp]
    have hm1 : 1 ≤ min k (n - k) := by omega
    have hm2 : min k (n - k) ≤ n - k := by omega
    generalize min k (n - k) = m at *
    have hrow2 : (List.replicate k (I c) ++ List.replicate (n - k) (I 0)).take (0 + k * 1) ++ List.replicate m (I c) ++ (List.replicate k (I c) ++ List.replicate (n - k) (I 0)).drop (0 + k * 1 + (List.replicate m (I c)).length) = List.replicate (k + m) (I c) ++ List.replicate (n - (k + m)) (I 0) := by
      rw [Nat.zero_add, Nat.mul_one, List.take_append_of_le_length (by simp), List.take_of_length_le (by simp), List.drop_append, List.drop_of_length_le (by simp), List.nil_append, List.length_replicate, List.length_replicate, List.drop_replicate, List.replicate_append_replicate]
      congr 2; omega
    refine stepY 8 ?_
    refine any_rest rfl ?_
    refine walk ?_
    rw [show (k : Int) + (m : Int) = ((k + m : Nat) : Int) by omega, hrow2]
    refine out_next hL (k + m) ⟨by omega, by omega⟩
  · clear hL
    obtain rfl : k = n := by omega
    have hsub : Sub (row b 3 (List.replicate k (I c) ++ List.replicate (k - k) (I 0)) :: R) (ownS rInt 1 8 3 H (.slice (some ⟨b, 0, none⟩) k k) (List.replicate k c) :: R) := by
      rw [Nat.sub_self, List.replicate_zero, List.append_nil]
      have h3 := own_of_row (b := b) (e := 3) (sz := 1) (m := (List.replicate k c).length) (xs := List.replicate k (I c)) (R := R) (by simp) (by simp [maxLen]; omega)
      have h4 : RL rInt H (List.replicate k (I c)) (List.replicate k c) := by
        have := RL.mk1 (R := rInt) (val := fun x => .int .i64 x) (ok := fits) (H := H) (xs := List.replicate k c) (fun x hx => by rw [List.eq_of_mem_replicate hx]; exact hc)
        simpa using this
      refine Sub.trans ?_ (ownS_mk (R := rInt) (w := 8) h4 (by simp [cap47]; omega))
      simpa using h3
    refine walk ?_
    refine finB [ownS rInt 1 8 3 H (.slice (some ⟨b, 0, none⟩) k k) (List.replicate k c)] ?_ (hs := hsub)
    exact ⟨rfl, rfl⟩
set_option maxHeartbeats 8000000 in
theorem wait_spec {W0 : GW} {H : Heap} {c s n : Int} (hc : fits c) (hs : fits s) :
    Ct Tryd.prog 27 #[I c, I s, I n] W0 H [] (RPost (if n < 1 then zRoute else ⟨s, List.replicate (min n 24).toNat c⟩)) := by
  refine Ct.go fun R => ?_
  refine walk ?_
  refine ops_alloc rfl fun p6 _ => ?_
  refine walk ?_
  refine ex_if rfl (fun hn => ?_) (fun hn => ?_)
  · rw [if_pos hn]
    refine walk ?_
    refine finB [ownS rInt 1 8 3 H nilS []] ?_ (hs := Sub.trans (B := R) subA ownS_nil)
    exact ⟨_, rfl, rfl⟩
  · rw [if_neg hn]
    obtain ⟨j, hj, h1, h2⟩ : ∃ j : Nat, min n 24 = j ∧ 1 ≤ j ∧ j ≤ 24 := ⟨(min n 24).toNat, by omega, by omega, by omega⟩
    rw [hj, Int.toNat_natCast]
    refine walk ?_
    refine ops_bsN rfl rfl fun pb _ => ?_
    refine ops_frzR .here fun H1 hl1 hr1 => ?_
    refine walk ?_
    rw [hj]
    refine ops_call (vs := [.slice (some ⟨pb, 0, none⟩) 1 1, I j]) rfl rfl (repeat_spec hr1 hc h1 h2) fun r2 H2 B hl2 ⟨eB, eH⟩ => ?_
    subst eB eH
    refine ops_shape r2 fun d2 e2 e _ _ _ => ?_
    subst e
    refine walk ?_
    refine finB [ownS rInt 1 8 3 H2 (.slice d2 (List.replicate j c).length e2) (List.replicate j c)] ?_
    exact ⟨_, rfl, rfl⟩
def nd : Nat → List UInt8
  | 0 => []
  | n + 1 => nd ((n + 1) / 10) ++ [UInt8.ofNat (48 + (n + 1) % 10)]
decreasing_by omega
theorem nd_step {n : Nat} (h : n ≠ 0) : nd n = nd (n / 10) ++ [UInt8.ofNat (48 + n % 10)] := by
  cases n with
  | zero => exact absurd rfl h
  | succ n => rw [nd]
theorem nd_len : ∀ {k n : Nat}, n < 10 ^ k → (nd n).length ≤ k
  | k, 0, _ => by simp [nd]
  | 0, n + 1, h => by simp at h
  | k + 1, n + 1, h => by
    rw [nd_step (by omega), List.length_append]
    have : (n + 1) / 10 < 10 ^ k := by rw [Nat.pow_succ] at h; omega
    have := nd_len this
    simp; omega
def dgs (n : Int) : List UInt8 := if n = 0 then [48] else if n < 0 then [45] ++ nd n.natAbs else nd n.natAbs
theorem dgs_len {n : Int} (h : fits n) : (dgs n).length ≤ 20 := by
  have h1 : (nd n.natAbs).length ≤ 19 := nd_len (by unfold fits at h; omega)
  unfold dgs
  split
  · simp
  · split
    · simp; omega
    · omega
def slotL (c t : Int) : List UInt8 := [99] ++ dgs c ++ [64] ++ dgs t
def passL (a b t : Int) : List UInt8 := [112] ++ dgs (min a b) ++ [45] ++ dgs (max a b) ++ [64] ++ dgs t
instance : LawfulBEq ByteArray where
  eq_of_beq h := by rw [ba_beq] at h; simpa using h
  rfl := fun {a} => by rw [ba_beq]; simp
instance decEx {l m : List ByteArray} : Decidable (∃ s ∈ l, s ∈ m) := List.decidableBEx (fun s => s ∈ m) l
section
variable (nx : Int → List Int) (av : Int → Int → Bool) (pk : Int → Int → Int → Bool) (goal : Int) (dist : Int → Int)
end
section
variable {nx : Int → List Int} {av av' : Int → Int → Bool} {pk pk' : Int → Int → Int → Bool} {goal : Int} {dist : Int → Int}
end
def avM (m : Map) (tk : List ByteArray) (t c : Int) : Bool := decide (freeC m c ∧ sb (slotL c t) ∉ tk)
def pkM (tk : List ByteArray) (t c d : Int) : Bool := decide (sb (passL c d t) ∉ tk)
def distM (m : Map) (goal c : Int) : Int := max (c.tmod m.W - goal.tmod m.W) (goal.tmod m.W - c.tmod m.W) + max (c.tdiv m.W - goal.tdiv m.W) (goal.tdiv m.W - c.tdiv m.W)
def planT (m : Map) (tk : List ByteArray) (goal : Int) (k : Nat) (t c : Int) : Option PRest := tabP (nextR m) (avM m tk) (pkM tk) goal (distM m goal) k t c
def planP (m : Map) (tk : List ByteArray) (goal : Int) (k : Nat) (t c : Int) : List Int := pathP (nextR m) (avM m tk) (pkM tk) goal (distM m goal) k t c
def okM (m : Map) (tk : List ByteArray) (t : Int) (l : List Int) : Prop := okP (nextR m) (avM m tk) (pkM tk) t l
theorem av_iff {m : Map} {tk : List ByteArray} {t c : Int} : avM m tk t c = true ↔ freeC m c ∧ sb (slotL c t) ∉ tk := by unfold avM; rw [decide_eq_true_eq]
theorem pk_iff {tk : List ByteArray} {t c d : Int} : pkM tk t c d = true ↔ sb (passL c d t) ∉ tk := by unfold pkM; rw [decide_eq_true_eq]
theorem ok_free {m : Map} {tk : List ByteArray} : ∀ {l : List Int} {t : Int}, okM m tk t l → ∀ c ∈ l, freeC m c
  | [], _, h, _, hc => by cases hc
  | [c], t, h, x, hx => by rw [List.mem_singleton.1 hx]; exact (av_iff.1 h).1
  | c :: d :: l, t, h, x, hx => by
    rcases List.mem_cons.1 hx with e | e
    · rw [e]; exact (av_iff.1 h.1).1
    · exact ok_free (t := t + 1) (l := d :: l) h.2.2.2 x e
theorem planP_head {m : Map} {tk : List ByteArray} {goal : Int} {k : Nat} {t c : Int} : ∃ l, planP m tk goal k t c = c :: l ∧ l.length = k := path_head _ _ _ _ _
theorem plan_good {m : Map} {tk : List ByteArray} {goal : Int} {k : Nat} {t c : Int} (hb : t + k + 1 ≤ bigT) (h : (planT m tk goal k t c).isSome = true) :
    okM m tk t (planP m tk goal k t c) ∧ ∀ l, l.length = k → okM m tk t (c :: l) → c :: l = planP m tk goal k t c ∨ bltP goal (distM m goal) t (planP m tk goal k t c) (c :: l) := by
  rcases tab_spec (nextR m) (avM m tk) (pkM tk) goal (distM m goal) (k := k) (t := t) (c := c) hb with ⟨h1, _⟩ | ⟨x, h1, h2, _, h3⟩
  · unfold planT at h; rw [h1] at h; cases h
  · exact ⟨h2, h3⟩
instance : TFn Tryd.prog 62 := ⟨Tryd.call62, _, Tryd.func62, rfl⟩
instance : TBody Tryd.prog 62 Tryd.f62 (Tryd.f62.body.getD .skip) 5 := ⟨Tryd.func62, rfl, Tryd.ntmps62⟩
instance : TFn Tryd.prog 68 := ⟨Tryd.call68, _, Tryd.func68, rfl⟩
instance : TBody Tryd.prog 68 Tryd.f68 (Tryd.f68.body.getD .skip) 54 := ⟨Tryd.func68, rfl, Tryd.ntmps68⟩
instance : TFn Tryd.prog 82 := ⟨Tryd.call82, _, Tryd.func82, rfl⟩
instance : TBody Tryd.prog 82 Tryd.f82 (Tryd.f82.body.getD .skip) 15 := ⟨Tryd.func82, rfl, Tryd.ntmps82⟩
instance : TFn Tryd.prog 83 := ⟨Tryd.call83, _, Tryd.func83, rfl⟩
instance : TBody Tryd.prog 83 Tryd.f83 (Tryd.f83.body.getD .skip) 15 := ⟨Tryd.func83, rfl, Tryd.ntmps83⟩
instance : TFn Tryd.prog 84 := ⟨Tryd.call84, _, Tryd.func84, rfl⟩
instance : TBody Tryd.prog 84 Tryd.f84 (Tryd.f84.body.getD .skip) 167 := ⟨Tryd.func84, rfl, Tryd.ntmps84⟩
instance : TFn Tryd.prog 91 := ⟨Tryd.call91, _, Tryd.func91, rfl⟩
instance : TBody Tryd.prog 91 Tryd.f91 (Tryd.f91.body.getD .skip) 6 := ⟨Tryd.func91, rfl, Tryd.ntmps91⟩
instance : TFn Tryd.prog 92 := ⟨Tryd.call92, _, Tryd.func92, rfl⟩
instance : TBody Tryd.prog 92 Tryd.f92 (Tryd.f92.body.getD .skip) 4 := ⟨Tryd.func92, rfl, Tryd.ntmps92⟩
theorem nd_zero : nd 0 = [] := by unfold nd; simp
theorem dgs_one {n : Nat} (h : n < 10) : dgs n = [UInt8.ofNat (48 + n)] := by
  unfold dgs
  by_cases h0 : n = 0
  · subst h0; rfl
  · rw [if_neg (by omega), if_neg (by omega), Int.natAbs_natCast, nd_step h0, show n / 10 = 0 by omega, nd_zero, show n % 10 = n by omega]; rfl
theorem dgs_two {n : Nat} (h : 10 ≤ n) (h2 : n < 100) : dgs n = [UInt8.ofNat (48 + n / 10), UInt8.ofNat (48 + n % 10)] := by
  unfold dgs
  rw [if_neg (by omega), if_neg (by omega), Int.natAbs_natCast, nd_step (by omega), nd_step (n := n / 10) (by omega), show n / 10 / 10 = 0 by omega, nd_zero, show n / 10 % 10 = n / 10 by omega]; rfl
theorem small_spec {W0 : GW} {H : Heap} {n : Nat} (hn : n < 100) :
    Ct Tryd.prog 82 #[I n] W0 H [] (fun r H' B => r = .string (sb (dgs n)) ∧ B = [] ∧ H' = H) := by
  refine Ct.go fun R => ?_
  refine walk ?_
  refine ex_if rfl (fun h => ?_) (fun h => ?_)
  · have h' : n < 10 := by omega
    refine walk ?_
    refine ops_pure rfl rfl (op_slSS (i := n) (j := n + 1) rfl rfl rfl (by omega) (Nat.le_trans (show n + 1 ≤ 10 by omega) (by decide +kernel))) ?_
    refine walk ?_
    refine fin0 ?_
    refine ⟨?_, rfl, rfl⟩
    rw [dgs_one h']
    have hc : n = 0 ∨ n = 1 ∨ n = 2 ∨ n = 3 ∨ n = 4 ∨ n = 5 ∨ n = 6 ∨ n = 7 ∨ n = 8 ∨ n = 9 := by omega
    rcases hc with rfl | rfl | rfl | rfl | rfl | rfl | rfl | rfl | rfl | rfl <;> exact congrArg Value.string (by decide +kernel)
  · have h' : 10 ≤ n := by omega
    refine walk ?_
    refine ops_pure rfl rfl (op_slSS (i := n * 2) (j := n * 2 + 2) rfl rfl rfl (by omega) (Nat.le_trans (show n * 2 + 2 ≤ 200 by omega) (by decide +kernel))) ?_
    refine walk ?_
    refine fin0 ?_
    refine ⟨?_, rfl, rfl⟩
    rw [dgs_two h' hn]
    refine congrArg Value.string ?_
    clear h h'
    revert n
    decide +kernel
theorem bool2_spec {W0 : GW} {H : Heap} {p : Prop} [Decidable p] :
    Ct Tryd.prog 92 #[.bool (decide p)] W0 H [] (fun r H' B => r = I (if p then 1 else 0) ∧ B = [] ∧ H' = H) := by
  refine Ct.go fun R => ?_
  refine walk ?_
  refine ex_if rfl (fun h => ?_) (fun h => ?_)
  · refine walk ?_
    refine fin0 ?_
    exact ⟨by rw [if_pos h], rfl, rfl⟩
  · refine walk ?_
    refine fin0 ?_
    exact ⟨by rw [if_neg h], rfl, rfl⟩
theorem op_shr18 {P : Program} {n : NF} {F : Slots} {H : Heap} {L : List HProp} {dst : Option Tmp} {ty : TypeId} {pos : String} {aft : Array Edge} {g : Option (Nat × Bool)} {T T' : TypeId} {x y : Operand} {a : Int} (hx : opv F x = some (.int .i64 a)) (hy : opv F y = some (.int .u64 18)) :
    OpP P n ⟨dst, .binOp .shr T x y T', ty, pos, aft, g⟩ F H L (.int .i64 (a.fdiv 262144)) :=
  .mk fun _ w hF _ => by simp only [execOp, hF.opv hx, hF.opv hy]; simp [go_sem, Op.shift, IntKind.bits]
theorem log10_spec {W0 : GW} {H : Heap} {k : Nat} (hk : k ≤ 64) :
    Ct Tryd.prog 91 #[I k] W0 H [] (fun r H' B => r = I ((k * 78913 / 262144 : Nat) : Int) ∧ B = [] ∧ H' = H) := by
  refine Ct.go fun R => ?_
  refine walk ?_
  refine ops_pure rfl rfl (op_shr18 rfl rfl) ?_
  rw [show ((k : Int) * 78913).fdiv 262144 = ((k * 78913 / 262144 : Nat) : Int) by rw [Int.fdiv_eq_ediv_of_nonneg _ (by decide)]; omega]
  refine walk ?_
  refine fin0 ?_
  exact ⟨rfl, rfl, rfl⟩
def VarH (P : Program) (H : Heap) (name : String) (cs : List Value) : Prop := ∃ g T f, P.globalNamed name = some g ∧ H g = some (.cells cs.toArray T f)
theorem VarH.mono {P : Program} {H H' : Heap} {name : String} {cs : List Value} (h : VarH P H name cs) (hl : H.le H') : VarH P H' name cs := by
  obtain ⟨g, T, f, a, b⟩ := h; exact ⟨g, T, f, a, hl _ _ b⟩
def TabH (P : Program) (H : Heap) : Prop := VarH P H "internal/strconv.uint64pow10" (Lib.pow10Tab.map fun z => Value.int .u64 z)
theorem TabH.mono {P : Program} {H H' : Heap} (h : TabH P H) (hl : H.le H') : TabH P H' := VarH.mono h hl
def goodTab (s : ByteArray) : Bool := (List.range 256).all fun i => match s[i]? with
  | some u => Nat.blt i (2 ^ u.toNat) && (Nat.beq i 0 || Nat.ble (2 ^ u.toNat) (2 * i)) && Nat.ble u.toNat 8
  | none => false
theorem tab_ok {s : ByteArray} {i k : Nat} {h : i < s.size} (hk : (s[i]'h).toNat = k) (hs : goodTab s = true) (hi : i < 256) : i < 2 ^ k ∧ (i = 0 ∨ 2 ^ k ≤ 2 * i) ∧ k ≤ 8 := by
  have h1 := List.all_eq_true.1 hs i (List.mem_range.2 hi)
  have hg : s[i]? = some (s[i]'h) := by simp [h]
  rw [hg] at h1
  simp only [Bool.and_eq_true, Bool.or_eq_true, hk, Nat.blt_eq, Nat.beq_eq_true_eq, Nat.ble_eq] at h1
  exact ⟨h1.1.1, h1.1.2.imp (fun e => Nat.eq_of_beq_eq_true e) (fun e => e), h1.2⟩
section
variable {P : Program} {n : NF} {F : Slots} {H : Heap} {L : List HProp} {dst : Option Tmp} {ty : TypeId} {pos : String} {aft : Array Edge} {g : Option (Nat × Bool)} {x y : Operand} {a b : Int} {T T' : TypeId}
theorem op_shr16 (hx : opv F x = some (.int .u64 a)) (hy : opv F y = some (.int .u64 16)) : OpP P n ⟨dst, .binOp .shr T x y T', ty, pos, aft, g⟩ F H L (.int .u64 (a.fdiv 65536)) :=
  .mk fun _ w hF _ => by simp only [execOp, hF.opv hx, hF.opv hy]; simp [go_sem, Op.shift, IntKind.bits]
theorem op_shr8 (hx : opv F x = some (.int .u64 a)) (hy : opv F y = some (.int .u64 8)) : OpP P n ⟨dst, .binOp .shr T x y T', ty, pos, aft, g⟩ F H L (.int .u64 (a.fdiv 256)) :=
  .mk fun _ w hF _ => by simp only [execOp, hF.opv hx, hF.opv hy]; simp [go_sem, Op.shift, IntKind.bits]
end
theorem wrap_u8 {m : Nat} (h : m < 256) : IntKind.u8.wrap (m : Int) = m := by simp [IntKind.wrap, IntKind.bits, IntKind.signed]; omega
theorem fdivN {m k : Nat} : (m : Int).fdiv (k : Int) = ((m / k : Nat) : Int) := by
  rw [Int.fdiv_eq_ediv_of_nonneg _ (by omega)]; exact (Int.natCast_ediv m k).symm
theorem len64_32 {W0 : GW} {H : Heap} {n : Nat} (hn : n < 4294967296) (h0 : 0 < n) :
    Ct Tryd.prog 79 #[.int .u64 n] W0 H [] (fun r H' B => (∃ k : Nat, r = I k ∧ k ≤ 32 ∧ n < 2 ^ k ∧ 2 ^ k ≤ 2 * n) ∧ B = [] ∧ H' = H) := by
  refine Ct.go fun R => ?_
  refine walk ?_
  refine ex_if rfl (fun h1 => ?_) (fun h1 => ?_)
  · refine walk ?_
    refine ops_pure rfl rfl (op_shr16 rfl rfl) ?_
    rw [show ((n : Nat) : Int).fdiv 65536 = ((n / 65536 : Nat) : Int) from fdivN (k := 65536)]
    refine walk ?_
    refine ex_if rfl (fun h2 => ?_) (fun h2 => ?_)
    · refine walk ?_
      refine ops_pure rfl rfl (op_shr8 rfl rfl) ?_
      rw [show ((n / 65536 : Nat) : Int).fdiv 256 = ((n / 65536 / 256 : Nat) : Int) from fdivN (k := 256)]
      refine walk ?_
      generalize hm : n / 65536 / 256 = m at *
      rw [wrap_u8 (m := m) (by omega)]
      refine ops_pure rfl rfl (op_ixS (i := m) rfl rfl (Nat.lt_of_lt_of_le (show m < 256 by omega) (by decide +kernel))) ?_
      generalize hk : UInt8.toNat _ = k
      obtain ⟨k1, k2, k3⟩ := tab_ok hk (by decide +kernel) (by omega)
      have hkw : IntKind.i64.wrap (k : Int) = k := by simp [IntKind.wrap, IntKind.bits, IntKind.signed]; omega
      refine walkG ?_
      refine fin0 ?_
      refine ⟨⟨24 + k, by simp, by omega, ?_, ?_⟩, rfl, rfl⟩
      · rw [Nat.pow_add]; generalize 2 ^ k = p at *; omega
      · rw [Nat.pow_add]; generalize 2 ^ k = p at *; omega
    · refine walk ?_
      generalize hm : n / 65536 = m at *
      rw [wrap_u8 (m := m) (by omega)]
      refine ops_pure rfl rfl (op_ixS (i := m) rfl rfl (Nat.lt_of_lt_of_le (show m < 256 by omega) (by decide +kernel))) ?_
      generalize hk : UInt8.toNat _ = k
      obtain ⟨k1, k2, k3⟩ := tab_ok hk (by decide +kernel) (by omega)
      have hkw : IntKind.i64.wrap (k : Int) = k := by simp [IntKind.wrap, IntKind.bits, IntKind.signed]; omega
      refine walkG ?_
      refine fin0 ?_
      refine ⟨⟨16 + k, by simp, by omega, ?_, ?_⟩, rfl, rfl⟩
      · rw [Nat.pow_add]; generalize 2 ^ k = p at *; omega
      · rw [Nat.pow_add]; generalize 2 ^ k = p at *; omega
  · refine walk ?_
    refine ex_if rfl (fun h2 => ?_) (fun h2 => ?_)
    · refine walk ?_
      refine ops_pure rfl rfl (op_shr8 rfl rfl) ?_
      rw [show ((n : Nat) : Int).fdiv 256 = ((n / 256 : Nat) : Int) from fdivN (k := 256)]
      refine walk ?_
      generalize hm : n / 256 = m at *
      rw [wrap_u8 (m := m) (by omega)]
      refine ops_pure rfl rfl (op_ixS (i := m) rfl rfl (Nat.lt_of_lt_of_le (show m < 256 by omega) (by decide +kernel))) ?_
      generalize hk : UInt8.toNat _ = k
      obtain ⟨k1, k2, k3⟩ := tab_ok hk (by decide +kernel) (by omega)
      have hkw : IntKind.i64.wrap (k : Int) = k := by simp [IntKind.wrap, IntKind.bits, IntKind.signed]; omega
      refine walkG ?_
      refine fin0 ?_
      refine ⟨⟨8 + k, by simp, by omega, ?_, ?_⟩, rfl, rfl⟩
      · rw [Nat.pow_add]; generalize 2 ^ k = p at *; omega
      · rw [Nat.pow_add]; generalize 2 ^ k = p at *; omega
    · refine walk ?_
      obtain ⟨m, hm⟩ : ∃ m, n = m := ⟨n, rfl⟩
      subst hm
      rw [wrap_u8 (m := n) (by omega)]
      refine ops_pure rfl rfl (op_ixS (i := n) rfl rfl (Nat.lt_of_lt_of_le (show n < 256 by omega) (by decide +kernel))) ?_
      generalize hk : UInt8.toNat _ = k
      obtain ⟨k1, k2, k3⟩ := tab_ok hk (by decide +kernel) (by omega)
      have hkw : IntKind.i64.wrap (k : Int) = k := by simp [IntKind.wrap, IntKind.bits, IntKind.signed]; omega
      refine walkG ?_
      refine fin0 ?_
      refine ⟨⟨0 + k, by simp, by omega, ?_, ?_⟩, rfl, rfl⟩
      · rw [Nat.pow_add]; generalize 2 ^ k = p at *; omega
      · rw [Nat.pow_add]; generalize 2 ^ k = p at *; omega
def WD : Nat → Nat → List Int
  | 0, _ => []
  | k + 1, n => WD k (n / 10) ++ [((48 + n % 10 : Nat) : Int)]
theorem WD_len : ∀ (k n : Nat), (WD k n).length = k
  | 0, _ => rfl
  | k + 1, n => by simp [WD, WD_len k]
theorem WD_two (k n : Nat) : WD (k + 2) n = WD k (n / 100) ++ [((48 + n % 100 / 10 : Nat) : Int), ((48 + n % 100 % 10 : Nat) : Int)] := by
  simp only [WD, List.append_assoc]
  rw [Nat.div_div_eq_div_mul, show n / 10 % 10 = n % 100 / 10 by omega, show n % 100 % 10 = n % 10 by omega]
  rfl
theorem WD_nd : ∀ (k n : Nat), 0 < n → 10 ^ k ≤ n → n < 10 ^ (k + 1) → (WD (k + 1) n).map (fun z => UInt8.ofNat z.toNat) = nd n
  | 0, n, h0, h1, h2 => by
    rw [nd_step (by omega), show n / 10 = 0 by simp at h2; omega, nd_zero]
    simp only [WD, List.map_append, List.map_nil, List.nil_append, List.map_cons, Int.toNat_natCast]
  | k + 1, n, h0, h1, h2 => by
    rw [Nat.pow_succ] at h1 h2
    have h3 : 10 ^ k * 10 = 10 ^ (k + 1) := (Nat.pow_succ ..).symm
    have hp : 0 < 10 ^ k := Nat.pow_pos (by decide)
    rw [WD, List.map_append, WD_nd k (n / 10) (by omega) (by omega) (by omega), nd_step (n := n) (by omega)]
    simp only [List.map_cons, List.map_nil, Int.toNat_natCast]
theorem WD_dgs {d n : Nat} (h0 : 0 < n) (hd : 1 ≤ d) (h1 : 10 ^ (d - 1) ≤ n) (h2 : n < 10 ^ d) : (WD d n).map (fun z => UInt8.ofNat z.toNat) = dgs n := by
  obtain ⟨k, rfl⟩ : ∃ k, d = k + 1 := ⟨d - 1, by omega⟩
  rw [WD_nd k n h0 (by simpa using h1) h2]
  unfold dgs
  rw [if_neg (by omega), if_neg (by omega), Int.natAbs_natCast]
theorem dig_k : ∀ k, k < 33 → 1 ≤ k → (2 ^ k ≤ 10 ^ (k * 78913 / 262144 + 1) ∧ (k * 78913 / 262144 = 0 ∨ 2 * 10 ^ (k * 78913 / 262144 - 1) ≤ 2 ^ k)) ∧ k * 78913 / 262144 ≤ 9 := by decide +kernel
theorem tab_k0 : ∀ e, e < 10 → Lib.pow10Tab[e]? = some ((10 ^ e : Nat) : Int) := by decide +kernel
theorem tab_k {e : Nat} (h : e < 10) : (Lib.pow10Tab.map fun z => Value.int .u64 z).toArray[e]? = some (.int .u64 ((10 ^ e : Nat) : Int)) := by
  rw [List.getElem?_toArray, List.getElem?_map, tab_k0 e h]; rfl
instance : TAr Tryd.prog 147 20 59 := ⟨Tryd.underlying147⟩
theorem glob_tab : Tryd.prog.globalNamed "internal/strconv.uint64pow10" = some 0 := by kernel_rfl
theorem numDigits_spec {W0 : GW} {H : Heap} {n : Nat} (hT : TabH Tryd.prog H) (h0 : 0 < n) (hn : n < 4294967296) :
    Ct Tryd.prog 83 #[.int .u64 n] W0 H [] (fun r H' B => (∃ d : Nat, r = I d ∧ 1 ≤ d ∧ d ≤ 10 ∧ 10 ^ (d - 1) ≤ n ∧ n < 10 ^ d) ∧ B = [] ∧ H' = H) := by
  refine Ct.go fun R => ?_
  refine walk ?_
  refine ops_call rfl rfl (len64_32 hn h0) fun r H' B hl ⟨⟨k, er, k1, k2, k3⟩, eB, eH⟩ => ?_
  subst er eB eH
  have hk1 : 1 ≤ k := by
    rcases Nat.eq_zero_or_pos k with e | e
    · subst e; simp at k2; omega
    · exact e
  obtain ⟨⟨d1, d2⟩, d3⟩ := dig_k k (by omega) hk1
  refine walk ?_
  refine ops_call rfl rfl (log10_spec (k := k) (by omega)) fun r H' B hl ⟨er, eB, eH⟩ => ?_
  subst er eB eH
  generalize he : k * 78913 / 262144 = e at *
  obtain ⟨g, T, f, hg, hH⟩ := hT
  rw [glob_tab] at hg
  cases hg
  refine walk ?_
  refine ops_pure rfl rfl (op_loadH rfl (v := .int .u64 ((10 ^ e : Nat) : Int)) (by unfold hcell; rw [hH, show 0 + e * 1 = e by omega]; exact tab_k (by omega))) ?_
  refine walk ?_
  refine ops_pcall rfl rfl (bool2_spec (p := ((10 ^ e : Nat) : Int) ≤ (n : Int))) ?_
  refine walk ?_
  refine fin0 ?_
  generalize hp : 10 ^ e = p at *
  by_cases hc : p ≤ n
  · rw [if_pos (by omega)]
    refine ⟨⟨e + 1, by simp, by omega, by omega, ?_, by omega⟩, rfl, rfl⟩
    rw [Nat.add_sub_cancel, hp]; exact hc
  · rw [if_neg (by omega)]
    have he1 : e ≠ 0 := fun h => by subst h; simp at hp; omega
    refine ⟨⟨e, by simp, by omega, by omega, ?_, by rw [hp]; omega⟩, rfl, rfl⟩
    rcases d2 with h | h
    · exact absurd h he1
    · omega
end Go.Proofs.YtafhinjggdknjaaDoor
namespace Go.Proofs.YtafhinjggdknjaaDoor
open Go Go.Sx Go.X Go.Proofs Go.ChangeShapes Go.WideShapes Go.ChangeAt Go.RowKit
theorem own0 : ownKnob Tryd.prog.godebug = none := by kernel_rfl
theorem laid0 : laidOutB Tryd.prog = true := by kernel_rfl
theorem varH_of {W : World} {name : String} {cs : List Value} (h : W.var? Tryd.prog name = some cs.toArray) : VarH Tryd.prog (rp W) name cs := by
  unfold World.var? at h
  cases hg : Tryd.prog.globalNamed name with
  | none => rw [hg] at h; cases h
  | some g =>
    rw [hg] at h
    simp only [Option.bind_some] at h
    split at h
    · next cs' T f hc => cases h; exact ⟨g, T, f, hg, hc⟩
    · cases h
def laid3 : List (String × DataW Unit) := [("math/bits.deBruijn32tab", Rows.laid_math_bits_deBruijn32tab), ("math/bits.deBruijn64tab", Rows.laid_math_bits_deBruijn64tab), ("internal/strconv.uint64pow10", Rows.laid_internal_strconv_uint64pow10)]
theorem tab_of {W : World} {r : List (String × DataW Unit)} (h : laidMet Tryd.prog (("internal/strconv.uint64pow10", Rows.laid_internal_strconv_uint64pow10) :: r) W) : TabH Tryd.prog (rp W) := by
  exact varH_of (Lib.tabIs_of_head (g := 0) (k := .u64) (zs := Lib.pow10Tab) (rest := r) (t := 147) (e := 59) (n := 20) (by kernel_rfl) (by kernel_rfl) Tryd.underlying147 Tryd.underlying59 (by kernel_rfl) (by kernel_rfl) h)
theorem tab3 {W : World} (h : laidMetH Tryd.prog laid3 W) : TabH Tryd.prog (rp W) := by
  rw [MakeChecks.laidMetH_plain _ _ _ (by kernel_rfl)] at h
  exact tab_of (laidMet.tail (laidMet.tail h))
theorem door3 (os : Os) (args : Array Value) : laidMetH Tryd.prog laid3 ((World.doorLaid Tryd.prog 62 os).forCall (fun _ _ => 0) ⟨#[], args, []⟩).memory :=
  laidMetH_of_parts3 (fuel := 8) (laidMet_of_run' 8 (by kernel_rfl) (by kernel_rfl)) (by kernel_rfl) (by kernel_rfl)
section
variable {H : Type} {enc : TypeId × Value → H}
open Go.Conc
theorem leavingWide_and {a : Assume} {C : Checked} {os : Os} {f : FuncId} {fn : Func} {s : ChangeSpec} {conds : List PathCond} {apart fresh handsOn again : Bool} {X : World → Array Value → Prop}
    (hX : ∀ (w w' : World) (args : Array Value), w.heap = w'.heap → X w args → X w' args)
    (own : ownKnob C.prog.godebug = none) (started : os.Started) (hfn : C.prog.funcs[f]? = some fn)
    (witness : ∃ (w : World) (tape : Tape) (i : Input), w.os = os ∧ (w.forCall tape i).Shaped C.prog ∧ i.vars = [] ∧ Input.okWide C.prog (w.forCall tape i) .any w.heap.size f i ∧
      ((s.pre enc C.prog fn conds apart (w.forCall tape i).memory i.args ∧ X (w.forCall tape i).memory i.args) ∧ sizedMet enc C.prog fn (OpenSpec.ofChange s) apart (w.forCall tape i).memory i.args) ∧ a.holds C.prog (lone (Frame.enter C.prog f i.args .normal) [] (w.forCall tape i)))
    (runs : ∀ (W : World) (base : Nat) (args : Array Value) (ds gs : List (DataW H)) (before : List MemPlace),
      (∀ (j : Nat) t v, fn.params[j]? = some t → args[j]? = some v → Value.okWide C.prog W .any base t v) →
      DataW.Whole enc C.prog fn.params.toList s.vars apart W args.toList ds gs before →
      conds.all (PathCond.test C.prog ⟨fn.params.toList, ds, s.plain.varTypes C.prog, gs⟩) = true →
      (DataW.weightsEach C.prog (fn.params.toList ++ s.plain.varTypes C.prog) (ds ++ gs)).all (· ≤ reachBytes) = true → X W args →
      a.holds C.prog (lone (Frame.enter C.prog f args .normal) [] W) →
      ∃ M last o w' t', runNT C.prog (M + 1) (solo (G (Frame.enter C.prog f args .normal) []) W) #[] = (.ended o w', t') ∧ runN C.prog M (solo (G (Frame.enter C.prog f args .normal) []) W) = .next last ∧
        step C.prog last = .ended o w' ∧ Conc.Good C.prog (fun v W' => s.post enc C.prog fn apart fresh handsOn again W args v W') last o w' t') :
    ReturnsInLeavingWide a C os f .any (fun w args => (s.pre enc C.prog fn conds apart w args ∧ X w args) ∧ sizedMet enc C.prog fn (OpenSpec.ofChange s) apart w args) (s.post enc C.prog fn apart fresh handsOn again) := by
  refine returnsInLeavingWide_of_good own started witness ?_
  intro w tape i _ _ _ hok hpre hholds
  obtain ⟨_, _, _, fn', hfn', _, _, _, _, hval⟩ := hok
  have e : fn' = fn := Option.some.inj (hfn'.symm.trans hfn)
  subst e
  obtain ⟨⟨⟨ds, gs, before, hw, hc⟩, hx⟩, hz⟩ := hpre
  have hw' := DataW.Whole.of_heap (w' := w.forCall tape i) (by rfl) hw
  obtain ⟨M, last, o, w', t', h1, h2, h3, h4⟩ := runs (w.forCall tape i) w.heap.size i.args ds gs before hval hw' hc (hz.weights hw) (hX _ _ _ (by rfl) hx) hholds
  exact ⟨M, last, o, w', t', h1, h2, h3, h4.mono fun v hp => ChangeSpec.post_blind hp⟩
end
end Go.Proofs.YtafhinjggdknjaaDoor
