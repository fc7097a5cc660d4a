/- Load's own: the worst error; is a transaction there twice? -/
import Derived.Test.YtkhbfjkioehgfaaGreatDoorLO
import Derived.Test.YtkhbfjkioehgfaaGreatDoorKD
set_option linter.unusedVariables false
set_option linter.unusedSimpArgs false
namespace Go.Proofs.YtkhbfjkioehgfaaGreatDoor
open Go Go.Sx Go.Proofs
def rankE (e : Int) : Int := if e = 2 then 3 else if e = 1 then 2 else if e = 140 then 1 else 0
def worse (a e : Int) : Int := if rankE a < rankE e then e else a
theorem rank_spec {W0 : World} {H : Heap} {e : Int} :
    Ct Tryz.prog 36 #[I e] W0 H [] (fun r H' B => r = I (rankE e) ∧ B = [] ∧ H' = H) := by
  refine Ct.go (vs := [I e]) fun R => ?_
  unfold rankE
  refine walk ?_
  refine ex_if rfl (fun h1 => ?_) (fun h1 => ?_)
  · refine walk ?_
    refine fin0 ?_
    exact ⟨by rw [if_pos h1], rfl, rfl⟩
  refine walk ?_
  refine ex_if rfl (fun h2 => ?_) (fun h2 => ?_)
  · refine walk ?_
    refine fin0 ?_
    exact ⟨by rw [if_neg h1, if_pos h2], rfl, rfl⟩
  refine walk ?_
  refine ex_if rfl (fun h3 => ?_) (fun h3 => ?_)
  · refine walk ?_
    refine fin0 ?_
    exact ⟨by rw [if_neg h1, if_neg h2, if_pos h3], rfl, rfl⟩
  refine walk ?_
  refine fin0 ?_
  exact ⟨by rw [if_neg h1, if_neg h2, if_neg h3], rfl, rfl⟩
theorem note_spec {W0 : World} {H : Heap} {p : Nat} {a e : Int} :
    Ct Tryz.prog 35 #[I e, .pointer (some ⟨p, 0, none⟩)] W0 H [row p 33 [I a]] (fun r H' B => r = .tuple #[] ∧ B = [row p 33 [I (worse a e)]] ∧ H' = H) := by
  refine Ct.go (vs := [I e, .pointer (some ⟨p, 0, none⟩)]) fun R => ?_
  unfold worse
  refine walk ?_
  refine ex_any 5 [row p 33 [I a]] ?_
  (first | refine gny_p 0 rfl rfl rfl ?_ | refine gny_ld 0 rfl rfl rfl rfl ?_ | refine gny_ldH 0 rfl rfl rfl ‹HRow _ _ 0 _› rfl ?_ | refine gny_T 0 rfl rfl rfl ?_ | refine gny_F 0 rfl rfl rfl ?_ | refine gny_B 0 rfl rfl rfl ?_ | refine gny_skip 0 rfl rfl ?_ | refine gny_sp 0 rfl rfl rfl ?_ | refine gny_sB 0 rfl rfl rfl ?_ | refine gny_sld 0 rfl rfl rfl rfl ?_ | refine gny_sldH 0 rfl rfl rfl ‹HRow _ _ 0 _› rfl ?_ | refine gny_ldN 0 rfl rfl rfl rfl ?_ | refine gny_bld 0 rfl rfl rfl ?_)
  (first | refine gny_p 2 rfl rfl rfl ?_ | refine gny_ld 2 rfl rfl rfl rfl ?_ | refine gny_ldH 2 rfl rfl rfl ‹HRow _ _ 0 _› rfl ?_ | refine gny_T 2 rfl rfl rfl ?_ | refine gny_F 2 rfl rfl rfl ?_ | refine gny_B 2 rfl rfl rfl ?_ | refine gny_skip 2 rfl rfl ?_ | refine gny_sp 2 rfl rfl rfl ?_ | refine gny_sB 2 rfl rfl rfl ?_ | refine gny_sld 2 rfl rfl rfl rfl ?_ | refine gny_sldH 2 rfl rfl rfl ‹HRow _ _ 0 _› rfl ?_ | refine gny_ldN 2 rfl rfl rfl rfl ?_ | refine gny_bld 2 rfl rfl rfl ?_)
  refine gny_pcall 1 rfl rfl rfl rank_spec ?_
  refine gny_pcall 3 rfl rfl rfl rank_spec ?_
  (first | refine gny_p 4 rfl rfl rfl ?_ | refine gny_ld 4 rfl rfl rfl rfl ?_ | refine gny_ldH 4 rfl rfl rfl ‹HRow _ _ 0 _› rfl ?_ | refine gny_T 4 rfl rfl rfl ?_ | refine gny_F 4 rfl rfl rfl ?_ | refine gny_B 4 rfl rfl rfl ?_ | refine gny_skip 4 rfl rfl ?_ | refine gny_sp 4 rfl rfl rfl ?_ | refine gny_sB 4 rfl rfl rfl ?_ | refine gny_sld 4 rfl rfl rfl rfl ?_ | refine gny_sldH 4 rfl rfl rfl ‹HRow _ _ 0 _› rfl ?_ | refine gny_ldN 4 rfl rfl rfl rfl ?_ | refine gny_bld 4 rfl rfl rfl ?_)
  refine any_rest rfl ?_
  refine walk ?_
  refine ex_if rfl (fun h1 => ?_) (fun h1 => ?_)
  · refine walk ?_
    rw [if_pos h1]
    refine endnB [row p 33 [I e]] ?_
    exact ⟨rfl, rfl, rfl⟩
  · refine walk ?_
    rw [if_neg h1]
    refine endnB [row p 33 [I a]] ?_
    exact ⟨rfl, rfl, rfl⟩
/-- how often each stands -/
def countX : List Rec → List (K3 × Int) → List (K3 × Int)
  | [], m => m
  | r :: l, m => countX l (mset r.Txn.k ((mget r.Txn.k m).getD 0 + 1) m)
/-- what the first j have made of the map -/
structure Cnt (l : List K3) (m : List (K3 × Int)) : Prop where
  keys : ∀ k, k ∈ m.map (·.1) ↔ k ∈ l
  le : m.length ≤ l.length
  nd : m.length = l.length ↔ l.Nodup
  val : ∀ k v, mget k m = some v → 0 ≤ v ∧ v ≤ l.length
theorem Cnt.snoc {l : List K3} {m : List (K3 × Int)} (h : Cnt l m) (hn : (m.map (·.1)).Nodup) (k : K3) : Cnt (l ++ [k]) (mset k ((mget k m).getD 0 + 1) m) := by
  have hl := mset_len (k := k) (v := (mget k m).getD 0 + 1) (m := m)
  have hk := mset_keys k ((mget k m).getD 0 + 1) m
  have hv : 0 ≤ (mget k m).getD 0 ∧ (mget k m).getD 0 ≤ l.length := by
    cases hg : mget k m with
    | none => simp
    | some v => exact h.val k v hg
  have hle := h.le
  refine ⟨fun k' => ?_, ?_, ?_, fun k' v hg => ?_⟩
  · rw [hk, List.mem_append, List.mem_singleton]
    split
    · next hm => rw [h.keys]; exact ⟨.inl, fun e => e.elim id fun e => by subst e; exact (h.keys _).1 hm⟩
    · rw [List.mem_append, List.mem_singleton, h.keys]
  · rw [hl, List.length_append]
    simp only [List.length_cons, List.length_nil]
    split <;> omega
  · rw [hl, List.length_append, List.nodup_append]
    simp only [List.length_cons, List.length_nil]
    by_cases hm : k ∈ m.map (·.1)
    · rw [if_pos hm]
      constructor
      · omega
      · rintro ⟨_, _, h3⟩
        exact absurd rfl (h3 k ((h.keys k).1 hm) k (by simp))
    · rw [if_neg hm]
      have e := h.nd
      constructor
      · intro hh
        refine ⟨e.1 (by omega), by simp, fun a ha b hb hab => ?_⟩
        rw [List.mem_singleton] at hb
        subst hb hab
        exact hm ((h.keys _).2 ha)
      · rintro ⟨h1, _⟩
        have := e.2 h1
        omega
  · rw [mget_mset] at hg
    rw [List.length_append]
    simp only [List.length_cons, List.length_nil]
    split at hg
    · cases hg; omega
    · have := h.val k' v hg; omega
def dupX (l : List Rec) : Prop := ¬ (l.map (·.Txn.k)).Nodup
instance {l : List Rec} : Decidable (dupX l) := by unfold dupX; infer_instance
set_option maxHeartbeats 4000000 in
set_option maxRecDepth 20000 in
theorem twiceT_spec {W0 : World} {H : Heap} {v : Value} {l : List Rec} (h0 : SlR rRec 9 H v l) (hn : l.length ≤ 1000000) :
    Ct Tryz.prog 37 #[v] W0 H [] (fun r H' B => r = .bool (decide (dupX l)) ∧ B = []) := by
  refine Ct.go (vs := [v]) fun R => ?_
  obtain ⟨b0, c0, rfl, hc0, hd0⟩ := h0.shape
  refine walk ?_
  refine ops_makeMap ek3 rInt false rfl fun mb _ => ?_
  refine walk ?_
  refine ex_loop (σ := Nat × List (K3 × Int)) (fun u => u.1 ≤ l.length ∧ Cnt ((l.map (·.Txn.k)).take u.1) u.2) (fun u => [(0, .slice b0 l.length c0), (3, .map (some mb)), (7, .slice b0 l.length c0), (8, I l.length), (9, I u.1)]) (fun _ => H) (fun u => mapO ek3 rInt false H mb u.2 :: R) (fun u => l.length - u.1) (0, []) ⟨Nat.zero_le _, ⟨by simp, by simp, by simp, fun k v h => by cases h⟩⟩ fun ⟨k, m⟩ ⟨hk0, hC⟩ K hL => ?_
  simp only at hk0 hC
  dsimp only
  refine ex_know (A := mapO ek3 rInt false H mb m) (by repeat (first | exact Has.here | apply Has.there)) (fun h ho => mapO_know ho) fun hkw => ?_
  refine walk ?_
  refine ex_if rfl (fun hk => ?_) (fun hk => ?_)
  · have hk1 : k < l.length := by omega
    have hk2 : k < (l.map (·.Txn.k)).length := by simpa using hk1
    have ht := List.take_succ_eq_append_getElem hk2
    have hgk : (l.map (·.Txn.k))[k] = l[k].Txn.k := by simp
    have hC2 := hC.snoc hkw.2 l[k].Txn.k
    rw [hgk] at ht
    rw [← ht] at hC2
    have hval : 0 ≤ (mget l[k].Txn.k m).getD 0 ∧ (mget l[k].Txn.k m).getD 0 ≤ 1000000 := by
      cases hg : mget l[k].Txn.k m with
      | none => simp
      | some v =>
        have := hC.val _ _ hg
        rw [List.length_take] at this
        simp only [Option.getD_some]
        omega
    refine walk ?_
    refine ops_ixp rfl rfl h0 hk1 fun b o c hr hc => ?_
    obtain ⟨s1, s2, s3, rfl, g1, g2, g3, g4, g5, g6, g7, g8⟩ := hc
    generalize l[k] = q at hr g1 g2 g3 g4 g5 g6 g7 g8 hval hC2
    obtain ⟨qk, ⟨xa, xb, xc⟩, ⟨wr, wt, wd⟩, qy, qp⟩ := q
    dsimp only at hr g1 g2 g3 g4 g5 g6 g7 g8 hval hC2
    obtain ⟨sb1, sc1, rfl, _, _⟩ := g6.1.shape
    obtain ⟨sb2, sc2, rfl, _, _⟩ := g7.1.shape
    obtain ⟨sb3, sc3, rfl, _, _⟩ := g8.1.shape
    change HRow H b o [I qk, I xa, I xb, I xc, I wr, .slice sb1 wt.length sc1, .slice sb2 wd.length sc2, .bool qy, .slice sb3 qp.length sc3] at hr
    refine ops_ldNH rfl rfl hr rfl ?_
    refine ops_alloc rfl fun p5 _ => ?_
    refine walk ?_
    refine ex_any 3 [row p5 47 [I qk, I xa, I xb, I xc, I wr, .slice sb1 wt.length sc1, .slice sb2 wd.length sc2, .bool qy, .slice sb3 qp.length sc3]] ?_
    (first | refine gny_p 0 rfl rfl rfl ?_ | refine gny_ld 0 rfl rfl rfl rfl ?_ | refine gny_ldH 0 rfl rfl rfl ‹HRow _ _ 0 _› rfl ?_ | refine gny_T 0 rfl rfl rfl ?_ | refine gny_F 0 rfl rfl rfl ?_ | refine gny_B 0 rfl rfl rfl ?_ | refine gny_skip 0 rfl rfl ?_ | refine gny_sp 0 rfl rfl rfl ?_ | refine gny_sB 0 rfl rfl rfl ?_ | refine gny_sld 0 rfl rfl rfl rfl ?_ | refine gny_sldH 0 rfl rfl rfl ‹HRow _ _ 0 _› rfl ?_ | refine gny_ldN 0 rfl rfl rfl rfl ?_ | refine gny_bld 0 rfl rfl rfl ?_); (first | refine gny_p 1 rfl rfl rfl ?_ | refine gny_ld 1 rfl rfl rfl rfl ?_ | refine gny_ldH 1 rfl rfl rfl ‹HRow _ _ 0 _› rfl ?_ | refine gny_T 1 rfl rfl rfl ?_ | refine gny_F 1 rfl rfl rfl ?_ | refine gny_B 1 rfl rfl rfl ?_ | refine gny_skip 1 rfl rfl ?_ | refine gny_sp 1 rfl rfl rfl ?_ | refine gny_sB 1 rfl rfl rfl ?_ | refine gny_sld 1 rfl rfl rfl rfl ?_ | refine gny_sldH 1 rfl rfl rfl ‹HRow _ _ 0 _› rfl ?_ | refine gny_ldN 1 rfl rfl rfl rfl ?_ | refine gny_bld 1 rfl rfl rfl ?_); (first | refine gny_p 2 rfl rfl rfl ?_ | refine gny_ld 2 rfl rfl rfl rfl ?_ | refine gny_ldH 2 rfl rfl rfl ‹HRow _ _ 0 _› rfl ?_ | refine gny_T 2 rfl rfl rfl ?_ | refine gny_F 2 rfl rfl rfl ?_ | refine gny_B 2 rfl rfl rfl ?_ | refine gny_skip 2 rfl rfl ?_ | refine gny_sp 2 rfl rfl rfl ?_ | refine gny_sB 2 rfl rfl rfl ?_ | refine gny_sld 2 rfl rfl rfl rfl ?_ | refine gny_sldH 2 rfl rfl rfl ‹HRow _ _ 0 _› rfl ?_ | refine gny_ldN 2 rfl rfl rfl rfl ?_ | refine gny_bld 2 rfl rfl rfl ?_)
    refine any_stage 7 [] ?_
    change 0 ≤ (mget (xa, xb, xc) m).getD 0 ∧ (mget (xa, xb, xc) m).getD 0 ≤ 1000000 at hval
    change Cnt _ (mset (xa, xb, xc) ((mget (xa, xb, xc) m).getD 0 + 1) m) at hC2
    have hadd : fits ((mget (xa, xb, xc) m).getD 0 + 1) := by unfold fits; omega
    refine any_w2 3 5 rfl rfl ((op_lkO (k := (xa, xb, xc)) (ek := ek3) (d := (0 : Int)) (val := fun x => .int .i64 x) rfl rfl (by repeat (first | exact Has.here | apply Has.there))).toW ⟨.refl _, (by (repeat (first | exact Sub.refl _ | exact Sub.nil _ | (apply sub_pick; (repeat (first | exact Has.here | apply Has.there)); skip) | apply Sub.drop))), ?_⟩) (op_mapEntry (ky := (xa, xb, xc)) (z := I 0) rfl rfl (by repeat (first | exact Has.here | apply Has.there)) fun v st => ⟨.refl _, (by (repeat (first | exact Sub.refl _ | exact Sub.nil _ | (apply sub_pick; (repeat (first | exact Has.here | apply Has.there)); skip) | apply Sub.drop))), ?_⟩)
    · (first | refine gny_p 4 rfl rfl rfl ?_ | refine gny_ld 4 rfl rfl rfl rfl ?_ | refine gny_ldH 4 rfl rfl rfl ‹HRow _ _ 0 _› rfl ?_ | refine gny_T 4 rfl rfl rfl ?_ | refine gny_F 4 rfl rfl rfl ?_ | refine gny_B 4 rfl rfl rfl ?_ | refine gny_skip 4 rfl rfl ?_ | refine gny_sp 4 rfl rfl rfl ?_ | refine gny_sB 4 rfl rfl rfl ?_ | refine gny_sld 4 rfl rfl rfl rfl ?_ | refine gny_sldH 4 rfl rfl rfl ‹HRow _ _ 0 _› rfl ?_ | refine gny_ldN 4 rfl rfl rfl rfl ?_ | refine gny_bld 4 rfl rfl rfl ?_)
      refine any_w 5 rfl (op_mapEntry (ky := (xa, xb, xc)) (z := I 0) rfl rfl (by repeat (first | exact Has.here | apply Has.there)) fun v st => ⟨.refl _, (by (repeat (first | exact Sub.refl _ | exact Sub.nil _ | (apply sub_pick; (repeat (first | exact Has.here | apply Has.there)); skip) | apply Sub.drop))), ?_⟩)
      refine gny_ext 6 rfl rfl rfl rfl ?_
      refine any_rest rfl ?_
      refine ops_estore (RV := rInt) (u := (mget (xa, xb, xc) m).getD 0 + 1) (cs := [I ((mget (xa, xb, xc) m).getD 0 + 1)]) rfl rfl ⟨rfl, hadd⟩ (by repeat (first | exact Has.here | apply Has.there)) ?_
      refine walk ?_
      exact out_next hL (k + 1, _) ⟨by simp only; omega, hC2⟩
    · refine gny_ext 6 rfl rfl rfl rfl ?_
      refine any_w 3 rfl ((op_lkE (ky := (xa, xb, xc)) (ek := ek3) (d := (0 : Int)) (val := fun x => .int .i64 x) rfl rfl (by repeat (first | exact Has.here | apply Has.there))).toW ⟨.refl _, (by (repeat (first | exact Sub.refl _ | exact Sub.nil _ | (apply sub_pick; (repeat (first | exact Has.here | apply Has.there)); skip) | apply Sub.drop))), ?_⟩)
      (first | refine gny_p 4 rfl rfl rfl ?_ | refine gny_ld 4 rfl rfl rfl rfl ?_ | refine gny_ldH 4 rfl rfl rfl ‹HRow _ _ 0 _› rfl ?_ | refine gny_T 4 rfl rfl rfl ?_ | refine gny_F 4 rfl rfl rfl ?_ | refine gny_B 4 rfl rfl rfl ?_ | refine gny_skip 4 rfl rfl ?_ | refine gny_sp 4 rfl rfl rfl ?_ | refine gny_sB 4 rfl rfl rfl ?_ | refine gny_sld 4 rfl rfl rfl rfl ?_ | refine gny_sldH 4 rfl rfl rfl ‹HRow _ _ 0 _› rfl ?_ | refine gny_ldN 4 rfl rfl rfl rfl ?_ | refine gny_bld 4 rfl rfl rfl ?_)
      refine any_rest rfl ?_
      refine ops_estore (RV := rInt) (u := (mget (xa, xb, xc) m).getD 0 + 1) (cs := [I ((mget (xa, xb, xc) m).getD 0 + 1)]) rfl rfl ⟨rfl, hadd⟩ (by repeat (first | exact Has.here | apply Has.there)) ?_
      refine walk ?_
      exact out_next hL (k + 1, _) ⟨by simp only; omega, hC2⟩
  · clear hL
    obtain rfl : k = l.length := by omega
    rw [List.take_of_length_le (by simp)] at hC
    refine walk ?_
    refine ops_mlen rfl rfl (by repeat (first | exact Has.here | apply Has.there)) ?_
    refine walk ?_
    refine fin0 ?_
    refine ⟨bdec ?_, rfl⟩
    have h1 := hC.nd
    have h2 := hC.le
    rw [List.length_map] at h1 h2
    unfold dupX
    rw [← h1]
    omega
end Go.Proofs.YtkhbfjkioehgfaaGreatDoor
