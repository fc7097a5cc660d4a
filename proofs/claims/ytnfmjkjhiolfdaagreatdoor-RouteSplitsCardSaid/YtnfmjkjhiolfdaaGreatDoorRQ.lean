/- Keys dealt, as the document has it. -/
import Derived.Test.YtnfmjkjhiolfdaaGreatDoorRP
set_option linter.unusedVariables false
set_option linter.unusedSimpArgs false
namespace Go.Proofs.YtnfmjkjhiolfdaaGreatDoor
open Go Go.Sx Go.Proofs
set_option maxHeartbeats 8000000 in
theorem rSplit_spec {W0 : World} {H : Heap} {c : List Value} {v : Value} {m : Map} {keys : List ByteArray} (h0 : rMap H c m) (hg : goodM m) (hk : SlB rStr 1 16 H v keys) :
    Ct Tryz.prog 10 #[.agg c.toArray, v] W0 H [] (fun r H' B => SplitP H m keys (.bool true) (.bool false) r B ∧ H' = H) := by
  refine Ct.go (vs := [.agg c.toArray, v]) fun R => ?_
  have g0 := h0
  obtain ⟨s0, rfl, f1, f2, f3, h0⟩ := h0
  obtain ⟨bk, ck, rfl, _, _⟩ := hk.1.shape
  have hsh := hg.1
  simp only [headM, sidesM] at hsh
  obtain ⟨n, hn⟩ : ∃ n : Nat, m.Shards = n := ⟨m.Shards.toNat, by omega⟩
  have hnt : m.Shards.toNat = n := by omega
  have hkl := hk.2
  have hkr := hk.1
  refine walk ?_
  refine ops_box rfl rfl fun p2 _ => ?_
  refine walk ?_
  rw [hn]
  refine ops_mkT rVal nilS n rfl ⟨rfl, rfl⟩ (by simp only [cap47]; omega) (by simp only [cap47]; omega) fun bo => ?_
  generalize (some (⟨bo, 0, none⟩ : Addr)) = bo
  refine walk ?_
  refine ex_L (bigL_rep (A := dA H) (x := (nilS, [])) (fun L => ownS_nil) n _) ?_
  refine ex_loop (σ := Nat × List (Value × List ByteArray)) (fun s => (s.1 ≤ keys.length ∧ s.2.map Prod.snd = dealt m n (keys.take s.1)) ∧ homed m (keys.take s.1)) (fun s => [(1, .slice bk keys.length ck), (2, .pointer (some ⟨p2, 0, none⟩)), (6, .slice bo n n), (7, I s.1)]) (fun _ => H) (fun s => ownS rVal 1 24 27 H (.slice bo n n) (s.2.map Prod.fst) :: bigL (dA H) s.2 :: row p2 24 (m.cv s0) :: R) (fun s => keys.length - s.1) (0, List.replicate n (nilS, [])) ⟨⟨Nat.zero_le _, by simp [dealt_nil]⟩, by simp [homed]⟩ (hs0 := by dsimp only; rw [List.map_replicate]; simp only [Map.cv, hn]; (repeat (first | exact Sub.refl _ | exact Sub.nil _ | (apply sub_pick; (repeat (first | exact Has.here | apply Has.there)); skip) | apply Sub.drop))) fun ⟨k, zs⟩ ⟨⟨hk0, hz⟩, hh⟩ K hL => ?_
  simp only at hk0 hz hh
  dsimp only
  refine walk ?_
  refine ex_if rfl (fun hk1 => ?_) (fun hk1 => ?_)
  · have hk2 : k < keys.length := by omega
    obtain ⟨_, _, _, _, _, _, _, hsz⟩ := hk.1.get hk2
    have htk : keys.take (k + 1) = keys.take k ++ [keys[k]] := List.take_succ_eq_append_getElem hk2
    have hmem : keys[k] ∈ keys := List.getElem_mem hk2
    obtain ⟨s, hs⟩ : ∃ s, keys[k] = s := ⟨_, rfl⟩
    rw [hs] at htk hmem
    have hsz' : s.size ≤ cap47 := by rw [← hs]; exact hsz
    have hsl : s.data.toList.length ≤ cap47 := by rw [← Lib.size_eq]; exact hsz'
    refine walk ?_
    refine ex_any 7 [row p2 24 (m.cv s0)] ?_
    (first | refine gny_p 0 rfl rfl rfl ?_ | refine gny_ld 0 rfl rfl rfl rfl ?_ | refine gny_ldH 0 rfl rfl rfl ‹HRow _ _ 0 _› rfl ?_ | refine gny_T 0 rfl rfl rfl ?_ | refine gny_F 0 rfl rfl rfl ?_ | refine gny_B 0 rfl rfl rfl ?_ | refine gny_skip 0 rfl rfl ?_ | refine gny_sp 0 rfl rfl rfl ?_ | refine gny_sB 0 rfl rfl rfl ?_ | refine gny_sld 0 rfl rfl rfl rfl ?_ | refine gny_sldH 0 rfl rfl rfl ‹HRow _ _ 0 _› rfl ?_ | refine gny_ldN 0 rfl rfl rfl rfl ?_ | refine gny_bld 0 rfl rfl rfl ?_); (first | refine gny_p 1 rfl rfl rfl ?_ | refine gny_ld 1 rfl rfl rfl rfl ?_ | refine gny_ldH 1 rfl rfl rfl ‹HRow _ _ 0 _› rfl ?_ | refine gny_T 1 rfl rfl rfl ?_ | refine gny_F 1 rfl rfl rfl ?_ | refine gny_B 1 rfl rfl rfl ?_ | refine gny_skip 1 rfl rfl ?_ | refine gny_sp 1 rfl rfl rfl ?_ | refine gny_sB 1 rfl rfl rfl ?_ | refine gny_sld 1 rfl rfl rfl rfl ?_ | refine gny_sldH 1 rfl rfl rfl ‹HRow _ _ 0 _› rfl ?_ | refine gny_ldN 1 rfl rfl rfl rfl ?_ | refine gny_bld 1 rfl rfl rfl ?_); (first | refine gny_p 2 rfl rfl rfl ?_ | refine gny_ld 2 rfl rfl rfl rfl ?_ | refine gny_ldH 2 rfl rfl rfl ‹HRow _ _ 0 _› rfl ?_ | refine gny_T 2 rfl rfl rfl ?_ | refine gny_F 2 rfl rfl rfl ?_ | refine gny_B 2 rfl rfl rfl ?_ | refine gny_skip 2 rfl rfl ?_ | refine gny_sp 2 rfl rfl rfl ?_ | refine gny_sB 2 rfl rfl rfl ?_ | refine gny_sld 2 rfl rfl rfl rfl ?_ | refine gny_sldH 2 rfl rfl rfl ‹HRow _ _ 0 _› rfl ?_ | refine gny_ldN 2 rfl rfl rfl rfl ?_ | refine gny_bld 2 rfl rfl rfl ?_)
    refine gny_el 3 4 (jj := k) rfl rfl rfl rfl rfl hkr hk2 ?_
    rw [hs, sb_of s]
    refine gny_call (vs := [.agg (m.cv s0).toArray, .string (sb s.data.toList)]) 5 rfl rfl rfl (rHome_spec g0 hg.1 hsl) fun r H' B hl ⟨hr, eB, eH⟩ => ?_
    subst eB eH
    refine ⟨(by (repeat (first | exact Sub.refl _ | exact Sub.nil _ | (apply sub_pick; (repeat (first | exact Has.here | apply Has.there)); skip) | apply Sub.drop))), ?_⟩
    have hv := hr.val
    cases hm : homeV m s with
    | none =>
      rw [hm] at hv
      simp only at hv
      subst hv
      (first | refine gny_p 6 rfl rfl rfl ?_ | refine gny_ld 6 rfl rfl rfl rfl ?_ | refine gny_ldH 6 rfl rfl rfl ‹HRow _ _ 0 _› rfl ?_ | refine gny_T 6 rfl rfl rfl ?_ | refine gny_F 6 rfl rfl rfl ?_ | refine gny_B 6 rfl rfl rfl ?_ | refine gny_skip 6 rfl rfl ?_ | refine gny_sp 6 rfl rfl rfl ?_ | refine gny_sB 6 rfl rfl rfl ?_ | refine gny_sld 6 rfl rfl rfl rfl ?_ | refine gny_sldH 6 rfl rfl rfl ‹HRow _ _ 0 _› rfl ?_ | refine gny_ldN 6 rfl rfl rfl rfl ?_ | refine gny_bld 6 rfl rfl rfl ?_)
      refine any_rest rfl ?_
      refine walk ?_
      refine fin0 ?_
      exact ⟨.inr ⟨fun e => e s hmem hm, rfl, rfl⟩, rfl⟩
    | some q =>
      obtain ⟨q0, q1⟩ := homeV_lt hg.1 hm
      obtain ⟨j, rfl⟩ : ∃ j : Nat, q = j := ⟨q.toNat, by omega⟩
      rw [hm] at hv
      simp only at hv
      subst hv
      have hzl : zs.length = n := by have := congrArg List.length hz; rw [dealt_len] at this; simpa using this
      have hjn : j < n := by omega
      have hzj := dealt_get (m := m) (keys := keys.take k) hjn
      have hsn := dealt_snoc (keys := keys.take k) hm hjn
      rw [hzj] at hsn
      obtain ⟨l1, ⟨vv, xs⟩, l2, rfl, hl1⟩ := at_split (l := zs) (k := j) (by omega)
      have hxs : xs = (keys.take k).filter fun s => decide (homeV m s = some (j : Int)) := by
        rw [← hzj]
        simp only [← hz]
        simp [hl1]
      have hxl : xs.length ≤ k := by
        rw [hxs]
        exact Nat.le_trans (List.length_filter_le _ _) (by simp; omega)
      have hz2 : (l1 ++ (Value.slice none 0 0, xs ++ [s]) :: l2).map Prod.snd = dealt m n (keys.take (k + 1)) := by
        rw [htk, hsn, ← hz, ← hxs]
        simp [hl1, List.set_append]
      simp only [List.map_append, List.map_cons] at hz2 ⊢
      (first | refine gny_p 6 rfl rfl rfl ?_ | refine gny_ld 6 rfl rfl rfl rfl ?_ | refine gny_ldH 6 rfl rfl rfl ‹HRow _ _ 0 _› rfl ?_ | refine gny_T 6 rfl rfl rfl ?_ | refine gny_F 6 rfl rfl rfl ?_ | refine gny_B 6 rfl rfl rfl ?_ | refine gny_skip 6 rfl rfl ?_ | refine gny_sp 6 rfl rfl rfl ?_ | refine gny_sB 6 rfl rfl rfl ?_ | refine gny_sld 6 rfl rfl rfl rfl ?_ | refine gny_sldH 6 rfl rfl rfl ‹HRow _ _ 0 _› rfl ?_ | refine gny_ldN 6 rfl rfl rfl rfl ?_ | refine gny_bld 6 rfl rfl rfl ?_)
      refine any_rest rfl ?_
      refine walk ?_
      refine ex_L (L' := ownS rVal 1 24 27 H' (.slice bo n n) (l1.map Prod.fst ++ vv :: l2.map Prod.fst) :: ownS rStr 1 16 9 H' vv xs :: bigL (dA H') (l1 ++ l2) :: row p2 24 (m.cv s0) :: R) (Sub.cons bigL_out) ?_
      have hget : (l1.map Prod.fst ++ vv :: l2.map Prod.fst)[j]'(by simp [hl1]) = vv := by simp [List.getElem_append_right, hl1]
      refine ex_lendS (.slice bo n n) fun D hD hdj hle hsD => ?_
      refine ex_any 12 [] ?_
      (first | refine gny_p 0 rfl rfl rfl ?_ | refine gny_ld 0 rfl rfl rfl rfl ?_ | refine gny_ldH 0 rfl rfl rfl ‹HRow _ _ 0 _› rfl ?_ | refine gny_T 0 rfl rfl rfl ?_ | refine gny_F 0 rfl rfl rfl ?_ | refine gny_B 0 rfl rfl rfl ?_ | refine gny_skip 0 rfl rfl ?_ | refine gny_sp 0 rfl rfl rfl ?_ | refine gny_sB 0 rfl rfl rfl ?_ | refine gny_sld 0 rfl rfl rfl rfl ?_ | refine gny_sldH 0 rfl rfl rfl ‹HRow _ _ 0 _› rfl ?_ | refine gny_ldN 0 rfl rfl rfl rfl ?_ | refine gny_bld 0 rfl rfl rfl ?_); (first | refine gny_p 1 rfl rfl rfl ?_ | refine gny_ld 1 rfl rfl rfl rfl ?_ | refine gny_ldH 1 rfl rfl rfl ‹HRow _ _ 0 _› rfl ?_ | refine gny_T 1 rfl rfl rfl ?_ | refine gny_F 1 rfl rfl rfl ?_ | refine gny_B 1 rfl rfl rfl ?_ | refine gny_skip 1 rfl rfl ?_ | refine gny_sp 1 rfl rfl rfl ?_ | refine gny_sB 1 rfl rfl rfl ?_ | refine gny_sld 1 rfl rfl rfl rfl ?_ | refine gny_sldH 1 rfl rfl rfl ‹HRow _ _ 0 _› rfl ?_ | refine gny_ldN 1 rfl rfl rfl rfl ?_ | refine gny_bld 1 rfl rfl rfl ?_); (first | refine gny_p 2 rfl rfl rfl ?_ | refine gny_ld 2 rfl rfl rfl rfl ?_ | refine gny_ldH 2 rfl rfl rfl ‹HRow _ _ 0 _› rfl ?_ | refine gny_T 2 rfl rfl rfl ?_ | refine gny_F 2 rfl rfl rfl ?_ | refine gny_B 2 rfl rfl rfl ?_ | refine gny_skip 2 rfl rfl ?_ | refine gny_sp 2 rfl rfl rfl ?_ | refine gny_sB 2 rfl rfl rfl ?_ | refine gny_sld 2 rfl rfl rfl rfl ?_ | refine gny_sldH 2 rfl rfl rfl ‹HRow _ _ 0 _› rfl ?_ | refine gny_ldN 2 rfl rfl rfl rfl ?_ | refine gny_bld 2 rfl rfl rfl ?_); (first | refine gny_p 3 rfl rfl rfl ?_ | refine gny_ld 3 rfl rfl rfl rfl ?_ | refine gny_ldH 3 rfl rfl rfl ‹HRow _ _ 0 _› rfl ?_ | refine gny_T 3 rfl rfl rfl ?_ | refine gny_F 3 rfl rfl rfl ?_ | refine gny_B 3 rfl rfl rfl ?_ | refine gny_skip 3 rfl rfl ?_ | refine gny_sp 3 rfl rfl rfl ?_ | refine gny_sB 3 rfl rfl rfl ?_ | refine gny_sld 3 rfl rfl rfl rfl ?_ | refine gny_sldH 3 rfl rfl rfl ‹HRow _ _ 0 _› rfl ?_ | refine gny_ldN 3 rfl rfl rfl rfl ?_ | refine gny_bld 3 rfl rfl rfl ?_); (first | refine gny_p 6 rfl rfl rfl ?_ | refine gny_ld 6 rfl rfl rfl rfl ?_ | refine gny_ldH 6 rfl rfl rfl ‹HRow _ _ 0 _› rfl ?_ | refine gny_T 6 rfl rfl rfl ?_ | refine gny_F 6 rfl rfl rfl ?_ | refine gny_B 6 rfl rfl rfl ?_ | refine gny_skip 6 rfl rfl ?_ | refine gny_sp 6 rfl rfl rfl ?_ | refine gny_sB 6 rfl rfl rfl ?_ | refine gny_sld 6 rfl rfl rfl rfl ?_ | refine gny_sldH 6 rfl rfl rfl ‹HRow _ _ 0 _› rfl ?_ | refine gny_ldN 6 rfl rfl rfl rfl ?_ | refine gny_bld 6 rfl rfl rfl ?_); (first | refine gny_p 7 rfl rfl rfl ?_ | refine gny_ld 7 rfl rfl rfl rfl ?_ | refine gny_ldH 7 rfl rfl rfl ‹HRow _ _ 0 _› rfl ?_ | refine gny_T 7 rfl rfl rfl ?_ | refine gny_F 7 rfl rfl rfl ?_ | refine gny_B 7 rfl rfl rfl ?_ | refine gny_skip 7 rfl rfl ?_ | refine gny_sp 7 rfl rfl rfl ?_ | refine gny_sB 7 rfl rfl rfl ?_ | refine gny_sld 7 rfl rfl rfl rfl ?_ | refine gny_sldH 7 rfl rfl rfl ‹HRow _ _ 0 _› rfl ?_ | refine gny_ldN 7 rfl rfl rfl rfl ?_ | refine gny_bld 7 rfl rfl rfl ?_)
      refine gny_el 4 5 (jj := j) rfl rfl rfl rfl rfl hsD.1 (by simp [hl1]) ?_
      rw [hget]
      refine gny_el 8 9 (jj := k) rfl rfl rfl rfl rfl (hkr.mono hle) hk2 ?_
      rw [hs]
      refine any_app1 10 11 (y := s) rfl rfl rfl ⟨rfl, hsz'⟩ (by simp only [cap47] at hkl ⊢; omega) fun d1 e1 => ⟨(by (repeat (first | exact Sub.refl _ | exact Sub.nil _ | (apply sub_pick; (repeat (first | exact Has.here | apply Has.there)); skip) | apply Sub.drop))), ?_⟩
      refine any_rest rfl ?_
      refine ops_back hD hdj (.refl _) ?_
      refine ops_L (Sub.cons (sub_flat (union H' D) H')) ?_
      refine ops_stS (y' := Value.slice d1 (xs.length + 1) e1) rfl rfl rfl ⟨rfl, rfl⟩ (by simp [hl1]) ?_
      have hset : (l1.map Prod.fst ++ vv :: l2.map Prod.fst).set j (Value.slice d1 (xs.length + 1) e1) = (l1 ++ (Value.slice d1 (xs.length + 1) e1, xs ++ [s]) :: l2).map Prod.fst := by simp [List.set_append, hl1]
      rw [hset]
      refine walk ?_
      refine out_next hL (k + 1, l1 ++ (.slice d1 (xs.length + 1) e1, xs ++ [s]) :: l2) ⟨⟨by simp only; omega, by simpa using hz2⟩, fun t ht => ?_⟩ (hs := ?_)
      · rw [htk] at ht
        rcases List.mem_append.1 ht with ht | ht
        · exact hh t ht
        · rw [List.mem_singleton.1 ht, hm]; exact fun e => by cases e
      · dsimp only
        refine Sub.trans ?_ (Sub.cons (bigL_in (A := dA H') (l1 := l1) (x := (.slice d1 (xs.length + 1) e1, xs ++ [s])) (l2 := l2)))
        (repeat (first | exact Sub.refl _ | exact Sub.nil _ | (apply sub_pick; (repeat (first | exact Has.here | apply Has.there)); skip) | apply Sub.drop))
  · clear hL
    obtain rfl : k = keys.length := by omega
    rw [List.take_length] at hz hh
    refine walk ?_
    refine finB [ownS rVal 1 24 27 H (.slice bo n n) (zs.map Prod.fst), bigL (dA H) zs] ?_
    exact ⟨.inl ⟨hh, _, zs, rfl, rfl, by rw [hnt]; exact hz⟩, rfl⟩
end Go.Proofs.YtnfmjkjhiolfdaaGreatDoor
