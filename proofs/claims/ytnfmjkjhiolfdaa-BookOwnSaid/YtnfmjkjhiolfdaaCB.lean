/- The book: a call applied, and what it keeps of it. -/
import Derived.Test.YtnfmjkjhiolfdaaCA
set_option linter.unusedVariables false
set_option linter.unusedSimpArgs false
namespace Go.Proofs.Ytnfmjkjhiolfdaa
open Go Go.Sx Go.Proofs
set_option maxHeartbeats 8000000 in
theorem reserveO_spec {W0 : World} {H H0 : Heap} {p : Value} {c d : List Value} {m : Map} {es : List Int} {rs : List Route} {j : Nat} {x now : Route} {t : Int} (hl : H0.le H) (h0 : rRoute H c x) (h1 : rRoute H d now) (hj : j < 16) (ht : fits t) :
    Ct Try.prog 28 #[p, I j, .agg c.toArray, .agg d.toArray, I t] W0 H [bookO H0 p m es rs] (RepO H H0 (resC confM m es rs j x now t).2 p m es (resC confM m es rs j x now t).1) := by
  refine Ct.go (vs := [p, I j, .agg c.toArray, .agg d.toArray, I t]) fun R => ?_
  refine ex_open .here (fun h => bookO_open (.refl H0)) fun ⟨b, g, cs⟩ ⟨hp, hbG⟩ => ?_
  simp only at hp hbG
  subst hp
  have hb := hbG.mono hl
  have hbE := hbG.mono (le_union_left H0 Heap.empty)
  dsimp only
  have g0 := h0
  obtain ⟨s0, rfl, f0, h0⟩ := h0
  obtain ⟨s1, rfl, f1, h1⟩ := h1
  obtain ⟨b0, c0, rfl, hc0, hd0⟩ := h0.1.shape
  obtain ⟨b1, c1, rfl, hc1, hd1⟩ := h1.1.shape
  refine walk ?_
  refine ops_box rfl rfl fun p7 _ => ?_
  refine ops_box rfl rfl fun p8 _ => ?_
  refine ops_alloc rfl fun p10 _ => ?_
  refine walk ?_
  refine ex_any 7 [row b 68 (g :: (es.map I ++ cs)), row p7 28 (x.cv (.slice b0 x.Cells.length c0))] ?_
  (first | refine gny_p 0 rfl rfl rfl ?_ | refine gny_ld 0 rfl rfl rfl rfl ?_ | refine gny_ldH 0 rfl rfl rfl ‹HRow _ _ 0 _› rfl ?_ | refine gny_T 0 rfl rfl rfl ?_ | refine gny_F 0 rfl rfl rfl ?_ | refine gny_B 0 rfl rfl rfl ?_ | refine gny_skip 0 rfl rfl ?_ | refine gny_sp 0 rfl rfl rfl ?_ | refine gny_sB 0 rfl rfl rfl ?_ | refine gny_sld 0 rfl rfl rfl rfl ?_ | refine gny_sldH 0 rfl rfl rfl ‹HRow _ _ 0 _› rfl ?_ | refine gny_ldN 0 rfl rfl rfl rfl ?_ | refine gny_bld 0 rfl rfl rfl ?_); (first | refine gny_p 1 rfl rfl rfl ?_ | refine gny_ld 1 rfl rfl rfl rfl ?_ | refine gny_ldH 1 rfl rfl rfl ‹HRow _ _ 0 _› rfl ?_ | refine gny_T 1 rfl rfl rfl ?_ | refine gny_F 1 rfl rfl rfl ?_ | refine gny_B 1 rfl rfl rfl ?_ | refine gny_skip 1 rfl rfl ?_ | refine gny_sp 1 rfl rfl rfl ?_ | refine gny_sB 1 rfl rfl rfl ?_ | refine gny_sld 1 rfl rfl rfl rfl ?_ | refine gny_sldH 1 rfl rfl rfl ‹HRow _ _ 0 _› rfl ?_ | refine gny_ldN 1 rfl rfl rfl rfl ?_ | refine gny_bld 1 rfl rfl rfl ?_); (first | refine gny_p 2 rfl rfl rfl ?_ | refine gny_ld 2 rfl rfl rfl rfl ?_ | refine gny_ldH 2 rfl rfl rfl ‹HRow _ _ 0 _› rfl ?_ | refine gny_T 2 rfl rfl rfl ?_ | refine gny_F 2 rfl rfl rfl ?_ | refine gny_B 2 rfl rfl rfl ?_ | refine gny_skip 2 rfl rfl ?_ | refine gny_sp 2 rfl rfl rfl ?_ | refine gny_sB 2 rfl rfl rfl ?_ | refine gny_sld 2 rfl rfl rfl rfl ?_ | refine gny_sldH 2 rfl rfl rfl ‹HRow _ _ 0 _› rfl ?_ | refine gny_ldN 2 rfl rfl rfl rfl ?_ | refine gny_bld 2 rfl rfl rfl ?_); (first | refine gny_p 3 rfl rfl rfl ?_ | refine gny_ld 3 rfl rfl rfl rfl ?_ | refine gny_ldH 3 rfl rfl rfl ‹HRow _ _ 0 _› rfl ?_ | refine gny_T 3 rfl rfl rfl ?_ | refine gny_F 3 rfl rfl rfl ?_ | refine gny_B 3 rfl rfl rfl ?_ | refine gny_skip 3 rfl rfl ?_ | refine gny_sp 3 rfl rfl rfl ?_ | refine gny_sB 3 rfl rfl rfl ?_ | refine gny_sld 3 rfl rfl rfl rfl ?_ | refine gny_sldH 3 rfl rfl rfl ‹HRow _ _ 0 _› rfl ?_ | refine gny_ldN 3 rfl rfl rfl rfl ?_ | refine gny_bld 3 rfl rfl rfl ?_); (first | refine gny_p 4 rfl rfl rfl ?_ | refine gny_ld 4 rfl rfl rfl rfl ?_ | refine gny_ldH 4 rfl rfl rfl ‹HRow _ _ 0 _› rfl ?_ | refine gny_T 4 rfl rfl rfl ?_ | refine gny_F 4 rfl rfl rfl ?_ | refine gny_B 4 rfl rfl rfl ?_ | refine gny_skip 4 rfl rfl ?_ | refine gny_sp 4 rfl rfl rfl ?_ | refine gny_sB 4 rfl rfl rfl ?_ | refine gny_sld 4 rfl rfl rfl rfl ?_ | refine gny_sldH 4 rfl rfl rfl ‹HRow _ _ 0 _› rfl ?_ | refine gny_ldN 4 rfl rfl rfl rfl ?_ | refine gny_bld 4 rfl rfl rfl ?_)
  refine gny_call 5 rfl rfl rfl (check_spec hb.g g0) fun r1 H1 B hl1 ⟨er, eB⟩ => ?_
  subst er eB
  refine ⟨(by (repeat (first | exact Sub.refl _ | exact Sub.nil _ | (apply sub_pick; (repeat (first | exact Has.here | apply Has.there)); skip) | apply Sub.drop))), ?_⟩
  (first | refine gny_p 6 rfl rfl rfl ?_ | refine gny_ld 6 rfl rfl rfl rfl ?_ | refine gny_ldH 6 rfl rfl rfl ‹HRow _ _ 0 _› rfl ?_ | refine gny_T 6 rfl rfl rfl ?_ | refine gny_F 6 rfl rfl rfl ?_ | refine gny_B 6 rfl rfl rfl ?_ | refine gny_skip 6 rfl rfl ?_ | refine gny_sp 6 rfl rfl rfl ?_ | refine gny_sB 6 rfl rfl rfl ?_ | refine gny_sld 6 rfl rfl rfl rfl ?_ | refine gny_sldH 6 rfl rfl rfl ‹HRow _ _ 0 _› rfl ?_ | refine gny_ldN 6 rfl rfl rfl rfl ?_ | refine gny_bld 6 rfl rfl rfl ?_)
  refine any_rest rfl ?_
  refine walk ?_
  have hbk := hb.mono hl1
  refine ex_if rfl (fun hq => ?_) (fun hq => ?_)
  · refine walk ?_
    refine ops_pcall rfl rfl refused_spec ?_
    refine walk ?_
    have e : resC confM m es rs j x now t = (rs, ⟨checkR m x, 0, zRoute⟩) := by unfold resC; rw [if_pos hq]
    rw [e]
    refine finB [ownS rInt 1 8 3 H1 nilS [], bookO (union H0 Heap.empty) (.pointer (some ⟨b, 0, none⟩)) m es rs] ?_ (hs := Sub.trans (B := row b 68 (g :: (es.map I ++ cs)) :: R) (by (repeat (first | exact Sub.refl _ | exact Sub.nil _ | (apply sub_pick; (repeat (first | exact Has.here | apply Has.there)); skip) | apply Sub.drop))) ((bookO_shut hbE).trans ownS_nil))
    exact ⟨_, Heap.empty, rfl, rfl, disj_empty, ue_le (by (repeat (first | exact Go.Sx.Heap.le.refl _ | assumption | refine Go.Sx.Heap.le.trans ?_ ‹Go.Sx.Heap.le _ _›)))⟩
  have hq0 : ¬ checkR m x ≠ 0 := hq
  refine walk ?_
  refine ex_if rfl (fun hs => ?_) (fun hs => ?_)
  · refine walk ?_
    refine ops_pcall rfl rfl refused_spec ?_
    refine walk ?_
    have e : resC confM m es rs j x now t = (rs, ⟨7, 0, zRoute⟩) := by unfold resC; rw [if_neg hq0, if_pos hs]
    rw [e]
    refine finB [ownS rInt 1 8 3 H1 nilS [], bookO (union H0 Heap.empty) (.pointer (some ⟨b, 0, none⟩)) m es rs] ?_ (hs := Sub.trans (B := row b 68 (g :: (es.map I ++ cs)) :: R) (by (repeat (first | exact Sub.refl _ | exact Sub.nil _ | (apply sub_pick; (repeat (first | exact Has.here | apply Has.there)); skip) | apply Sub.drop))) ((bookO_shut hbE).trans ownS_nil))
    exact ⟨_, Heap.empty, rfl, rfl, disj_empty, ue_le (by (repeat (first | exact Go.Sx.Heap.le.refl _ | assumption | refine Go.Sx.Heap.le.trans ?_ ‹Go.Sx.Heap.le _ _›)))⟩
  refine walk ?_
  refine ex_if rfl (fun hn => ?_) (fun hn => ?_)
  · refine walk ?_
    refine ops_pcall rfl rfl refused_spec ?_
    refine walk ?_
    have e : resC confM m es rs j x now t = (rs, ⟨2, 0, zRoute⟩) := by unfold resC; rw [if_neg hq0, if_neg hs, if_pos (by intro e; rw [e] at hn; simp at hn)]
    rw [e]
    refine finB [ownS rInt 1 8 3 H1 nilS [], bookO (union H0 Heap.empty) (.pointer (some ⟨b, 0, none⟩)) m es rs] ?_ (hs := Sub.trans (B := row b 68 (g :: (es.map I ++ cs)) :: R) (by (repeat (first | exact Sub.refl _ | exact Sub.nil _ | (apply sub_pick; (repeat (first | exact Has.here | apply Has.there)); skip) | apply Sub.drop))) ((bookO_shut hbE).trans ownS_nil))
    exact ⟨_, Heap.empty, rfl, rfl, disj_empty, ue_le (by (repeat (first | exact Go.Sx.Heap.le.refl _ | assumption | refine Go.Sx.Heap.le.trans ?_ ‹Go.Sx.Heap.le _ _›)))⟩
  have e : resC confM m es rs j x now t = takeM m es rs j x t := by
    unfold resC; rw [if_neg hq0, if_neg hs, if_neg (fun e => e (List.eq_nil_of_length_eq_zero (by omega))), takeM_eq]
  rw [e]
  refine walk ?_
  refine ops_L (L' := bookO H0 (.pointer (some ⟨b, 0, none⟩)) m es rs :: row p10 47 [I 0, I 0, I 0, nilS] :: R) (Sub.trans (B := row b 68 (g :: (es.map I ++ cs)) :: row p10 47 [I 0, I 0, I 0, nilS] :: R) (by (repeat (first | exact Sub.refl _ | exact Sub.nil _ | (apply sub_pick; (repeat (first | exact Has.here | apply Has.there)); skip) | apply Sub.drop))) (bookO_shut hbG)) ?_
  refine ops_call rfl rfl (takeO_spec (H0 := H0) (m := m) (es := es) (rs := rs) (hl.trans hl1) (rRoute_up g0 hl1) hj ht) fun r5 H5 B hl5 ⟨v, D, er, eB, hdj, hul⟩ => ?_
  subst er eB
  have hleF := hl1.trans hl5
  refine ops_shape v fun d1 e1 e _ _ _ => ?_
  subst e
  refine walk ?_
  refine finB [ownS rInt 1 8 3 H5 (.slice d1 (takeM m es rs j x t).2.Route.Cells.length e1) (takeM m es rs j x t).2.Route.Cells, bookO (union H0 D) (.pointer (some ⟨b, 0, none⟩)) m es (takeM m es rs j x t).1] ?_
  exact ⟨_, D, rfl, rfl, rep_up hdj hul hl1⟩
set_option maxHeartbeats 16000000 in
theorem applyO_spec {W0 : World} {H H0 : Heap} {p : Value} {cc : List Value} {m : Map} {es : List Int} {rs : List Route} {r : Int} {c : Call} {t : Int} (hl : H0.le H) (h0 : rCall H cc c) (ht : fits t)
    (hE : ∀ e ∈ es, 0 ≤ e ∧ e ≤ 1000000) (hRl : ∀ x ∈ rs, x.Cells.length ≤ 24) (hC : c.Route.Cells.length ≤ 40) :
    Ct Try.prog 13 #[p, I r, .agg cc.toArray, I t] W0 H [bookO H0 p m es rs] (RepO H H0 (applyC confM m es rs r c t).2.2 p m (applyC confM m es rs r c t).1 (applyC confM m es rs r c t).2.1) := by
  refine Ct.go (vs := [p, I r, .agg cc.toArray, I t]) fun R => ?_
  refine ex_open .here (fun h => bookO_open (.refl H0)) fun ⟨b, g, cs⟩ ⟨hp, hbG⟩ => ?_
  simp only at hp hbG
  subst hp
  have hb := hbG.mono hl
  have hbE := hbG.mono (le_union_left H0 Heap.empty)
  dsimp only
  obtain ⟨s0, rfl, f1, f2, f3, h0⟩ := h0
  obtain ⟨b0, c0, rfl, hc0, hd0⟩ := h0.1.shape
  refine walk ?_
  refine ops_box rfl rfl fun p6 _ => ?_
  refine ops_alloc rfl fun p8 _ => ?_
  refine walkG ?_
  refine ops_pcall rfl rfl is_spec ?_
  refine walkG ?_
  refine ex_if rfl (fun h => ?_) (fun h => ?_)
  · have e : applyC confM m es rs r c t = (es, rs, ⟨1, 0, zRoute⟩) := by unfold applyC; rw [if_pos (by rcases h with (h | h) | h; exact .inl h; exact .inr (.inl h); exact .inr (.inr h))]
    refine walk ?_
    refine ops_pcall rfl rfl refused_spec ?_
    refine walk ?_
    rw [e]
    refine finB [ownS rInt 1 8 3 H nilS [], bookO (union H0 Heap.empty) (.pointer (some ⟨b, 0, none⟩)) m es rs] ?_ (hs := Sub.trans (B := row b 68 (g :: (es.map I ++ cs)) :: R) (by (repeat (first | exact Sub.refl _ | exact Sub.nil _ | (apply sub_pick; (repeat (first | exact Has.here | apply Has.there)); skip) | apply Sub.drop))) ((bookO_shut hbE).trans ownS_nil))
    exact ⟨_, Heap.empty, rfl, rfl, disj_empty, ue_le (by (repeat (first | exact Go.Sx.Heap.le.refl _ | assumption | refine Go.Sx.Heap.le.trans ?_ ‹Go.Sx.Heap.le _ _›)))⟩
  have hn1 : ¬ (¬ robI r ∨ c.Verb < 1 ∨ 6 < c.Verb) := fun e => h (by rcases e with e | e | e; exact .inl (.inl e); exact .inl (.inr e); exact .inr e)
  have hr : robI r := Classical.not_not.1 fun e => hn1 (.inl e)
  obtain ⟨j, rfl⟩ : ∃ j : Nat, r = j := ⟨r.toNat, by simp only [robI] at hr; omega⟩
  have hj : j < 16 := by simp only [robI] at hr; omega
  have hje : j < es.length := by rw [hb.el]; exact hj
  have hjr : j < rs.length := by rw [hb.rl]; exact hj
  have hv : 1 ≤ c.Verb ∧ c.Verb ≤ 6 := by omega
  have hge : es.getD j 0 = es[j] := by simp [List.getD, hje]
  have hgr : rs.getD j zRoute = rs[j] := by simp [List.getD, hjr]
  have hap : applyC confM m es rs (j : Int) c t = applyIn confM m es rs j es[j] (cutR rs[j] t) c t := by unfold applyC; rw [if_neg hn1]; simp only [Int.toNat_natCast, hge, hgr]
  rw [hap]
  obtain ⟨ck, hat, hck⟩ := bk_r (g := g) hb.el hb.rr hjr
  have hlc := RdOk.len (R := rRoute) hck
  have hee := hE _ (List.getElem_mem hje)
  refine walk ?_
  refine ops_ldat rfl rfl hat hlc ?_
  refine walk ?_
  refine ops_call (vs := [.agg ck.toArray, I t]) rfl rfl (cut_spec hck ht) fun r3 H3 B hl3 ⟨v, er, eB⟩ => ?_
  subst er eB
  refine ops_shape v fun d3 e3 e _ _ _ => ?_
  subst e
  have hb3 := hb.mono hl3
  refine ops_alloc rfl fun p9 _ => ?_
  refine walk ?_
  refine ops_ldc rfl rfl (bk_e hje) ?_
  refine walk ?_
  refine ex_if rfl (fun v1 => ?_) (fun v1 => ?_)
  · have hset : (g :: (es.map I ++ cs)).take (1 + j * 1) ++ [I (es[j] + 1)] ++ (g :: (es.map I ++ cs)).drop (1 + j * 1 + 1) = g :: ((es.set j (es[j] + 1)).map I ++ cs) := by
      rw [Nat.mul_one, show 1 + j + 1 = (j + 1) + 1 by omega, Nat.add_comm 1 j, List.take_succ_cons, List.drop_succ_cons, List.take_append_of_le_length (by simp; omega), List.drop_append_of_le_length (by simp; omega), List.map_set, List.set_eq_take_append_cons_drop]
      simp [hje, ← List.map_take, ← List.map_drop]
    have hb4 : BkOk (union H0 Heap.empty) g cs m (es.set j (es[j] + 1)) rs := ⟨hbE.g, by simp [hb.el], hb.rl, hbE.rr, fun x hx => by
      rcases List.mem_or_eq_of_mem_set hx with hx | hx
      · exact hb.ef x hx
      · rw [hx]; unfold fits; omega⟩
    have e : applyIn confM m es rs j es[j] (cutR rs[j] t) c t = (es.set j (es[j] + 1), rs, ⟨0, es[j] + 1, cutR rs[j] t⟩) := by unfold applyIn; rw [if_pos v1]
    have hje' : j < (es.set j (es[j] + 1)).length := by simpa using hje
    rw [e]
    refine walk ?_
    refine ex_any 10 [row b 68 (g :: (es.map I ++ cs))] ?_
    (first | refine gny_p 0 rfl rfl rfl ?_ | refine gny_ld 0 rfl rfl rfl rfl ?_ | refine gny_ldH 0 rfl rfl rfl ‹HRow _ _ 0 _› rfl ?_ | refine gny_T 0 rfl rfl rfl ?_ | refine gny_F 0 rfl rfl rfl ?_ | refine gny_B 0 rfl rfl rfl ?_ | refine gny_skip 0 rfl rfl ?_ | refine gny_sp 0 rfl rfl rfl ?_ | refine gny_sB 0 rfl rfl rfl ?_ | refine gny_sld 0 rfl rfl rfl rfl ?_ | refine gny_sldH 0 rfl rfl rfl ‹HRow _ _ 0 _› rfl ?_ | refine gny_ldN 0 rfl rfl rfl rfl ?_ | refine gny_bld 0 rfl rfl rfl ?_); (first | refine gny_p 1 rfl rfl rfl ?_ | refine gny_ld 1 rfl rfl rfl rfl ?_ | refine gny_ldH 1 rfl rfl rfl ‹HRow _ _ 0 _› rfl ?_ | refine gny_T 1 rfl rfl rfl ?_ | refine gny_F 1 rfl rfl rfl ?_ | refine gny_B 1 rfl rfl rfl ?_ | refine gny_skip 1 rfl rfl ?_ | refine gny_sp 1 rfl rfl rfl ?_ | refine gny_sB 1 rfl rfl rfl ?_ | refine gny_sld 1 rfl rfl rfl rfl ?_ | refine gny_sldH 1 rfl rfl rfl ‹HRow _ _ 0 _› rfl ?_ | refine gny_ldN 1 rfl rfl rfl rfl ?_ | refine gny_bld 1 rfl rfl rfl ?_); (first | refine gny_p 2 rfl rfl rfl ?_ | refine gny_ld 2 rfl rfl rfl rfl ?_ | refine gny_ldH 2 rfl rfl rfl ‹HRow _ _ 0 _› rfl ?_ | refine gny_T 2 rfl rfl rfl ?_ | refine gny_F 2 rfl rfl rfl ?_ | refine gny_B 2 rfl rfl rfl ?_ | refine gny_skip 2 rfl rfl ?_ | refine gny_sp 2 rfl rfl rfl ?_ | refine gny_sB 2 rfl rfl rfl ?_ | refine gny_sld 2 rfl rfl rfl rfl ?_ | refine gny_sldH 2 rfl rfl rfl ‹HRow _ _ 0 _› rfl ?_ | refine gny_ldN 2 rfl rfl rfl rfl ?_ | refine gny_bld 2 rfl rfl rfl ?_); (first | refine gny_p 3 rfl rfl rfl ?_ | refine gny_ld 3 rfl rfl rfl rfl ?_ | refine gny_ldH 3 rfl rfl rfl ‹HRow _ _ 0 _› rfl ?_ | refine gny_T 3 rfl rfl rfl ?_ | refine gny_F 3 rfl rfl rfl ?_ | refine gny_B 3 rfl rfl rfl ?_ | refine gny_skip 3 rfl rfl ?_ | refine gny_sp 3 rfl rfl rfl ?_ | refine gny_sB 3 rfl rfl rfl ?_ | refine gny_sld 3 rfl rfl rfl rfl ?_ | refine gny_sldH 3 rfl rfl rfl ‹HRow _ _ 0 _› rfl ?_ | refine gny_ldN 3 rfl rfl rfl rfl ?_ | refine gny_bld 3 rfl rfl rfl ?_); (first | refine gny_p 4 rfl rfl rfl ?_ | refine gny_ld 4 rfl rfl rfl rfl ?_ | refine gny_ldH 4 rfl rfl rfl ‹HRow _ _ 0 _› rfl ?_ | refine gny_T 4 rfl rfl rfl ?_ | refine gny_F 4 rfl rfl rfl ?_ | refine gny_B 4 rfl rfl rfl ?_ | refine gny_skip 4 rfl rfl ?_ | refine gny_sp 4 rfl rfl rfl ?_ | refine gny_sB 4 rfl rfl rfl ?_ | refine gny_sld 4 rfl rfl rfl rfl ?_ | refine gny_sldH 4 rfl rfl rfl ‹HRow _ _ 0 _› rfl ?_ | refine gny_ldN 4 rfl rfl rfl rfl ?_ | refine gny_bld 4 rfl rfl rfl ?_)
    refine gny_ld 5 rfl rfl rfl (bk_e hje) ?_
    (first | refine gny_p 6 rfl rfl rfl ?_ | refine gny_ld 6 rfl rfl rfl rfl ?_ | refine gny_ldH 6 rfl rfl rfl ‹HRow _ _ 0 _› rfl ?_ | refine gny_T 6 rfl rfl rfl ?_ | refine gny_F 6 rfl rfl rfl ?_ | refine gny_B 6 rfl rfl rfl ?_ | refine gny_skip 6 rfl rfl ?_ | refine gny_sp 6 rfl rfl rfl ?_ | refine gny_sB 6 rfl rfl rfl ?_ | refine gny_sld 6 rfl rfl rfl rfl ?_ | refine gny_sldH 6 rfl rfl rfl ‹HRow _ _ 0 _› rfl ?_ | refine gny_ldN 6 rfl rfl rfl rfl ?_ | refine gny_bld 6 rfl rfl rfl ?_); (first | refine gny_p 7 rfl rfl rfl ?_ | refine gny_ld 7 rfl rfl rfl rfl ?_ | refine gny_ldH 7 rfl rfl rfl ‹HRow _ _ 0 _› rfl ?_ | refine gny_T 7 rfl rfl rfl ?_ | refine gny_F 7 rfl rfl rfl ?_ | refine gny_B 7 rfl rfl rfl ?_ | refine gny_skip 7 rfl rfl ?_ | refine gny_sp 7 rfl rfl rfl ?_ | refine gny_sB 7 rfl rfl rfl ?_ | refine gny_sld 7 rfl rfl rfl rfl ?_ | refine gny_sldH 7 rfl rfl rfl ‹HRow _ _ 0 _› rfl ?_ | refine gny_ldN 7 rfl rfl rfl rfl ?_ | refine gny_bld 7 rfl rfl rfl ?_); (first | refine gny_p 8 rfl rfl rfl ?_ | refine gny_ld 8 rfl rfl rfl rfl ?_ | refine gny_ldH 8 rfl rfl rfl ‹HRow _ _ 0 _› rfl ?_ | refine gny_T 8 rfl rfl rfl ?_ | refine gny_F 8 rfl rfl rfl ?_ | refine gny_B 8 rfl rfl rfl ?_ | refine gny_skip 8 rfl rfl ?_ | refine gny_sp 8 rfl rfl rfl ?_ | refine gny_sB 8 rfl rfl rfl ?_ | refine gny_sld 8 rfl rfl rfl rfl ?_ | refine gny_sldH 8 rfl rfl rfl ‹HRow _ _ 0 _› rfl ?_ | refine gny_ldN 8 rfl rfl rfl rfl ?_ | refine gny_bld 8 rfl rfl rfl ?_); (first | refine gny_p 9 rfl rfl rfl ?_ | refine gny_ld 9 rfl rfl rfl rfl ?_ | refine gny_ldH 9 rfl rfl rfl ‹HRow _ _ 0 _› rfl ?_ | refine gny_T 9 rfl rfl rfl ?_ | refine gny_F 9 rfl rfl rfl ?_ | refine gny_B 9 rfl rfl rfl ?_ | refine gny_skip 9 rfl rfl ?_ | refine gny_sp 9 rfl rfl rfl ?_ | refine gny_sB 9 rfl rfl rfl ?_ | refine gny_sld 9 rfl rfl rfl rfl ?_ | refine gny_sldH 9 rfl rfl rfl ‹HRow _ _ 0 _› rfl ?_ | refine gny_ldN 9 rfl rfl rfl rfl ?_ | refine gny_bld 9 rfl rfl rfl ?_)
    refine any_rest rfl ?_
    refine ops_sta rfl rfl rfl (by simp [hb.el]; omega) hset ?_
    refine walk ?_
    refine ex_any 8 [row b 68 (g :: ((es.set j (es[j] + 1)).map I ++ cs)), row p9 28 [I (cutR rs[j] t).Start, .slice d3 (cutR rs[j] t).Cells.length e3]] ?_
    (first | refine gny_p 0 rfl rfl rfl ?_ | refine gny_ld 0 rfl rfl rfl rfl ?_ | refine gny_ldH 0 rfl rfl rfl ‹HRow _ _ 0 _› rfl ?_ | refine gny_T 0 rfl rfl rfl ?_ | refine gny_F 0 rfl rfl rfl ?_ | refine gny_B 0 rfl rfl rfl ?_ | refine gny_skip 0 rfl rfl ?_ | refine gny_sp 0 rfl rfl rfl ?_ | refine gny_sB 0 rfl rfl rfl ?_ | refine gny_sld 0 rfl rfl rfl rfl ?_ | refine gny_sldH 0 rfl rfl rfl ‹HRow _ _ 0 _› rfl ?_ | refine gny_ldN 0 rfl rfl rfl rfl ?_ | refine gny_bld 0 rfl rfl rfl ?_); (first | refine gny_p 1 rfl rfl rfl ?_ | refine gny_ld 1 rfl rfl rfl rfl ?_ | refine gny_ldH 1 rfl rfl rfl ‹HRow _ _ 0 _› rfl ?_ | refine gny_T 1 rfl rfl rfl ?_ | refine gny_F 1 rfl rfl rfl ?_ | refine gny_B 1 rfl rfl rfl ?_ | refine gny_skip 1 rfl rfl ?_ | refine gny_sp 1 rfl rfl rfl ?_ | refine gny_sB 1 rfl rfl rfl ?_ | refine gny_sld 1 rfl rfl rfl rfl ?_ | refine gny_sldH 1 rfl rfl rfl ‹HRow _ _ 0 _› rfl ?_ | refine gny_ldN 1 rfl rfl rfl rfl ?_ | refine gny_bld 1 rfl rfl rfl ?_); (first | refine gny_p 2 rfl rfl rfl ?_ | refine gny_ld 2 rfl rfl rfl rfl ?_ | refine gny_ldH 2 rfl rfl rfl ‹HRow _ _ 0 _› rfl ?_ | refine gny_T 2 rfl rfl rfl ?_ | refine gny_F 2 rfl rfl rfl ?_ | refine gny_B 2 rfl rfl rfl ?_ | refine gny_skip 2 rfl rfl ?_ | refine gny_sp 2 rfl rfl rfl ?_ | refine gny_sB 2 rfl rfl rfl ?_ | refine gny_sld 2 rfl rfl rfl rfl ?_ | refine gny_sldH 2 rfl rfl rfl ‹HRow _ _ 0 _› rfl ?_ | refine gny_ldN 2 rfl rfl rfl rfl ?_ | refine gny_bld 2 rfl rfl rfl ?_); (first | refine gny_p 3 rfl rfl rfl ?_ | refine gny_ld 3 rfl rfl rfl rfl ?_ | refine gny_ldH 3 rfl rfl rfl ‹HRow _ _ 0 _› rfl ?_ | refine gny_T 3 rfl rfl rfl ?_ | refine gny_F 3 rfl rfl rfl ?_ | refine gny_B 3 rfl rfl rfl ?_ | refine gny_skip 3 rfl rfl ?_ | refine gny_sp 3 rfl rfl rfl ?_ | refine gny_sB 3 rfl rfl rfl ?_ | refine gny_sld 3 rfl rfl rfl rfl ?_ | refine gny_sldH 3 rfl rfl rfl ‹HRow _ _ 0 _› rfl ?_ | refine gny_ldN 3 rfl rfl rfl rfl ?_ | refine gny_bld 3 rfl rfl rfl ?_); (first | refine gny_p 4 rfl rfl rfl ?_ | refine gny_ld 4 rfl rfl rfl rfl ?_ | refine gny_ldH 4 rfl rfl rfl ‹HRow _ _ 0 _› rfl ?_ | refine gny_T 4 rfl rfl rfl ?_ | refine gny_F 4 rfl rfl rfl ?_ | refine gny_B 4 rfl rfl rfl ?_ | refine gny_skip 4 rfl rfl ?_ | refine gny_sp 4 rfl rfl rfl ?_ | refine gny_sB 4 rfl rfl rfl ?_ | refine gny_sld 4 rfl rfl rfl rfl ?_ | refine gny_sldH 4 rfl rfl rfl ‹HRow _ _ 0 _› rfl ?_ | refine gny_ldN 4 rfl rfl rfl rfl ?_ | refine gny_bld 4 rfl rfl rfl ?_)
    refine gny_ld 5 rfl rfl rfl (bk_e hje') ?_
    (first | refine gny_p 6 rfl rfl rfl ?_ | refine gny_ld 6 rfl rfl rfl rfl ?_ | refine gny_ldH 6 rfl rfl rfl ‹HRow _ _ 0 _› rfl ?_ | refine gny_T 6 rfl rfl rfl ?_ | refine gny_F 6 rfl rfl rfl ?_ | refine gny_B 6 rfl rfl rfl ?_ | refine gny_skip 6 rfl rfl ?_ | refine gny_sp 6 rfl rfl rfl ?_ | refine gny_sB 6 rfl rfl rfl ?_ | refine gny_sld 6 rfl rfl rfl rfl ?_ | refine gny_sldH 6 rfl rfl rfl ‹HRow _ _ 0 _› rfl ?_ | refine gny_ldN 6 rfl rfl rfl rfl ?_ | refine gny_bld 6 rfl rfl rfl ?_); (first | refine gny_p 7 rfl rfl rfl ?_ | refine gny_ld 7 rfl rfl rfl rfl ?_ | refine gny_ldH 7 rfl rfl rfl ‹HRow _ _ 0 _› rfl ?_ | refine gny_T 7 rfl rfl rfl ?_ | refine gny_F 7 rfl rfl rfl ?_ | refine gny_B 7 rfl rfl rfl ?_ | refine gny_skip 7 rfl rfl ?_ | refine gny_sp 7 rfl rfl rfl ?_ | refine gny_sB 7 rfl rfl rfl ?_ | refine gny_sld 7 rfl rfl rfl rfl ?_ | refine gny_sldH 7 rfl rfl rfl ‹HRow _ _ 0 _› rfl ?_ | refine gny_ldN 7 rfl rfl rfl rfl ?_ | refine gny_bld 7 rfl rfl rfl ?_)
    refine any_rest rfl ?_
    refine walk ?_
    refine finB [ownS rInt 1 8 3 H3 (.slice d3 (cutR rs[j] t).Cells.length e3) (cutR rs[j] t).Cells, bookO (union H0 Heap.empty) (.pointer (some ⟨b, 0, none⟩)) m (es.set j (es[j] + 1)) rs] ?_ (hs := Sub.trans (B := ownS rInt 1 8 3 H3 (.slice d3 (cutR rs[j] t).Cells.length e3) (cutR rs[j] t).Cells :: row b 68 (g :: ((es.set j (es[j] + 1)).map I ++ cs)) :: R) (by (repeat (first | exact Sub.refl _ | exact Sub.nil _ | (apply sub_pick; (repeat (first | exact Has.here | apply Has.there)); skip) | apply Sub.drop))) (Sub.cons (bookO_shut hb4)))
    refine ⟨_, Heap.empty, ?_, rfl, disj_empty, ue_le hl3⟩
    simp
  refine walk ?_
  refine ex_if rfl (fun e0 => ?_) (fun e0 => ?_)
  · have e : applyIn confM m es rs j es[j] (cutR rs[j] t) c t = (es, rs, ⟨4, 0, zRoute⟩) := by unfold applyIn; rw [if_neg v1, if_pos e0]
    refine walk ?_
    refine ops_pcall rfl rfl refused_spec ?_
    refine walk ?_
    rw [e]
    refine finB [ownS rInt 1 8 3 H3 nilS [], bookO (union H0 Heap.empty) (.pointer (some ⟨b, 0, none⟩)) m es rs] ?_ (hs := Sub.trans (B := row b 68 (g :: (es.map I ++ cs)) :: R) (by (repeat (first | exact Sub.refl _ | exact Sub.nil _ | (apply sub_pick; (repeat (first | exact Has.here | apply Has.there)); skip) | apply Sub.drop))) ((bookO_shut hbE).trans ownS_nil))
    exact ⟨_, Heap.empty, rfl, rfl, disj_empty, ue_le (by (repeat (first | exact Go.Sx.Heap.le.refl _ | assumption | refine Go.Sx.Heap.le.trans ?_ ‹Go.Sx.Heap.le _ _›)))⟩
  refine walk ?_
  refine ex_if rfl (fun v6 => ?_) (fun v6 => ?_)
  · have e : applyIn confM m es rs j es[j] (cutR rs[j] t) c t = (es, rs, ⟨0, es[j], cutR rs[j] t⟩) := by unfold applyIn; rw [if_neg v1, if_neg e0, if_pos v6]
    rw [e]
    refine walk ?_
    refine finB [ownS rInt 1 8 3 H3 (.slice d3 (cutR rs[j] t).Cells.length e3) (cutR rs[j] t).Cells, bookO (union H0 Heap.empty) (.pointer (some ⟨b, 0, none⟩)) m es rs] ?_ (hs := Sub.trans (B := ownS rInt 1 8 3 H3 (.slice d3 (cutR rs[j] t).Cells.length e3) (cutR rs[j] t).Cells :: row b 68 (g :: (es.map I ++ cs)) :: R) (by (repeat (first | exact Sub.refl _ | exact Sub.nil _ | (apply sub_pick; (repeat (first | exact Has.here | apply Has.there)); skip) | apply Sub.drop))) (Sub.cons (bookO_shut hbE)))
    exact ⟨_, Heap.empty, rfl, rfl, disj_empty, ue_le hl3⟩
  refine walk ?_
  refine ex_if rfl (fun ec => ?_) (fun ec => ?_)
  · have e : applyIn confM m es rs j es[j] (cutR rs[j] t) c t = (es, rs, ⟨190, 0, zRoute⟩) := by unfold applyIn; rw [if_neg v1, if_neg e0, if_neg v6, if_pos ec]
    refine walk ?_
    refine ops_pcall rfl rfl refused_spec ?_
    refine walk ?_
    rw [e]
    refine finB [ownS rInt 1 8 3 H3 nilS [], bookO (union H0 Heap.empty) (.pointer (some ⟨b, 0, none⟩)) m es rs] ?_ (hs := Sub.trans (B := row b 68 (g :: (es.map I ++ cs)) :: R) (by (repeat (first | exact Sub.refl _ | exact Sub.nil _ | (apply sub_pick; (repeat (first | exact Has.here | apply Has.there)); skip) | apply Sub.drop))) ((bookO_shut hbE).trans ownS_nil))
    exact ⟨_, Heap.empty, rfl, rfl, disj_empty, ue_le (by (repeat (first | exact Go.Sx.Heap.le.refl _ | assumption | refine Go.Sx.Heap.le.trans ?_ ‹Go.Sx.Heap.le _ _›)))⟩
  refine walk ?_
  refine ex_if rfl (fun v2 => ?_) (fun v2 => ?_)
  · have e : applyIn confM m es rs j es[j] (cutR rs[j] t) c t = (es, rs, ⟨0, es[j], zRoute⟩) := by unfold applyIn; rw [if_neg v1, if_neg e0, if_neg v6, if_neg ec, if_pos v2]
    rw [e]
    refine walk ?_
    refine finB [ownS rInt 1 8 3 H3 nilS [], bookO (union H0 Heap.empty) (.pointer (some ⟨b, 0, none⟩)) m es rs] ?_ (hs := Sub.trans (B := row b 68 (g :: (es.map I ++ cs)) :: R) (by (repeat (first | exact Sub.refl _ | exact Sub.nil _ | (apply sub_pick; (repeat (first | exact Has.here | apply Has.there)); skip) | apply Sub.drop))) ((bookO_shut hbE).trans ownS_nil))
    exact ⟨_, Heap.empty, rfl, rfl, disj_empty, ue_le (by (repeat (first | exact Go.Sx.Heap.le.refl _ | assumption | refine Go.Sx.Heap.le.trans ?_ ‹Go.Sx.Heap.le _ _›)))⟩
  refine walk ?_
  refine ex_if rfl (fun v3 => ?_) (fun v3 => ?_)
  · have e : applyIn confM m es rs j es[j] (cutR rs[j] t) c t = (es, resC confM m es rs j c.Route (cutR rs[j] t) t) := by unfold applyIn; rw [if_neg v1, if_neg e0, if_neg v6, if_neg ec, if_neg v2, if_pos v3]
    rw [e]
    refine walk ?_
    refine ops_freeze (.slice d3 (cutR rs[j] t).Cells.length e3) fun H4 hl4 hz => ?_
    have hb4 := hb3.mono hl4
    refine ops_L (L' := bookO H0 (.pointer (some ⟨b, 0, none⟩)) m es rs :: row p8 47 [I 0, I 0, I 0, nilS] :: R) (Sub.trans (B := row b 68 (g :: (es.map I ++ cs)) :: row p8 47 [I 0, I 0, I 0, nilS] :: R) (by (repeat (first | exact Sub.refl _ | exact Sub.nil _ | (apply sub_pick; (repeat (first | exact Has.here | apply Has.there)); skip) | apply Sub.drop))) (bookO_shut hbG)) ?_
    refine ops_call rfl rfl (reserveO_spec (H0 := H0) (m := m) (es := es) (rs := rs) (x := c.Route) (now := cutR rs[j] t) (hl.trans (hl3.trans hl4)) ⟨_, rfl, f3, h0.mono (hl3.trans hl4)⟩ ⟨_, rfl, cutR_fits, hz⟩ hj ht) fun r5 H5 B hl5 ⟨v, D, er, eB, hdj, hul⟩ => ?_
    subst er eB
    have hleF := hl3.trans (hl4.trans hl5)
    refine ops_shape v fun d1 e1 e _ _ _ => ?_
    subst e
    refine walk ?_
    refine finB [ownS rInt 1 8 3 H5 (.slice d1 (resC confM m es rs j c.Route (cutR rs[j] t) t).2.Route.Cells.length e1) (resC confM m es rs j c.Route (cutR rs[j] t) t).2.Route.Cells, bookO (union H0 D) (.pointer (some ⟨b, 0, none⟩)) m es (resC confM m es rs j c.Route (cutR rs[j] t) t).1] ?_
    exact ⟨_, D, rfl, rfl, rep_up hdj hul (hl3.trans hl4)⟩
  refine walk ?_
  refine ex_if rfl (fun en => ?_) (fun en => ?_)
  · have hnil : (cutR rs[j] t).Cells = [] := List.eq_nil_of_length_eq_zero (by omega)
    have e : applyIn confM m es rs j es[j] (cutR rs[j] t) c t = (es, rs, ⟨4, 0, zRoute⟩) := by unfold applyIn; rw [if_neg v1, if_neg e0, if_neg v6, if_neg ec, if_neg v2, if_neg v3, if_pos hnil]
    refine walk ?_
    refine ops_pcall rfl rfl refused_spec ?_
    refine walk ?_
    rw [e]
    refine finB [ownS rInt 1 8 3 H3 nilS [], bookO (union H0 Heap.empty) (.pointer (some ⟨b, 0, none⟩)) m es rs] ?_ (hs := Sub.trans (B := row b 68 (g :: (es.map I ++ cs)) :: R) (by (repeat (first | exact Sub.refl _ | exact Sub.nil _ | (apply sub_pick; (repeat (first | exact Has.here | apply Has.there)); skip) | apply Sub.drop))) ((bookO_shut hbE).trans ownS_nil))
    exact ⟨_, Heap.empty, rfl, rfl, disj_empty, ue_le (by (repeat (first | exact Go.Sx.Heap.le.refl _ | assumption | refine Go.Sx.Heap.le.trans ?_ ‹Go.Sx.Heap.le _ _›)))⟩
  have hnn : ¬ (cutR rs[j] t).Cells = [] := fun e => en (by rw [e]; rfl)
  refine walk ?_
  refine ex_if rfl (fun v4 => ?_) (fun v4 => ?_)
  · have v5 : ¬ c.Verb = 5 := by omega
    have e : applyIn confM m es rs j es[j] (cutR rs[j] t) c t = (es, takeM m es rs j ⟨(cutR rs[j] t).Start, (cutR rs[j] t).Cells ++ c.Route.Cells⟩ t) := by unfold applyIn; rw [if_neg v1, if_neg e0, if_neg v6, if_neg ec, if_neg v2, if_neg v3, if_neg hnn, if_neg v5, takeM_eq]
    rw [e]
    refine walk ?_
    refine ops_freeze (.slice d3 (cutR rs[j] t).Cells.length e3) fun H4 hl4 hz => ?_
    have hlen := cutR_len (x := rs[j]) (t := t)
    have hlen2 := hRl _ (List.getElem_mem hjr)
    refine ops_call rfl rfl (join_spec (x := cutR rs[j] t) (more := c.Route.Cells) ⟨_, rfl, cutR_fits, hz⟩ (h0.mono (hl3.trans hl4)) (by simp only [cap47]; omega)) fun r5 H5 B hl5 ⟨v, er, eB⟩ => ?_
    subst er eB
    refine ops_freeze v fun H6 hl6 hw => ?_
    have hb6 := hb3.mono (hl4.trans (hl5.trans hl6))
    refine ops_L (L' := bookO H0 (.pointer (some ⟨b, 0, none⟩)) m es rs :: row p8 47 [I 0, I 0, I 0, nilS] :: R) (Sub.trans (B := row b 68 (g :: (es.map I ++ cs)) :: row p8 47 [I 0, I 0, I 0, nilS] :: R) (by (repeat (first | exact Sub.refl _ | exact Sub.nil _ | (apply sub_pick; (repeat (first | exact Has.here | apply Has.there)); skip) | apply Sub.drop))) (bookO_shut hbG)) ?_
    refine walk ?_
    refine ops_call rfl rfl (takeO_spec (H0 := H0) (m := m) (es := es) (rs := rs) (x := ⟨(cutR rs[j] t).Start, (cutR rs[j] t).Cells ++ c.Route.Cells⟩) (hl.trans (hl3.trans (hl4.trans (hl5.trans hl6)))) ⟨_, rfl, cutR_fits, hw⟩ hj ht) fun r7 H7 B hl7 ⟨v, D, er, eB, hdj, hul⟩ => ?_
    subst er eB
    have hleF := hl3.trans (hl4.trans (hl5.trans (hl6.trans hl7)))
    refine ops_shape v fun d1 e1 e _ _ _ => ?_
    subst e
    refine walk ?_
    refine finB [ownS rInt 1 8 3 H7 (.slice d1 (takeM m es rs j ⟨(cutR rs[j] t).Start, (cutR rs[j] t).Cells ++ c.Route.Cells⟩ t).2.Route.Cells.length e1) (takeM m es rs j ⟨(cutR rs[j] t).Start, (cutR rs[j] t).Cells ++ c.Route.Cells⟩ t).2.Route.Cells, bookO (union H0 D) (.pointer (some ⟨b, 0, none⟩)) m es (takeM m es rs j ⟨(cutR rs[j] t).Start, (cutR rs[j] t).Cells ++ c.Route.Cells⟩ t).1] ?_
    exact ⟨_, D, rfl, rfl, rep_up hdj hul (hl3.trans (hl4.trans (hl5.trans hl6)))⟩
  · have v5 : c.Verb = 5 := by omega
    have e : applyIn confM m es rs j es[j] (cutR rs[j] t) c t = (es, rs.set j zRoute, ⟨0, es[j], zRoute⟩) := by unfold applyIn; rw [if_neg v1, if_neg e0, if_neg v6, if_neg ec, if_neg v2, if_neg v3, if_neg hnn, if_pos v5]
    rw [e]
    obtain ⟨cs', hcs, hbk', hle⟩ := bk_set (c := [I 0, nilS]) (x := zRoute) hbE zRoute_reads hj
    refine walk ?_
    refine ops_sta rfl rfl rfl hle hcs ?_
    refine walk ?_
    refine ops_ldc rfl rfl (bk_e hje) ?_
    refine walk ?_
    refine finB [ownS rInt 1 8 3 H3 nilS [], bookO (union H0 Heap.empty) (.pointer (some ⟨b, 0, none⟩)) m es (rs.set j zRoute)] ?_ (hs := Sub.trans (B := row b 68 (g :: (es.map I ++ cs')) :: R) (by (repeat (first | exact Sub.refl _ | exact Sub.nil _ | (apply sub_pick; (repeat (first | exact Has.here | apply Has.there)); skip) | apply Sub.drop))) ((bookO_shut hbk').trans ownS_nil))
    exact ⟨_, Heap.empty, rfl, rfl, disj_empty, ue_le hl3⟩
end Go.Proofs.Ytnfmjkjhiolfdaa
