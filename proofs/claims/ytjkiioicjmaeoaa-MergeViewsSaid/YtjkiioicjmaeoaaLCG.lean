/- The document's Visible, Compact, SamePairs. -/
import Derived.Test.YtjkiioicjmaeoaaLCF
set_option linter.unusedVariables false
set_option linter.unusedSimpArgs false
namespace Go.Proofs.Ytjkiioicjmaeoaa
open Go Go.Sx Go.X Go.Proofs
def pastO (l : List Entry) (i : Nat) : List Entry := if h : 0 < i ∧ i - 1 < l.length then past (l[i - 1]'h.2).Key (l.drop i) else l
theorem pastO_0 {l : List Entry} : pastO l 0 = l := by simp [pastO]
theorem pastO_succ {l : List Entry} {i : Nat} (h : i < l.length) : pastO l (i + 1) = past l[i].Key (l.drop (i + 1)) := by simp [pastO, h]
theorem pastO_same {l : List Entry} {i : Nat} (h : i < l.length) (h0 : 0 < i) (hk : l[i - 1].Key = l[i].Key) : pastO l i = pastO l (i + 1) := by
  rw [pastO_succ h]
  unfold pastO
  rw [dif_pos ⟨h0, by omega⟩, List.drop_eq_getElem_cons h, past, if_pos hk.symm, hk]
theorem pastO_new {l : List Entry} {i : Nat} (h : i < l.length) (hn : ∀ (h0 : 0 < i), l[i - 1].Key ≠ l[i].Key) : pastO l i = l[i] :: l.drop (i + 1) := by
  unfold pastO
  split
  · rename_i hh
    rw [List.drop_eq_getElem_cons h, past, if_neg fun e => hn hh.1 e.symm]
  · have : i = 0 := by omega
    subst this
    rw [← List.drop_eq_getElem_cons h]; rfl
theorem pw_get {l : List Entry} (h : PW l) {i j : Nat} (hij : i < j) (hj : j < l.length) : Bef (l[i]'(by omega)) l[j] := List.pairwise_iff_getElem.1 h i j (by omega) hj hij
theorem first_behind {l : List Entry} (h : PW l) {i : Nat} (hi : i < l.length) (hn : ∀ (h0 : 0 < i), l[i - 1].Key ≠ l[i].Key) {y : Entry} (hy : y ∈ l) (hk : y.Key = l[i].Key) : y ∈ l[i] :: l.drop (i + 1) := by
  rw [← List.drop_eq_getElem_cons hi]
  obtain ⟨j, hj, rfl⟩ := List.getElem_of_mem hy
  rcases Nat.lt_or_ge j i with hji | hji
  · exfalso
    have h0 : 0 < i := by omega
    have h1 : SLt l[i - 1].Key l[i].Key := by
      have := pw_get h (show i - 1 < i by omega) hi
      exact this.resolve_right fun h => hn h0 h.1
    have h2 : SLt l[j].Key l[i].Key := by
      rcases Nat.lt_or_ge j (i - 1) with hlt | hge
      · rcases pw_get h hlt (by omega) with h2 | h2
        · exact slt_trans h2 h1
        · rw [h2.1]; exact h1
      · have e : j = i - 1 := by omega
        subst e; exact h1
    rw [hk] at h2
    exact slt_irr h2
  · rw [List.mem_iff_getElem]
    exact ⟨j - i, by simp only [List.length_drop]; omega, by simp only [List.getElem_drop]; congr 1; omega⟩
theorem vis_at {l : List Entry} (h : PW l) {s : Int} {i : Nat} (hi : i < l.length) (hn : ∀ (h0 : 0 < i), l[i - 1].Key ≠ l[i].Key) {o : Option Entry} (ho : GetR l l[i].Key s o) : vis s (pastO l i) = (match o with | none => [] | some e => shown e) ++ vis s (pastO l (i + 1)) := by
  have hd : l[i] :: l.drop (i + 1) = l.drop i := (List.drop_eq_getElem_cons hi).symm
  have hp : PW (l[i] :: l.drop (i + 1)) := by rw [hd]; exact h.sublist (List.drop_sublist ..)
  have hsub : ∀ y ∈ l[i] :: l.drop (i + 1), y ∈ l := fun y hy => by rw [hd] at hy; exact List.mem_of_mem_drop hy
  rw [pastO_new hi hn, pastO_succ hi]
  cases o with
  | none =>
    rw [vis_none fun y hy hk => Int.not_le.1 (ho y (hsub y hy) hk)]; rfl
  | some e =>
    exact vis_some hp (first_behind h hi hn ho.1 ho.2.1) ho.2.1 (nw_sub ho.2.2 hsub)
set_option maxHeartbeats 4000000 in
theorem rVisible_spec {W0 : GW} {H : Heap} {v : Value} {l : List Entry} {s : Int} (hv : LB H v l) (ho : PW l) :
    Ct Try.prog 21 #[v, .int .i64 s] W0 H [] (fun r H' B => PB H' r (vis s l) ∧ B = []) := by
  refine Ct.go (vs := [_, _]) fun R => ?_
  have hlen := hv.len
  have hsz := hv.2
  have hok : ∀ e ∈ l, okE e := hv.1.all fun _ _ _ h => h.2
  obtain ⟨b0, c0, rfl, hc0, hd0⟩ := hv.1.shape
  refine walk ?_
  refine ex_L (L' := ownS rPair 2 32 50 H (.slice none 0 0) [] :: R) ownS_nil ?_
  refine ex_loop (fun x : Nat × List Pair × Value => x.1 ≤ l.length ∧ x.2.1.length ≤ x.1 ∧ x.2.1 ++ vis s (pastO l x.1) = vis s l) (fun x => [(6, .int .i64 x.1), (5, x.2.2), (0, .slice b0 l.length c0), (1, .int .i64 s)]) (fun _ => H) (fun x => ownS rPair 2 32 50 H x.2.2 x.2.1 :: R) (fun x => l.length - x.1) (0, [], .slice none 0 0) ⟨Nat.zero_le _, Nat.le_refl _, by rw [pastO_0]; rfl⟩ fun ⟨i, out, s5⟩ ⟨hi, hol, hI⟩ K hK => ?_
  simp only at hi hol hI
  dsimp only
  by_cases hlt : i < l.length
  · by_cases hsame : ∃ h0 : 0 < i, l[i - 1].Key = l[i].Key
    · obtain ⟨h0, hk⟩ := hsame
      have h0' : (0 : Int) < i := by omega
      refine walk ?_
      refine ops_ixp (j := i - 1) (hi := ⟨by omega⟩) rfl rfl hv.1 (by omega) fun b1 o1 c1 k1 k2 => ?_
      obtain ⟨rfl, -⟩ := k2
      refine walk ?_
      refine ops_ixp rfl rfl hv.1 hlt fun b2 o2 c2 k3 k4 => ?_
      obtain ⟨rfl, -⟩ := k4
      refine walk ?_
      refine out_next hK (i + 1, out, s5) ⟨hlt, by dsimp only; omega, ?_⟩
      dsimp only
      rw [← pastO_same hlt h0 hk, hI]
    · have hn : ∀ (h0 : 0 < i), l[i - 1].Key ≠ l[i].Key := fun h0 hk => hsame ⟨h0, hk⟩
      by_cases h0 : (0 : Int) < i
      · have hk := hn (by omega)
        refine walk ?_
        refine ops_ixp (j := i - 1) (hi := ⟨by omega⟩) rfl rfl hv.1 (by omega) fun b1 o1 c1 k1 k2 => ?_
        obtain ⟨rfl, -⟩ := k2
        refine walk ?_
        refine ops_ixp rfl rfl hv.1 hlt fun b2 o2 c2 k3 k4 => ?_
        obtain ⟨rfl, -⟩ := k4
        refine walk ?_
        refine ops_ixp rfl rfl hv.1 hlt fun b3 o3 c3 k5 k6 => ?_
        obtain ⟨rfl, k6⟩ := k6
        refine walk ?_
        refine ops_call rfl rfl (get_spec hv) fun r H1 B hl1 ⟨⟨o, hg, er⟩, eB, eH⟩ => ?_
        subst er eB eH
        have hva := vis_at ho (s := s) hlt hn hg
        refine walk ?_
        refine ops_alloc rfl fun p7 _ => ?_
        refine walk ?_
        cases o with
        | none =>
          simp only [Option.isSome_none]
          refine walk ?_
          refine out_next hK (i + 1, out, s5) ⟨hlt, by dsimp only; omega, ?_⟩
          dsimp only
          rw [← hI, hva]; rfl
        | some e =>
          simp only [Option.isSome_some]
          have hoe := hok _ hg.1
          cases hd : e.Del with
          | true =>
            refine walk ?_
            rw [show (ofO (some e)).Del = true from hd]
            simp only [Bool.not_true]
            refine walk ?_
            refine out_next hK (i + 1, out, s5) ⟨hlt, by dsimp only; omega, ?_⟩
            dsimp only
            rw [← hI, hva]; simp [shown, hd]
          | false =>
            refine walk ?_
            rw [show (ofO (some e)).Del = false from hd]
            simp only [Bool.not_false]
            refine walk ?_
            refine ops_app1 (y := toP e) rfl rfl rfl ⟨rfl, hoe.1, hoe.2.2⟩ (by omega) fun b6 cap => ?_
            refine walk ?_
            refine out_next hK (i + 1, out ++ [toP e], .slice b6 (out.length + 1) cap) ⟨hlt, by simp only [List.length_append, List.length_singleton]; omega, ?_⟩
            dsimp only
            rw [← hI, hva]; simp [shown, hd]
      · refine walk ?_
        refine ops_ixp rfl rfl hv.1 hlt fun b3 o3 c3 k5 k6 => ?_
        obtain ⟨rfl, k6⟩ := k6
        refine walk ?_
        refine ops_call rfl rfl (get_spec hv) fun r H1 B hl1 ⟨⟨o, hg, er⟩, eB, eH⟩ => ?_
        subst er eB eH
        have hva := vis_at ho (s := s) hlt hn hg
        refine walk ?_
        refine ops_alloc rfl fun p7 _ => ?_
        refine walk ?_
        cases o with
        | none =>
          simp only [Option.isSome_none]
          refine walk ?_
          refine out_next hK (i + 1, out, s5) ⟨hlt, by dsimp only; omega, ?_⟩
          dsimp only
          rw [← hI, hva]; rfl
        | some e =>
          simp only [Option.isSome_some]
          have hoe := hok _ hg.1
          cases hd : e.Del with
          | true =>
            refine walk ?_
            rw [show (ofO (some e)).Del = true from hd]
            simp only [Bool.not_true]
            refine walk ?_
            refine out_next hK (i + 1, out, s5) ⟨hlt, by dsimp only; omega, ?_⟩
            dsimp only
            rw [← hI, hva]; simp [shown, hd]
          | false =>
            refine walk ?_
            rw [show (ofO (some e)).Del = false from hd]
            simp only [Bool.not_false]
            refine walk ?_
            refine ops_app1 (y := toP e) rfl rfl rfl ⟨rfl, hoe.1, hoe.2.2⟩ (by omega) fun b6 cap => ?_
            refine walk ?_
            refine out_next hK (i + 1, out ++ [toP e], .slice b6 (out.length + 1) cap) ⟨hlt, by simp only [List.length_append, List.length_singleton]; omega, ?_⟩
            dsimp only
            rw [← hI, hva]; simp [shown, hd]
  · refine walk ?_
    have e : out = vis s l := by
      have : i = l.length := by omega
      subst this
      rw [← hI]
      unfold pastO
      split
      · simp [past, vis]
      · have : l = [] := by
          rcases l with _ | ⟨a, t⟩
          · rfl
          · rename_i hh; exact absurd ⟨by simp, by simp⟩ hh
        subst this
        simp [vis]
    subst e
    refine out_freeze s5 fun H' hl q => ?_
    refine fin0 ?_
    exact ⟨q, rfl⟩
theorem filt_take {l : List Entry} {q : Entry → Prop} [DecidablePred q] {i : Nat} (h : i < l.length) : (q l[i] → (l.take i).filter (fun e => decide (q e)) ++ [l[i]] = (l.take (i + 1)).filter fun e => decide (q e)) ∧ (¬ q l[i] → (l.take i).filter (fun e => decide (q e)) = (l.take (i + 1)).filter fun e => decide (q e)) := by
  rw [List.take_succ_eq_append_getElem h, List.filter_append]
  constructor <;> intro hq <;> simp [hq]
set_option maxHeartbeats 4000000 in
theorem rCompact_spec {W0 : GW} {H : Heap} {v : Value} {l : List Entry} {fl : Int} {bt : Bool} (hv : LB H v l) (ho : PW l) :
    Ct Try.prog 22 #[v, .int .i64 fl, .bool bt] W0 H [] (fun r H' B => LB H' r (comp fl bt l) ∧ B = []) := by
  refine Ct.go (vs := [_, _, _]) fun R => ?_
  have hlen := hv.len
  have hsz := hv.2
  have hok : ∀ e ∈ l, okE e := hv.1.all fun _ _ _ h => h.2
  rw [comp_keep ho]
  obtain ⟨b0, c0, rfl, hc0, hd0⟩ := hv.1.shape
  refine walk ?_
  refine ex_L (L' := ownS rEntry 4 48 37 H (.slice none 0 0) [] :: R) ownS_nil ?_
  refine ex_loop (fun x : Nat × Value => x.1 ≤ l.length) (fun x => [(8, .int .i64 x.1), (7, x.2), (0, .slice b0 l.length c0), (1, .int .i64 fl), (2, .bool bt)]) (fun _ => H) (fun x => ownS rEntry 4 48 37 H x.2 ((l.take x.1).filter fun e => decide (keepE l fl bt e)) :: R) (fun x => l.length - x.1) (0, .slice none 0 0) (Nat.zero_le _) fun ⟨i, s7⟩ hi K hK => ?_
  simp only at hi
  dsimp only
  by_cases hlt : i < l.length
  · have hsn := filt_take (q := keepE l fl bt) hlt
    have hoi := hok _ (List.getElem_mem hlt)
    have hol : ((l.take i).filter fun e => decide (keepE l fl bt e)).length ≤ i := Nat.le_trans (List.length_filter_le _ _) (by simp only [List.length_take]; omega)
    generalize hout : (l.take i).filter (fun e => decide (keepE l fl bt e)) = out at *
    refine walk ?_
    refine ops_ixp rfl rfl hv.1 hlt fun b1 o1 c1 k1 k2 => ?_
    obtain ⟨rfl, -⟩ := k2
    refine walk ?_
    refine ops_call rfl rfl (get_spec hv) fun r H1 B hl1 ⟨⟨o, hg, er⟩, eB, eH⟩ => ?_
    subst er eB eH
    refine walk ?_
    refine ops_alloc rfl fun p9 _ => ?_
    refine walk ?_
    refine ops_ixp rfl rfl hv.1 hlt fun b2 o2 c2 k3 k4 => ?_
    obtain ⟨rfl, -⟩ := k4
    refine walk ?_
    by_cases hf : fl < l[i].Seq
    · rw [decide_eq_true hf]
      have HK : keepE l fl bt l[i] := .inl hf
      refine walk ?_
      refine ops_ixp rfl rfl hv.1 hlt fun b7 o7 c7 m1 m2 => ?_
      obtain ⟨rfl, -⟩ := m2
      refine ops_ldNH rfl rfl m1 rfl ?_
      refine ops_app1 (y := l[i]) rfl rfl rfl ⟨rfl, hoi⟩ (by omega) fun b6 cap => ?_
      refine walk ?_
      refine out_next hK (i + 1, .slice b6 (out.length + 1) cap) hlt (hs := ?_)
      dsimp only
      rw [← hsn.1 HK]
      exact subA
    · rw [decide_eq_false hf]
      cases o with
      | none => exact absurd (Int.not_lt.1 hf) (hg _ (List.getElem_mem hlt) rfl)
      | some e =>
        simp only [Option.isSome_some]
        refine walk ?_
        refine ops_ixp rfl rfl hv.1 hlt fun b3 o3 c3 k5 k6 => ?_
        obtain ⟨rfl, -⟩ := k6
        refine walk ?_
        by_cases hq : (ofO (some e)).Seq = l[i].Seq
        · rw [decide_eq_true hq]
          have hq' : e.Seq = l[i].Seq := hq
          have hnw : nw l fl l[i] := ⟨Int.not_lt.1 hf, fun z hz hzk hzs => by
            have := hg.2.2.2 z hz (by rw [hzk, hg.2.1]) hzs
            omega⟩
          cases bt with
          | false =>
            have HK : keepE l fl false l[i] := .inr ⟨hnw, by simp⟩
            refine walk ?_
            refine ops_ixp rfl rfl hv.1 hlt fun b7 o7 c7 m1 m2 => ?_
            obtain ⟨rfl, -⟩ := m2
            refine ops_ldNH rfl rfl m1 rfl ?_
            refine ops_app1 (y := l[i]) rfl rfl rfl ⟨rfl, hoi⟩ (by omega) fun b6 cap => ?_
            refine walk ?_
            refine out_next hK (i + 1, .slice b6 (out.length + 1) cap) hlt (hs := ?_)
            dsimp only
            rw [← hsn.1 HK]
            exact subA
          | true =>
            refine walk ?_
            refine ops_ixp rfl rfl hv.1 hlt fun b5 o5 c5 k9 k10 => ?_
            obtain ⟨rfl, -⟩ := k10
            refine walk ?_
            cases hd : l[i].Del with
            | true =>
              have HK : ¬ keepE l fl true l[i] := fun h => h.elim hf fun h => h.2 ⟨rfl, hd⟩
              simp only [Bool.not_true]
              refine walk ?_
              refine out_next hK (i + 1, s7) hlt (hs := ?_)
              dsimp only
              rw [← hsn.2 HK]
              exact subA
            | false =>
              have HK : keepE l fl true l[i] := .inr ⟨hnw, by simp [hd]⟩
              simp only [Bool.not_false]
              refine walk ?_
              refine ops_ixp rfl rfl hv.1 hlt fun b7 o7 c7 m1 m2 => ?_
              obtain ⟨rfl, -⟩ := m2
              refine ops_ldNH rfl rfl m1 rfl ?_
              refine ops_app1 (y := l[i]) rfl rfl rfl ⟨rfl, hoi⟩ (by omega) fun b6 cap => ?_
              refine walk ?_
              refine out_next hK (i + 1, .slice b6 (out.length + 1) cap) hlt (hs := ?_)
              dsimp only
              rw [← hsn.1 HK]
              exact subA
        · rw [decide_eq_false hq]
          have HK : ¬ keepE l fl bt l[i] := fun h => by
            rcases h with h | ⟨h, _⟩
            · exact hf h
            · have h1 := h.2 e hg.1 hg.2.1 hg.2.2.1
              have h2 := hg.2.2.2 l[i] (List.getElem_mem hlt) hg.2.1.symm (Int.not_lt.1 hf)
              exact hq (show e.Seq = l[i].Seq by omega)
          refine walk ?_
          refine out_next hK (i + 1, s7) hlt (hs := ?_)
          dsimp only
          rw [← hsn.2 HK]
          exact subA
  · refine walk ?_
    have e : l.take i = l := List.take_of_length_le (by omega)
    rw [e]
    refine out_freeze s7 fun H' hl q => ?_
    refine fin0 ?_
    exact ⟨q, rfl⟩
theorem samePairs_spec {W0 : GW} {H : Heap} {v1 v2 : Value} {l1 l2 : List Pair} (h1 : PB H v1 l1) (h2 : PB H v2 l2) : Ct Try.prog 20 #[v1, v2] W0 H [] (fun r H' B => r = .bool (decide (l1 = l2)) ∧ B = [] ∧ H' = H) := by
  refine Ct.go (vs := [_, _]) fun R => ?_
  have s1 := h1.2
  have s2 := h2.2
  simp only [cap47] at s1 s2
  obtain ⟨b1, c1, rfl, k1, k1'⟩ := h1.1.shape
  obtain ⟨b2, c2, rfl, k2, k2'⟩ := h2.1.shape
  refine walk ?_
  refine ex_if rfl (fun h => ?_) (fun h => ?_)
  · refine walk ?_
    refine fin0 ?_
    exact ⟨by rw [decide_eq_false]; rintro rfl; exact h rfl, rfl, rfl⟩
  · have hl : l1.length = l2.length := by omega
    refine walk ?_
    refine ex_loop (fun i : Nat => i ≤ l1.length ∧ l1.take i = l2.take i) (fun i => [(13, .int .i64 i), (12, .int .i64 l1.length), (0, .slice b1 l1.length c1), (1, .slice b2 l2.length c2)]) (fun _ => H) (fun _ => R) (fun i => l1.length - i) 0 ⟨Nat.zero_le _, by simp⟩ fun i ⟨hi, hI⟩ K hK => ?_
    by_cases hlt : i < l1.length
    · have hlt2 : i < l2.length := by omega
      refine walk ?_
      refine ops_ixp rfl rfl h1.1 hlt fun x1 o1 d1 p1 p2 => ?_
      obtain ⟨rfl, -⟩ := p2
      refine ops_ldNH rfl rfl p1 rfl ?_
      refine walk ?_
      refine ops_ixp rfl rfl h2.1 hlt2 fun x2 o2 d2 q1 q2 => ?_
      obtain ⟨rfl, -⟩ := q2
      refine ops_ldNH rfl rfl q1 rfl ?_
      refine ops_neS (ok := okPq) (p := l1[i] = l2[i]) rfl rfl rfl ⟨_, _, rfl, rfl⟩ cvP_inj.symm ?_
      refine walk ?_
      refine ex_if rfl (fun hne => ?_) (fun heq => ?_)
      · refine walk ?_
        refine fin0 ?_
        exact ⟨by rw [decide_eq_false]; rintro rfl; exact hne rfl, rfl, rfl⟩
      · refine walk ?_
        refine out_next hK (i + 1) ⟨hlt, ?_⟩
        rw [List.take_succ_eq_append_getElem hlt, List.take_succ_eq_append_getElem hlt2, hI, Decidable.not_not.1 heq]
    · refine walk ?_
      refine fin0 ?_
      refine ⟨by rw [decide_eq_true]; have e : i = l1.length := by omega
                 subst e; rw [List.take_length, hl, List.take_length] at hI; exact hI, rfl, rfl⟩
end Go.Proofs.Ytjkiioicjmaeoaa
