/- The document's merge. -/
import Derived.Test.YtjkiioicjmaeoaaJPM
import Derived.Test.YtjkiioicjmaeoaaJZL
set_option linter.unusedVariables false
set_option linter.unusedSimpArgs false
namespace Go.Proofs.Ytjkiioicjmaeoaa
open Go Go.Sx Go.X Go.Proofs
def hasE (l : List Entry) (e : Entry) : Bool := l.any fun y => decide (Eqv y e)
theorem has_spec {W0 : GW} {H : Heap} {v : Value} {l : List Entry} {e : Entry} (hv : LB H v l) : Ct Try.prog 31 #[v, vE e] W0 H [] (fun r H' B => r = .bool (hasE l e) ∧ B = [] ∧ H' = H) := by
  refine Ct.go (vs := [_, _]) fun R => ?_
  have hsz := hv.len
  simp only [cap47] at hsz
  obtain ⟨b0, c0, rfl, hc0, hd0⟩ := hv.1.shape
  refine walk ?_
  refine ops_box rfl rfl fun p _ => ?_
  refine walk ?_
  refine ex_loop (fun i : Nat => i ≤ l.length ∧ ∀ j (h : j < l.length), j < i → ¬ Eqv l[j] e) (fun i => [(5, .int .i64 i), (3, .pointer (some ⟨p, 0, none⟩)), (0, .slice b0 l.length c0)]) (fun _ => H) (fun _ => row p 37 e.cv :: R) (fun i => l.length - i) 0 ⟨Nat.zero_le _, fun j h hj => by omega⟩ fun i ⟨hi, hI⟩ K hK => ?_
  by_cases hlt : i < l.length
  · refine walk ?_
    refine ops_ixp rfl rfl hv.1 hlt fun b1 o1 c1 h1 h2 => ?_
    obtain ⟨rfl, -⟩ := h2
    refine walk ?_
    by_cases hk : l[i].Key = e.Key
    · rw [decide_eq_true hk]
      refine walk ?_
      refine ops_ixp rfl rfl hv.1 hlt fun b2 o2 c2 h3 h4 => ?_
      obtain ⟨rfl, -⟩ := h4
      refine walk ?_
      refine ex_if rfl (fun hs => ?_) (fun hs => ?_)
      · refine walk ?_
        refine fin0 ?_
        refine ⟨?_, rfl, rfl⟩
        congr 1
        exact (List.any_eq_true.2 ⟨l[i], List.getElem_mem hlt, by simpa using (show Eqv l[i] e from ⟨hk, hs⟩)⟩).symm
      · refine walk ?_
        exact out_next hK (i + 1) ⟨hlt, fun j h hj he => by
          by_cases e1 : j = i
          · subst e1; exact hs he.2
          · exact hI j h (by omega) he⟩
    · rw [decide_eq_false hk]
      refine walk ?_
      exact out_next hK (i + 1) ⟨hlt, fun j h hj he => by
        by_cases e1 : j = i
        · subst e1; exact hk he.1
        · exact hI j h (by omega) he⟩
  · refine walk ?_
    refine fin0 ?_
    refine ⟨?_, rfl, rfl⟩
    congr 1
    rw [Eq.comm]
    unfold hasE
    rw [List.any_eq_false]
    intro y hy
    obtain ⟨j, hj, rfl⟩ := List.getElem_of_mem hy
    simpa using hI j hj (by omega)
theorem tot_flat (ls : List (List Entry)) : tot ls = ls.flatten.length := by unfold tot; rw [List.length_flatten]
def seenM (ls : List (List Entry)) (i j : Nat) : List Entry := (ls.take i).flatten ++ (ls.getD i []).take j
theorem seenM_next {ls : List (List Entry)} {i j : Nat} (hi : i < ls.length) (hj : j < ls[i].length) : seenM ls i (j + 1) = seenM ls i j ++ [ls[i][j]] := by
  have : ls.getD i [] = ls[i] := by simp [List.getD, hi]
  unfold seenM
  rw [this, List.take_succ_eq_append_getElem hj, List.append_assoc]
theorem seenM_list {ls : List (List Entry)} {i j : Nat} (hi : i < ls.length) (hj : j = ls[i].length) : seenM ls i j = seenM ls (i + 1) 0 := by
  have : ls.getD i [] = ls[i] := by simp [List.getD, hi]
  unfold seenM
  rw [this, hj, List.take_length, List.take_zero, List.append_nil, List.take_succ_eq_append_getElem hi]
  simp only [List.flatten_append, List.flatten_cons, List.flatten_nil, List.append_nil]
theorem seenM_len {ls : List (List Entry)} {i j : Nat} (hi : i < ls.length) (hj : j < ls[i].length) : (seenM ls i j).length < tot ls := by
  have : ls.getD i [] = ls[i] := by simp [List.getD, hi]
  rw [tot_flat]
  unfold seenM
  rw [this]
  have e : ls.flatten = (ls.take i).flatten ++ (ls[i] ++ (ls.drop (i + 1)).flatten) := by
    calc ls.flatten = (ls.take i ++ (ls[i] :: ls.drop (i + 1))).flatten := by rw [List.getElem_cons_drop, List.take_append_drop]
      _ = _ := by rw [List.flatten_append, List.flatten_cons]
  rw [e]
  simp only [List.length_append, List.length_take]
  omega
theorem ins_len (out : List Entry) (e : Entry) : (ins out e).length ≤ out.length + 1 := by
  unfold ins
  split
  · omega
  · have := congrArg List.length (List.takeWhile_append_dropWhile (p := fun y => decide (Bef y e)) (l := out))
    simp only [List.length_append, List.length_cons] at this ⊢
    omega
theorem refM_len (xs : List Entry) : (refM xs).length ≤ xs.length := by
  have key : ∀ (ys out : List Entry), (ys.foldl ins out).length ≤ out.length + ys.length := by
    intro ys
    induction ys with
    | nil => intro out; simp
    | cons y ys ih => intro out; have := ih (ins out y); have := ins_len out y; simp only [List.foldl_cons, List.length_cons]; omega
  have := key xs []
  simpa [refM] using this
theorem refM_snoc (xs : List Entry) (e : Entry) : refM (xs ++ [e]) = ins (refM xs) e := by simp [refM]
theorem ins_at {out : List Entry} {e : Entry} {n : Nat} (hn : n ≤ out.length) (h1 : ∀ j (h : j < out.length), j < n → Bef out[j] e) (h2 : ∀ h : n < out.length, ¬ Bef out[n] e) (hno : hasE out e = false) : ins out e = out.take n ++ [e] ++ out.drop n := by
  unfold ins
  unfold hasE at hno
  rw [hno]
  have key : ∀ (out : List Entry) (n : Nat), n ≤ out.length → (∀ j (h : j < out.length), j < n → Bef out[j] e) → (∀ h : n < out.length, ¬ Bef out[n] e) → out.takeWhile (fun y => decide (Bef y e)) = out.take n ∧ out.dropWhile (fun y => decide (Bef y e)) = out.drop n := by
    intro out
    induction out with
    | nil => intro n hn _ _; simp at hn; subst hn; simp
    | cons a t ih =>
      intro n hn h1 h2
      cases n with
      | zero =>
        have := h2 (by simp)
        simp only [List.getElem_cons_zero] at this
        simp [this]
      | succ n =>
        have ha : Bef a e := by have := h1 0 (by simp) (by omega); simpa using this
        obtain ⟨i1, i2⟩ := ih n (by simpa using hn) (fun j h hj => by have := h1 (j + 1) (by simpa using h) (by omega); simpa using this) (fun h => by have := h2 (by simpa using h); simpa using this)
        simp [ha, i1, i2]
  obtain ⟨k1, k2⟩ := key out n hn h1 h2
  simp only [Bool.false_eq_true, if_false]
  rw [k1, k2]; simp
set_option maxHeartbeats 4000000 in
theorem rMerge_spec {W0 : GW} {H : Heap} {v : Value} {ls : List (List Entry)} (hv : LsB H v ls) (htot : tot ls * 48 ≤ cap47) : Ct Try.prog 13 #[v] W0 H [] (fun r H' B => LB H' r (refM ls.flatten) ∧ B = []) := by
  refine Ct.go (vs := [_]) fun R => ?_
  have hlens := hv.lens
  have hsz := hv.2
  have hok : ∀ l ∈ ls, ∀ e ∈ l, okE e := fun l hl => (hv.1.all (p := fun l => ∀ e ∈ l, okE e) (fun H c x ⟨v, _, h⟩ => h.1.all fun _ _ _ h => h.2)) l hl
  obtain ⟨b0, c0, rfl, hc0, hd0⟩ := hv.1.shape
  refine walk ?_
  refine ex_L (L' := ownS rEntry 4 48 37 H (.slice none 0 0) [] :: R) ownS_nil ?_
  refine ex_loop (fun s : Nat × Value => s.1 ≤ ls.length) (fun s => [(4, .int .i64 s.1), (3, s.2), (0, .slice b0 ls.length c0)]) (fun _ => H) (fun s => ownS rEntry 4 48 37 H s.2 (refM (seenM ls s.1 0)) :: R) (fun s => ls.length - s.1) (0, .slice none 0 0) (Nat.zero_le _) (fun ⟨i, s3⟩ hi K hK => ?_) (hs0 := .refl _)
  simp only at hi
  dsimp only
  by_cases hlt : i < ls.length
  · refine walk ?_
    refine ex_loop (fun s : Nat × Value => s.1 ≤ ls[i].length) (fun s => [(5, .int .i64 s.1), (4, .int .i64 i), (3, s.2), (0, .slice b0 ls.length c0)]) (fun _ => H) (fun s => ownS rEntry 4 48 37 H s.2 (refM (seenM ls i s.1)) :: R) (fun s => ls[i].length - s.1) (0, s3) (Nat.zero_le _) (fun ⟨j, s4⟩ hj K2 hK2 => ?_) (hs0 := .refl _)
    simp only at hj
    dsimp only
    have hln := hlens _ (List.getElem_mem hlt)
    simp only [cap47] at hln
    refine walk ?_
    refine ops_ixp rfl rfl hv.1 hlt fun b1 o1 c1 h1 h2 => ?_
    obtain ⟨v1, rfl, h2⟩ := h2
    obtain ⟨vb, vc, rfl, _, _⟩ := h2.1.shape
    refine ops_ldH0 rfl rfl h1 rfl ?_
    by_cases hjt : j < ls[i].length
    · refine walk ?_
      refine ops_ixp rfl rfl hv.1 hlt fun b2 o2 c2 h3 h4 => ?_
      obtain ⟨v2, rfl, h4⟩ := h4
      obtain ⟨vb2, vc2, rfl, _, _⟩ := h4.1.shape
      refine ops_ldH0 rfl rfl h3 rfl ?_
      refine walk ?_
      refine ops_ixp rfl rfl h4.1 hjt fun b3 o3 c3 h5 h6 => ?_
      obtain ⟨rfl, -⟩ := h6
      refine ops_ldNH rfl rfl h5 rfl ?_
      refine ops_alloc rfl fun p6 _ => ?_
      refine walk ?_
      generalize he : ls[i][j] = e
      have heok : okE e := by rw [← he]; exact hok _ (List.getElem_mem hlt) _ (List.getElem_mem hjt)
      have hslen := seenM_len hlt hjt
      have hrl := refM_len (seenM ls i j)
      have hnext : refM (seenM ls i (j + 1)) = ins (refM (seenM ls i j)) e := by rw [seenM_next hlt hjt, refM_snoc, he]
      generalize hout : refM (seenM ls i j) = out at hrl hnext ⊢
      refine ops_know (.there .here) (fun h ho => ownS_shape ho) fun ⟨ob, oc, e4, k1, k2⟩ => ?_
      subst e4
      refine ops_lendS (.slice ob out.length oc) fun D o1 d1 l1 hsl0 => ?_
      refine ops_call rfl rfl (has_spec hsl0) fun r H' B hl ⟨er, eB, eH⟩ => ?_
      subst er eB eH
      refine ops_back o1 d1 (.refl _) ?_
      have hosz := hsl0.2
      clear hsl0
      cases hh : hasE out e with
      | true =>
        refine walk ?_
        refine out_next hK2 (j + 1, .slice ob out.length oc) hjt (hs := ?_)
        dsimp only
        have : ins out e = out := by unfold ins; unfold hasE at hh; rw [hh]; rfl
        rw [hnext, this]
        exact .cons (.drop (.refl _))
      | false =>
        refine walk ?_
        refine ex_L (L' := ownS rEntry 4 48 37 H (.slice none 0 0) [] :: ownS rEntry 4 48 37 H (.slice ob out.length oc) out :: row p6 37 e.cv :: R) ownS_nil ?_
        refine ex_loop (fun s : Nat × Value => s.1 ≤ out.length ∧ ∀ j (h : j < out.length), j < s.1 → Bef out[j] e) (fun s => [(8, .int .i64 s.1), (7, s.2), (6, .pointer (some ⟨p6, 0, none⟩)), (5, .int .i64 j), (4, .int .i64 i), (3, .slice ob out.length oc), (0, .slice b0 ls.length c0)]) (fun _ => H) (fun s => ownS rEntry 4 48 37 H s.2 (out.take s.1) :: ownS rEntry 4 48 37 H (.slice ob out.length oc) out :: row p6 37 e.cv :: R) (fun s => out.length - s.1) (0, .slice none 0 0) ⟨Nat.zero_le _, fun j h hj => by omega⟩ (fun ⟨n, s7⟩ ⟨g1, g2⟩ K3 hK3 => ?_) (hs0 := .refl _)
        simp only at g1 g2
        dsimp only
        refine ex_lendS (.slice ob out.length oc) fun D2 o2 d2 l2 hsl => ?_
        have hol : out.length + 1 ≤ tot ls := by omega
        have hcap0 : (out.length + 1) * 48 ≤ cap47 := Nat.le_trans (Nat.mul_le_mul_right 48 hol) htot
        have hcap1 : ((out.take n).length + 1) * 48 ≤ cap47 := by simp only [List.length_take]; omega
        have hcap2 : ((out.take n ++ [e]).length + (out.drop n).length) * 48 ≤ cap47 := by simp only [List.length_append, List.length_take, List.length_drop, List.length_cons, List.length_nil]; omega
        by_cases hn : n < out.length
        · refine walk ?_
          refine ops_ixp rfl rfl hsl.1 hn fun b5 o5 c5 h7 h8 => ?_
          obtain ⟨rfl, h8⟩ := h8
          refine ops_ldNH rfl rfl h7 rfl ?_
          refine walk ?_
          refine ops_pcall rfl rfl rBefore_spec ?_
          refine walk ?_
          refine ex_if rfl (fun hb => ?_) (fun hb => ?_)
          · refine walk ?_
            refine ops_ixp rfl rfl hsl.1 hn fun b6 o6 c6 h9 h10 => ?_
            obtain ⟨rfl, h10⟩ := h10
            refine ops_ldNH rfl rfl h9 rfl ?_
            refine ops_app1 (y := out[n]) rfl rfl rfl ⟨rfl, h10⟩ hcap1 (fun b7 cap7 => ?_) (hl := l2)
            refine walk ?_
            refine out_back o2 d2 (.refl _) ?_
            refine out_next hK3 (n + 1, .slice b7 _ cap7) ⟨hn, fun j h hj => ?_⟩ (hs := ?_)
            · by_cases e1 : j = n
              · subst e1; exact hb
              · exact g2 j h (by simp only at hj; omega)
            · dsimp only
              rw [List.take_succ_eq_append_getElem hn]
              refine .trans ?_ (sub_flat (union H D2) H)
              exact subA
          · refine walk ?_
            refine ops_app1 (y := e) rfl rfl rfl ⟨rfl, heok⟩ hcap1 fun b7 cap7 => ?_
            refine walk ?_
            refine ops_pure rfl rfl (op_slice (l := n) (h := out.length) (sz := 4) rfl rfl rfl (by omega) (by omega) (by omega)) ?_
            have hsc := hsl.1.slc (l := n) (h := out.length) g1 (Nat.le_refl _)
            rw [show (out.drop n).take (out.length - n) = out.drop n by rw [List.take_of_length_le (by simp)]] at hsc
            refine ops_appS rfl rfl (by simpa using hsc) hcap2 fun b8 cap8 => ?_
            refine walk ?_
            refine out_back o2 d2 (.refl _) ?_
            refine out_next hK2 (j + 1, .slice b8 _ cap8) hjt (hs := ?_)
            dsimp only
            rw [hnext, ins_at (n := n) g1 g2 (fun _ => hb) hh]
            refine .trans ?_ (sub_flat (union H D2) H)
            exact .drop (.cons (.drop (.refl _)))
        · refine walk ?_
          refine ops_app1 (y := e) rfl rfl rfl ⟨rfl, heok⟩ hcap1 fun b7 cap7 => ?_
          refine walk ?_
          refine ops_pure rfl rfl (op_slice (l := n) (h := out.length) (sz := 4) rfl rfl rfl (by omega) (by omega) (by omega)) ?_
          have hsc := hsl.1.slc (l := n) (h := out.length) g1 (Nat.le_refl _)
          rw [show (out.drop n).take (out.length - n) = out.drop n by rw [List.take_of_length_le (by simp)]] at hsc
          refine ops_appS rfl rfl (by simpa using hsc) hcap2 fun b8 cap8 => ?_
          refine walk ?_
          refine out_back o2 d2 (.refl _) ?_
          refine out_next hK2 (j + 1, .slice b8 _ cap8) hjt (hs := ?_)
          dsimp only
          rw [hnext, ins_at (n := n) g1 g2 (fun h => absurd h hn) hh]
          refine .trans ?_ (sub_flat (union H D2) H)
          exact .drop (.cons (.drop (.refl _)))
    · refine walk ?_
      rw [seenM_list hlt (j := j) (by omega)]
      exact out_next hK (i + 1, s4) hlt (hs := .refl _)
  · refine walk ?_
    have e : refM (seenM ls i 0) = refM ls.flatten := by
      have : i = ls.length := by omega
      subst this
      simp [seenM]
    rw [e]
    refine out_freeze s3 fun H' hl q => ?_
    refine fin0 ?_
    exact ⟨q, rfl⟩
end Go.Proofs.Ytjkiioicjmaeoaa
