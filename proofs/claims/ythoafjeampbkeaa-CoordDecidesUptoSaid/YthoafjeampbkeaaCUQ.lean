/- How many have voted for a transaction; is it over? -/
import Derived.Test.YthoafjeampbkeaaCTF
import Derived.Test.YthoafjeampbkeaaCUM
set_option linter.unusedVariables false
set_option linter.unusedSimpArgs false
namespace Go.Proofs.Ythoafjeampbkeaa
open Go Go.Sx Go.Proofs
/-- a coordinator behind k moves, no reference beside it -/
structure DI (k : Nat) (node : Int) (s : CS) : Prop where
  I : CInv k s
  pl : ∀ key t, mget key s.ts = some t → t.parts.length ≤ 8
  nd : s.node = node
theorem DI.begin {k : Nat} {node : Int} {s s' : CS} {now : Int} {l : List Work} {x : Txn} {out : List Message} {e : Int} (h : DI k node s) (hk : k ≤ 1000) (hl : l.length ≤ 8) (hnow : fits now) (a : BegA s now l x out e s') : DI (k + 1) node s' := by
  have hn := beg_node a
  obtain ⟨ws, hws, a⟩ := a
  have hwf : ws.map (·.1) = (works0 0 l).map (·.1) := works0_map hws
  have hI := CInv.begin h.I (ws := ws) (now := now) hws (by omega) hnow (by omega)
  rcases a with ⟨hw, rfl, rfl, rfl, rfl⟩ | ⟨hw, rfl, rfl, rfl, rfl⟩
  · exact ⟨h.I.more (Nat.le_succ _), h.pl, h.nd⟩
  · refine ⟨hI, fun key t hg => ?_, hn.trans h.nd⟩
    unfold beginS at hg
    rw [if_neg hw] at hg
    have hg' : mget key (mset (newX s).k (beganT now ws) s.ts) = some t := hg
    rw [mget_mset] at hg'
    split at hg'
    · cases hg'
      show (ws.map (·.1)).length ≤ 8
      rw [hwf, List.length_map]
      exact Nat.le_trans works0_len hl
    · exact h.pl _ _ hg'
theorem DI.hear {k : Nat} {node : Int} {s : CS} {m : Message} (h : DI k node s) : DI (k + 1) node (cHear s m).s :=
  ⟨(h.I.hear).more (Nat.le_succ _), fun key t hg => by obtain ⟨t0, hg0, e⟩ := hear_parts h.I hg; rw [e]; exact h.pl _ _ hg0, hear_node.trans h.nd⟩
theorem DI.step {k : Nat} {node : Int} {s : CS} {now : Int} (h : DI k node s) : DI (k + 1) node (stepS s now) :=
  ⟨(h.I.step).more (Nat.le_succ _), fun key t hg => h.pl _ _ ((stepS_get h.I).1 hg).1, h.nd⟩
theorem DI.more {k k' : Nat} {node : Int} {s : CS} (h : DI k node s) (hk : k ≤ k') : DI k' node s := ⟨h.I.more hk, h.pl, h.nd⟩
theorem againL_len {n : Int} {x : Txn} {t : TX} : (againL n x t).length ≤ t.parts.length := by unfold againL; rw [List.length_map]; exact List.length_filter_le _ _
theorem noL_len {n : Int} {x : Txn} {t : TX} : (noL n x t).length = t.parts.length := by unfold noL; rw [List.length_map]
theorem flat_len {α β : Type} {f : α → List β} {c : Nat} : ∀ {l : List α}, (∀ a ∈ l, (f a).length ≤ c) → (l.flatMap f).length ≤ c * l.length
  | [], _ => by simp
  | a :: l, h => by
    rw [List.flatMap_cons, List.length_append, List.length_cons, Nat.mul_add, Nat.mul_one]
    have h1 := h a (List.mem_cons_self ..)
    have h2 := flat_len (l := l) fun b hb => h b (List.mem_cons_of_mem _ hb)
    omega
theorem DI.step_len {k : Nat} {node : Int} {s : CS} {now : Int} (h : DI k node s) : (stepOut s now).length ≤ 8 * k := by
  unfold stepOut
  refine Nat.le_trans (flat_len (c := 8) fun a ha => ?_) ?_
  · rw [mem_allC] at ha
    cases hg : mget a s.ts with
    | none => rw [hg] at ha; cases ha
    | some t =>
      have := h.pl _ _ hg
      unfold stepOut1
      rw [hg, Option.getD_some]
      split
      · rw [noL_len]; exact this
      · exact Nat.le_trans againL_len this
  · rw [allC_len]; exact Nat.mul_le_mul_left _ h.I.ln
theorem DI.hear_len {k : Nat} {node : Int} {s : CS} {m : Message} (h : DI k node s) : (cHear s m).out.length ≤ 8 := by
  unfold cHear
  split
  · simp
  split
  · simp
  split
  · next hc => rw [noL_len]; exact h.pl _ _ (CS.get_tx hc.2.1.1)
  split
  · next hc =>
    split
    · simp
    · exact Nat.le_trans againL_len (show (s.tx m.Txn).parts.length ≤ 8 from h.pl _ _ (CS.get_tx hc.2.1.1))
  split
  · split <;> simp
  · simp
theorem cap7d {k : Nat} {node : Int} {s : CS} (h : DI k node s) : ∀ key t, mget key s.ts = some t → t.parts.length * 8 ≤ cap47 := fun key t hg => by have := h.pl key t hg; simp only [cap47]; omega
theorem cap8d {k : Nat} {node : Int} {s : CS} (h : DI k node s) : ∀ key t, mget key s.ts = some t → t.parts.length ≤ 1000000 := fun key t hg => by have := h.pl key t hg; omega
/-- the first k of the votes hold none of this one's -/
def newV (x : Txn) (p : Int) (l : List Message) : Bool := l.all fun v => !(decide (v.Txn = x) && decide (v.From = p))
theorem newV_snoc {x : Txn} {p : Int} {l : List Message} {j : Nat} (hj : j < l.length) : newV x p (l.take (j + 1)) = (newV x p (l.take j) && !(decide (l[j].Txn = x) && decide (l[j].From = p))) := by
  unfold newV
  rw [List.take_succ_eq_append_getElem hj, List.all_append]; simp
theorem newV_iff {x : Txn} {p : Int} {l : List Message} : newV x p l = true ↔ ∀ v ∈ l, ¬ (v.Txn = x ∧ v.From = p) := by
  unfold newV
  rw [List.all_eq_true]
  refine forall_congr' fun v => forall_congr' fun _ => ?_
  by_cases h1 : v.Txn = x <;> by_cases h2 : v.From = p <;> simp [h1, h2]
theorem voters_app {x : Txn} : ∀ {l pre : List Message} {m : Message}, votersL x pre (l ++ [m]) = votersL x pre l ++ (if m.Txn = x ∧ ∀ v ∈ pre ++ l, ¬ (v.Txn = x ∧ v.From = m.From) then [m.From] else [])
  | [], pre, m => by simp [votersL]
  | a :: l, pre, m => by
    rw [List.cons_append]
    unfold votersL
    rw [voters_app (l := l), List.append_assoc]
    simp only [List.append_assoc, List.singleton_append]
theorem voters_snoc {x : Txn} {l : List Message} {j : Nat} (hj : j < l.length) : votersN x (l.take (j + 1)) = votersN x (l.take j) + (if (newV x l[j].From (l.take j) && decide (l[j].Txn = x)) = true then 1 else 0) := by
  unfold votersN
  rw [List.take_succ_eq_append_getElem hj, voters_app, List.length_append, List.nil_append]
  congr 1
  by_cases h : l[j].Txn = x ∧ ∀ v ∈ l.take j, ¬ (v.Txn = x ∧ v.From = l[j].From)
  · rw [if_pos h, if_pos (by rw [Bool.and_eq_true, newV_iff]; exact ⟨h.2, decide_eq_true h.1⟩)]; rfl
  · rw [if_neg h, if_neg (fun hh => h (by rw [Bool.and_eq_true, newV_iff] at hh; exact ⟨of_decide_eq_true hh.2, hh.1⟩))]; rfl
theorem voters_le {x : Txn} {l : List Message} : ∀ {j : Nat}, j ≤ l.length → votersN x (l.take j) ≤ j
  | 0, _ => by simp [votersN, votersL]
  | j + 1, h => by
    rw [voters_snoc (by omega)]
    have := voters_le (x := x) (l := l) (j := j) (by omega)
    split <;> omega
set_option maxHeartbeats 8000000 in
set_option maxRecDepth 20000 in
theorem from_spec {W0 : World} {H : Heap} {v : Value} {votes : List Message} {x : Txn} (h0 : SlR rMessage 19 H v votes) :
    Ct Try.prog 19 #[v, .agg (Txn.cv x).toArray] W0 H [] (fun r H' B => r = I (votersN x votes) ∧ B = [] ∧ H' = H) := by
  refine Ct.go (vs := [v, .agg (Txn.cv x).toArray]) fun R => ?_
  obtain ⟨b0, c0, rfl, hc0, hd0⟩ := h0.shape
  obtain ⟨x1, x2, x3⟩ := x
  refine walk ?_
  refine ops_box rfl rfl fun p3 _ => ?_
  refine walk ?_
  refine ex_loop (σ := Nat) (fun k => k ≤ votes.length) (fun k => [(0, .slice b0 votes.length c0), (3, .pointer (some ⟨p3, 0, none⟩)), (5, I (votersN ⟨x1, x2, x3⟩ (votes.take k))), (10, .slice b0 votes.length c0), (11, I votes.length), (12, I k)]) (fun _ => H) (fun _ => row p3 28 [I x1, I x2, I x3] :: R) (fun k => votes.length - k) 0 (Nat.zero_le _) fun k hk0 K hL => ?_
  refine walk ?_
  refine ex_if rfl (fun hk => ?_) (fun hk => ?_)
  · have hk1 : k < votes.length := by omega
    have hvl := voters_le (x := ⟨x1, x2, x3⟩) (l := votes) hk0
    have hsn := voters_snoc (x := ⟨x1, x2, x3⟩) hk1
    obtain ⟨m, hm⟩ : ∃ m, votes[k] = m := ⟨_, rfl⟩
    rw [hm] at hsn
    refine walk ?_
    refine ops_ixp rfl rfl h0 hk1 fun ba oa ca ra ea => ?_
    rw [hm] at ea
    obtain ⟨u1, u2, u3, u4, rfl, _, _, _, _, _, _, _, g1, g2, _, _, _, _, g3, _, _, _, g4⟩ := ea
    obtain ⟨ub1, uc1, rfl, _, _⟩ := g1.1.shape
    obtain ⟨ub2, uc2, rfl, _, _⟩ := g2.1.shape
    obtain ⟨ub3, uc3, rfl, _, _⟩ := g3.1.shape
    obtain ⟨ub4, uc4, rfl, _, _⟩ := g4.1.shape
    clear g1 g2 g3 g4
    obtain ⟨mf, mt, mk, ⟨m1, m2, m3⟩, mw, my, mi, mc, mr⟩ := m
    refine walk ?_
    refine ops_ldNH rfl rfl ra rfl ?_
    refine walk ?_
    refine ops_alloc rfl fun p7 _ => ?_
    refine walk ?_
    refine ex_loop (σ := Nat) (fun i => i ≤ k) (fun i => [(0, .slice b0 votes.length c0), (3, .pointer (some ⟨p3, 0, none⟩)), (5, I (votersN ⟨x1, x2, x3⟩ (votes.take k))), (10, .slice b0 votes.length c0), (11, I votes.length), (12, I k), (6, I k), (7, .pointer (some ⟨p7, 0, none⟩)), (8, .bool (newV ⟨x1, x2, x3⟩ mf (votes.take i) && decide ((⟨m1, m2, m3⟩ : Txn) = ⟨x1, x2, x3⟩))), (9, I i)]) (fun _ => H) (fun _ => row p7 53 (cvM (ub1, uc1) (ub2, uc2) (ub3, uc3) (ub4, uc4) ⟨mf, mt, mk, ⟨m1, m2, m3⟩, mw, my, mi, mc, mr⟩) :: row p3 28 [I x1, I x2, I x3] :: R) (fun i => k - i) 0 (Nat.zero_le _) (hf0 := ?_) fun i hi0 K2 hL2 => ?_
    rotate_left
    · dsimp only
      repeat (first | exact fsub_nil _ | refine fsub_cons rfl ?_)
    refine walk ?_
    refine ex_if rfl (fun hi => ?_) (fun hi => ?_)
    · have hi1 : i < votes.length := by omega
      have hik : i < k := by omega
      have hsv := newV_snoc (x := ⟨x1, x2, x3⟩) (p := mf) hi1
      generalize hb : (newV ⟨x1, x2, x3⟩ mf (votes.take i) && decide ((⟨m1, m2, m3⟩ : Txn) = ⟨x1, x2, x3⟩)) = b
      have hnx : (newV ⟨x1, x2, x3⟩ mf (votes.take (i + 1)) && decide ((⟨m1, m2, m3⟩ : Txn) = ⟨x1, x2, x3⟩)) = (b && !(decide (votes[i].Txn = ⟨x1, x2, x3⟩) && decide (votes[i].From = mf))) := by rw [hsv, ← hb, Bool.and_right_comm]
      obtain ⟨w, hw⟩ : ∃ w, votes[i] = w := ⟨_, rfl⟩
      rw [hw] at hnx
      cases b with
      | false =>
        rw [Bool.false_and] at hnx
        refine walk ?_
        refine out_next hL2 (i + 1) (by omega) (hf := ?_)
        rw [hnx]
        repeat (first | exact fsub_nil _ | refine fsub_cons rfl ?_)
      | true =>
        rw [Bool.true_and] at hnx
        obtain ⟨wf, wt, wk, ⟨w1, w2, w3⟩, ww, wy, wi, wc, wr⟩ := w
        refine walk ?_
        refine ops_ixp rfl rfl h0 hi1 fun bb ob cb rb eb => ?_
        rw [hw] at eb
        obtain ⟨z1, z2, z3, z4, rfl, _⟩ := eb
        have rt : HRow H bb (ob + 3) [I w1, I w2, I w3] := HRow.take (k := 3) (HRow.drop (k := 3) rb)
        refine walk ?_
        refine ops_ldNH rfl rfl rt rfl ?_
        by_cases e1 : (⟨w1, w2, w3⟩ : Txn) = ⟨x1, x2, x3⟩
        · rw [decide_eq_true e1, Bool.true_and] at hnx
          obtain ⟨rfl, rfl, rfl⟩ := (by simpa using e1 : w1 = x1 ∧ w2 = x2 ∧ w3 = x3)
          refine walk ?_
          refine ops_ixp rfl rfl h0 hi1 fun bd od cd rd ed => ?_
          rw [hw] at ed
          obtain ⟨y1, y2, y3, y4, rfl, _⟩ := ed
          change HRow H bd od [I wf, I wt, I wk, I w1, I w2, I w3, I ww.Robot, y1, y2, .bool wy, I wi, I wc.Verb, I wc.Epoch, I wc.Route.Start, y3, I wr.Code, I wr.Epoch, I wr.Route.Start, y4] at rd
          by_cases e2 : wf = mf
          · rw [decide_eq_true e2] at hnx
            refine walk ?_
            refine out_next hL2 (i + 1) (by omega) (hf := ?_)
            rw [hnx]
            repeat (first | exact fsub_nil _ | refine fsub_cons rfl ?_)
          · rw [decide_eq_false e2] at hnx
            refine walk ?_
            refine out_next hL2 (i + 1) (by omega) (hf := ?_)
            rw [hnx]
            repeat (first | exact fsub_nil _ | refine fsub_cons rfl ?_)
        · rw [decide_eq_false e1, Bool.false_and] at hnx
          have e1' : ¬ (w1 = x1 ∧ w2 = x2 ∧ w3 = x3) := by simpa using e1
          refine walk ?_
          refine out_next hL2 (i + 1) (by omega) (hf := ?_)
          rw [hnx]
          repeat (first | exact fsub_nil _ | refine fsub_cons rfl ?_)
    · obtain rfl : i = k := by omega
      clear hL2
      dsimp only at hsn
      generalize hb : (newV ⟨x1, x2, x3⟩ mf (votes.take i) && decide ((⟨m1, m2, m3⟩ : Txn) = ⟨x1, x2, x3⟩)) = b at hsn ⊢
      cases b with
      | false =>
        rw [if_neg (by decide), Nat.add_zero] at hsn
        refine walk ?_
        refine out_next hL (i + 1) (by omega) (hf := ?_)
        rw [hsn]
        repeat (first | exact fsub_nil _ | refine fsub_cons rfl ?_)
      | true =>
        rw [if_pos rfl] at hsn
        refine walk ?_
        refine out_next hL (i + 1) (by omega) (hf := ?_)
        rw [hsn]
        repeat (first | exact fsub_nil _ | refine fsub_cons rfl ?_)
  · obtain rfl : k = votes.length := by omega
    clear hL
    rw [List.take_length]
    refine walk ?_
    refine fin0 ?_
    exact ⟨rfl, rfl, rfl⟩
end Go.Proofs.Ythoafjeampbkeaa
