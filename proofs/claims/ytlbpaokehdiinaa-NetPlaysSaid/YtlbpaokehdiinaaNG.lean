/- Messages held against each other; the reference's Drop and Clear. -/
import Derived.Test.YtlbpaokehdiinaaNF
set_option linter.unusedVariables false
set_option linter.unusedSimpArgs false
namespace Go.Proofs.Ytlbpaokehdiinaa
open Go Go.Sx Go.Proofs
instance {x y : Operand} {a b c a' b' c' : Int} {T' : TypeId} : BOp Try.prog (.binOp .eql 30 x y T') [.agg [I a, I b, I c].toArray, .agg [I a', I b', I c'].toArray] ((⟨a, b, c⟩ : Txn) = ⟨a', b', c'⟩) inferInstance := ⟨fun h => .mk fun _ w hF _ => by
  simp only [execOp, hF.opv (opvs2 h).1, hF.opv (opvs2 h).2]
  simp [go_sem]
  repeat' split
  all_goals simp_all⟩
theorem txn_eta (t : Txn) : (⟨t.Node, t.Life, t.Count⟩ : Txn) = t := rfl
theorem same_spec {W0 : World} {H : Heap} {c d : List Value} {x y : Message} (h0 : rMessage H c x) (h1 : rMessage H d y) :
    Ct Try.prog 16 #[.agg c.toArray, .agg d.toArray] W0 H [] (fun r H' B => r = .bool (decide (x = y)) ∧ B = [] ∧ H' = H) := by
  refine Ct.go fun R => ?_
  obtain ⟨s1, s2, s3, s4, rfl, f1, f2, f3, f4, f5, f6, f7, a1, a2, f8, f9, f10, f11, a3, f12, f13, f14, a4⟩ := h0
  obtain ⟨t1, t2, t3, t4, rfl, g1, g2, g3, g4, g5, g6, g7, b1, b2, g8, g9, g10, g11, b3, g12, g13, g14, b4⟩ := h1
  have hf : ∀ {p : Prop} [Decidable p], ¬ p → (x = y → p) → Value.bool false = .bool (decide (x = y)) := fun h h' => by simp; intro e; exact h (h' e)
  refine walk ?_
  refine ops_box rfl rfl fun p0 _ => ?_
  refine ops_box rfl rfl fun p1 _ => ?_
  by_cases e1 : x.From = y.From
  case neg =>
    refine walk ?_
    refine fin0 ?_
    exact ⟨hf e1 fun e => by rw [e], rfl, rfl⟩
  by_cases e2 : x.To = y.To
  case neg =>
    refine walk ?_
    refine fin0 ?_
    exact ⟨hf e2 fun e => by rw [e], rfl, rfl⟩
  by_cases e3 : x.Kind = y.Kind
  case neg =>
    refine walk ?_
    refine fin0 ?_
    exact ⟨hf e3 fun e => by rw [e], rfl, rfl⟩
  by_cases e4 : x.Txn = y.Txn
  case neg =>
    refine walk ?_
    refine fin0 ?_
    exact ⟨hf e4 fun e => by rw [e], rfl, rfl⟩
  by_cases e5 : x.Yes = y.Yes
  case neg =>
    refine walk ?_
    refine fin0 ?_
    exact ⟨hf e5 fun e => by rw [e], rfl, rfl⟩
  by_cases e6 : x.ID = y.ID
  case neg =>
    refine walk ?_
    refine fin0 ?_
    exact ⟨hf e6 fun e => by rw [e], rfl, rfl⟩
  refine walk ?_
  refine ops_call rfl rfl (sameWork_spec (x := x.Work) (y := y.Work) ⟨s1, s2, rfl, f7, a1, a2⟩ ⟨t1, t2, rfl, g7, b1, b2⟩) fun r H' B hl ⟨e, eB, eH⟩ => ?_
  subst e eB eH
  by_cases e7 : x.Work = y.Work
  case neg =>
    rw [show decide (x.Work = y.Work) = false by simp [e7]]
    refine walk ?_
    refine fin0 ?_
    exact ⟨hf e7 fun e => by rw [e], rfl, rfl⟩
  rw [show decide (x.Work = y.Work) = true by simp [e7]]
  refine walk ?_
  refine ops_call rfl rfl (sameCall_spec (x := x.Call) (y := y.Call) ⟨s3, rfl, f9, f10, f11, a3⟩ ⟨t3, rfl, g9, g10, g11, b3⟩) fun r H' B hl ⟨e, eB, eH⟩ => ?_
  subst e eB eH
  by_cases e8 : x.Call = y.Call
  case neg =>
    rw [show decide (x.Call = y.Call) = false by simp [e8]]
    refine walk ?_
    refine fin0 ?_
    exact ⟨hf e8 fun e => by rw [e], rfl, rfl⟩
  rw [show decide (x.Call = y.Call) = true by simp [e8]]
  refine walk ?_
  refine ops_call rfl rfl (sameReply_spec (x := x.Reply) (y := y.Reply) ⟨s4, rfl, f12, f13, f14, a4⟩ ⟨t4, rfl, g12, g13, g14, b4⟩) fun r H' B hl ⟨e, eB, eH⟩ => ?_
  subst e eB eH
  refine walk ?_
  refine fin0 ?_
  refine ⟨?_, rfl, rfl⟩
  have : x = y ↔ x.Reply = y.Reply := ⟨fun e => by rw [e], fun e9 => by cases x; cases y; simp_all⟩
  simp [this]
theorem sl_take {α : Type} {R : Rd α} {sz w : Nat} [RdOk R sz] {H : Heap} {base : Option Addr} {m cap j : Nat} {xs : List α} (hr : SlR R sz H (.slice base m cap) xs) (hj : j ≤ xs.length) : SlR R sz H (.slice base j cap) (xs.take j) := by
  have := hr.slc (l := 0) (h := j) (by omega) hj
  rw [slc_pre] at this
  simpa using this
theorem refDrop_yes {W0 : World} {H : Heap} {l : Value} {ms : List Message} {j : Nat} (hs : SlB rMessage 19 216 H l ms) (hj : j < ms.length) :
    Ct Try.prog 26 #[l, I j] W0 H [] (fun r H' B => ∃ v c, r = .tuple #[v, .agg c.toArray, I 0] ∧ rMessage H' c ms[j] ∧ SlB rMessage 19 216 H' v (del ms j) ∧ B = []) := by
  refine Ct.go fun R => ?_
  obtain ⟨b0, c0, rfl, hc0, hd0⟩ := hs.1.shape
  have hsm : ms.length * 216 ≤ 140737488355328 := hs.2
  refine walk ?_
  refine ops_alloc rfl fun p1 _ => ?_
  refine walk ?_
  refine ops_mk0 (w := 216) rMessage rfl fun b1 => ?_
  refine walk ?_
  refine ops_appS rfl rfl (sl_take (w := 216) hs.1 (by omega : j ≤ ms.length)) (by simp only [cap47, List.length_take, List.length_nil]; omega) fun d1 e1 => ?_
  have hlen : ([] : List Message).length + (ms.take j).length = j := by simp; omega
  refine walk ?_
  refine ex_any 11 [] ?_
  (first | refine any_p 0 rfl rfl ?_ | refine any_ld 0 rfl rfl rfl ?_ | refine any_ldN 0 rfl rfl rfl ?_); (first | refine any_p 1 rfl rfl ?_ | refine any_ld 1 rfl rfl rfl ?_ | refine any_ldN 1 rfl rfl rfl ?_); (first | refine any_p 2 rfl rfl ?_ | refine any_ld 2 rfl rfl rfl ?_ | refine any_ldN 2 rfl rfl rfl ?_); (first | refine any_p 3 rfl rfl ?_ | refine any_ld 3 rfl rfl rfl ?_ | refine any_ldN 3 rfl rfl rfl ?_)
  refine any_pure 4 rfl (op_slice (l := (j : Int) + 1) (h := (ms.length : Int)) rfl rfl rfl (by omega) (by omega) (by omega)) ?_ (by decide +kernel) (fun _ _ _ h => h) (.refl _) (by (repeat (first | exact Sub.refl _ | exact Sub.nil _ | (apply sub_pick; (repeat (first | exact Has.here | apply Has.there)); skip) | apply Sub.drop))) rfl
  (first | refine any_p 6 rfl rfl ?_ | refine any_ld 6 rfl rfl rfl ?_ | refine any_ldN 6 rfl rfl rfl ?_); (first | refine any_p 7 rfl rfl ?_ | refine any_ld 7 rfl rfl rfl ?_ | refine any_ldN 7 rfl rfl rfl ?_)
  refine any_ixp 8 rfl rfl hs.1 hj fun b o c hr hc => ?_
  refine any_ldNH 9 rfl rfl hr (RdOk.len hc) ?_
  have hs2 := hs.1.slc (l := j + 1) (h := ms.length) (by omega) (by omega)
  rw [show (ms.drop (j + 1)).take (ms.length - (j + 1)) = ms.drop (j + 1) from List.take_of_length_le (by simp)] at hs2
  refine any_w 5 rfl (op_appSS rfl hs2 (by simp only [cap47, List.length_append, List.length_take, List.length_nil, List.length_drop]; omega) fun d2 e2 => ⟨.refl _, (by (repeat (first | exact Sub.refl _ | exact Sub.nil _ | (apply sub_pick; (repeat (first | exact Has.here | apply Has.there)); skip) | apply Sub.drop))), ?_⟩)
  (first | refine any_p 10 rfl rfl ?_ | refine any_ld 10 rfl rfl rfl ?_ | refine any_ldN 10 rfl rfl rfl ?_)
  refine any_rest rfl ?_
  refine ops_freeze (.slice d2 (([] ++ ms.take j).length + (ms.drop (j + 1)).length) e2) fun H1 hl1 hf => ?_
  have hcl := hc
  obtain ⟨s1, s2, s3, s4, rfl, _⟩ := hcl
  obtain ⟨_, _, _, _, q, k1, k2, k3, k4, k5, k6, k7, h1, h2, k8, k9, k10, k11, h3, k12, k13, k14, h4⟩ := hc
  cases q
  obtain ⟨d1, e1, rfl, _⟩ := h1.1.shape
  obtain ⟨d2, e2, rfl, _⟩ := h2.1.shape
  obtain ⟨d3, e3, rfl, _⟩ := h3.1.shape
  obtain ⟨d4, e4, rfl, _⟩ := h4.1.shape
  refine walk ?_
  refine fin0 ?_
  exact ⟨_, _, rfl, ⟨_, _, _, _, rfl, k1, k2, k3, k4, k5, k6, k7, h1.mono hl1, h2.mono hl1, k8, k9, k10, k11, h3.mono hl1, k12, k13, k14, h4.mono hl1⟩, hf, rfl⟩
/-- the list without those to an address -/
def clr (to : Int) (ms : List Message) : List Message := ms.filter fun m => !decide (m.To = to)
theorem clr_snoc {to : Int} {ms : List Message} {m : Message} : clr to (ms ++ [m]) = if m.To = to then clr to ms else clr to ms ++ [m] := by
  by_cases h : m.To = to <;> simp [clr, List.filter_append, List.filter_cons, h]
theorem clr_len {to : Int} {ms : List Message} : (clr to ms).length ≤ ms.length := List.length_filter_le _ _
theorem refClear_spec {W0 : World} {H : Heap} {l : Value} {ms : List Message} {to : Int} (hs : SlB rMessage 19 216 H l ms) :
    Ct Try.prog 28 #[l, I to] W0 H [] (fun r H' B => ∃ v, r = .tuple #[v, I ((ms.length - (clr to ms).length : Nat) : Int)] ∧ SlB rMessage 19 216 H' v (clr to ms) ∧ B = []) := by
  refine Ct.go fun R => ?_
  obtain ⟨b0, c0, rfl, hc0, hd0⟩ := hs.1.shape
  have hsm : ms.length * 216 ≤ 140737488355328 := hs.2
  refine walk ?_
  refine ex_L (ownS_nil (R := rMessage) (sz := 19) (w := 216) (T := 42) (H := H) (base := none)) ?_
  refine ex_loop (σ := Nat × Value) (fun s => s.1 ≤ ms.length) (fun s => [(0, .slice b0 ms.length c0), (1, I to), (6, s.2), (7, I s.1)]) (fun _ => H) (fun s => ownS rMessage 19 216 42 H s.2 (clr to (ms.take s.1)) :: R) (fun s => ms.length - s.1) (0, nilS) (Nat.zero_le _) fun ⟨k, v⟩ hk0 K hL => ?_
  simp only at hk0
  dsimp only
  refine walk ?_
  refine ex_if rfl (fun hk => ?_) (fun hk => ?_)
  · have hk1 : k < ms.length := by omega
    have hls := clr_len (to := to) (ms := ms.take k)
    have hlt : (ms.take k).length = k := by simp; omega
    refine walk ?_
    refine ops_ixp rfl rfl hs.1 hk1 fun b o c hr hc => ?_
    have hcl := hc
    obtain ⟨s1, s2, s3, s4, rfl, _⟩ := hcl
    refine walk ?_
    refine ex_if rfl (fun he => ?_) (fun he => ?_)
    · refine walk ?_
      refine ops_ixp rfl rfl hs.1 hk1 fun b2 o2 c2 hr2 hc2 => ?_
      refine ops_ldNH rfl rfl hr2 (RdOk.len hc2) ?_
      refine ops_app1 rfl rfl rfl hc2 (by simp only [cap47]; omega) fun d1 e1 => ?_
      refine walk ?_
      refine out_next hL (k + 1, _) (by simp only; omega) (hs := ?_)
      dsimp only
      rw [List.take_succ_eq_append_getElem hk1, clr_snoc, if_neg he]
      exact Sub.refl _
    · refine walk ?_
      refine out_next hL (k + 1, v) (by simp only; omega) (hs := ?_)
      dsimp only
      rw [List.take_succ_eq_append_getElem hk1, clr_snoc, if_pos (Classical.not_not.1 he)]
      exact Sub.refl _
  · have hke : k = ms.length := by omega
    subst hke
    rw [List.take_length]
    refine walk ?_
    refine ops_shape v fun d1 e1 e q1 q2 q3 => ?_
    subst e
    have hls := clr_len (to := to) (ms := ms)
    refine walk ?_
    rw [show ((ms.length : Int) - ((clr to ms).length : Int)) = ((ms.length - (clr to ms).length : Nat) : Int) by omega]
    refine walk ?_
    refine out_freeze (.slice d1 (clr to ms).length e1) fun H1 hl1 hf => ?_
    refine fin0 ?_
    exact ⟨_, rfl, hf, rfl⟩
end Go.Proofs.Ytlbpaokehdiinaa
