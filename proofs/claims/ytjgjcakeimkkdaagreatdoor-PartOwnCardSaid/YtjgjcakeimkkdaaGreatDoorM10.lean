/- Lists compared by the reference, where they are the same. Messages held against each other; messages with lists of their own. -/
import Derived.Test.YtjgjcakeimkkdaaGreatDoorM7
import Derived.Test.YtjgjcakeimkkdaaGreatDoorM5
import Derived.Test.YtjgjcakeimkkdaaGreatDoorM6
set_option linter.unusedVariables false
set_option linter.unusedSimpArgs false
namespace Go.Proofs.YtjgjcakeimkkdaaGreatDoor
open Go Go.Sx Go.Proofs
theorem ints_spec {W0 : World} {H : Heap} {v0 v1 : Value} {xs ys : List Int} (h0 : SlR rInt 1 H v0 xs) (h1 : SlR rInt 1 H v1 ys) :
    Ct Tryz.prog 43 #[v0, v1] W0 H [] (fun r H' B => r = .bool (decide (xs = ys)) ∧ B = [] ∧ H' = H) := by
  refine Ct.go fun R => ?_
  obtain ⟨b0, c0, rfl, hc0, hd0⟩ := h0.shape
  obtain ⟨b1, c1, rfl, hc1, hd1⟩ := h1.shape
  refine walk ?_
  refine ex_if rfl (fun h => ?_) (fun h => ?_)
  · refine walk ?_
    refine fin0 ?_
    exact ⟨by simp; rintro rfl; exact h rfl, rfl, rfl⟩
  refine walk ?_
  refine ex_loop (fun k => k ≤ xs.length ∧ xs.take k = ys.take k) (fun k => [(0, .slice b0 xs.length c0), (1, .slice b1 ys.length c1), (12, I xs.length), (13, I k)]) (fun _ => H) (fun _ => R) (fun k => xs.length - k) 0 ⟨Nat.zero_le _, rfl⟩ fun k ⟨hk0, ht⟩ K hL => ?_
  refine walk ?_
  refine ex_if rfl (fun hk => ?_) (fun hk => ?_)
  · refine walk ?_
    refine ex_if rfl (fun hq => ?_) (fun hq => ?_)
    · refine walk ?_
      refine fin0 ?_
      exact ⟨by simp; rintro rfl; exact hq rfl, rfl, rfl⟩
    · refine walk ?_
      refine out_next hL (k + 1) ⟨by omega, ?_⟩
      simp at hq
      rw [List.take_succ_eq_append_getElem (by omega), List.take_succ_eq_append_getElem (by omega), ht, hq]
  · refine walk ?_
    refine fin0 ?_
    obtain rfl : k = xs.length := by omega
    exact ⟨by rw [List.take_length] at ht; simp; rw [ht]; exact List.take_of_length_le (by omega), rfl, rfl⟩
theorem texts_spec {W0 : World} {H : Heap} {v0 v1 : Value} {xs ys : List ByteArray} (h0 : SlR rStr 1 H v0 xs) (h1 : SlR rStr 1 H v1 ys) :
    Ct Tryz.prog 70 #[v0, v1] W0 H [] (fun r H' B => r = .bool (decide (xs = ys)) ∧ B = [] ∧ H' = H) := by
  refine Ct.go fun R => ?_
  obtain ⟨b0, c0, rfl, hc0, hd0⟩ := h0.shape
  obtain ⟨b1, c1, rfl, hc1, hd1⟩ := h1.shape
  refine walk ?_
  refine ex_if rfl (fun h => ?_) (fun h => ?_)
  · refine walk ?_
    refine fin0 ?_
    exact ⟨by rw [decide_eq_false (p := xs = ys) (by rintro rfl; exact h rfl)], rfl, rfl⟩
  refine walk ?_
  refine ex_loop (fun k => k ≤ xs.length ∧ xs.take k = ys.take k) (fun k => [(0, .slice b0 xs.length c0), (1, .slice b1 ys.length c1), (12, I xs.length), (13, I k)]) (fun _ => H) (fun _ => R) (fun k => xs.length - k) 0 ⟨Nat.zero_le _, rfl⟩ fun k ⟨hk0, ht⟩ K hL => ?_
  refine walk ?_
  refine ex_if rfl (fun hk => ?_) (fun hk => ?_)
  · refine walk ?_
    refine ex_if rfl (fun hq => ?_) (fun hq => ?_)
    · refine walk ?_
      refine fin0 ?_
      exact ⟨by rw [decide_eq_false (p := xs = ys) (by rintro rfl; exact hq rfl)], rfl, rfl⟩
    · refine walk ?_
      refine out_next hL (k + 1) ⟨by omega, ?_⟩
      simp at hq
      rw [List.take_succ_eq_append_getElem (by omega), List.take_succ_eq_append_getElem (by omega), ht, hq]
  · refine walk ?_
    refine fin0 ?_
    obtain rfl : k = xs.length := by omega
    exact ⟨by rw [List.take_length] at ht; rw [decide_eq_true (p := xs = ys) (by rw [ht]; exact List.take_of_length_le (by omega))], rfl, rfl⟩
set_option maxHeartbeats 8000000 in
theorem sameWork_spec {W0 : World} {H : Heap} {c d : List Value} {x y : Work} (h0 : rWork H c x) (h1 : rWork H d y) :
    Ct Tryz.prog 42 #[.agg c.toArray, .agg d.toArray] W0 H [] (fun r H' B => r = .bool (decide (x = y)) ∧ B = [] ∧ H' = H) := by
  refine Ct.go fun R => ?_
  obtain ⟨xr, xt, xd⟩ := x
  obtain ⟨yr, yt, yd⟩ := y
  obtain ⟨s1, s2, rfl, f1, h0, h0'⟩ := h0
  obtain ⟨t1, t2, rfl, f2, h1, h1'⟩ := h1
  dsimp only at *
  refine walk ?_
  refine ops_box rfl rfl fun p0 _ => ?_
  refine ops_box rfl rfl fun p1 _ => ?_
  by_cases e1 : xr = yr
  · refine walk ?_
    refine ops_call rfl rfl (texts_spec h0.1 h1.1) fun r H' B hl ⟨e, eB, eH⟩ => ?_
    subst e eB eH
    refine walk ?_
    refine ops_case (fun e2 => ?_) (fun e2 => ?_)
    · refine walk ?_
      refine ops_call rfl rfl (texts_spec h0'.1 h1'.1) fun r H' B hl ⟨e, eB, eH⟩ => ?_
      subst e eB eH
      refine walk ?_
      refine fin0 ?_
      exact ⟨by simp [e1, e2], rfl, rfl⟩
    · refine walk ?_
      refine fin0 ?_
      exact ⟨by simp [e2], rfl, rfl⟩
  · refine walk ?_
    refine fin0 ?_
    exact ⟨by simp [e1], rfl, rfl⟩
theorem eqHold (a c : ByteArray) (b d : Int) (w : World) : (Op.equalIn 10000 109 (.agg #[.string a, .int .i64 b]) (.agg #[.string c, .int .i64 d])).run Tryz.prog w = .ok (decide (a = c ∧ b = d)) w := by
  have u3 := Tryz.underlying3
  have a3 := Tryz.isAgg3
  have z3 := Tryz.sizeOf3
  have u9 := Tryz.underlying9
  have a9 := Tryz.isAgg9
  have z9 := Tryz.sizeOf9
  have hS : Tryz.prog.underlying 109 = some (.struct (Tryz.prog.fieldsOf 109)) := by kernel_rfl
  have hp : Tryz.prog.stoodInHeld 109 = false := by kernel_rfl
  rw [show (10000 : Nat) = 9999 + 1 from rfl, run_equalIn_agg w 9999 109 _ _ hS hp]
  simp only [Program.fieldsOf, Tryz.underlying109]
  go_simp
  have hb : (a.toList = c.toList) = (a = c) := propext ⟨fun h => text_ext (by simpa [bytes_toList] using h), fun h => by rw [h]⟩
  by_cases h1 : a = c <;> by_cases h2 : b = d <;> simp [h1, h2, hb]
theorem guardHold : Tryz.prog.eqGuardType Tryz.prog.depth 109 = false := by kernel_rfl
instance {x y : Operand} {T' : TypeId} {a c : ByteArray} {b d : Int} : BOp Tryz.prog (.binOp .neq 109 x y T') [.agg #[.string a, .int .i64 b], .agg #[.string c, .int .i64 d]] (¬ (a = c ∧ b = d)) inferInstance := ⟨fun h => OpP.cast (OpP.mk fun _ w hF _ => by
    simp only [execOp, hF.opv (opvs2 h).1, hF.opv (opvs2 h).2]
    simp only [Sem.run_bind, run_eqGuard_agg _ _ _ _ _ _ _ guardHold, run_neq_struct, eqHold, Result.andThen_ok]
    rfl) (by simp)⟩
theorem sameHolds_spec {W0 : World} {H : Heap} {v0 v1 : Value} {l : List Hold} (h0 : SlR rHold 2 H v0 l) (h1 : SlR rHold 2 H v1 l) :
    Ct Tryz.prog 17 #[v0, v1] W0 H [] (fun r H' B => r = .bool true ∧ B = [] ∧ H' = H) := by
  refine Ct.go (vs := [v0, v1]) fun R => ?_
  obtain ⟨b0, c0, rfl, hc0, hd0⟩ := h0.shape
  obtain ⟨b1, c1, rfl, hc1, hd1⟩ := h1.shape
  refine walk ?_
  refine ex_loop (σ := Nat) (fun k => k ≤ l.length) (fun k => [(0, .slice b0 l.length c0), (1, .slice b1 l.length c1), (12, I l.length), (13, I k)]) (fun _ => H) (fun _ => R) (fun k => l.length - k) 0 (Nat.zero_le _) fun k hk0 K hL => ?_
  refine walk ?_
  refine ex_if rfl (fun hk => ?_) (fun hk => ?_)
  · have hk1 : k < l.length := by omega
    refine walk ?_
    refine ops_ixp rfl rfl h0 hk1 fun b o cc hr hc => ?_
    obtain ⟨rfl, hsz, hfr⟩ := hc
    change HRow H b o [.string l[k].Key, I l[k].Robot] at hr
    refine ops_ldNH rfl rfl hr rfl ?_
    refine walk ?_
    refine ops_ixp rfl rfl h1 hk1 fun b' o' cc' hr' hc' => ?_
    obtain ⟨rfl, hsz', hfr'⟩ := hc'
    change HRow H b' o' [.string l[k].Key, I l[k].Robot] at hr'
    refine ops_ldNH rfl rfl hr' rfl ?_
    refine walk ?_
    rw [decide_eq_false (p := ¬ (l[k].Key = l[k].Key ∧ l[k].Robot = l[k].Robot)) (fun h => h ⟨rfl, rfl⟩)]
    refine walk ?_
    exact out_next hL (k + 1) (by omega)
  · refine walk ?_
    refine fin0 ?_
    exact ⟨rfl, rfl, rfl⟩
set_option maxHeartbeats 16000000 in
set_option maxRecDepth 20000 in
theorem sameRecs_spec {W0 : World} {H : Heap} {v0 v1 : Value} {l : List Rec} (h0 : SlR rRec 9 H v0 l) (h1 : SlR rRec 9 H v1 l) :
    Ct Tryz.prog 18 #[v0, v1] W0 H [] (fun r H' B => r = .bool true ∧ B = [] ∧ H' = H) := by
  refine Ct.go (vs := [v0, v1]) fun R => ?_
  obtain ⟨b0, c0, rfl, hc0, hd0⟩ := h0.shape
  obtain ⟨b1, c1, rfl, hc1, hd1⟩ := h1.shape
  refine walk ?_
  refine ex_loop (σ := Nat) (fun k => k ≤ l.length) (fun k => [(0, .slice b0 l.length c0), (1, .slice b1 l.length c1), (12, I l.length), (13, I k)]) (fun _ => H) (fun _ => R) (fun k => l.length - k) 0 (Nat.zero_le _) fun k hk0 K hL => ?_
  refine walk ?_
  refine ex_if rfl (fun hk => ?_) (fun hk => ?_)
  · have hk1 : k < l.length := by omega
    obtain ⟨q, hq⟩ : ∃ q, l[k] = q := ⟨_, rfl⟩
    refine walk ?_
    refine ex_any 65 [] ?_
    refine stepY 0 ?_; refine stepY 1 ?_
    refine gny_ixp 2 rfl rfl rfl h0 hk1 fun ba oa ca ra ea => ?_
    obtain ⟨ua, va, wa', rfl, fa⟩ := ea
    rw [hq] at ra fa
    refine stepY 3 ?_
    refine gny_ldHo 4 0 rfl rfl ra rfl rfl ?_
    refine stepY 5 ?_; refine stepY 6 ?_
    refine gny_ixp 7 rfl rfl rfl h1 hk1 fun bb ob cb rb eb => ?_
    obtain ⟨ub, vb, wb', rfl, fb⟩ := eb
    rw [hq] at rb fb
    refine stepY 8 ?_
    refine gny_ldHo 9 0 rfl rfl rb rfl rfl ?_
    refine stepY 10 ?_
    refine stepY 11 ?_; refine stepY 12 ?_; refine stepY 13 ?_
    refine gny_ixp 14 rfl rfl rfl h0 hk1 fun ba2 oa2 ca2 ra2 ea2 => ?_
    obtain ⟨ua2, va2, wa2, rfl, fa2⟩ := ea2
    rw [hq] at ra2 fa2
    refine stepY 15 ?_
    refine gny_ldNH 16 rfl rfl rfl (rec_txn ra2) rfl ?_
    refine stepY 17 ?_; refine stepY 18 ?_
    refine gny_ixp 19 rfl rfl rfl h1 hk1 fun bb2 ob2 cb2 rb2 eb2 => ?_
    obtain ⟨ub2, vb2, wb2, rfl, fb2⟩ := eb2
    rw [hq] at rb2 fb2
    refine stepY 20 ?_
    refine gny_ldNH 21 rfl rfl rfl (rec_txn rb2) rfl ?_
    refine stepY 22 ?_
    refine stepY 23 ?_; refine stepY 24 ?_; refine stepY 25 ?_; refine stepY 26 ?_
    refine gny_ixp 27 rfl rfl rfl h0 hk1 fun ba3 oa3 ca3 ra3 ea3 => ?_
    obtain ⟨ua3, va3, wa3, rfl, fa3⟩ := ea3
    rw [hq] at ra3 fa3
    refine stepY 28 ?_
    refine gny_ldHo 29 7 rfl rfl ra3 rfl rfl ?_
    refine stepY 30 ?_; refine stepY 31 ?_
    refine gny_ixp 32 rfl rfl rfl h1 hk1 fun bb3 ob3 cb3 rb3 eb3 => ?_
    obtain ⟨ub3, vb3, wb3, rfl, fb3⟩ := eb3
    rw [hq] at rb3 fb3
    refine stepY 33 ?_
    refine gny_ldHo 34 7 rfl rfl rb3 rfl rfl ?_
    have hyy : ¬ ¬ q.Yes = q.Yes := fun h => h rfl
    refine stepY 35 ?_; refine stepY 36 ?_; refine stepY 37 ?_; refine stepY 38 ?_; refine stepY 39 ?_
    refine gny_ixp 40 rfl rfl rfl h0 hk1 fun ba4 oa4 ca4 ra4 ea4 => ?_
    obtain ⟨ua4, va4, wa4, rfl, _, _, _, _, fa4, fa5, fa6, _⟩ := ea4
    rw [hq] at ra4 fa4 fa5 fa6
    refine stepY 41 ?_
    refine gny_ldNH 42 rfl rfl rfl (rec_work ra4) rfl ?_
    refine stepY 43 ?_; refine stepY 44 ?_
    refine gny_ixp 45 rfl rfl rfl h1 hk1 fun bb4 ob4 cb4 rb4 eb4 => ?_
    obtain ⟨ub4, vb4, wb4, rfl, _, _, _, _, fb4, fb5, fb6, _⟩ := eb4
    rw [hq] at rb4 fb4 fb5 fb6
    refine stepY 46 ?_
    refine gny_ldNH 47 rfl rfl rfl (rec_work rb4) rfl ?_
    refine gny_pcall 48 rfl rfl rfl (sameWork_spec (x := q.Work) (y := q.Work) (c := [I q.Work.Robot, ua4, va4]) (d := [I q.Work.Robot, ub4, vb4]) ⟨_, _, rfl, fa4, fa5, fa6⟩ ⟨_, _, rfl, fb4, fb5, fb6⟩) ?_
    rw [decide_eq_true (p := q.Work = q.Work) rfl]
    refine stepY 49 ?_; refine stepY 50 ?_; refine stepY 51 ?_; refine stepY 52 ?_; refine stepY 53 ?_
    refine gny_ixp 54 rfl rfl rfl h0 hk1 fun ba5 oa5 ca5 ra5 ea5 => ?_
    obtain ⟨ua5, va5, wa5, rfl, _, _, _, _, _, _, _, ga5⟩ := ea5
    rw [hq] at ra5 ga5
    refine stepY 55 ?_
    refine gny_ldHo 56 8 rfl rfl ra5 rfl rfl ?_
    refine stepY 57 ?_; refine stepY 58 ?_
    refine gny_ixp 59 rfl rfl rfl h1 hk1 fun bb5 ob5 cb5 rb5 eb5 => ?_
    obtain ⟨ub5, vb5, wb5, rfl, _, _, _, _, _, _, _, gb5⟩ := eb5
    rw [hq] at rb5 gb5
    refine stepY 60 ?_
    refine gny_ldHo 61 8 rfl rfl rb5 rfl rfl ?_
    refine gny_pcall 62 rfl rfl rfl (ints_spec ga5.1 gb5.1) ?_
    rw [decide_eq_true (p := q.Parts = q.Parts) rfl]
    refine stepY 63 ?_; refine stepY 64 ?_
    refine any_rest rfl ?_
    refine walk ?_
    exact out_next hL (k + 1) (by omega)
  · refine walk ?_
    refine fin0 ?_
    exact ⟨rfl, rfl, rfl⟩
end Go.Proofs.YtjgjcakeimkkdaaGreatDoor

set_option linter.unusedVariables false
set_option linter.unusedSimpArgs false
namespace Go.Proofs.YtjgjcakeimkkdaaGreatDoor
open Go Go.Sx Go.Proofs
theorem sameRoute_spec {W0 : World} {H : Heap} {c d : List Value} {x y : Route} (h0 : rRoute H c x) (h1 : rRoute H d y) :
    Ct Tryz.prog 96 #[.agg c.toArray, .agg d.toArray] W0 H [] (fun r H' B => r = .bool (decide (x = y)) ∧ B = [] ∧ H' = H) := by
  refine Ct.go fun R => ?_
  obtain ⟨xs, xc⟩ := x
  obtain ⟨ys, yc⟩ := y
  obtain ⟨s, rfl, h2, h0⟩ := h0
  obtain ⟨t, rfl, h3, h1⟩ := h1
  dsimp only at *
  refine walk ?_
  refine ops_box rfl rfl fun p0 _ => ?_
  refine ops_box rfl rfl fun p1 _ => ?_
  by_cases e1 : xs = ys
  · refine walk ?_
    refine ops_call rfl rfl (ints_spec h0.1 h1.1) fun r H' B hl ⟨e, eB, eH⟩ => ?_
    subst e eB eH
    refine walk ?_
    refine fin0 ?_
    exact ⟨by simp [e1], rfl, rfl⟩
  · refine walk ?_
    refine fin0 ?_
    exact ⟨by simp [e1], rfl, rfl⟩
theorem sameCall_spec {W0 : World} {H : Heap} {c d : List Value} {x y : Call} (h0 : rCall H c x) (h1 : rCall H d y) :
    Ct Tryz.prog 72 #[.agg c.toArray, .agg d.toArray] W0 H [] (fun r H' B => r = .bool (decide (x = y)) ∧ B = [] ∧ H' = H) := by
  refine Ct.go fun R => ?_
  obtain ⟨xv, xe, xr⟩ := x
  obtain ⟨yv, ye, yr⟩ := y
  obtain ⟨s, rfl, f1, f2, f3, h0⟩ := h0
  obtain ⟨t, rfl, g1, g2, g3, h1⟩ := h1
  dsimp only at *
  refine walk ?_
  refine ops_box rfl rfl fun p0 _ => ?_
  refine ops_box rfl rfl fun p1 _ => ?_
  by_cases e1 : xv = yv
  · by_cases e2 : xe = ye
    · refine walk ?_
      refine ops_call rfl rfl (sameRoute_spec (x := xr) (y := yr) ⟨s, rfl, f3, h0⟩ ⟨t, rfl, g3, h1⟩) fun r H' B hl ⟨e, eB, eH⟩ => ?_
      subst e eB eH
      refine walk ?_
      refine fin0 ?_
      exact ⟨by simp [e1, e2], rfl, rfl⟩
    · refine walk ?_
      refine fin0 ?_
      exact ⟨by simp [e2], rfl, rfl⟩
  · refine walk ?_
    refine fin0 ?_
    exact ⟨by simp [e1], rfl, rfl⟩
theorem sameReply_spec {W0 : World} {H : Heap} {c d : List Value} {x y : Reply} (h0 : rReply H c x) (h1 : rReply H d y) :
    Ct Tryz.prog 73 #[.agg c.toArray, .agg d.toArray] W0 H [] (fun r H' B => r = .bool (decide (x = y)) ∧ B = [] ∧ H' = H) := by
  refine Ct.go fun R => ?_
  obtain ⟨xv, xe, xr⟩ := x
  obtain ⟨yv, ye, yr⟩ := y
  obtain ⟨s, rfl, f1, f2, f3, h0⟩ := h0
  obtain ⟨t, rfl, g1, g2, g3, h1⟩ := h1
  dsimp only at *
  refine walk ?_
  refine ops_box rfl rfl fun p0 _ => ?_
  refine ops_box rfl rfl fun p1 _ => ?_
  by_cases e1 : xv = yv
  · by_cases e2 : xe = ye
    · refine walk ?_
      refine ops_call rfl rfl (sameRoute_spec (x := xr) (y := yr) ⟨s, rfl, f3, h0⟩ ⟨t, rfl, g3, h1⟩) fun r H' B hl ⟨e, eB, eH⟩ => ?_
      subst e eB eH
      refine walk ?_
      refine fin0 ?_
      exact ⟨by simp [e1, e2], rfl, rfl⟩
    · refine walk ?_
      refine fin0 ?_
      exact ⟨by simp [e2], rfl, rfl⟩
  · refine walk ?_
    refine fin0 ?_
    exact ⟨by simp [e1], rfl, rfl⟩
instance {x y : Operand} {a b c a' b' c' : Int} {T' : TypeId} : BOp Tryz.prog (.binOp .eql 29 x y T') [.agg [I a, I b, I c].toArray, .agg [I a', I b', I c'].toArray] ((⟨a, b, c⟩ : Txn) = ⟨a', b', c'⟩) inferInstance := ⟨fun h => .mk fun _ w hF _ => by
  simp only [execOp, hF.opv (opvs2 h).1, hF.opv (opvs2 h).2]
  simp [go_sem]
  repeat' split
  all_goals simp_all⟩
theorem txn_eta (t : Txn) : (⟨t.Node, t.Life, t.Count⟩ : Txn) = t := rfl
theorem same_spec {W0 : World} {H : Heap} {c d : List Value} {x y : Message} (h0 : rMessage H c x) (h1 : rMessage H d y) :
    Ct Tryz.prog 41 #[.agg c.toArray, .agg d.toArray] W0 H [] (fun r H' B => r = .bool (decide (x = y)) ∧ B = [] ∧ H' = H) := by
  refine Ct.go fun R => ?_
  obtain ⟨s1, s2, s3, s4, rfl, f1, f2, f3, f4, f5, f6, f7, a1, a2, f8, f9, f10, f11, a3, f12, f13, f14, a4⟩ := h0
  obtain ⟨t1, t2, t3, t4, rfl, g1, g2, g3, g4, g5, g6, g7, b1, b2, g8, g9, g10, g11, b3, g12, g13, g14, b4⟩ := h1
  have hf : ∀ {p : Prop} [Decidable p], ¬ p → (x = y → p) → Value.bool false = .bool (decide (x = y)) := fun h h' => by simp; intro e; exact h (h' e)
  refine walk ?_
  refine ops_box rfl rfl fun p0 _ => ?_
  refine ops_box rfl rfl fun p1 _ => ?_
  by_cases e1 : x.From = y.From
  case neg =>
    refine walk ?_
    refine fin0 ?_
    exact ⟨hf e1 fun e => by rw [e], rfl, rfl⟩
  by_cases e2 : x.To = y.To
  case neg =>
    refine walk ?_
    refine fin0 ?_
    exact ⟨hf e2 fun e => by rw [e], rfl, rfl⟩
  by_cases e3 : x.Kind = y.Kind
  case neg =>
    refine walk ?_
    refine fin0 ?_
    exact ⟨hf e3 fun e => by rw [e], rfl, rfl⟩
  by_cases e4 : x.Txn = y.Txn
  case neg =>
    refine walk ?_
    refine fin0 ?_
    exact ⟨hf e4 fun e => by rw [e], rfl, rfl⟩
  by_cases e5 : x.Yes = y.Yes
  case neg =>
    refine walk ?_
    refine fin0 ?_
    exact ⟨hf e5 fun e => by rw [e], rfl, rfl⟩
  by_cases e6 : x.ID = y.ID
  case neg =>
    refine walk ?_
    refine fin0 ?_
    exact ⟨hf e6 fun e => by rw [e], rfl, rfl⟩
  refine walk ?_
  refine ops_call rfl rfl (sameWork_spec (x := x.Work) (y := y.Work) ⟨s1, s2, rfl, f7, a1, a2⟩ ⟨t1, t2, rfl, g7, b1, b2⟩) fun r H' B hl ⟨e, eB, eH⟩ => ?_
  subst e eB eH
  by_cases e7 : x.Work = y.Work
  case neg =>
    rw [show decide (x.Work = y.Work) = false by simp [e7]]
    refine walk ?_
    refine fin0 ?_
    exact ⟨hf e7 fun e => by rw [e], rfl, rfl⟩
  rw [show decide (x.Work = y.Work) = true by simp [e7]]
  refine walk ?_
  refine ops_call rfl rfl (sameCall_spec (x := x.Call) (y := y.Call) ⟨s3, rfl, f9, f10, f11, a3⟩ ⟨t3, rfl, g9, g10, g11, b3⟩) fun r H' B hl ⟨e, eB, eH⟩ => ?_
  subst e eB eH
  by_cases e8 : x.Call = y.Call
  case neg =>
    rw [show decide (x.Call = y.Call) = false by simp [e8]]
    refine walk ?_
    refine fin0 ?_
    exact ⟨hf e8 fun e => by rw [e], rfl, rfl⟩
  rw [show decide (x.Call = y.Call) = true by simp [e8]]
  refine walk ?_
  refine ops_call rfl rfl (sameReply_spec (x := x.Reply) (y := y.Reply) ⟨s4, rfl, f12, f13, f14, a4⟩ ⟨t4, rfl, g12, g13, g14, b4⟩) fun r H' B hl ⟨e, eB, eH⟩ => ?_
  subst e eB eH
  refine walk ?_
  refine fin0 ?_
  refine ⟨?_, rfl, rfl⟩
  have : x = y ↔ x.Reply = y.Reply := ⟨fun e => by rw [e], fun e9 => by cases x; cases y; simp_all⟩
  simp [this]
set_option maxHeartbeats 4000000 in
theorem sameAll_spec {W0 : World} {H : Heap} {v0 v1 : Value} {l : List Message} (h0 : SlR rMessage 19 H v0 l) (h1 : SlR rMessage 19 H v1 l) :
    Ct Tryz.prog 16 #[v0, v1] W0 H [] (fun r H' B => r = .bool true ∧ B = [] ∧ H' = H) := by
  refine Ct.go (vs := [v0, v1]) fun R => ?_
  obtain ⟨b0, c0, rfl, hc0, hd0⟩ := h0.shape
  obtain ⟨b1, c1, rfl, hc1, hd1⟩ := h1.shape
  refine walk ?_
  refine ex_loop (σ := Nat) (fun k => k ≤ l.length) (fun k => [(0, .slice b0 l.length c0), (1, .slice b1 l.length c1), (12, I l.length), (13, I k)]) (fun _ => H) (fun _ => R) (fun k => l.length - k) 0 (Nat.zero_le _) fun k hk0 K hL => ?_
  refine walk ?_
  refine ex_if rfl (fun hk => ?_) (fun hk => ?_)
  · have hk1 : k < l.length := by omega
    refine walk ?_
    refine ex_any 8 [] ?_
    refine stepY 0 ?_; refine stepY 1 ?_
    refine gny_ixp 2 rfl rfl rfl h0 hk1 fun b o cc hr hc => ?_
    obtain ⟨s1, s2, s3, s4, rfl, f⟩ := id hc
    refine gny_ldNH 3 rfl rfl rfl hr rfl ?_
    refine stepY 4 ?_; refine stepY 5 ?_
    refine gny_ixp 6 rfl rfl rfl h1 hk1 fun b' o' cc' hr' hc' => ?_
    obtain ⟨t1, t2, t3, t4, rfl, g⟩ := id hc'
    refine gny_ldNH 7 rfl rfl rfl hr' rfl ?_
    refine any_rest rfl ?_
    have hs := same_spec (W0 := W0) (H := H) (x := l[k]) (y := l[k]) ⟨s1, s2, s3, s4, rfl, f⟩ ⟨t1, t2, t3, t4, rfl, g⟩
    rw [decide_eq_true (p := l[k] = l[k]) rfl] at hs
    refine ops_pcall rfl rfl hs ?_
    refine walk ?_
    exact out_next hL (k + 1) (by omega)
  · refine walk ?_
    refine fin0 ?_
    exact ⟨rfl, rfl, rfl⟩
/-- a slice of so many -/
abbrev sl (x : Option Addr × Nat) {α : Type} (l : List α) : Value := .slice x.1 l.length x.2
/-- the lists of a message's own -/
abbrev ownM (H : Heap) (s1 s2 s3 s4 : Option Addr × Nat) (m : Message) : List HProp :=
  [ownS rStr 1 16 9 H (sl s1 m.Work.Take) m.Work.Take, ownS rStr 1 16 9 H (sl s2 m.Work.Drop) m.Work.Drop, ownS rInt 1 8 3 H (sl s3 m.Call.Route.Cells) m.Call.Route.Cells, ownS rInt 1 8 3 H (sl s4 m.Reply.Route.Cells) m.Reply.Route.Cells]
/-- its cells -/
abbrev cvM (s1 s2 s3 s4 : Option Addr × Nat) (m : Message) : List Value := m.cv (sl s1 m.Work.Take) (sl s2 m.Work.Drop) (sl s3 m.Call.Route.Cells) (sl s4 m.Reply.Route.Cells)
/-- what a message's numbers keep to -/
def okM (m : Message) : Prop := fits m.From ∧ fits m.To ∧ fits m.Kind ∧ (fits m.Txn.Node ∧ fits m.Txn.Life ∧ fits m.Txn.Count) ∧ fits m.Work.Robot ∧ fits m.ID ∧ fits m.Call.Verb ∧ fits m.Call.Epoch ∧ fits m.Call.Route.Start ∧ fits m.Reply.Code ∧ fits m.Reply.Epoch ∧ fits m.Reply.Route.Start
theorem refOwn_spec {W0 : World} {H : Heap} {c : List Value} {m : Message} (h0 : rMessage H c m) :
    Ct Tryz.prog 30 #[.agg c.toArray] W0 H [] (fun r H' B => ∃ s1 s2 s3 s4, r = .agg (cvM s1 s2 s3 s4 m).toArray ∧ B = ownM H s1 s2 s3 s4 m ∧ H' = H) := by
  refine Ct.go fun R => ?_
  obtain ⟨s1, s2, s3, s4, rfl, f1, f2, f3, f4, f5, f6, f7, h1, h2, f8, f9, f10, f11, h3, f12, f13, f14, h4⟩ := h0
  refine walk ?_
  refine ops_box rfl rfl fun p1 _ => ?_
  refine ops_alloc rfl fun p2 _ => ?_
  refine walk ?_
  refine ops_mk0 (w := 16) rStr rfl fun b1 => ?_
  refine walk ?_
  refine ops_appS rfl rfl h1.1 (by simpa using h1.2) fun d1 e1 => ?_
  refine walk ?_
  refine ops_mk0 (w := 16) rStr rfl fun b2 => ?_
  refine walk ?_
  refine ops_appS rfl rfl h2.1 (by simpa using h2.2) fun d2 e2 => ?_
  refine walk ?_
  refine ops_mk0 (w := 8) rInt rfl fun b3 => ?_
  refine walk ?_
  refine ops_appS rfl rfl h3.1 (by simpa using h3.2) fun d3 e3 => ?_
  refine walk ?_
  refine ops_mk0 (w := 8) rInt rfl fun b4 => ?_
  refine walk ?_
  refine ops_appS rfl rfl h4.1 (by simpa using h4.2) fun d4 e4 => ?_
  simp only [List.length_nil, Nat.zero_add, List.nil_append]
  refine walk ?_
  refine finB (ownM H (d1, e1) (d2, e2) (d3, e3) (d4, e4) m) ?_
  exact ⟨_, _, _, _, rfl, rfl, rfl⟩
/-- a message, not too long -/
def clipM (m : Message) : Message := { m with Work := clipW m.Work }
theorem clipM_ok {H : Heap} {c : List Value} {m : Message} (h : rMessage H c m) : OkM (clipM m) := by
  obtain ⟨s1, s2, s3, s4, rfl, f1, f2, f3, f4, f5, f6, f7, h1, h2, _⟩ := h
  exact ⟨clip_ok (cs := [I m.Work.Robot, s1, s2]) ⟨_, _, rfl, f7, h1, h2⟩, ⟨f4, f5, f6⟩⟩
set_option maxHeartbeats 4000000 in
theorem pOwnO_spec {W0 : World} {H : Heap} {c : List Value} {m : Message} (h0 : rMessage H c m) :
    Ct Tryz.prog 10 #[.agg c.toArray] W0 H [] (fun r H' B => ∃ s1 s2 s3 s4, r = .agg (cvM s1 s2 s3 s4 (clipM m)).toArray ∧ B = ownM H s1 s2 s3 s4 (clipM m) ∧ H' = H) := by
  refine Ct.go fun R => ?_
  obtain ⟨s1, s2, s3, s4, rfl, f1, f2, f3, f4, f5, f6, f7, h1, h2, f8, f9, f10, f11, h3, f12, f13, f14, h4⟩ := h0
  obtain ⟨b1, c1, rfl, hc1, hd1⟩ := h1.1.shape
  obtain ⟨b2, c2, rfl, hc2, hd2⟩ := h2.1.shape
  obtain ⟨b3, c3, rfl, hc3, hd3⟩ := h3.1.shape
  obtain ⟨b4, c4, rfl, hc4, hd4⟩ := h4.1.shape
  have hk1 : (min (m.Work.Take.length : Int) 40).toNat = (clipW m.Work).Take.length := by simp [clipW]; omega
  have hk2 : (min (m.Work.Drop.length : Int) 40).toNat = (clipW m.Work).Drop.length := by simp [clipW]; omega
  have ht1 := slr_take (j := (clipW m.Work).Take.length) h1.1 (by simp [clipW]; omega)
  have ht2 := slr_take (j := (clipW m.Work).Drop.length) h2.1 (by simp [clipW]; omega)
  rw [show m.Work.Take.take (clipW m.Work).Take.length = (clipW m.Work).Take by simp [clipW, List.take_take]] at ht1
  rw [show m.Work.Drop.take (clipW m.Work).Drop.length = (clipW m.Work).Drop by simp [clipW, List.take_take]] at ht2
  refine walk ?_
  refine ops_box rfl rfl fun p1 _ => ?_
  refine ops_alloc rfl fun p2 _ => ?_
  refine walk ?_
  rw [hk1, hk2]
  have hcap1 : (clipW m.Work).Take.length * 16 ≤ cap47 := by simp [clipW, cap47]; omega
  have hcap2 : (clipW m.Work).Drop.length * 16 ≤ cap47 := by simp [clipW, cap47]; omega
  refine ops_call rfl rfl (refOwn_spec (m := clipM m) ⟨_, _, _, _, rfl, f1, f2, f3, f4, f5, f6, f7, ⟨ht1, hcap1⟩, ⟨ht2, hcap2⟩, f8, f9, f10, f11, h3, f12, f13, f14, h4⟩) fun r1 H1 B hl1 ⟨t1, t2, t3, t4, er, eB, eH⟩ => ?_
  subst er eB eH
  refine walk ?_
  refine finB (ownM H1 t1 t2 t3 t4 (clipM m)) ?_
  exact ⟨_, _, _, _, rfl, rfl, rfl⟩
/-- .. its lists only read from here on -/
theorem pOwn_spec {W0 : World} {H : Heap} {c : List Value} {m : Message} (h0 : rMessage H c m) :
    Ct Tryz.prog 10 #[.agg c.toArray] W0 H [] (fun r H' B => ∃ cs, r = .agg cs.toArray ∧ rMessage H' cs (clipM m) ∧ B = []) := by
  refine Ct.go fun R => ?_
  obtain ⟨s1, s2, s3, s4, rfl, f1, f2, f3, f4, f5, f6, f7, h1, h2, f8, f9, f10, f11, h3, f12, f13, f14, h4⟩ := h0
  obtain ⟨b1, c1, rfl, hc1, hd1⟩ := h1.1.shape
  obtain ⟨b2, c2, rfl, hc2, hd2⟩ := h2.1.shape
  obtain ⟨b3, c3, rfl, hc3, hd3⟩ := h3.1.shape
  obtain ⟨b4, c4, rfl, hc4, hd4⟩ := h4.1.shape
  have hk1 : (min (m.Work.Take.length : Int) 40).toNat = (clipW m.Work).Take.length := by simp [clipW]; omega
  have hk2 : (min (m.Work.Drop.length : Int) 40).toNat = (clipW m.Work).Drop.length := by simp [clipW]; omega
  have ht1 := slr_take (j := (clipW m.Work).Take.length) h1.1 (by simp [clipW]; omega)
  have ht2 := slr_take (j := (clipW m.Work).Drop.length) h2.1 (by simp [clipW]; omega)
  rw [show m.Work.Take.take (clipW m.Work).Take.length = (clipW m.Work).Take by simp [clipW, List.take_take]] at ht1
  rw [show m.Work.Drop.take (clipW m.Work).Drop.length = (clipW m.Work).Drop by simp [clipW, List.take_take]] at ht2
  refine walk ?_
  refine ops_box rfl rfl fun p1 _ => ?_
  refine ops_alloc rfl fun p2 _ => ?_
  refine walk ?_
  rw [hk1, hk2]
  have hcap1 : (clipW m.Work).Take.length * 16 ≤ cap47 := by simp [clipW, cap47]; omega
  have hcap2 : (clipW m.Work).Drop.length * 16 ≤ cap47 := by simp [clipW, cap47]; omega
  refine ops_call rfl rfl (refOwn_spec (m := clipM m) ⟨_, _, _, _, rfl, f1, f2, f3, f4, f5, f6, f7, ⟨ht1, hcap1⟩, ⟨ht2, hcap2⟩, f8, f9, f10, f11, h3, f12, f13, f14, h4⟩) fun r1 H1 B hl1 ⟨t1, t2, t3, t4, er, eB, eH⟩ => ?_
  subst er eB eH
  refine walk ?_
  refine out_freeze (sl t1 (clipM m).Work.Take) fun H2 g2 q1 => ?_
  refine out_freeze (sl t2 (clipM m).Work.Drop) fun H3 g3 q2 => ?_
  refine out_freeze (sl t3 (clipM m).Call.Route.Cells) fun H4 g4 q3 => ?_
  refine out_freeze (sl t4 (clipM m).Reply.Route.Cells) fun H5 g5 q4 => ?_
  refine fin0 ?_
  exact ⟨cvM t1 t2 t3 t4 (clipM m), rfl, ⟨_, _, _, _, rfl, f1, f2, f3, f4, f5, f6, f7, q1.mono (g3.trans (g4.trans g5)), q2.mono (g4.trans g5), f8, f9, f10, f11, q3.mono g5, f12, f13, f14, q4⟩, rfl⟩
end Go.Proofs.YtjgjcakeimkkdaaGreatDoor
