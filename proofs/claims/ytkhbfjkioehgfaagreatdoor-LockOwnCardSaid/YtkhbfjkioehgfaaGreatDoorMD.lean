/- Lists compared by the reference, where they are the same. -/
import Derived.Test.YtkhbfjkioehgfaaGreatDoorMB
set_option linter.unusedVariables false
set_option linter.unusedSimpArgs false
namespace Go.Proofs.YtkhbfjkioehgfaaGreatDoor
open Go Go.Sx Go.Proofs
theorem ints_spec {W0 : World} {H : Heap} {v0 v1 : Value} {xs ys : List Int} (h0 : SlR rInt 1 H v0 xs) (h1 : SlR rInt 1 H v1 ys) :
    Ct Tryz.prog 65 #[v0, v1] W0 H [] (fun r H' B => r = .bool (decide (xs = ys)) ∧ B = [] ∧ H' = H) := by
  refine Ct.go fun R => ?_
  obtain ⟨b0, c0, rfl, hc0, hd0⟩ := h0.shape
  obtain ⟨b1, c1, rfl, hc1, hd1⟩ := h1.shape
  refine walk ?_
  refine ex_if rfl (fun h => ?_) (fun h => ?_)
  · refine walk ?_
    refine fin0 ?_
    exact ⟨by simp; rintro rfl; exact h rfl, rfl, rfl⟩
  refine walk ?_
  refine ex_loop (fun k => k ≤ xs.length ∧ xs.take k = ys.take k) (fun k => [(0, .slice b0 xs.length c0), (1, .slice b1 ys.length c1), (12, I xs.length), (13, I k)]) (fun _ => H) (fun _ => R) (fun k => xs.length - k) 0 ⟨Nat.zero_le _, rfl⟩ fun k ⟨hk0, ht⟩ K hL => ?_
  refine walk ?_
  refine ex_if rfl (fun hk => ?_) (fun hk => ?_)
  · refine walk ?_
    refine ex_if rfl (fun hq => ?_) (fun hq => ?_)
    · refine walk ?_
      refine fin0 ?_
      exact ⟨by simp; rintro rfl; exact hq rfl, rfl, rfl⟩
    · refine walk ?_
      refine out_next hL (k + 1) ⟨by omega, ?_⟩
      simp at hq
      rw [List.take_succ_eq_append_getElem (by omega), List.take_succ_eq_append_getElem (by omega), ht, hq]
  · refine walk ?_
    refine fin0 ?_
    obtain rfl : k = xs.length := by omega
    exact ⟨by rw [List.take_length] at ht; simp; rw [ht]; exact List.take_of_length_le (by omega), rfl, rfl⟩
theorem texts_spec {W0 : World} {H : Heap} {v0 v1 : Value} {xs ys : List ByteArray} (h0 : SlR rStr 1 H v0 xs) (h1 : SlR rStr 1 H v1 ys) :
    Ct Tryz.prog 45 #[v0, v1] W0 H [] (fun r H' B => r = .bool (decide (xs = ys)) ∧ B = [] ∧ H' = H) := by
  refine Ct.go fun R => ?_
  obtain ⟨b0, c0, rfl, hc0, hd0⟩ := h0.shape
  obtain ⟨b1, c1, rfl, hc1, hd1⟩ := h1.shape
  refine walk ?_
  refine ex_if rfl (fun h => ?_) (fun h => ?_)
  · refine walk ?_
    refine fin0 ?_
    exact ⟨by rw [decide_eq_false (p := xs = ys) (by rintro rfl; exact h rfl)], rfl, rfl⟩
  refine walk ?_
  refine ex_loop (fun k => k ≤ xs.length ∧ xs.take k = ys.take k) (fun k => [(0, .slice b0 xs.length c0), (1, .slice b1 ys.length c1), (12, I xs.length), (13, I k)]) (fun _ => H) (fun _ => R) (fun k => xs.length - k) 0 ⟨Nat.zero_le _, rfl⟩ fun k ⟨hk0, ht⟩ K hL => ?_
  refine walk ?_
  refine ex_if rfl (fun hk => ?_) (fun hk => ?_)
  · refine walk ?_
    refine ex_if rfl (fun hq => ?_) (fun hq => ?_)
    · refine walk ?_
      refine fin0 ?_
      exact ⟨by rw [decide_eq_false (p := xs = ys) (by rintro rfl; exact hq rfl)], rfl, rfl⟩
    · refine walk ?_
      refine out_next hL (k + 1) ⟨by omega, ?_⟩
      simp at hq
      rw [List.take_succ_eq_append_getElem (by omega), List.take_succ_eq_append_getElem (by omega), ht, hq]
  · refine walk ?_
    refine fin0 ?_
    obtain rfl : k = xs.length := by omega
    exact ⟨by rw [List.take_length] at ht; rw [decide_eq_true (p := xs = ys) (by rw [ht]; exact List.take_of_length_le (by omega))], rfl, rfl⟩
set_option maxHeartbeats 8000000 in
theorem sameWork_spec {W0 : World} {H : Heap} {c d : List Value} {x y : Work} (h0 : rWork H c x) (h1 : rWork H d y) :
    Ct Tryz.prog 64 #[.agg c.toArray, .agg d.toArray] W0 H [] (fun r H' B => r = .bool (decide (x = y)) ∧ B = [] ∧ H' = H) := by
  refine Ct.go fun R => ?_
  obtain ⟨xr, xt, xd⟩ := x
  obtain ⟨yr, yt, yd⟩ := y
  obtain ⟨s1, s2, rfl, f1, h0, h0'⟩ := h0
  obtain ⟨t1, t2, rfl, f2, h1, h1'⟩ := h1
  dsimp only at *
  refine walk ?_
  refine ops_box rfl rfl fun p0 _ => ?_
  refine ops_box rfl rfl fun p1 _ => ?_
  by_cases e1 : xr = yr
  · refine walk ?_
    refine ops_call rfl rfl (texts_spec h0.1 h1.1) fun r H' B hl ⟨e, eB, eH⟩ => ?_
    subst e eB eH
    refine walk ?_
    refine ops_case (fun e2 => ?_) (fun e2 => ?_)
    · refine walk ?_
      refine ops_call rfl rfl (texts_spec h0'.1 h1'.1) fun r H' B hl ⟨e, eB, eH⟩ => ?_
      subst e eB eH
      refine walk ?_
      refine fin0 ?_
      exact ⟨by simp [e1, e2], rfl, rfl⟩
    · refine walk ?_
      refine fin0 ?_
      exact ⟨by simp [e2], rfl, rfl⟩
  · refine walk ?_
    refine fin0 ?_
    exact ⟨by simp [e1], rfl, rfl⟩
theorem eqHold (a c : ByteArray) (b d : Int) (w : World) : (Op.equalIn 10000 43 (.agg #[.string a, .int .i64 b]) (.agg #[.string c, .int .i64 d])).run Tryz.prog w = .ok (decide (a = c ∧ b = d)) w := by
  have u3 := Tryz.underlying3
  have a3 := Tryz.isAgg3
  have z3 := Tryz.sizeOf3
  have u9 := Tryz.underlying9
  have a9 := Tryz.isAgg9
  have z9 := Tryz.sizeOf9
  have hS : Tryz.prog.underlying 43 = some (.struct (Tryz.prog.fieldsOf 43)) := by kernel_rfl
  have hp : Tryz.prog.stoodInHeld 43 = false := by kernel_rfl
  rw [show (10000 : Nat) = 9999 + 1 from rfl, run_equalIn_agg w 9999 43 _ _ hS hp]
  simp only [Program.fieldsOf, Tryz.underlying43]
  go_simp
  have hb : (a.toList = c.toList) = (a = c) := propext ⟨fun h => text_ext (by simpa [bytes_toList] using h), fun h => by rw [h]⟩
  by_cases h1 : a = c <;> by_cases h2 : b = d <;> simp [h1, h2, hb]
theorem guardHold : Tryz.prog.eqGuardType Tryz.prog.depth 43 = false := by kernel_rfl
instance {x y : Operand} {T' : TypeId} {a c : ByteArray} {b d : Int} : BOp Tryz.prog (.binOp .neq 43 x y T') [.agg #[.string a, .int .i64 b], .agg #[.string c, .int .i64 d]] (¬ (a = c ∧ b = d)) inferInstance := ⟨fun h => OpP.cast (OpP.mk fun _ w hF _ => by
    simp only [execOp, hF.opv (opvs2 h).1, hF.opv (opvs2 h).2]
    simp only [Sem.run_bind, run_eqGuard_agg _ _ _ _ _ _ _ guardHold, run_neq_struct, eqHold, Result.andThen_ok]
    rfl) (by simp)⟩
theorem sameHolds_spec {W0 : World} {H : Heap} {v0 v1 : Value} {l : List Hold} (h0 : SlR rHold 2 H v0 l) (h1 : SlR rHold 2 H v1 l) :
    Ct Tryz.prog 41 #[v0, v1] W0 H [] (fun r H' B => r = .bool true ∧ B = [] ∧ H' = H) := by
  refine Ct.go (vs := [v0, v1]) fun R => ?_
  obtain ⟨b0, c0, rfl, hc0, hd0⟩ := h0.shape
  obtain ⟨b1, c1, rfl, hc1, hd1⟩ := h1.shape
  refine walk ?_
  refine ex_loop (σ := Nat) (fun k => k ≤ l.length) (fun k => [(0, .slice b0 l.length c0), (1, .slice b1 l.length c1), (12, I l.length), (13, I k)]) (fun _ => H) (fun _ => R) (fun k => l.length - k) 0 (Nat.zero_le _) fun k hk0 K hL => ?_
  refine walk ?_
  refine ex_if rfl (fun hk => ?_) (fun hk => ?_)
  · have hk1 : k < l.length := by omega
    refine walk ?_
    refine ops_ixp rfl rfl h0 hk1 fun b o cc hr hc => ?_
    obtain ⟨rfl, hsz, hfr⟩ := hc
    change HRow H b o [.string l[k].Key, I l[k].Robot] at hr
    refine ops_ldNH rfl rfl hr rfl ?_
    refine walk ?_
    refine ops_ixp rfl rfl h1 hk1 fun b' o' cc' hr' hc' => ?_
    obtain ⟨rfl, hsz', hfr'⟩ := hc'
    change HRow H b' o' [.string l[k].Key, I l[k].Robot] at hr'
    refine ops_ldNH rfl rfl hr' rfl ?_
    refine walk ?_
    rw [decide_eq_false (p := ¬ (l[k].Key = l[k].Key ∧ l[k].Robot = l[k].Robot)) (fun h => h ⟨rfl, rfl⟩)]
    refine walk ?_
    exact out_next hL (k + 1) (by omega)
  · refine walk ?_
    refine fin0 ?_
    exact ⟨rfl, rfl, rfl⟩
set_option maxHeartbeats 16000000 in
set_option maxRecDepth 20000 in
theorem sameRecs_spec {W0 : World} {H : Heap} {v0 v1 : Value} {l : List Rec} (h0 : SlR rRec 9 H v0 l) (h1 : SlR rRec 9 H v1 l) :
    Ct Tryz.prog 42 #[v0, v1] W0 H [] (fun r H' B => r = .bool true ∧ B = [] ∧ H' = H) := by
  refine Ct.go (vs := [v0, v1]) fun R => ?_
  obtain ⟨b0, c0, rfl, hc0, hd0⟩ := h0.shape
  obtain ⟨b1, c1, rfl, hc1, hd1⟩ := h1.shape
  refine walk ?_
  refine ex_loop (σ := Nat) (fun k => k ≤ l.length) (fun k => [(0, .slice b0 l.length c0), (1, .slice b1 l.length c1), (12, I l.length), (13, I k)]) (fun _ => H) (fun _ => R) (fun k => l.length - k) 0 (Nat.zero_le _) fun k hk0 K hL => ?_
  refine walk ?_
  refine ex_if rfl (fun hk => ?_) (fun hk => ?_)
  · have hk1 : k < l.length := by omega
    obtain ⟨q, hq⟩ : ∃ q, l[k] = q := ⟨_, rfl⟩
    refine walk ?_
    refine ex_any 65 [] ?_
    (first | refine gny_p 0 rfl rfl rfl ?_ | refine gny_ld 0 rfl rfl rfl rfl ?_ | refine gny_ldH 0 rfl rfl rfl ‹HRow _ _ 0 _› rfl ?_ | refine gny_T 0 rfl rfl rfl ?_ | refine gny_F 0 rfl rfl rfl ?_ | refine gny_B 0 rfl rfl rfl ?_ | refine gny_skip 0 rfl rfl ?_ | refine gny_sp 0 rfl rfl rfl ?_ | refine gny_sB 0 rfl rfl rfl ?_ | refine gny_sld 0 rfl rfl rfl rfl ?_ | refine gny_sldH 0 rfl rfl rfl ‹HRow _ _ 0 _› rfl ?_ | refine gny_ldN 0 rfl rfl rfl rfl ?_ | refine gny_bld 0 rfl rfl rfl ?_); (first | refine gny_p 1 rfl rfl rfl ?_ | refine gny_ld 1 rfl rfl rfl rfl ?_ | refine gny_ldH 1 rfl rfl rfl ‹HRow _ _ 0 _› rfl ?_ | refine gny_T 1 rfl rfl rfl ?_ | refine gny_F 1 rfl rfl rfl ?_ | refine gny_B 1 rfl rfl rfl ?_ | refine gny_skip 1 rfl rfl ?_ | refine gny_sp 1 rfl rfl rfl ?_ | refine gny_sB 1 rfl rfl rfl ?_ | refine gny_sld 1 rfl rfl rfl rfl ?_ | refine gny_sldH 1 rfl rfl rfl ‹HRow _ _ 0 _› rfl ?_ | refine gny_ldN 1 rfl rfl rfl rfl ?_ | refine gny_bld 1 rfl rfl rfl ?_)
    refine gny_ixp 2 rfl rfl rfl h0 hk1 fun ba oa ca ra ea => ?_
    obtain ⟨ua, va, wa', rfl, fa⟩ := ea
    rw [hq] at ra fa
    (first | refine gny_p 3 rfl rfl rfl ?_ | refine gny_ld 3 rfl rfl rfl rfl ?_ | refine gny_ldH 3 rfl rfl rfl ‹HRow _ _ 0 _› rfl ?_ | refine gny_T 3 rfl rfl rfl ?_ | refine gny_F 3 rfl rfl rfl ?_ | refine gny_B 3 rfl rfl rfl ?_ | refine gny_skip 3 rfl rfl ?_ | refine gny_sp 3 rfl rfl rfl ?_ | refine gny_sB 3 rfl rfl rfl ?_ | refine gny_sld 3 rfl rfl rfl rfl ?_ | refine gny_sldH 3 rfl rfl rfl ‹HRow _ _ 0 _› rfl ?_ | refine gny_ldN 3 rfl rfl rfl rfl ?_ | refine gny_bld 3 rfl rfl rfl ?_)
    refine gny_ldHo 4 0 rfl rfl ra rfl rfl ?_
    (first | refine gny_p 5 rfl rfl rfl ?_ | refine gny_ld 5 rfl rfl rfl rfl ?_ | refine gny_ldH 5 rfl rfl rfl ‹HRow _ _ 0 _› rfl ?_ | refine gny_T 5 rfl rfl rfl ?_ | refine gny_F 5 rfl rfl rfl ?_ | refine gny_B 5 rfl rfl rfl ?_ | refine gny_skip 5 rfl rfl ?_ | refine gny_sp 5 rfl rfl rfl ?_ | refine gny_sB 5 rfl rfl rfl ?_ | refine gny_sld 5 rfl rfl rfl rfl ?_ | refine gny_sldH 5 rfl rfl rfl ‹HRow _ _ 0 _› rfl ?_ | refine gny_ldN 5 rfl rfl rfl rfl ?_ | refine gny_bld 5 rfl rfl rfl ?_); (first | refine gny_p 6 rfl rfl rfl ?_ | refine gny_ld 6 rfl rfl rfl rfl ?_ | refine gny_ldH 6 rfl rfl rfl ‹HRow _ _ 0 _› rfl ?_ | refine gny_T 6 rfl rfl rfl ?_ | refine gny_F 6 rfl rfl rfl ?_ | refine gny_B 6 rfl rfl rfl ?_ | refine gny_skip 6 rfl rfl ?_ | refine gny_sp 6 rfl rfl rfl ?_ | refine gny_sB 6 rfl rfl rfl ?_ | refine gny_sld 6 rfl rfl rfl rfl ?_ | refine gny_sldH 6 rfl rfl rfl ‹HRow _ _ 0 _› rfl ?_ | refine gny_ldN 6 rfl rfl rfl rfl ?_ | refine gny_bld 6 rfl rfl rfl ?_)
    refine gny_ixp 7 rfl rfl rfl h1 hk1 fun bb ob cb rb eb => ?_
    obtain ⟨ub, vb, wb', rfl, fb⟩ := eb
    rw [hq] at rb fb
    (first | refine gny_p 8 rfl rfl rfl ?_ | refine gny_ld 8 rfl rfl rfl rfl ?_ | refine gny_ldH 8 rfl rfl rfl ‹HRow _ _ 0 _› rfl ?_ | refine gny_T 8 rfl rfl rfl ?_ | refine gny_F 8 rfl rfl rfl ?_ | refine gny_B 8 rfl rfl rfl ?_ | refine gny_skip 8 rfl rfl ?_ | refine gny_sp 8 rfl rfl rfl ?_ | refine gny_sB 8 rfl rfl rfl ?_ | refine gny_sld 8 rfl rfl rfl rfl ?_ | refine gny_sldH 8 rfl rfl rfl ‹HRow _ _ 0 _› rfl ?_ | refine gny_ldN 8 rfl rfl rfl rfl ?_ | refine gny_bld 8 rfl rfl rfl ?_)
    refine gny_ldHo 9 0 rfl rfl rb rfl rfl ?_
    (first | refine gny_p 10 rfl rfl rfl ?_ | refine gny_ld 10 rfl rfl rfl rfl ?_ | refine gny_ldH 10 rfl rfl rfl ‹HRow _ _ 0 _› rfl ?_ | refine gny_T 10 rfl rfl rfl ?_ | refine gny_F 10 rfl rfl rfl ?_ | refine gny_B 10 rfl rfl rfl ?_ | refine gny_skip 10 rfl rfl ?_ | refine gny_sp 10 rfl rfl rfl ?_ | refine gny_sB 10 rfl rfl rfl ?_ | refine gny_sld 10 rfl rfl rfl rfl ?_ | refine gny_sldH 10 rfl rfl rfl ‹HRow _ _ 0 _› rfl ?_ | refine gny_ldN 10 rfl rfl rfl rfl ?_ | refine gny_bld 10 rfl rfl rfl ?_)
    (first | refine gny_p 11 rfl rfl rfl ?_ | refine gny_ld 11 rfl rfl rfl rfl ?_ | refine gny_ldH 11 rfl rfl rfl ‹HRow _ _ 0 _› rfl ?_ | refine gny_T 11 rfl rfl rfl ?_ | refine gny_F 11 rfl rfl rfl ?_ | refine gny_B 11 rfl rfl rfl ?_ | refine gny_skip 11 rfl rfl ?_ | refine gny_sp 11 rfl rfl rfl ?_ | refine gny_sB 11 rfl rfl rfl ?_ | refine gny_sld 11 rfl rfl rfl rfl ?_ | refine gny_sldH 11 rfl rfl rfl ‹HRow _ _ 0 _› rfl ?_ | refine gny_ldN 11 rfl rfl rfl rfl ?_ | refine gny_bld 11 rfl rfl rfl ?_); (first | refine gny_p 12 rfl rfl rfl ?_ | refine gny_ld 12 rfl rfl rfl rfl ?_ | refine gny_ldH 12 rfl rfl rfl ‹HRow _ _ 0 _› rfl ?_ | refine gny_T 12 rfl rfl rfl ?_ | refine gny_F 12 rfl rfl rfl ?_ | refine gny_B 12 rfl rfl rfl ?_ | refine gny_skip 12 rfl rfl ?_ | refine gny_sp 12 rfl rfl rfl ?_ | refine gny_sB 12 rfl rfl rfl ?_ | refine gny_sld 12 rfl rfl rfl rfl ?_ | refine gny_sldH 12 rfl rfl rfl ‹HRow _ _ 0 _› rfl ?_ | refine gny_ldN 12 rfl rfl rfl rfl ?_ | refine gny_bld 12 rfl rfl rfl ?_); (first | refine gny_p 13 rfl rfl rfl ?_ | refine gny_ld 13 rfl rfl rfl rfl ?_ | refine gny_ldH 13 rfl rfl rfl ‹HRow _ _ 0 _› rfl ?_ | refine gny_T 13 rfl rfl rfl ?_ | refine gny_F 13 rfl rfl rfl ?_ | refine gny_B 13 rfl rfl rfl ?_ | refine gny_skip 13 rfl rfl ?_ | refine gny_sp 13 rfl rfl rfl ?_ | refine gny_sB 13 rfl rfl rfl ?_ | refine gny_sld 13 rfl rfl rfl rfl ?_ | refine gny_sldH 13 rfl rfl rfl ‹HRow _ _ 0 _› rfl ?_ | refine gny_ldN 13 rfl rfl rfl rfl ?_ | refine gny_bld 13 rfl rfl rfl ?_)
    refine gny_ixp 14 rfl rfl rfl h0 hk1 fun ba2 oa2 ca2 ra2 ea2 => ?_
    obtain ⟨ua2, va2, wa2, rfl, fa2⟩ := ea2
    rw [hq] at ra2 fa2
    (first | refine gny_p 15 rfl rfl rfl ?_ | refine gny_ld 15 rfl rfl rfl rfl ?_ | refine gny_ldH 15 rfl rfl rfl ‹HRow _ _ 0 _› rfl ?_ | refine gny_T 15 rfl rfl rfl ?_ | refine gny_F 15 rfl rfl rfl ?_ | refine gny_B 15 rfl rfl rfl ?_ | refine gny_skip 15 rfl rfl ?_ | refine gny_sp 15 rfl rfl rfl ?_ | refine gny_sB 15 rfl rfl rfl ?_ | refine gny_sld 15 rfl rfl rfl rfl ?_ | refine gny_sldH 15 rfl rfl rfl ‹HRow _ _ 0 _› rfl ?_ | refine gny_ldN 15 rfl rfl rfl rfl ?_ | refine gny_bld 15 rfl rfl rfl ?_)
    refine gny_ldNH 16 rfl rfl rfl (rec_txn ra2) rfl ?_
    (first | refine gny_p 17 rfl rfl rfl ?_ | refine gny_ld 17 rfl rfl rfl rfl ?_ | refine gny_ldH 17 rfl rfl rfl ‹HRow _ _ 0 _› rfl ?_ | refine gny_T 17 rfl rfl rfl ?_ | refine gny_F 17 rfl rfl rfl ?_ | refine gny_B 17 rfl rfl rfl ?_ | refine gny_skip 17 rfl rfl ?_ | refine gny_sp 17 rfl rfl rfl ?_ | refine gny_sB 17 rfl rfl rfl ?_ | refine gny_sld 17 rfl rfl rfl rfl ?_ | refine gny_sldH 17 rfl rfl rfl ‹HRow _ _ 0 _› rfl ?_ | refine gny_ldN 17 rfl rfl rfl rfl ?_ | refine gny_bld 17 rfl rfl rfl ?_); (first | refine gny_p 18 rfl rfl rfl ?_ | refine gny_ld 18 rfl rfl rfl rfl ?_ | refine gny_ldH 18 rfl rfl rfl ‹HRow _ _ 0 _› rfl ?_ | refine gny_T 18 rfl rfl rfl ?_ | refine gny_F 18 rfl rfl rfl ?_ | refine gny_B 18 rfl rfl rfl ?_ | refine gny_skip 18 rfl rfl ?_ | refine gny_sp 18 rfl rfl rfl ?_ | refine gny_sB 18 rfl rfl rfl ?_ | refine gny_sld 18 rfl rfl rfl rfl ?_ | refine gny_sldH 18 rfl rfl rfl ‹HRow _ _ 0 _› rfl ?_ | refine gny_ldN 18 rfl rfl rfl rfl ?_ | refine gny_bld 18 rfl rfl rfl ?_)
    refine gny_ixp 19 rfl rfl rfl h1 hk1 fun bb2 ob2 cb2 rb2 eb2 => ?_
    obtain ⟨ub2, vb2, wb2, rfl, fb2⟩ := eb2
    rw [hq] at rb2 fb2
    (first | refine gny_p 20 rfl rfl rfl ?_ | refine gny_ld 20 rfl rfl rfl rfl ?_ | refine gny_ldH 20 rfl rfl rfl ‹HRow _ _ 0 _› rfl ?_ | refine gny_T 20 rfl rfl rfl ?_ | refine gny_F 20 rfl rfl rfl ?_ | refine gny_B 20 rfl rfl rfl ?_ | refine gny_skip 20 rfl rfl ?_ | refine gny_sp 20 rfl rfl rfl ?_ | refine gny_sB 20 rfl rfl rfl ?_ | refine gny_sld 20 rfl rfl rfl rfl ?_ | refine gny_sldH 20 rfl rfl rfl ‹HRow _ _ 0 _› rfl ?_ | refine gny_ldN 20 rfl rfl rfl rfl ?_ | refine gny_bld 20 rfl rfl rfl ?_)
    refine gny_ldNH 21 rfl rfl rfl (rec_txn rb2) rfl ?_
    (first | refine gny_p 22 rfl rfl rfl ?_ | refine gny_ld 22 rfl rfl rfl rfl ?_ | refine gny_ldH 22 rfl rfl rfl ‹HRow _ _ 0 _› rfl ?_ | refine gny_T 22 rfl rfl rfl ?_ | refine gny_F 22 rfl rfl rfl ?_ | refine gny_B 22 rfl rfl rfl ?_ | refine gny_skip 22 rfl rfl ?_ | refine gny_sp 22 rfl rfl rfl ?_ | refine gny_sB 22 rfl rfl rfl ?_ | refine gny_sld 22 rfl rfl rfl rfl ?_ | refine gny_sldH 22 rfl rfl rfl ‹HRow _ _ 0 _› rfl ?_ | refine gny_ldN 22 rfl rfl rfl rfl ?_ | refine gny_bld 22 rfl rfl rfl ?_)
    (first | refine gny_p 23 rfl rfl rfl ?_ | refine gny_ld 23 rfl rfl rfl rfl ?_ | refine gny_ldH 23 rfl rfl rfl ‹HRow _ _ 0 _› rfl ?_ | refine gny_T 23 rfl rfl rfl ?_ | refine gny_F 23 rfl rfl rfl ?_ | refine gny_B 23 rfl rfl rfl ?_ | refine gny_skip 23 rfl rfl ?_ | refine gny_sp 23 rfl rfl rfl ?_ | refine gny_sB 23 rfl rfl rfl ?_ | refine gny_sld 23 rfl rfl rfl rfl ?_ | refine gny_sldH 23 rfl rfl rfl ‹HRow _ _ 0 _› rfl ?_ | refine gny_ldN 23 rfl rfl rfl rfl ?_ | refine gny_bld 23 rfl rfl rfl ?_); (first | refine gny_p 24 rfl rfl rfl ?_ | refine gny_ld 24 rfl rfl rfl rfl ?_ | refine gny_ldH 24 rfl rfl rfl ‹HRow _ _ 0 _› rfl ?_ | refine gny_T 24 rfl rfl rfl ?_ | refine gny_F 24 rfl rfl rfl ?_ | refine gny_B 24 rfl rfl rfl ?_ | refine gny_skip 24 rfl rfl ?_ | refine gny_sp 24 rfl rfl rfl ?_ | refine gny_sB 24 rfl rfl rfl ?_ | refine gny_sld 24 rfl rfl rfl rfl ?_ | refine gny_sldH 24 rfl rfl rfl ‹HRow _ _ 0 _› rfl ?_ | refine gny_ldN 24 rfl rfl rfl rfl ?_ | refine gny_bld 24 rfl rfl rfl ?_); (first | refine gny_p 25 rfl rfl rfl ?_ | refine gny_ld 25 rfl rfl rfl rfl ?_ | refine gny_ldH 25 rfl rfl rfl ‹HRow _ _ 0 _› rfl ?_ | refine gny_T 25 rfl rfl rfl ?_ | refine gny_F 25 rfl rfl rfl ?_ | refine gny_B 25 rfl rfl rfl ?_ | refine gny_skip 25 rfl rfl ?_ | refine gny_sp 25 rfl rfl rfl ?_ | refine gny_sB 25 rfl rfl rfl ?_ | refine gny_sld 25 rfl rfl rfl rfl ?_ | refine gny_sldH 25 rfl rfl rfl ‹HRow _ _ 0 _› rfl ?_ | refine gny_ldN 25 rfl rfl rfl rfl ?_ | refine gny_bld 25 rfl rfl rfl ?_); (first | refine gny_p 26 rfl rfl rfl ?_ | refine gny_ld 26 rfl rfl rfl rfl ?_ | refine gny_ldH 26 rfl rfl rfl ‹HRow _ _ 0 _› rfl ?_ | refine gny_T 26 rfl rfl rfl ?_ | refine gny_F 26 rfl rfl rfl ?_ | refine gny_B 26 rfl rfl rfl ?_ | refine gny_skip 26 rfl rfl ?_ | refine gny_sp 26 rfl rfl rfl ?_ | refine gny_sB 26 rfl rfl rfl ?_ | refine gny_sld 26 rfl rfl rfl rfl ?_ | refine gny_sldH 26 rfl rfl rfl ‹HRow _ _ 0 _› rfl ?_ | refine gny_ldN 26 rfl rfl rfl rfl ?_ | refine gny_bld 26 rfl rfl rfl ?_)
    refine gny_ixp 27 rfl rfl rfl h0 hk1 fun ba3 oa3 ca3 ra3 ea3 => ?_
    obtain ⟨ua3, va3, wa3, rfl, fa3⟩ := ea3
    rw [hq] at ra3 fa3
    (first | refine gny_p 28 rfl rfl rfl ?_ | refine gny_ld 28 rfl rfl rfl rfl ?_ | refine gny_ldH 28 rfl rfl rfl ‹HRow _ _ 0 _› rfl ?_ | refine gny_T 28 rfl rfl rfl ?_ | refine gny_F 28 rfl rfl rfl ?_ | refine gny_B 28 rfl rfl rfl ?_ | refine gny_skip 28 rfl rfl ?_ | refine gny_sp 28 rfl rfl rfl ?_ | refine gny_sB 28 rfl rfl rfl ?_ | refine gny_sld 28 rfl rfl rfl rfl ?_ | refine gny_sldH 28 rfl rfl rfl ‹HRow _ _ 0 _› rfl ?_ | refine gny_ldN 28 rfl rfl rfl rfl ?_ | refine gny_bld 28 rfl rfl rfl ?_)
    refine gny_ldHo 29 7 rfl rfl ra3 rfl rfl ?_
    (first | refine gny_p 30 rfl rfl rfl ?_ | refine gny_ld 30 rfl rfl rfl rfl ?_ | refine gny_ldH 30 rfl rfl rfl ‹HRow _ _ 0 _› rfl ?_ | refine gny_T 30 rfl rfl rfl ?_ | refine gny_F 30 rfl rfl rfl ?_ | refine gny_B 30 rfl rfl rfl ?_ | refine gny_skip 30 rfl rfl ?_ | refine gny_sp 30 rfl rfl rfl ?_ | refine gny_sB 30 rfl rfl rfl ?_ | refine gny_sld 30 rfl rfl rfl rfl ?_ | refine gny_sldH 30 rfl rfl rfl ‹HRow _ _ 0 _› rfl ?_ | refine gny_ldN 30 rfl rfl rfl rfl ?_ | refine gny_bld 30 rfl rfl rfl ?_); (first | refine gny_p 31 rfl rfl rfl ?_ | refine gny_ld 31 rfl rfl rfl rfl ?_ | refine gny_ldH 31 rfl rfl rfl ‹HRow _ _ 0 _› rfl ?_ | refine gny_T 31 rfl rfl rfl ?_ | refine gny_F 31 rfl rfl rfl ?_ | refine gny_B 31 rfl rfl rfl ?_ | refine gny_skip 31 rfl rfl ?_ | refine gny_sp 31 rfl rfl rfl ?_ | refine gny_sB 31 rfl rfl rfl ?_ | refine gny_sld 31 rfl rfl rfl rfl ?_ | refine gny_sldH 31 rfl rfl rfl ‹HRow _ _ 0 _› rfl ?_ | refine gny_ldN 31 rfl rfl rfl rfl ?_ | refine gny_bld 31 rfl rfl rfl ?_)
    refine gny_ixp 32 rfl rfl rfl h1 hk1 fun bb3 ob3 cb3 rb3 eb3 => ?_
    obtain ⟨ub3, vb3, wb3, rfl, fb3⟩ := eb3
    rw [hq] at rb3 fb3
    (first | refine gny_p 33 rfl rfl rfl ?_ | refine gny_ld 33 rfl rfl rfl rfl ?_ | refine gny_ldH 33 rfl rfl rfl ‹HRow _ _ 0 _› rfl ?_ | refine gny_T 33 rfl rfl rfl ?_ | refine gny_F 33 rfl rfl rfl ?_ | refine gny_B 33 rfl rfl rfl ?_ | refine gny_skip 33 rfl rfl ?_ | refine gny_sp 33 rfl rfl rfl ?_ | refine gny_sB 33 rfl rfl rfl ?_ | refine gny_sld 33 rfl rfl rfl rfl ?_ | refine gny_sldH 33 rfl rfl rfl ‹HRow _ _ 0 _› rfl ?_ | refine gny_ldN 33 rfl rfl rfl rfl ?_ | refine gny_bld 33 rfl rfl rfl ?_)
    refine gny_ldHo 34 7 rfl rfl rb3 rfl rfl ?_
    have hyy : ¬ ¬ q.Yes = q.Yes := fun h => h rfl
    (first | refine gny_p 35 rfl rfl rfl ?_ | refine gny_ld 35 rfl rfl rfl rfl ?_ | refine gny_ldH 35 rfl rfl rfl ‹HRow _ _ 0 _› rfl ?_ | refine gny_T 35 rfl rfl rfl ?_ | refine gny_F 35 rfl rfl rfl ?_ | refine gny_B 35 rfl rfl rfl ?_ | refine gny_skip 35 rfl rfl ?_ | refine gny_sp 35 rfl rfl rfl ?_ | refine gny_sB 35 rfl rfl rfl ?_ | refine gny_sld 35 rfl rfl rfl rfl ?_ | refine gny_sldH 35 rfl rfl rfl ‹HRow _ _ 0 _› rfl ?_ | refine gny_ldN 35 rfl rfl rfl rfl ?_ | refine gny_bld 35 rfl rfl rfl ?_); (first | refine gny_p 36 rfl rfl rfl ?_ | refine gny_ld 36 rfl rfl rfl rfl ?_ | refine gny_ldH 36 rfl rfl rfl ‹HRow _ _ 0 _› rfl ?_ | refine gny_T 36 rfl rfl rfl ?_ | refine gny_F 36 rfl rfl rfl ?_ | refine gny_B 36 rfl rfl rfl ?_ | refine gny_skip 36 rfl rfl ?_ | refine gny_sp 36 rfl rfl rfl ?_ | refine gny_sB 36 rfl rfl rfl ?_ | refine gny_sld 36 rfl rfl rfl rfl ?_ | refine gny_sldH 36 rfl rfl rfl ‹HRow _ _ 0 _› rfl ?_ | refine gny_ldN 36 rfl rfl rfl rfl ?_ | refine gny_bld 36 rfl rfl rfl ?_); (first | refine gny_p 37 rfl rfl rfl ?_ | refine gny_ld 37 rfl rfl rfl rfl ?_ | refine gny_ldH 37 rfl rfl rfl ‹HRow _ _ 0 _› rfl ?_ | refine gny_T 37 rfl rfl rfl ?_ | refine gny_F 37 rfl rfl rfl ?_ | refine gny_B 37 rfl rfl rfl ?_ | refine gny_skip 37 rfl rfl ?_ | refine gny_sp 37 rfl rfl rfl ?_ | refine gny_sB 37 rfl rfl rfl ?_ | refine gny_sld 37 rfl rfl rfl rfl ?_ | refine gny_sldH 37 rfl rfl rfl ‹HRow _ _ 0 _› rfl ?_ | refine gny_ldN 37 rfl rfl rfl rfl ?_ | refine gny_bld 37 rfl rfl rfl ?_); (first | refine gny_p 38 rfl rfl rfl ?_ | refine gny_ld 38 rfl rfl rfl rfl ?_ | refine gny_ldH 38 rfl rfl rfl ‹HRow _ _ 0 _› rfl ?_ | refine gny_T 38 rfl rfl rfl ?_ | refine gny_F 38 rfl rfl rfl ?_ | refine gny_B 38 rfl rfl rfl ?_ | refine gny_skip 38 rfl rfl ?_ | refine gny_sp 38 rfl rfl rfl ?_ | refine gny_sB 38 rfl rfl rfl ?_ | refine gny_sld 38 rfl rfl rfl rfl ?_ | refine gny_sldH 38 rfl rfl rfl ‹HRow _ _ 0 _› rfl ?_ | refine gny_ldN 38 rfl rfl rfl rfl ?_ | refine gny_bld 38 rfl rfl rfl ?_); (first | refine gny_p 39 rfl rfl rfl ?_ | refine gny_ld 39 rfl rfl rfl rfl ?_ | refine gny_ldH 39 rfl rfl rfl ‹HRow _ _ 0 _› rfl ?_ | refine gny_T 39 rfl rfl rfl ?_ | refine gny_F 39 rfl rfl rfl ?_ | refine gny_B 39 rfl rfl rfl ?_ | refine gny_skip 39 rfl rfl ?_ | refine gny_sp 39 rfl rfl rfl ?_ | refine gny_sB 39 rfl rfl rfl ?_ | refine gny_sld 39 rfl rfl rfl rfl ?_ | refine gny_sldH 39 rfl rfl rfl ‹HRow _ _ 0 _› rfl ?_ | refine gny_ldN 39 rfl rfl rfl rfl ?_ | refine gny_bld 39 rfl rfl rfl ?_)
    refine gny_ixp 40 rfl rfl rfl h0 hk1 fun ba4 oa4 ca4 ra4 ea4 => ?_
    obtain ⟨ua4, va4, wa4, rfl, _, _, _, _, fa4, fa5, fa6, _⟩ := ea4
    rw [hq] at ra4 fa4 fa5 fa6
    (first | refine gny_p 41 rfl rfl rfl ?_ | refine gny_ld 41 rfl rfl rfl rfl ?_ | refine gny_ldH 41 rfl rfl rfl ‹HRow _ _ 0 _› rfl ?_ | refine gny_T 41 rfl rfl rfl ?_ | refine gny_F 41 rfl rfl rfl ?_ | refine gny_B 41 rfl rfl rfl ?_ | refine gny_skip 41 rfl rfl ?_ | refine gny_sp 41 rfl rfl rfl ?_ | refine gny_sB 41 rfl rfl rfl ?_ | refine gny_sld 41 rfl rfl rfl rfl ?_ | refine gny_sldH 41 rfl rfl rfl ‹HRow _ _ 0 _› rfl ?_ | refine gny_ldN 41 rfl rfl rfl rfl ?_ | refine gny_bld 41 rfl rfl rfl ?_)
    refine gny_ldNH 42 rfl rfl rfl (rec_work ra4) rfl ?_
    (first | refine gny_p 43 rfl rfl rfl ?_ | refine gny_ld 43 rfl rfl rfl rfl ?_ | refine gny_ldH 43 rfl rfl rfl ‹HRow _ _ 0 _› rfl ?_ | refine gny_T 43 rfl rfl rfl ?_ | refine gny_F 43 rfl rfl rfl ?_ | refine gny_B 43 rfl rfl rfl ?_ | refine gny_skip 43 rfl rfl ?_ | refine gny_sp 43 rfl rfl rfl ?_ | refine gny_sB 43 rfl rfl rfl ?_ | refine gny_sld 43 rfl rfl rfl rfl ?_ | refine gny_sldH 43 rfl rfl rfl ‹HRow _ _ 0 _› rfl ?_ | refine gny_ldN 43 rfl rfl rfl rfl ?_ | refine gny_bld 43 rfl rfl rfl ?_); (first | refine gny_p 44 rfl rfl rfl ?_ | refine gny_ld 44 rfl rfl rfl rfl ?_ | refine gny_ldH 44 rfl rfl rfl ‹HRow _ _ 0 _› rfl ?_ | refine gny_T 44 rfl rfl rfl ?_ | refine gny_F 44 rfl rfl rfl ?_ | refine gny_B 44 rfl rfl rfl ?_ | refine gny_skip 44 rfl rfl ?_ | refine gny_sp 44 rfl rfl rfl ?_ | refine gny_sB 44 rfl rfl rfl ?_ | refine gny_sld 44 rfl rfl rfl rfl ?_ | refine gny_sldH 44 rfl rfl rfl ‹HRow _ _ 0 _› rfl ?_ | refine gny_ldN 44 rfl rfl rfl rfl ?_ | refine gny_bld 44 rfl rfl rfl ?_)
    refine gny_ixp 45 rfl rfl rfl h1 hk1 fun bb4 ob4 cb4 rb4 eb4 => ?_
    obtain ⟨ub4, vb4, wb4, rfl, _, _, _, _, fb4, fb5, fb6, _⟩ := eb4
    rw [hq] at rb4 fb4 fb5 fb6
    (first | refine gny_p 46 rfl rfl rfl ?_ | refine gny_ld 46 rfl rfl rfl rfl ?_ | refine gny_ldH 46 rfl rfl rfl ‹HRow _ _ 0 _› rfl ?_ | refine gny_T 46 rfl rfl rfl ?_ | refine gny_F 46 rfl rfl rfl ?_ | refine gny_B 46 rfl rfl rfl ?_ | refine gny_skip 46 rfl rfl ?_ | refine gny_sp 46 rfl rfl rfl ?_ | refine gny_sB 46 rfl rfl rfl ?_ | refine gny_sld 46 rfl rfl rfl rfl ?_ | refine gny_sldH 46 rfl rfl rfl ‹HRow _ _ 0 _› rfl ?_ | refine gny_ldN 46 rfl rfl rfl rfl ?_ | refine gny_bld 46 rfl rfl rfl ?_)
    refine gny_ldNH 47 rfl rfl rfl (rec_work rb4) rfl ?_
    refine gny_pcall 48 rfl rfl rfl (sameWork_spec (x := q.Work) (y := q.Work) (c := [I q.Work.Robot, ua4, va4]) (d := [I q.Work.Robot, ub4, vb4]) ⟨_, _, rfl, fa4, fa5, fa6⟩ ⟨_, _, rfl, fb4, fb5, fb6⟩) ?_
    rw [decide_eq_true (p := q.Work = q.Work) rfl]
    (first | refine gny_p 49 rfl rfl rfl ?_ | refine gny_ld 49 rfl rfl rfl rfl ?_ | refine gny_ldH 49 rfl rfl rfl ‹HRow _ _ 0 _› rfl ?_ | refine gny_T 49 rfl rfl rfl ?_ | refine gny_F 49 rfl rfl rfl ?_ | refine gny_B 49 rfl rfl rfl ?_ | refine gny_skip 49 rfl rfl ?_ | refine gny_sp 49 rfl rfl rfl ?_ | refine gny_sB 49 rfl rfl rfl ?_ | refine gny_sld 49 rfl rfl rfl rfl ?_ | refine gny_sldH 49 rfl rfl rfl ‹HRow _ _ 0 _› rfl ?_ | refine gny_ldN 49 rfl rfl rfl rfl ?_ | refine gny_bld 49 rfl rfl rfl ?_); (first | refine gny_p 50 rfl rfl rfl ?_ | refine gny_ld 50 rfl rfl rfl rfl ?_ | refine gny_ldH 50 rfl rfl rfl ‹HRow _ _ 0 _› rfl ?_ | refine gny_T 50 rfl rfl rfl ?_ | refine gny_F 50 rfl rfl rfl ?_ | refine gny_B 50 rfl rfl rfl ?_ | refine gny_skip 50 rfl rfl ?_ | refine gny_sp 50 rfl rfl rfl ?_ | refine gny_sB 50 rfl rfl rfl ?_ | refine gny_sld 50 rfl rfl rfl rfl ?_ | refine gny_sldH 50 rfl rfl rfl ‹HRow _ _ 0 _› rfl ?_ | refine gny_ldN 50 rfl rfl rfl rfl ?_ | refine gny_bld 50 rfl rfl rfl ?_); (first | refine gny_p 51 rfl rfl rfl ?_ | refine gny_ld 51 rfl rfl rfl rfl ?_ | refine gny_ldH 51 rfl rfl rfl ‹HRow _ _ 0 _› rfl ?_ | refine gny_T 51 rfl rfl rfl ?_ | refine gny_F 51 rfl rfl rfl ?_ | refine gny_B 51 rfl rfl rfl ?_ | refine gny_skip 51 rfl rfl ?_ | refine gny_sp 51 rfl rfl rfl ?_ | refine gny_sB 51 rfl rfl rfl ?_ | refine gny_sld 51 rfl rfl rfl rfl ?_ | refine gny_sldH 51 rfl rfl rfl ‹HRow _ _ 0 _› rfl ?_ | refine gny_ldN 51 rfl rfl rfl rfl ?_ | refine gny_bld 51 rfl rfl rfl ?_); (first | refine gny_p 52 rfl rfl rfl ?_ | refine gny_ld 52 rfl rfl rfl rfl ?_ | refine gny_ldH 52 rfl rfl rfl ‹HRow _ _ 0 _› rfl ?_ | refine gny_T 52 rfl rfl rfl ?_ | refine gny_F 52 rfl rfl rfl ?_ | refine gny_B 52 rfl rfl rfl ?_ | refine gny_skip 52 rfl rfl ?_ | refine gny_sp 52 rfl rfl rfl ?_ | refine gny_sB 52 rfl rfl rfl ?_ | refine gny_sld 52 rfl rfl rfl rfl ?_ | refine gny_sldH 52 rfl rfl rfl ‹HRow _ _ 0 _› rfl ?_ | refine gny_ldN 52 rfl rfl rfl rfl ?_ | refine gny_bld 52 rfl rfl rfl ?_); (first | refine gny_p 53 rfl rfl rfl ?_ | refine gny_ld 53 rfl rfl rfl rfl ?_ | refine gny_ldH 53 rfl rfl rfl ‹HRow _ _ 0 _› rfl ?_ | refine gny_T 53 rfl rfl rfl ?_ | refine gny_F 53 rfl rfl rfl ?_ | refine gny_B 53 rfl rfl rfl ?_ | refine gny_skip 53 rfl rfl ?_ | refine gny_sp 53 rfl rfl rfl ?_ | refine gny_sB 53 rfl rfl rfl ?_ | refine gny_sld 53 rfl rfl rfl rfl ?_ | refine gny_sldH 53 rfl rfl rfl ‹HRow _ _ 0 _› rfl ?_ | refine gny_ldN 53 rfl rfl rfl rfl ?_ | refine gny_bld 53 rfl rfl rfl ?_)
    refine gny_ixp 54 rfl rfl rfl h0 hk1 fun ba5 oa5 ca5 ra5 ea5 => ?_
    obtain ⟨ua5, va5, wa5, rfl, _, _, _, _, _, _, _, ga5⟩ := ea5
    rw [hq] at ra5 ga5
    (first | refine gny_p 55 rfl rfl rfl ?_ | refine gny_ld 55 rfl rfl rfl rfl ?_ | refine gny_ldH 55 rfl rfl rfl ‹HRow _ _ 0 _› rfl ?_ | refine gny_T 55 rfl rfl rfl ?_ | refine gny_F 55 rfl rfl rfl ?_ | refine gny_B 55 rfl rfl rfl ?_ | refine gny_skip 55 rfl rfl ?_ | refine gny_sp 55 rfl rfl rfl ?_ | refine gny_sB 55 rfl rfl rfl ?_ | refine gny_sld 55 rfl rfl rfl rfl ?_ | refine gny_sldH 55 rfl rfl rfl ‹HRow _ _ 0 _› rfl ?_ | refine gny_ldN 55 rfl rfl rfl rfl ?_ | refine gny_bld 55 rfl rfl rfl ?_)
    refine gny_ldHo 56 8 rfl rfl ra5 rfl rfl ?_
    (first | refine gny_p 57 rfl rfl rfl ?_ | refine gny_ld 57 rfl rfl rfl rfl ?_ | refine gny_ldH 57 rfl rfl rfl ‹HRow _ _ 0 _› rfl ?_ | refine gny_T 57 rfl rfl rfl ?_ | refine gny_F 57 rfl rfl rfl ?_ | refine gny_B 57 rfl rfl rfl ?_ | refine gny_skip 57 rfl rfl ?_ | refine gny_sp 57 rfl rfl rfl ?_ | refine gny_sB 57 rfl rfl rfl ?_ | refine gny_sld 57 rfl rfl rfl rfl ?_ | refine gny_sldH 57 rfl rfl rfl ‹HRow _ _ 0 _› rfl ?_ | refine gny_ldN 57 rfl rfl rfl rfl ?_ | refine gny_bld 57 rfl rfl rfl ?_); (first | refine gny_p 58 rfl rfl rfl ?_ | refine gny_ld 58 rfl rfl rfl rfl ?_ | refine gny_ldH 58 rfl rfl rfl ‹HRow _ _ 0 _› rfl ?_ | refine gny_T 58 rfl rfl rfl ?_ | refine gny_F 58 rfl rfl rfl ?_ | refine gny_B 58 rfl rfl rfl ?_ | refine gny_skip 58 rfl rfl ?_ | refine gny_sp 58 rfl rfl rfl ?_ | refine gny_sB 58 rfl rfl rfl ?_ | refine gny_sld 58 rfl rfl rfl rfl ?_ | refine gny_sldH 58 rfl rfl rfl ‹HRow _ _ 0 _› rfl ?_ | refine gny_ldN 58 rfl rfl rfl rfl ?_ | refine gny_bld 58 rfl rfl rfl ?_)
    refine gny_ixp 59 rfl rfl rfl h1 hk1 fun bb5 ob5 cb5 rb5 eb5 => ?_
    obtain ⟨ub5, vb5, wb5, rfl, _, _, _, _, _, _, _, gb5⟩ := eb5
    rw [hq] at rb5 gb5
    (first | refine gny_p 60 rfl rfl rfl ?_ | refine gny_ld 60 rfl rfl rfl rfl ?_ | refine gny_ldH 60 rfl rfl rfl ‹HRow _ _ 0 _› rfl ?_ | refine gny_T 60 rfl rfl rfl ?_ | refine gny_F 60 rfl rfl rfl ?_ | refine gny_B 60 rfl rfl rfl ?_ | refine gny_skip 60 rfl rfl ?_ | refine gny_sp 60 rfl rfl rfl ?_ | refine gny_sB 60 rfl rfl rfl ?_ | refine gny_sld 60 rfl rfl rfl rfl ?_ | refine gny_sldH 60 rfl rfl rfl ‹HRow _ _ 0 _› rfl ?_ | refine gny_ldN 60 rfl rfl rfl rfl ?_ | refine gny_bld 60 rfl rfl rfl ?_)
    refine gny_ldHo 61 8 rfl rfl rb5 rfl rfl ?_
    refine gny_pcall 62 rfl rfl rfl (ints_spec ga5.1 gb5.1) ?_
    rw [decide_eq_true (p := q.Parts = q.Parts) rfl]
    (first | refine gny_p 63 rfl rfl rfl ?_ | refine gny_ld 63 rfl rfl rfl rfl ?_ | refine gny_ldH 63 rfl rfl rfl ‹HRow _ _ 0 _› rfl ?_ | refine gny_T 63 rfl rfl rfl ?_ | refine gny_F 63 rfl rfl rfl ?_ | refine gny_B 63 rfl rfl rfl ?_ | refine gny_skip 63 rfl rfl ?_ | refine gny_sp 63 rfl rfl rfl ?_ | refine gny_sB 63 rfl rfl rfl ?_ | refine gny_sld 63 rfl rfl rfl rfl ?_ | refine gny_sldH 63 rfl rfl rfl ‹HRow _ _ 0 _› rfl ?_ | refine gny_ldN 63 rfl rfl rfl rfl ?_ | refine gny_bld 63 rfl rfl rfl ?_); (first | refine gny_p 64 rfl rfl rfl ?_ | refine gny_ld 64 rfl rfl rfl rfl ?_ | refine gny_ldH 64 rfl rfl rfl ‹HRow _ _ 0 _› rfl ?_ | refine gny_T 64 rfl rfl rfl ?_ | refine gny_F 64 rfl rfl rfl ?_ | refine gny_B 64 rfl rfl rfl ?_ | refine gny_skip 64 rfl rfl ?_ | refine gny_sp 64 rfl rfl rfl ?_ | refine gny_sB 64 rfl rfl rfl ?_ | refine gny_sld 64 rfl rfl rfl rfl ?_ | refine gny_sldH 64 rfl rfl rfl ‹HRow _ _ 0 _› rfl ?_ | refine gny_ldN 64 rfl rfl rfl rfl ?_ | refine gny_bld 64 rfl rfl rfl ?_)
    refine any_rest rfl ?_
    refine walk ?_
    exact out_next hL (k + 1) (by omega)
  · refine walk ?_
    refine fin0 ?_
    exact ⟨rfl, rfl, rfl⟩
end Go.Proofs.YtkhbfjkioehgfaaGreatDoor
