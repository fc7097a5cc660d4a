/- The reference's small functions; the law's own. -/
import Derived.Test.YtkhbfjkioehgfaaGreatDoorLH
set_option linter.unusedVariables false
set_option linter.unusedSimpArgs false
namespace Go.Proofs.YtkhbfjkioehgfaaGreatDoor
open Go Go.Sx Go.Proofs
theorem has_spec {W0 : World} {H : Heap} {v : Value} {l : List ByteArray} {k : ByteArray} (h0 : SlR rStr 1 H v l) :
    Ct Tryz.prog 63 #[v, .string k] W0 H [] (fun r H' B => ∃ q : Bool, r = .bool q ∧ (q = true ↔ k ∈ l) ∧ B = [] ∧ H' = H) := by
  refine Ct.go (vs := [v, .string k]) fun R => ?_
  obtain ⟨b0, c0, rfl, hc0, hd0⟩ := h0.shape
  refine walk ?_
  refine ex_loop (σ := Nat) (fun j => j ≤ l.length ∧ k ∉ l.take j) (fun j => [(0, .slice b0 l.length c0), (1, .string k), (5, I j)]) (fun _ => H) (fun _ => R) (fun j => l.length - j) 0 ⟨Nat.zero_le _, by simp⟩ fun j ⟨hj0, hj⟩ K hL => ?_
  refine walk ?_
  refine ex_if rfl (fun hk => ?_) (fun hk => ?_)
  · have hk1 : j < l.length := by omega
    have ht := List.take_succ_eq_append_getElem hk1
    refine walk ?_
    refine ex_if rfl (fun hq => ?_) (fun hq => ?_)
    · refine walk ?_
      refine fin0 ?_
      exact ⟨true, rfl, Iff.intro (fun _ => by rw [← hq]; exact List.getElem_mem hk1) (fun _ => rfl), rfl, rfl⟩
    · refine walk ?_
      refine out_next hL (j + 1) ⟨by omega, ?_⟩
      rw [ht, List.mem_append, List.mem_singleton]
      rintro (h | h)
      · exact hj h
      · exact hq h.symm
  · clear hL
    obtain rfl : j = l.length := by omega
    rw [List.take_length] at hj
    refine walk ?_
    refine fin0 ?_
    exact ⟨false, rfl, Iff.intro (fun (h : false = true) => Bool.noConfusion h) (fun h => (hj h).elim), rfl, rfl⟩
set_option maxRecDepth 20000 in
theorem keys_spec {W0 : World} {H : Heap} {cw : List Value} {w : Work} (hw : rWork H cw w) (hwn : w.ks.length * 16 ≤ cap47) :
    Ct Tryz.prog 17 #[.agg cw.toArray] W0 H [] (fun r H' B => B = [ownS rStr 1 16 9 H r w.ks] ∧ H' = H) := by
  refine Ct.go (vs := [.agg cw.toArray]) fun R => ?_
  obtain ⟨s1, s2, rfl, hrob, hs1, hs2⟩ := hw
  obtain ⟨b1, c1, rfl, hc1, hd1⟩ := hs1.1.shape
  obtain ⟨b2, c2, rfl, hc2, hd2⟩ := hs2.1.shape
  refine walk ?_
  refine ops_box rfl rfl fun p1 _ => ?_
  refine walk ?_
  refine ex_any 6 [row p1 30 (w.cv (.slice b1 w.Take.length c1) (.slice b2 w.Drop.length c2))] ?_
  (first | refine gny_p 1 rfl rfl rfl ?_ | refine gny_ld 1 rfl rfl rfl rfl ?_ | refine gny_ldH 1 rfl rfl rfl ‹HRow _ _ 0 _› rfl ?_ | refine gny_T 1 rfl rfl rfl ?_ | refine gny_F 1 rfl rfl rfl ?_ | refine gny_B 1 rfl rfl rfl ?_ | refine gny_skip 1 rfl rfl ?_ | refine gny_sp 1 rfl rfl rfl ?_ | refine gny_sB 1 rfl rfl rfl ?_ | refine gny_sld 1 rfl rfl rfl rfl ?_ | refine gny_sldH 1 rfl rfl rfl ‹HRow _ _ 0 _› rfl ?_ | refine gny_ldN 1 rfl rfl rfl rfl ?_ | refine gny_bld 1 rfl rfl rfl ?_); (first | refine gny_p 2 rfl rfl rfl ?_ | refine gny_ld 2 rfl rfl rfl rfl ?_ | refine gny_ldH 2 rfl rfl rfl ‹HRow _ _ 0 _› rfl ?_ | refine gny_T 2 rfl rfl rfl ?_ | refine gny_F 2 rfl rfl rfl ?_ | refine gny_B 2 rfl rfl rfl ?_ | refine gny_skip 2 rfl rfl ?_ | refine gny_sp 2 rfl rfl rfl ?_ | refine gny_sB 2 rfl rfl rfl ?_ | refine gny_sld 2 rfl rfl rfl rfl ?_ | refine gny_sldH 2 rfl rfl rfl ‹HRow _ _ 0 _› rfl ?_ | refine gny_ldN 2 rfl rfl rfl rfl ?_ | refine gny_bld 2 rfl rfl rfl ?_)
  (first | refine gny_p 4 rfl rfl rfl ?_ | refine gny_ld 4 rfl rfl rfl rfl ?_ | refine gny_ldH 4 rfl rfl rfl ‹HRow _ _ 0 _› rfl ?_ | refine gny_T 4 rfl rfl rfl ?_ | refine gny_F 4 rfl rfl rfl ?_ | refine gny_B 4 rfl rfl rfl ?_ | refine gny_skip 4 rfl rfl ?_ | refine gny_sp 4 rfl rfl rfl ?_ | refine gny_sB 4 rfl rfl rfl ?_ | refine gny_sld 4 rfl rfl rfl rfl ?_ | refine gny_sldH 4 rfl rfl rfl ‹HRow _ _ 0 _› rfl ?_ | refine gny_ldN 4 rfl rfl rfl rfl ?_ | refine gny_bld 4 rfl rfl rfl ?_); (first | refine gny_p 5 rfl rfl rfl ?_ | refine gny_ld 5 rfl rfl rfl rfl ?_ | refine gny_ldH 5 rfl rfl rfl ‹HRow _ _ 0 _› rfl ?_ | refine gny_T 5 rfl rfl rfl ?_ | refine gny_F 5 rfl rfl rfl ?_ | refine gny_B 5 rfl rfl rfl ?_ | refine gny_skip 5 rfl rfl ?_ | refine gny_sp 5 rfl rfl rfl ?_ | refine gny_sB 5 rfl rfl rfl ?_ | refine gny_sld 5 rfl rfl rfl rfl ?_ | refine gny_sldH 5 rfl rfl rfl ‹HRow _ _ 0 _› rfl ?_ | refine gny_ldN 5 rfl rfl rfl rfl ?_ | refine gny_bld 5 rfl rfl rfl ?_)
  have hwn' : (w.Take.length + w.Drop.length) * 16 ≤ cap47 := by simpa [Work.ks] using hwn
  refine any_w 0 rfl (op_mk0S (sz := 1) (T := 9) (wd := 16) rStr fun ba => ?_)
  refine ⟨Heap.le.refl _, (by (repeat (first | exact Sub.refl _ | exact Sub.nil _ | (apply sub_pick; (repeat (first | exact Has.here | apply Has.there)); skip) | apply Sub.drop))), ?_⟩
  refine any_w 3 rfl (op_appSS rfl hs1.1 (by simpa using hs1.2) fun d1 e1 => ?_)
  refine ⟨Heap.le.refl _, (by (repeat (first | exact Sub.refl _ | exact Sub.nil _ | (apply sub_pick; (repeat (first | exact Has.here | apply Has.there)); skip) | apply Sub.drop))), ?_⟩
  rw [List.nil_append, show ([] : List ByteArray).length + w.Take.length = w.Take.length by simp]
  refine any_rest rfl ?_
  refine ops_appS rfl rfl hs2.1 hwn' fun d2 e2 => ?_
  refine walk ?_
  refine finB [ownS rStr 1 16 9 H (.slice d2 (w.Take.length + w.Drop.length) e2) w.ks] ?_
  exact ⟨rfl, rfl⟩
end Go.Proofs.YtkhbfjkioehgfaaGreatDoor
