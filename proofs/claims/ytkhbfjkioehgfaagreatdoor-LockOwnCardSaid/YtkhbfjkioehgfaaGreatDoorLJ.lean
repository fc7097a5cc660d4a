/- The reference's Twice. -/
import Derived.Test.YtkhbfjkioehgfaaGreatDoorLI
set_option linter.unusedVariables false
set_option linter.unusedSimpArgs false
namespace Go.Proofs.YtkhbfjkioehgfaaGreatDoor
open Go Go.Sx Go.Proofs
set_option maxRecDepth 20000 in
theorem twice_spec {W0 : World} {H : Heap} {cw : List Value} {w : Work} (hw : rWork H cw w) (hwn : w.ks.length * 16 ≤ cap47) :
    Ct Tryz.prog 40 #[.agg cw.toArray] W0 H [] (fun r H' B => ∃ q : Bool, r = .bool q ∧ (q = false ↔ w.ks.Nodup) ∧ B = []) := by
  refine Ct.go (vs := [.agg cw.toArray]) fun R => ?_
  have hw0 := hw
  obtain ⟨s1, s2, rfl, hrob, hs1, hs2⟩ := hw
  obtain ⟨b1, c1, rfl, hc1, hd1⟩ := hs1.1.shape
  obtain ⟨b2, c2, rfl, hc2, hd2⟩ := hs2.1.shape
  refine walk ?_
  refine ops_box rfl rfl fun p1 _ => ?_
  refine walk ?_
  refine ops_call rfl rfl (keys_spec hw0 hwn) fun r1 H1 B hl1 ⟨eB, eH⟩ => ?_
  subst eB eH
  refine ops_freeze r1 fun H2 hl2 hsl => ?_
  generalize w.ks = l at *
  obtain ⟨b0, c0, rfl, hc0, hd0⟩ := hsl.1.shape
  refine walk ?_
  refine ex_loop (σ := Nat) (fun j => j ≤ l.length ∧ (l.take j).Nodup) (fun j => [(3, .slice b0 l.length c0), (4, I j)]) (fun _ => H2) (fun _ => R) (fun j => l.length - j) 0 ⟨Nat.zero_le _, by simp⟩ fun j ⟨hj0, hj⟩ K hL => ?_
  refine walk ?_
  refine ex_if rfl (fun hk => ?_) (fun hk => ?_)
  · have hk1 : j < l.length := by omega
    have ht := List.take_succ_eq_append_getElem hk1
    refine walk ?_
    refine ex_any 7 [] ?_
    (first | refine gny_p 0 rfl rfl rfl ?_ | refine gny_ld 0 rfl rfl rfl rfl ?_ | refine gny_ldH 0 rfl rfl rfl ‹HRow _ _ 0 _› rfl ?_ | refine gny_T 0 rfl rfl rfl ?_ | refine gny_F 0 rfl rfl rfl ?_ | refine gny_B 0 rfl rfl rfl ?_ | refine gny_skip 0 rfl rfl ?_ | refine gny_sp 0 rfl rfl rfl ?_ | refine gny_sB 0 rfl rfl rfl ?_ | refine gny_sld 0 rfl rfl rfl rfl ?_ | refine gny_sldH 0 rfl rfl rfl ‹HRow _ _ 0 _› rfl ?_ | refine gny_ldN 0 rfl rfl rfl rfl ?_ | refine gny_bld 0 rfl rfl rfl ?_); (first | refine gny_p 1 rfl rfl rfl ?_ | refine gny_ld 1 rfl rfl rfl rfl ?_ | refine gny_ldH 1 rfl rfl rfl ‹HRow _ _ 0 _› rfl ?_ | refine gny_T 1 rfl rfl rfl ?_ | refine gny_F 1 rfl rfl rfl ?_ | refine gny_B 1 rfl rfl rfl ?_ | refine gny_skip 1 rfl rfl ?_ | refine gny_sp 1 rfl rfl rfl ?_ | refine gny_sB 1 rfl rfl rfl ?_ | refine gny_sld 1 rfl rfl rfl rfl ?_ | refine gny_sldH 1 rfl rfl rfl ‹HRow _ _ 0 _› rfl ?_ | refine gny_ldN 1 rfl rfl rfl rfl ?_ | refine gny_bld 1 rfl rfl rfl ?_); (first | refine gny_p 2 rfl rfl rfl ?_ | refine gny_ld 2 rfl rfl rfl rfl ?_ | refine gny_ldH 2 rfl rfl rfl ‹HRow _ _ 0 _› rfl ?_ | refine gny_T 2 rfl rfl rfl ?_ | refine gny_F 2 rfl rfl rfl ?_ | refine gny_B 2 rfl rfl rfl ?_ | refine gny_skip 2 rfl rfl ?_ | refine gny_sp 2 rfl rfl rfl ?_ | refine gny_sB 2 rfl rfl rfl ?_ | refine gny_sld 2 rfl rfl rfl rfl ?_ | refine gny_sldH 2 rfl rfl rfl ‹HRow _ _ 0 _› rfl ?_ | refine gny_ldN 2 rfl rfl rfl rfl ?_ | refine gny_bld 2 rfl rfl rfl ?_)
    (first | refine gny_p 3 rfl rfl rfl ?_ | refine gny_ld 3 rfl rfl rfl rfl ?_ | refine gny_ldH 3 rfl rfl rfl ‹HRow _ _ 0 _› rfl ?_ | refine gny_T 3 rfl rfl rfl ?_ | refine gny_F 3 rfl rfl rfl ?_ | refine gny_B 3 rfl rfl rfl ?_ | refine gny_skip 3 rfl rfl ?_ | refine gny_sp 3 rfl rfl rfl ?_ | refine gny_sB 3 rfl rfl rfl ?_ | refine gny_sld 3 rfl rfl rfl rfl ?_ | refine gny_sldH 3 rfl rfl rfl ‹HRow _ _ 0 _› rfl ?_ | refine gny_ldN 3 rfl rfl rfl rfl ?_ | refine gny_bld 3 rfl rfl rfl ?_); (first | refine gny_p 4 rfl rfl rfl ?_ | refine gny_ld 4 rfl rfl rfl rfl ?_ | refine gny_ldH 4 rfl rfl rfl ‹HRow _ _ 0 _› rfl ?_ | refine gny_T 4 rfl rfl rfl ?_ | refine gny_F 4 rfl rfl rfl ?_ | refine gny_B 4 rfl rfl rfl ?_ | refine gny_skip 4 rfl rfl ?_ | refine gny_sp 4 rfl rfl rfl ?_ | refine gny_sB 4 rfl rfl rfl ?_ | refine gny_sld 4 rfl rfl rfl rfl ?_ | refine gny_sldH 4 rfl rfl rfl ‹HRow _ _ 0 _› rfl ?_ | refine gny_ldN 4 rfl rfl rfl rfl ?_ | refine gny_bld 4 rfl rfl rfl ?_)
    refine gny_ixp 5 rfl rfl rfl hsl.1 hk1 fun b o c hr hc => ?_
    obtain ⟨rfl, hsz⟩ := hc
    refine gny_ldHo 6 0 rfl rfl hr rfl rfl ?_
    refine any_rest rfl ?_
    refine ops_call rfl rfl (has_spec (W0 := W0) (H := H2) (v := .slice b0 j c0) (l := l.take j) (k := l[j]) ?_) fun r3 H3 B hl3 ⟨q, er, hq, eB, eH⟩ => ?_
    · have h := hsl.1.slc (l := 0) (h := j) (Nat.zero_le _) hj0
      have e0 : Sx.slc b0 c0 0 j 1 = .slice b0 j c0 := by unfold Sx.slc; cases b0 <;> simp [Addr.add]
      rw [e0] at h
      simpa using h
    subst er eB eH
    refine walk ?_
    refine ex_ifb rfl Iff.rfl (fun hq1 => ?_) (fun hq1 => ?_)
    · refine walk ?_
      refine fin0 ?_
      refine ⟨true, rfl, Iff.intro (fun h => Bool.noConfusion h) (fun hn => ?_), rfl⟩
      have h1 : (l.take (j + 1)).Nodup := hn.sublist (List.take_sublist _ _)
      rw [ht, List.nodup_append] at h1
      exact (h1.2.2 _ (hq.1 hq1) _ (List.mem_singleton.2 rfl) rfl).elim
    · refine walk ?_
      refine out_next hL (j + 1) ⟨by omega, ?_⟩
      rw [ht, List.nodup_append]
      refine ⟨hj, by simp, ?_⟩
      rintro a ha b hb rfl
      rw [List.mem_singleton] at hb
      subst hb
      exact hq1 (hq.2 ha)
  · clear hL
    obtain rfl : j = l.length := by omega
    rw [List.take_length] at hj
    refine walk ?_
    refine fin0 ?_
    exact ⟨false, rfl, Iff.intro (fun _ => hj) (fun _ => rfl), rfl⟩
end Go.Proofs.YtkhbfjkioehgfaaGreatDoor
