/- Is a transaction over? -/
import Derived.Test.YthoafjeampbkeaaCUQ
set_option linter.unusedVariables false
set_option linter.unusedSimpArgs false
namespace Go.Proofs.Ythoafjeampbkeaa
open Go Go.Sx Go.Proofs
theorem open_ne {s : CS} {x : Txn} (hno : mget x.k s.ts = none) : ∀ r ∈ openL s, r.Txn ≠ x := fun r hr e => by
  obtain ⟨k, t, hk, _, rfl⟩ := mem_openL hr
  have e' : toTx k = x := e
  rw [← e', k_toTx] at hno
  rw [hno] at hk; cases hk
theorem voting_ne {s : CS} {x : Txn} (hno : mget x.k s.ts = none) : ∀ r ∈ votingL s, r ≠ x := fun r hr e => by
  unfold votingL at hr
  obtain ⟨k, hk, rfl⟩ := List.mem_map.1 hr
  have h1 := (List.mem_filter.1 hk).1
  rw [mem_allC] at h1
  rw [← e, k_toTx] at hno
  rw [hno] at h1; cases h1
set_option maxHeartbeats 8000000 in
set_option maxRecDepth 20000 in
theorem over_spec {W0 : World} {H : Heap} {p n : Nat} {s : CS} {x : Txn} (I0 : CInv n s) (hn : n ≤ 1000) (hpl : ∀ k t, mget k s.ts = some t → t.parts.length * 8 ≤ cap47) (hno : mget x.k s.ts = none) :
    Ct Try.prog 20 #[.pointer (some ⟨p, 0, none⟩), .agg (Txn.cv x).toArray] W0 H [coordO H p s] (fun r H' B => r = .bool true ∧ B = [coordO H' p s]) := by
  refine Ct.go (vs := [.pointer (some ⟨p, 0, none⟩), .agg (Txn.cv x).toArray]) fun R => ?_
  have ho := open_ne hno
  have hv := voting_ne hno
  obtain ⟨x1, x2, x3⟩ := x
  refine walk ?_
  refine ops_box rfl rfl fun p3 _ => ?_
  refine walk ?_
  refine ops_call rfl rfl (open_spec (W0 := W0) (H := H) (p := p) I0 hn hpl) fun r1 H1 B hl1 eB => ?_
  subst eB
  refine ops_freeze r1 fun H2 hl2 hs2 => ?_
  obtain ⟨b2, c2, rfl, _, _⟩ := hs2.1.shape
  refine walk ?_
  refine ex_loop (σ := Nat) (fun i => i ≤ (openL s).length) (fun i => [(0, .pointer (some ⟨p, 0, none⟩)), (3, .pointer (some ⟨p3, 0, none⟩)), (10, .slice b2 (openL s).length c2), (11, I (openL s).length), (12, I i)]) (fun _ => H2) (fun _ => coordO H1 p s :: row p3 28 [I x1, I x2, I x3] :: R) (fun i => (openL s).length - i) 0 (Nat.zero_le _) fun i hi0 K hL => ?_
  refine walk ?_
  refine ex_if rfl (fun hi => ?_) (fun hi => ?_)
  · have hi1 : i < (openL s).length := by omega
    obtain ⟨q, hq⟩ : ∃ q, (openL s)[i] = q := ⟨_, rfl⟩
    have hqx := ho _ (List.getElem_mem hi1)
    rw [hq] at hqx
    refine walk ?_
    refine ops_ixp rfl rfl hs2.1 hi1 fun bb ob cb hrb hcb => ?_
    rw [hq] at hcb
    obtain ⟨v1, v2, v3, rfl, _, _, _, _, _, g1, g2, g3⟩ := hcb
    obtain ⟨q1, ⟨y1, y2, y3⟩, q3, q4, q5⟩ := q
    obtain ⟨ub1, uc1, rfl, _, _⟩ := g1.1.shape
    obtain ⟨ub2, uc2, rfl, _, _⟩ := g2.1.shape
    obtain ⟨ub3, uc3, rfl, _, _⟩ := g3.1.shape
    dsimp only at hqx
    refine walk ?_
    refine ops_ldNH rfl rfl hrb rfl ?_
    refine walk ?_
    refine ops_alloc rfl fun p18 _ => ?_
    refine walk ?_
    exact out_next hL (i + 1) (by omega)
  · clear hL
    refine walk ?_
    refine ops_call rfl rfl (ct_up (voting_spec (W0 := W0) (H := H2) (p := p) I0 hn) (fun _ hc => coord_mono hl2 hc)) fun r3 H3 B hl3 eB => ?_
    subst eB
    refine ops_freeze r3 fun H4 hl4 hs4 => ?_
    obtain ⟨b4, c4, rfl, _, _⟩ := hs4.1.shape
    refine walk ?_
    refine ex_loop (σ := Nat) (fun i => i ≤ (votingL s).length) (fun i => [(0, .pointer (some ⟨p, 0, none⟩)), (3, .pointer (some ⟨p3, 0, none⟩)), (22, .slice b4 (votingL s).length c4), (23, I (votingL s).length), (24, I i)]) (fun _ => H4) (fun _ => coordO H3 p s :: row p3 28 [I x1, I x2, I x3] :: R) (fun i => (votingL s).length - i) 0 (Nat.zero_le _) fun i hi0 K hL => ?_
    refine walk ?_
    refine ex_if rfl (fun hi => ?_) (fun hi => ?_)
    · have hi1 : i < (votingL s).length := by omega
      obtain ⟨q, hq⟩ : ∃ q, (votingL s)[i] = q := ⟨_, rfl⟩
      have hqx := hv _ (List.getElem_mem hi1)
      rw [hq] at hqx
      refine walk ?_
      refine ops_ixp rfl rfl hs4.1 hi1 fun bb ob cb hrb hcb => ?_
      rw [hq] at hcb
      obtain ⟨rfl, _⟩ := hcb
      obtain ⟨y1, y2, y3⟩ := q
      change HRow H4 bb ob [I y1, I y2, I y3] at hrb
      refine walk ?_
      refine ops_ldNH rfl rfl hrb rfl ?_
      refine walk ?_
      refine ops_alloc rfl fun p18 _ => ?_
      refine walk ?_
      exact out_next hL (i + 1) (by omega)
    · clear hL
      refine walk ?_
      refine finB [coordO H4 p s] ?_ (hs := ?_)
      · exact ⟨rfl, rfl⟩
      · refine Sub.trans ?_ (coord_up hl4)
        (repeat (first | exact Sub.refl _ | exact Sub.nil _ | (apply sub_pick; (repeat (first | exact Has.here | apply Has.there)); skip) | apply Sub.drop))
end Go.Proofs.Ythoafjeampbkeaa
