/- A key is read, by the reference. -/
import Derived.Test.YtkhbfjkioehgfaaGreatDoorLQ
set_option linter.unusedVariables false
set_option linter.unusedSimpArgs false
namespace Go.Proofs.YtkhbfjkioehgfaaGreatDoor
open Go Go.Sx Go.Proofs
/-- the number at the front, and its length -/
def digC (n : Nat) : List UInt8 → Nat × Nat
  | [] => (n, 0)
  | c :: r => if (48 ≤ c.toNat ∧ c.toNat ≤ 57) ∧ n < 1000000000000 then ((digC (10 * n + (c.toNat - 48)) r).1, (digC (10 * n + (c.toNat - 48)) r).2 + 1) else (n, 0)
theorem digC_len : ∀ {l : List UInt8} {n : Nat}, (digC n l).2 ≤ l.length
  | [], n => by simp [digC]
  | c :: r, n => by
    have := digC_len (l := r) (n := 10 * n + (c.toNat - 48))
    unfold digC; split
    · simp only [List.length_cons]; omega
    · simp
theorem digC_lt : ∀ {l : List UInt8} {n : Nat}, n < 10000000000009 → (digC n l).1 < 10000000000009
  | [], n, h => h
  | c :: r, n, h => by
    unfold digC; split
    · next h1 => exact digC_lt (by omega)
    · exact h
theorem digC_app {v : List UInt8} : ∀ {u : List UInt8} {a b : Nat}, digC a u = (b, u.length) → digC a (u ++ v) = ((digC b v).1, u.length + (digC b v).2)
  | [], a, b, h => by simp only [digC, List.length_nil, Prod.mk.injEq, and_true] at h; subst h; simp
  | c :: u, a, b, h => by
    by_cases h1 : (48 ≤ c.toNat ∧ c.toNat ≤ 57) ∧ a < 1000000000000
    · simp only [digC, if_pos h1, List.cons_append, List.length_cons, Prod.mk.injEq] at h ⊢
      have ih := digC_app (v := v) (u := u) (a := 10 * a + (c.toNat - 48)) (b := b) (Prod.ext h.1 (by have := h.2; simp only; omega))
      rw [ih]
      exact ⟨rfl, by simp only; omega⟩
    · simp [digC, h1] at h
theorem digC_nd {n : Nat} : n < 10000000000000 → digC 0 (nd n) = (n, (nd n).length) := by
  induction n using Nat.strongRecOn with
  | ind n ih =>
    intro hn
    by_cases h0 : n = 0
    · subst h0; simp [nd, digC]
    · have hd := dig_nat (k := n)
      have hs : digC (n / 10) [UInt8.ofNat (48 + n % 10)] = (n, 1) := by
        simp only [digC, hd]
        rw [if_pos (by omega)]
        simp only [Prod.mk.injEq, and_true]; omega
      rw [nd_step h0, digC_app (ih (n / 10) (by omega) (by omega)), hs]
      simp
theorem digC_stop {n : Nat} {x : UInt8} {r : List UInt8} (hx : ¬ isDig x) : digC n (x :: r) = (n, 0) := by
  unfold digC; rw [if_neg]; rintro ⟨h, _⟩; exact hx h
theorem digC_dgs {t : Int} (h : tickI t) {r : List UInt8} (hr : r = [] ∨ ∃ x q, r = x :: q ∧ ¬ isDig x) : digC 0 (dgs t ++ r) = (t.toNat, (dgs t).length) := by
  have hd : digC 0 (dgs t) = (t.toNat, (dgs t).length) := by
    unfold dgs
    split
    · next h => subst h; rfl
    · rw [if_neg (by simp only [tickI] at h; omega), show t.natAbs = t.toNat by omega]; exact digC_nd (by simp only [tickI] at h; omega)
  rw [digC_app hd]
  rcases hr with rfl | ⟨x, q, rfl, hx⟩
  · simp [digC]
  · rw [digC_stop hx]; simp
set_option maxHeartbeats 8000000 in
theorem digitsR_spec {W0 : World} {H : Heap} {l : List UInt8} {at0 : Nat} (hl : l.length ≤ cap47) (ha : at0 ≤ cap47 + 2) :
    Ct Tryz.prog 86 #[.string (sb l), I at0] W0 H [] (fun r H' B => r = .tuple #[I (digC 0 (l.drop at0)).1, I (at0 + (digC 0 (l.drop at0)).2 : Nat)] ∧ B = [] ∧ H' = H) := by
  refine Ct.go fun R => ?_
  simp only [cap47] at hl ha
  have hsz : (sb l).size = l.length := sb_size l
  refine walk ?_
  refine ex_loop (σ := Nat × Nat) (fun s => s.1 < 10000000000009 ∧ (at0 ≤ s.2 ∧ (s.2 ≤ l.length ∨ s.2 = at0)) ∧ (digC 0 (l.drop at0)).1 = (digC s.1 (l.drop s.2)).1 ∧ at0 + (digC 0 (l.drop at0)).2 = s.2 + (digC s.1 (l.drop s.2)).2) (fun s => [(0, .string (sb l)), (1, I s.2), (6, I s.1)]) (fun _ => H) (fun _ => R) (fun s => l.length - s.2) (0, at0) ⟨by simp, ⟨by simp, .inr rfl⟩, rfl, rfl⟩ fun ⟨n, p⟩ ⟨hn, hp, h1, h2⟩ K hL => ?_
  simp only at hn hp h1 h2
  dsimp only
  refine walkG ?_
  refine ex_if rfl (fun hc => ?_) (fun hc => ?_)
  · obtain ⟨⟨⟨c1, c2⟩, c3⟩, c4⟩ := hc
    have hpl : p < l.length := by omega
    have hdrop : l.drop p = l.getD p 0 :: l.drop (p + 1) := by rw [List.drop_eq_getElem_cons hpl]; simp [List.getD, hpl]
    rw [hdrop] at h1 h2
    have hpi : p < l.length := hpl
    have hw : ∀ x : UInt8, (48 : Int) ≤ x.toNat → IntKind.u8.wrap ((x.toNat : Int) - 48) = ((x.toNat - 48 : Nat) : Int) := fun x hx => by
      have := x.toNat_lt
      simp [IntKind.wrap, IntKind.bits, IntKind.signed]; omega
    have hf1 : fits (10 * (n : Int)) := by unfold fits; omega
    refine walk ?_
    rw [hw _ c2]
    have hf2 : fits (((l.getD p 0).toNat - 48 : Nat) : Int) := by unfold fits; omega
    refine walk ?_
    have hstep : digC n (l.getD p 0 :: l.drop (p + 1)) = ((digC (10 * n + ((l.getD p 0).toNat - 48)) (l.drop (p + 1))).1, (digC (10 * n + ((l.getD p 0).toNat - 48)) (l.drop (p + 1))).2 + 1) := by
      rw [digC, if_pos ⟨⟨by omega, by omega⟩, by omega⟩]
    rw [hstep] at h1 h2
    refine out_next hL (10 * n + ((l.getD p 0).toNat - 48), p + 1) ⟨by simp only; omega, by simp only; omega, h1, by simp only at h2 ⊢; omega⟩
  · clear hL
    have hend : digC n (l.drop p) = (n, 0) := by
      by_cases hpl : p < l.length
      · rw [List.drop_eq_getElem_cons hpl, digC, if_neg]
        rintro ⟨e1, e2⟩
        have hg : l.getD p 0 = l[p] := by simp [List.getD, hpl]
        exact hc ⟨⟨⟨by omega, by rw [hg]; omega⟩, by rw [hg]; omega⟩, by omega⟩
      · rw [List.drop_eq_nil_of_le (by omega)]; rfl
    rw [hend] at h1 h2
    refine walk ?_
    refine fin0 ?_
    exact ⟨by rw [h1, h2]; simp, rfl, rfl⟩
theorem dgs_end {t : Int} (h : tickI t) : digC 0 (dgs t) = (t.toNat, (dgs t).length) := by
  have := digC_dgs h (r := []) (.inl rfl)
  rwa [List.append_nil] at this
theorem parse_slot {c t : Int} (hc : tickI c) (ht : tickI t) : digC 0 ((slotL c t).drop 1) = (c.toNat, (dgs c).length) ∧ (slotL c t).getD (1 + (dgs c).length) 0 = 64 ∧ digC 0 ((slotL c t).drop (1 + (dgs c).length + 1)) = (t.toNat, (dgs t).length) := by
  have e : slotL c t = 99 :: (dgs c ++ 64 :: dgs t) := by simp [slotL]
  rw [e]
  refine ⟨digC_dgs hc (.inr ⟨64, _, rfl, nd64⟩), ?_, ?_⟩
  · rw [Nat.add_comm]; simp [List.getD]
  · rw [show 1 + (dgs c).length + 1 = ((dgs c).length + 1) + 1 by omega, List.drop_succ_cons, List.drop_append, List.drop_of_length_le (by omega)]
    simp only [List.nil_append, show (dgs c).length + 1 - (dgs c).length = 1 by omega, List.drop_succ_cons, List.drop_zero]
    exact dgs_end ht
theorem parse_pass {a b t : Int} (ha : tickI a) (hb : tickI b) (hab : a < b) (ht : tickI t) : digC 0 ((passL a b t).drop 1) = (a.toNat, (dgs a).length) ∧ (1 + (dgs a).length < (passL a b t).length ∧ (passL a b t).getD (1 + (dgs a).length) 0 = 45) ∧
    digC 0 ((passL a b t).drop (1 + (dgs a).length + 1)) = (b.toNat, (dgs b).length) ∧ digC 0 ((passL a b t).drop (1 + (dgs a).length + 1 + (dgs b).length + 1)) = (t.toNat, (dgs t).length) := by
  have e : passL a b t = 112 :: (dgs a ++ 45 :: (dgs b ++ 64 :: dgs t)) := by
    unfold passL; rw [show min a b = a by omega, show max a b = b by omega]; simp
  rw [e]
  have h1 : (112 :: (dgs a ++ 45 :: (dgs b ++ 64 :: dgs t))).drop (1 + (dgs a).length + 1) = dgs b ++ 64 :: dgs t := by
    rw [show 1 + (dgs a).length + 1 = ((dgs a).length + 1) + 1 by omega, List.drop_succ_cons, List.drop_append, List.drop_of_length_le (by omega)]
    simp only [List.nil_append, show (dgs a).length + 1 - (dgs a).length = 1 by omega, List.drop_succ_cons, List.drop_zero]
  refine ⟨digC_dgs ha (.inr ⟨45, _, rfl, nd45⟩), ⟨by simp; omega, by rw [Nat.add_comm]; simp [List.getD]⟩, by rw [h1]; exact digC_dgs hb (.inr ⟨64, _, rfl, nd64⟩), ?_⟩
  rw [show 1 + (dgs a).length + 1 + (dgs b).length + 1 = (1 + (dgs a).length + 1) + ((dgs b).length + 1) by omega, ← List.drop_drop, h1, List.drop_append, List.drop_of_length_le (by omega)]
  simp only [List.nil_append, show (dgs b).length + 1 - (dgs b).length = 1 by omega, List.drop_succ_cons, List.drop_zero]
  exact dgs_end ht
theorem cast_toNat {c : Int} (h : tickI c) : ((c.toNat : Nat) : Int) = c := by simp only [tickI] at h; omega
theorem key_A {l : List UInt8} {k : Int × Int × Int} {a na b nb t nt : Nat} (h : isKey l k) (ha : digC 0 (l.drop 1) = (a, na)) (hd : ((l.getD (1 + na) 0).toNat : Int) = 45) (hb : digC 0 (l.drop (1 + na + 1)) = (b, nb)) (ht : digC 0 (l.drop (1 + na + 1 + nb + 1)) = (t, nt)) :
    k = ((a : Int), (b : Int), (t : Int)) ∧ tickI k.1 ∧ tickI k.2.1 ∧ k.1 < k.2.1 ∧ tickI k.2.2 ∧ l = passL k.1 k.2.1 k.2.2 := by
  obtain ⟨x, y, z⟩ := k
  rcases h with ⟨h1, h2, h3, h4⟩ | ⟨h1, h2, h3, h4, h5⟩
  · exfalso
    obtain ⟨p1, p2, p3⟩ := parse_slot h2 h3
    rw [← h4] at p1 p2 p3
    rw [ha] at p1
    have e := congrArg Prod.snd p1
    simp only at e
    rw [e, p2] at hd
    exact absurd hd (by decide)
  · obtain ⟨p1, p2, p3, p4⟩ := parse_pass h1 h2 h3 h4
    rw [← h5] at p1 p2 p3 p4
    rw [ha] at p1
    have e1 := congrArg Prod.fst p1
    have e2 := congrArg Prod.snd p1
    simp only at e1 e2
    rw [← e2] at p3 p4
    rw [hb] at p3
    have e3 := congrArg Prod.fst p3
    have e4 := congrArg Prod.snd p3
    simp only at e3 e4
    rw [← e4, ht] at p4
    have e5 := congrArg Prod.fst p4
    simp only at e5
    refine ⟨?_, h1, h2, h3, h4, h5⟩
    rw [e1, e3, e5, cast_toNat h1, cast_toNat h2, cast_toNat h4]
theorem key_B {l : List UInt8} {k : Int × Int × Int} {a na t nt : Nat} (h : isKey l k) (ha : digC 0 (l.drop 1) = (a, na)) (hd : ¬ (1 + na < l.length ∧ ((l.getD (1 + na) 0).toNat : Int) = 45)) (ht : digC 0 (l.drop (1 + na + 1)) = (t, nt)) :
    k = ((a : Int), -1, (t : Int)) ∧ tickI k.1 ∧ tickI k.2.2 ∧ l = slotL k.1 k.2.2 := by
  obtain ⟨x, y, z⟩ := k
  rcases h with ⟨h1, h2, h3, h4⟩ | ⟨h1, h2, h3, h4, h5⟩
  · obtain ⟨p1, p2, p3⟩ := parse_slot h2 h3
    rw [← h4] at p1 p2 p3
    rw [ha] at p1
    have e1 := congrArg Prod.fst p1
    have e2 := congrArg Prod.snd p1
    simp only at e1 e2 h1
    rw [← e2, ht] at p3
    have e5 := congrArg Prod.fst p3
    simp only at e5
    refine ⟨?_, h2, h3, h4⟩
    rw [e1, e5, cast_toNat h2, cast_toNat h3, h1]
  · exfalso
    obtain ⟨p1, p2, p3, p4⟩ := parse_pass h1 h2 h3 h4
    rw [← h5] at p1 p2 p3 p4
    rw [ha] at p1
    have e2 := congrArg Prod.snd p1
    simp only at e2
    rw [← e2] at p2
    exact hd ⟨p2.1, by rw [p2.2]; decide⟩
set_option maxHeartbeats 16000000 in
theorem rRead_spec {W0 : World} {H : Heap} {l : List UInt8} (hl : l.length ≤ cap47) :
    Ct Tryz.prog 66 #[.string (sb l)] W0 H [] (fun r H' B => ReadP l r ∧ B = [] ∧ H' = H) := by
  refine Ct.go fun R => ?_
  have hsz : (sb l).size = l.length := sb_size l
  have hl' := hl
  simp only [cap47] at hl'
  refine walk ?_
  refine ops_alloc rfl fun p2 _ => ?_
  refine walk ?_
  refine ops_alloc rfl fun p4 _ => ?_
  refine walk ?_
  refine ops_pcall rfl rfl (digitsR_spec (at0 := 1) hl (by simp only [cap47]; omega)) ?_
  have n1 := digC_len (l := l.drop 1) (n := 0)
  have v1 := digC_lt (l := l.drop 1) (n := 0) (by omega)
  obtain ⟨a, na, ha⟩ : ∃ a na, digC 0 (l.drop 1) = (a, na) := ⟨_, _, rfl⟩
  rw [ha] at n1 v1 ⊢
  simp only [List.length_drop] at n1 v1 ⊢
  have hna : 1 + na ≤ l.length ∨ na = 0 := by omega
  clear n1
  refine walkG ?_
  refine ex_if rfl (fun hd => ?_) (fun hd => ?_)
  · have hlt : 1 + na < l.length := by omega
    refine walk ?_
    rw [show ((1 + na : Nat) : Int) + 1 = ((1 + na + 1 : Nat) : Int) by omega]
    refine ops_pcall rfl rfl (digitsR_spec (at0 := 1 + na + 1) hl (by simp only [cap47]; omega)) ?_
    have n2 := digC_len (l := l.drop (1 + na + 1)) (n := 0)
    have v2 := digC_lt (l := l.drop (1 + na + 1)) (n := 0) (by omega)
    obtain ⟨b, nb, hb⟩ : ∃ b nb, digC 0 (l.drop (1 + na + 1)) = (b, nb) := ⟨_, _, rfl⟩
    rw [hb] at n2 v2 ⊢
    simp only [List.length_drop] at n2 v2 ⊢
    have hnb : 1 + na + 1 + nb ≤ l.length := by omega
    clear n2
    refine walk ?_
    rw [show ((1 + na + 1 + nb : Nat) : Int) + 1 = ((1 + na + 1 + nb + 1 : Nat) : Int) by omega]
    refine ops_pcall rfl rfl (digitsR_spec (at0 := 1 + na + 1 + nb + 1) hl (by simp only [cap47]; omega)) ?_
    have v3 := digC_lt (l := l.drop (1 + na + 1 + nb + 1)) (n := 0) (by omega)
    obtain ⟨t, nt, ht⟩ : ∃ t nt, digC 0 (l.drop (1 + na + 1 + nb + 1)) = (t, nt) := ⟨_, _, rfl⟩
    rw [ht] at v3 ⊢
    simp only at v3 ⊢
    have fa : fits (a : Int) := by unfold fits; omega
    have fb : fits (b : Int) := by unfold fits; omega
    have ft : fits (t : Int) := by unfold fits; omega
    refine walk ?_
    refine ops_pcall rfl rfl (slot_spec fa ft) ?_
    refine walk ?_
    have hkA := fun k h => key_A (k := k) h ha hd.2 hb ht
    refine ex_if rfl (fun hab => ?_) (fun hab => ?_)
    · have hno : ∀ k, ¬ isKey l k := fun k h => by
        obtain ⟨e, _, _, h3, _⟩ := hkA k h
        subst e; simp only at h3; omega
      refine walk ?_
      refine fin0 ?_
      exact ⟨.inr ⟨hno, rfl⟩, rfl, rfl⟩
    · refine walk ?_
      refine ops_pcall rfl rfl (pass_spec fa fb ft) ?_
      refine walkG ?_
      refine ops_gcall rfl rfl (fun hg => tick_spec) ?_
      refine walkG ?_
      refine ops_gcall rfl rfl (fun hg => tick_spec) ?_
      refine walkG ?_
      refine ex_if rfl (fun hq => ?_) (fun hq => ?_)
      · have hno : ∀ k, ¬ isKey l k := fun k h => by
          obtain ⟨e, h1, h2, h3, h4, h5⟩ := hkA k h
          subst e
          simp only at h1 h2 h3 h4 h5
          rcases hq with ((hq | hq) | hq) | hq
          · exact hq (by rw [← h5])
          · exact hq h1
          · exact hq h4
          · simp only [tickI] at h2; omega
        refine walk ?_
        refine fin0 ?_
        exact ⟨.inr ⟨hno, rfl⟩, rfl, rfl⟩
      · have h1 : sb (passL a b t) = sb l := Classical.not_not.1 fun e => hq (.inl (.inl (.inl e)))
        have h2 : tickI a := Classical.not_not.1 fun e => hq (.inl (.inl (.inr e)))
        have h3 : tickI t := Classical.not_not.1 fun e => hq (.inl (.inr e))
        have h4 : ¬ (1073741824 < (b : Int)) := fun e => hq (.inr e)
        refine walk ?_
        refine fin0 ?_
        exact ⟨.inl ⟨((a : Int), (b : Int), (t : Int)), .inr ⟨h2, by unfold tickI; simp only; omega, by simp only; omega, h3, (sb_inj h1).symm⟩, rfl⟩, rfl, rfl⟩
  · refine walk ?_
    rw [show ((1 + na : Nat) : Int) + 1 = ((1 + na + 1 : Nat) : Int) by omega]
    refine ops_pcall rfl rfl (digitsR_spec (at0 := 1 + na + 1) hl (by simp only [cap47]; omega)) ?_
    have v3 := digC_lt (l := l.drop (1 + na + 1)) (n := 0) (by omega)
    obtain ⟨t, nt, ht⟩ : ∃ t nt, digC 0 (l.drop (1 + na + 1)) = (t, nt) := ⟨_, _, rfl⟩
    rw [ht] at v3 ⊢
    simp only at v3 ⊢
    have fa : fits (a : Int) := by unfold fits; omega
    have ft : fits (t : Int) := by unfold fits; omega
    have hkB := fun k h => key_B (k := k) h ha (fun e => hd ⟨by omega, e.2⟩) ht
    refine walk ?_
    refine ops_pcall rfl rfl (slot_spec fa ft) ?_
    refine walkG ?_
    refine ops_gcall rfl rfl (fun hg => tick_spec) ?_
    refine walkG ?_
    refine ops_gcall rfl rfl (fun hg => tick_spec) ?_
    refine walkG ?_
    refine ex_if rfl (fun hq => ?_) (fun hq => ?_)
    · have hno : ∀ k, ¬ isKey l k := fun k h => by
        obtain ⟨e, h1, h4, h5⟩ := hkB k h
        subst e
        simp only at h1 h4 h5
        rcases hq with ((hq | hq) | hq) | hq
        · exact hq (by rw [← h5])
        · exact hq h1
        · exact hq h4
        · omega
      refine walk ?_
      refine fin0 ?_
      exact ⟨.inr ⟨hno, rfl⟩, rfl, rfl⟩
    · have h1 : sb (slotL a t) = sb l := Classical.not_not.1 fun e => hq (.inl (.inl (.inl e)))
      have h2 : tickI a := Classical.not_not.1 fun e => hq (.inl (.inl (.inr e)))
      have h3 : tickI t := Classical.not_not.1 fun e => hq (.inl (.inr e))
      refine walk ?_
      refine fin0 ?_
      exact ⟨.inl ⟨((a : Int), -1, (t : Int)), .inl ⟨rfl, h2, h3, (sb_inj h1).symm⟩, rfl⟩, rfl, rfl⟩
theorem ReadP.form {l : List UInt8} {r : Value} (h : ReadP l r) : ∃ a b t ok, r = .tuple #[.agg #[I a, I b, I t], .bool ok] ∧ ((ok = true ∧ isKey l (a, b, t)) ∨ (ok = false ∧ (∀ k, ¬ isKey l k) ∧ a = 0 ∧ b = 0 ∧ t = 0)) := by
  rcases h with ⟨⟨a, b, t⟩, hk, rfl⟩ | ⟨hno, rfl⟩
  · exact ⟨a, b, t, true, rfl, .inl ⟨rfl, hk⟩⟩
  · exact ⟨0, 0, 0, false, rfl, .inr ⟨rfl, hno, rfl, rfl, rfl⟩⟩
end Go.Proofs.YtkhbfjkioehgfaaGreatDoor
