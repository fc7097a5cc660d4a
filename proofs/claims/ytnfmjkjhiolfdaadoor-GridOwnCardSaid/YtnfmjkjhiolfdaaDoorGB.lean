/- The program's Read. -/
import Derived.Test.YtnfmjkjhiolfdaaDoorGA
set_option linter.unusedVariables false
set_option linter.unusedSimpArgs false
namespace Go.Proofs.YtnfmjkjhiolfdaaDoor
open Go Go.Sx Go.Proofs
/-- k is written so -/
def isKey (l : List UInt8) (k : Int × Int × Int) : Prop := (k.2.1 = -1 ∧ tickI k.1 ∧ tickI k.2.2 ∧ l = slotL k.1 k.2.2) ∨ (tickI k.1 ∧ tickI k.2.1 ∧ k.1 < k.2.1 ∧ tickI k.2.2 ∧ l = passL k.1 k.2.1 k.2.2)
theorem isKey.uniq {l : List UInt8} {k k' : Int × Int × Int} (h : isKey l k) (h' : isKey l k') : k = k' := by
  obtain ⟨a, b, t⟩ := k
  obtain ⟨a', b', t'⟩ := k'
  simp only [isKey, tickI] at h h'
  rcases h with ⟨h1, h2, h3, h4⟩ | ⟨h1, h2, h3, h4, h5⟩
  · rcases h' with ⟨g1, g2, g3, g4⟩ | ⟨g1, g2, g3, g4, g5⟩
    · obtain ⟨e1, e2⟩ := slot_inj h2.1 g2.1 h3.1 g3.1 (h4.symm.trans g4)
      rw [e1, e2, h1, g1]
    · exact absurd (h4.symm.trans g5) slot_pass
  · rcases h' with ⟨g1, g2, g3, g4⟩ | ⟨g1, g2, g3, g4, g5⟩
    · exact absurd (g4.symm.trans h5) slot_pass
    · obtain ⟨⟨e1, e2⟩, e3⟩ := pass_inj h1.1 h2.1 g1.1 g2.1 h4.1 g4.1 (h5.symm.trans g5)
      rw [show a = a' by omega, show b = b' by omega, e3]
def ReadP (l : List UInt8) (r : Value) : Prop := (∃ k, isKey l k ∧ r = .tuple #[.agg #[I k.1, I k.2.1, I k.2.2], .bool true]) ∨ ((∀ k, ¬ isKey l k) ∧ r = .tuple #[.agg #[I 0, I 0, I 0], .bool false])
theorem no_dig {c : UInt8} (hc : ¬ isDig c) {n : Int} (h : 0 ≤ n) : c ∉ dgs n := fun e => hc (dgs_dig h c e)
theorem nd64 : ¬ isDig 64 := by unfold isDig; decide
theorem nd45 : ¬ isDig 45 := by unfold isDig; decide
theorem numL_dgs {n : Int} (h : tickI n) : numL (dgs n) = some n := numL_iff.2 ⟨h, rfl⟩
theorem slot_cut {c t : Int} (h : tickI c) : cutB 64 (slotL c t) = (99 :: dgs c, dgs t, true) := by
  have : slotL c t = (99 :: dgs c) ++ 64 :: dgs t := by simp [slotL]
  rw [this, cutB_at]
  intro e
  rcases List.mem_cons.1 e with e | e
  · cases e
  · exact no_dig nd64 h.1 e
theorem pass_cut {a b t : Int} (ha : tickI a) (hb : tickI b) (hab : a < b) : cutB 64 (passL a b t) = (112 :: (dgs a ++ 45 :: dgs b), dgs t, true) ∧ cutB 45 (dgs a ++ 45 :: dgs b) = (dgs a, dgs b, true) := by
  have : passL a b t = (112 :: (dgs a ++ 45 :: dgs b)) ++ 64 :: dgs t := by
    unfold passL; rw [show min a b = a by omega, show max a b = b by omega]; simp
  refine ⟨?_, cutB_at (no_dig nd45 ha.1)⟩
  rw [this, cutB_at]
  intro e
  rcases List.mem_cons.1 e with e | e
  · cases e
  · rcases List.mem_append.1 e with e | e
    · exact no_dig nd64 ha.1 e
    · rcases List.mem_cons.1 e with e | e
      · cases e
      · exact no_dig nd64 hb.1 e
/-- a key, as the program takes it apart -/
theorem key_parts {l : List UInt8} {k : Int × Int × Int} (h : isKey l k) : (cutB 64 l).2.2 = true ∧ numL (cutB 64 l).2.1 = some k.2.2 ∧
    ((k.2.1 = -1 ∧ preB 99 (cutB 64 l).1 = (dgs k.1, true) ∧ numL (dgs k.1) = some k.1) ∨ ((preB 99 (cutB 64 l).1).2 = false ∧ (preB 112 (cutB 64 l).1).2 = true ∧ (cutB 45 (preB 112 (cutB 64 l).1).1).2.2 = true ∧ numL (cutB 45 (preB 112 (cutB 64 l).1).1).1 = some k.1 ∧ numL (cutB 45 (preB 112 (cutB 64 l).1).1).2.1 = some k.2.1 ∧ k.1 < k.2.1)) := by
  rcases h with ⟨h1, h2, h3, rfl⟩ | ⟨h1, h2, h3, h4, rfl⟩
  · rw [slot_cut h2]
    exact ⟨rfl, numL_dgs h3, .inl ⟨h1, by simp [preB], numL_dgs h2⟩⟩
  · obtain ⟨e1, e2⟩ := pass_cut (t := k.2.2) h1 h2 h3
    rw [e1]
    refine ⟨rfl, numL_dgs h4, .inr ⟨by simp [preB], by simp [preB], ?_, ?_, ?_, h3⟩⟩ <;> simp only [preB, if_pos] <;> rw [e2]
    · exact numL_dgs h1
    · exact numL_dgs h2
theorem cap_le {a b : Nat} (h : a ≤ b) (hb : b ≤ cap47) : a ≤ cap47 := Nat.le_trans h hb
set_option maxHeartbeats 16000000 in
theorem read_spec {W0 : World} {H : Heap} {l : List UInt8} (hP : PkH H) (hl : l.length ≤ cap47) :
    Ct Tryd.prog 37 #[.string (sb l)] W0 H [] (fun r H' B => ReadP l r ∧ B = [] ∧ H' = H) := by
  refine Ct.go fun R => ?_
  have lc := cutB_len (c := 64) (l := l)
  have hk := fun k => key_parts (l := l) (k := k)
  have hok := cutB_ok (c := 64) (l := l)
  refine walk ?_
  refine ops_alloc rfl fun p2 _ => ?_
  refine walk ?_
  refine ops_pcall rfl rfl (cutS_spec (c := 64) hl) ?_
  unfold cutV
  obtain ⟨pl, tl, ok, hcc⟩ : ∃ pl tl ok, cutB 64 l = (pl, tl, ok) := ⟨_, _, _, rfl⟩
  simp only [hcc] at lc hk hok ⊢
  refine walk ?_
  refine ops_call rfl rfl (number_spec hP (cap_le lc.2 hl)) fun r1 H1 B hl1 ⟨⟨tick, er, htick⟩, eB, eH⟩ => ?_
  subst er eB eH
  refine walkG ?_
  refine ex_if rfl (fun hq => ?_) (fun hq => ?_)
  · have hno : ∀ k, ¬ isKey l k := fun k h => by
      have h1 := hk k h
      rcases hq with h2 | h2
      · rw [h1.1] at h2; cases h2
      · rw [h1.2.1] at h2; cases h2
    refine walk ?_
    refine fin0 ?_
    exact ⟨.inr ⟨hno, rfl⟩, rfl, rfl⟩
  have hok1 : ok = true := by cases ok with | true => rfl | false => exact absurd (.inl rfl) hq
  subst hok1
  obtain ⟨t, ht⟩ : ∃ t, numL tl = some t := by
    cases h : numL tl with
    | some t => exact ⟨t, rfl⟩
    | none => exact absurd (.inr (by rw [h]; rfl)) hq
  obtain rfl := htick t ht
  obtain ⟨tt, et⟩ := numL_iff.1 ht
  have hll := hok rfl
  refine walk ?_
  refine ops_pcall rfl rfl (preS_spec (c := 99) (l := pl)) ?_
  have lp := preB_len (c := 99) (l := pl)
  have hp := preB_ok (c := 99) (l := pl)
  obtain ⟨cell, pre, hpre⟩ : ∃ cell pre, preB 99 pl = (cell, pre) := ⟨_, _, rfl⟩
  simp only [hpre] at lp hp hk ⊢
  cases pre with
  | true =>
    refine walk ?_
    refine ops_call rfl rfl (number_spec hP (cap_le lp (cap_le lc.1 hl))) fun r2 H2 B hl2 ⟨⟨n, er, hn⟩, eB, eH⟩ => ?_
    subst er eB eH
    cases hc : numL cell with
    | none =>
      have hno : ∀ k, ¬ isKey l k := fun k h => by
        rcases (hk k h).2.2 with ⟨_, e, f⟩ | ⟨e, _⟩
        · have e := congrArg Prod.fst e
          simp only at e
          rw [e] at hc; rw [hc] at f; cases f
        · cases e
      rw [show Option.isSome (none : Option Int) = false from rfl]
      refine walk ?_
      refine fin0 ?_
      exact ⟨.inr ⟨hno, rfl⟩, rfl, rfl⟩
    | some c =>
      obtain rfl := hn c hc
      obtain ⟨tc, ec⟩ := numL_iff.1 hc
      rw [show Option.isSome (some n) = true from rfl]
      refine walk ?_
      refine fin0 ?_
      refine ⟨.inl ⟨(n, -1, tick), .inl ⟨rfl, tc, tt, ?_⟩, rfl⟩, rfl, rfl⟩
      rw [hll, hp rfl, ← ec, ← et]; simp [slotL]
  | false =>
    refine walk ?_
    refine ops_pcall rfl rfl (preS_spec (c := 112) (l := pl)) ?_
    have lp2 := preB_len (c := 112) (l := pl)
    have hp2 := preB_ok (c := 112) (l := pl)
    obtain ⟨two, pass, hpass⟩ : ∃ two pass, preB 112 pl = (two, pass) := ⟨_, _, rfl⟩
    simp only [hpass] at lp2 hp2 hk ⊢
    refine walk ?_
    refine ops_pcall rfl rfl (cutS_spec (c := 45) (l := two) (cap_le lp2 (cap_le lc.1 hl))) ?_
    unfold cutV
    have lc2 := cutB_len (c := 45) (l := two)
    have hok2 := cutB_ok (c := 45) (l := two)
    obtain ⟨one, other, ok2, hcc2⟩ : ∃ one other ok2, cutB 45 two = (one, other, ok2) := ⟨_, _, _, rfl⟩
    simp only [hcc2] at lc2 hok2 hk ⊢
    refine walk ?_
    refine ops_call rfl rfl (number_spec hP (cap_le lc2.1 (cap_le lp2 (cap_le lc.1 hl)))) fun r3 H3 B hl3 ⟨⟨a, er, ha⟩, eB, eH⟩ => ?_
    subst er eB eH
    refine walk ?_
    refine ops_call rfl rfl (number_spec hP (cap_le lc2.2 (cap_le lp2 (cap_le lc.1 hl)))) fun r4 H4 B hl4 ⟨⟨b, er, hb⟩, eB, eH⟩ => ?_
    subst er eB eH
    refine walkG ?_
    refine ex_if rfl (fun hq2 => ?_) (fun hq2 => ?_)
    · have hno : ∀ k, ¬ isKey l k := fun k h => by
        rcases (hk k h).2.2 with ⟨_, e, _⟩ | ⟨_, e1, e2, e3, e4, e5⟩
        · cases e
        · have := ha _ e3
          have := hb _ e4
          rw [e1, e2, e3, e4] at hq2
          rcases hq2 with (((h | h) | h) | h) | h
          · cases h
          · cases h
          · cases h
          · cases h
          · omega
      refine walk ?_
      refine fin0 ?_
      exact ⟨.inr ⟨hno, rfl⟩, rfl, rfl⟩
    · have hpa : pass = true := by cases pass with | true => rfl | false => exact absurd (.inl (.inl (.inl (.inl rfl)))) hq2
      have hoa : ok2 = true := by cases ok2 with | true => rfl | false => exact absurd (.inl (.inl (.inl (.inr rfl)))) hq2
      subst hpa hoa
      obtain ⟨a', ha'⟩ : ∃ a', numL one = some a' := by
        cases h : numL one with
        | some t => exact ⟨t, rfl⟩
        | none => exact absurd (.inl (.inl (.inr (by rw [h]; rfl)))) hq2
      obtain ⟨b', hb'⟩ : ∃ b', numL other = some b' := by
        cases h : numL other with
        | some t => exact ⟨t, rfl⟩
        | none => exact absurd (.inl (.inr (by rw [h]; rfl))) hq2
      obtain rfl := ha a' ha'
      obtain rfl := hb b' hb'
      obtain ⟨ta, ea⟩ := numL_iff.1 ha'
      obtain ⟨tb, eb⟩ := numL_iff.1 hb'
      have hab : a < b := by
        by_cases h : b ≤ a
        · exact absurd (.inr h) hq2
        · omega
      refine walk ?_
      refine fin0 ?_
      refine ⟨.inl ⟨(a, b, tick), .inr ⟨ta, tb, hab, tt, ?_⟩, rfl⟩, rfl, rfl⟩
      rw [hll, hp2 rfl, hok2 rfl, ← ea, ← eb, ← et]
      unfold passL
      rw [show min a b = a by omega, show max a b = b by omega]
      simp
end Go.Proofs.YtnfmjkjhiolfdaaDoor
