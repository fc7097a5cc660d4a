/- Texts cut, numerals read. -/
import Derived.Test.YtnfmjkjhiolfdaaDoorRH
import Derived.Test.YtnfmjkjhiolfdaaDoorRA
import Derived.Test.YtnfmjkjhiolfdaaDoorKC
import Derived.Test.YtnfmjkjhiolfdaaDoorShelf2
import Derived.Lib.SmallJoins
import Derived.Lib.AtoiAllCases
set_option linter.unusedVariables false
set_option linter.unusedSimpArgs false
namespace Go.Proofs.YtnfmjkjhiolfdaaDoor
open Go Go.Sx Go.Proofs
instance : TIf Tryd.prog 106 := ⟨_, Tryd.underlying106⟩
/-- what stands ahead of the first c, and behind it -/
def cutB (c : UInt8) : List UInt8 → List UInt8 × List UInt8 × Bool
  | [] => ([], [], false)
  | b :: r => if b = c then ([], r, true) else (b :: (cutB c r).1, (cutB c r).2.1, (cutB c r).2.2)
theorem cutB_at {c : UInt8} {v : List UInt8} : ∀ {u : List UInt8}, c ∉ u → cutB c (u ++ c :: v) = (u, v, true)
  | [], _ => by simp [cutB]
  | b :: u, h => by
    have h1 : ¬ b = c := fun e => h (List.mem_cons.2 (.inl e.symm))
    have ih := cutB_at (v := v) (u := u) (fun e => h (List.mem_cons.2 (.inr e)))
    simp only [List.cons_append, cutB, ih, if_neg h1]
theorem cutB_ok {c : UInt8} : ∀ {l : List UInt8}, (cutB c l).2.2 = true → l = (cutB c l).1 ++ c :: (cutB c l).2.1
  | [], h => by cases h
  | b :: r, h => by
    unfold cutB at h ⊢
    split
    · next e => subst e; rfl
    · next e => rw [if_neg e] at h; simp only [List.cons_append]; rw [← cutB_ok (l := r) h]
theorem cutB_len {c : UInt8} : ∀ {l : List UInt8}, (cutB c l).1.length ≤ l.length ∧ (cutB c l).2.1.length ≤ l.length
  | [] => by simp [cutB]
  | b :: r => by
    have := cutB_len (c := c) (l := r)
    unfold cutB; split
    · simp
    · simp only [List.length_cons]; omega
theorem cutB_idx {c : UInt8} : ∀ {l : List UInt8}, (Lib.indexByte l c = -1 ∧ cutB c l = (l, [], false)) ∨ ∃ j : Nat, j < l.length ∧ Lib.indexByte l c = j ∧ cutB c l = (l.take j, l.drop (j + 1), true)
  | [] => .inl ⟨rfl, rfl⟩
  | b :: r => by
    by_cases e : b = c
    · subst e; exact .inr ⟨0, by simp, by simp [Lib.indexByte], by simp [cutB]⟩
    · have hb : (b == c) = false := by simpa using e
      rcases cutB_idx (c := c) (l := r) with ⟨h1, h2⟩ | ⟨j, h0, h1, h2⟩
      · exact .inl ⟨by simp [Lib.indexByte, hb, h1], by simp [cutB, e, h2]⟩
      · refine .inr ⟨j + 1, by simp; omega, ?_, by simp [cutB, e, h2]⟩
        have h3 : ¬ ((j : Int) = -1) := by omega
        simp [Lib.indexByte, hb, h1, h3]
/-- what stands behind the first sign, if that is c -/
def preB (c : UInt8) : List UInt8 → List UInt8 × Bool
  | [] => ([], false)
  | b :: r => if b = c then (r, true) else (b :: r, false)
theorem preB_lib {c : UInt8} {l : List UInt8} : Lib.trimPrefix l [c] = (preB c l).1 ∧ Lib.hasPrefix l [c] = (preB c l).2 := by
  cases l with
  | nil => simp [Lib.trimPrefix, Lib.hasPrefix, preB]
  | cons b r =>
    unfold preB Lib.trimPrefix Lib.hasPrefix
    by_cases e : b = c
    · subst e; simp [List.isPrefixOf]
    · have h1 : (c == b) = false := by simpa using fun h : c = b => e h.symm
      have h2 : [c].isPrefixOf (b :: r) = false := by simp [List.isPrefixOf, h1]
      simp [e, h2]
theorem preB_len {c : UInt8} {l : List UInt8} : (preB c l).1.length ≤ l.length := by
  cases l with
  | nil => simp [preB]
  | cons b r => by_cases e : b = c <;> simp [preB, e]
theorem preB_ok {c : UInt8} {l : List UInt8} (h : (preB c l).2 = true) : l = c :: (preB c l).1 := by
  cases l with
  | nil => cases h
  | cons b r =>
    by_cases e : b = c
    · subst e; simp [preB]
    · simp [preB, e] at h
theorem idx1_spec {W0 : World} {H : Heap} {l : List UInt8} {c : UInt8} :
    Ct Tryd.prog 93 #[.string (sb l), .string (sb [c])] W0 H [] (fun r H' B => r = I (Lib.indexByte l c) ∧ B = [] ∧ H' = H) :=
  ct_pure fun w _ => (Tryd.stringslite_Index_one (sb l) c w).mono fun e w' ⟨h1, h2⟩ => ⟨by rw [h1, sb_data], h2 ▸ .refl _ _⟩
instance : TFn Tryd.prog 76 := ⟨Tryd.call76⟩
instance : TBody Tryd.prog 76 Tryd.f76 (Tryd.f76.body.getD .skip) 23 := ⟨Tryd.func76, rfl, Tryd.ntmps76⟩
instance : TFn Tryd.prog 93 := ⟨Tryd.call93⟩
def cutV (c : UInt8) (l : List UInt8) : Value := .tuple #[.string (sb (cutB c l).1), .string (sb (cutB c l).2.1), .bool (cutB c l).2.2]
theorem cut0_spec {W0 : World} {H : Heap} {l : List UInt8} {c : UInt8} (hl : l.length ≤ cap47) :
    Ct Tryd.prog 76 #[.string (sb l), .string (sb [c])] W0 H [] (fun r H' B => r = cutV c l ∧ B = [] ∧ H' = H) := by
  refine Ct.go fun R => ?_
  simp only [cap47] at hl
  refine walk ?_
  refine ops_pcall rfl rfl idx1_spec ?_
  rcases cutB_idx (c := c) (l := l) with ⟨h1, h2⟩ | ⟨j, h0, h1, h2⟩
  · rw [h1]
    refine walk ?_
    refine fin0 ?_
    exact ⟨by unfold cutV; rw [h2], rfl, rfl⟩
  · rw [h1]
    refine walk ?_
    rw [show ((sb [c]).size : Int) = 1 from rfl]
    refine walk ?_
    refine fin0 ?_
    exact ⟨by unfold cutV; rw [h2], rfl, rfl⟩
theorem cutS_spec {W0 : World} {H : Heap} {l : List UInt8} {c : UInt8} (hl : l.length ≤ cap47) :
    Ct Tryd.prog 65 #[.string (sb l), .string (sb [c])] W0 H [] (fun r H' B => r = cutV c l ∧ B = [] ∧ H' = H) := by
  refine Ct.go fun R => ?_
  refine walk ?_
  refine ops_pcall rfl rfl (cut0_spec hl) ?_
  unfold cutV
  refine walk ?_
  refine fin0 ?_
  exact ⟨rfl, rfl, rfl⟩
theorem preS_spec {W0 : World} {H : Heap} {l : List UInt8} {c : UInt8} :
    Ct Tryd.prog 67 #[.string (sb l), .string (sb [c])] W0 H [] (fun r H' B => r = .tuple #[.string (sb (preB c l).1), .bool (preB c l).2] ∧ B = [] ∧ H' = H) :=
  ct_pure fun w _ => (Tryd.strings_CutPrefix (sb l) (sb [c]) w).mono fun e w' ⟨h1, h2⟩ => ⟨by rw [h1, sb_data, sb_data, preB_lib.1, preB_lib.2], h2 ▸ .refl _ _⟩
/-- the library's variables that the walks read -/
structure PkH (H : Heap) : Prop where
  tab : TabH Tryd.prog H
  syn : ∃ tp p, VarH Tryd.prog H "strconv.ErrSyntax" [.iface tp p]
  ran : ∃ tp p, VarH Tryd.prog H "strconv.ErrRange" [.iface tp p]
theorem PkH.mono {H H' : Heap} (h : PkH H) (hl : H.le H') : PkH H' := ⟨h.tab.mono hl, let ⟨a, b, c⟩ := h.syn; ⟨a, b, c.mono hl⟩, let ⟨a, b, c⟩ := h.ran; ⟨a, b, c.mono hl⟩⟩
def AtoiP (l : List UInt8) (r : Value) : Prop := (∃ v, Lib.atoiAll l = .ok v ∧ r = .tuple #[I v, .nilIface]) ∨ ((∀ v, Lib.atoiAll l ≠ .ok v) ∧ ∃ n t u, r = .tuple #[I n, .iface t u])
theorem atoi_spec {W0 : World} {H : Heap} {l : List UInt8} (hP : PkH H) (hl : l.length ≤ cap47) :
    Ct Tryd.prog 77 #[.string (sb l)] W0 H [] (fun r H' B => AtoiP l r ∧ B = [] ∧ H' = H) := by
  have hs : (sb l).size ≤ 281474976710656 := by rw [sb_size]; simp only [cap47] at hl; omega
  refine ct_pureP fun w hw => ?_
  cases h : Lib.atoiAll l
  · next v =>
    refine (Tryd.strconv_Atoi_ok (sb l) (by omega) v (by rw [sb_data]; exact h) w).mono fun e w' ⟨h1, h2⟩ => ⟨_, h1, .inl ⟨v, h, rfl⟩, ?_⟩
    rcases h2 with rfl | ⟨t, rfl⟩
    · exact .refl _ _
    · exact Joins.below_bytesWorld _ w _ _ (Nat.le_refl _)
  · obtain ⟨tp, p, hv⟩ := hP.syn
    refine (Any.strconv_Atoi_syntax_var Tryd.laysC172 (sb l) hs (by rw [sb_data]; exact h) tp p w (hv.var hw)).mono fun e w' ⟨N, h1, _, _, h2⟩ => ⟨_, h1, .inr ⟨fun v e => (by rw [h] at e; cases e), _, _, _, rfl⟩, h2⟩
  · obtain ⟨tp, p, hv⟩ := hP.ran
    refine (Any.strconv_Atoi_range_var Tryd.laysC172 (sb l) hs (by rw [sb_data]; exact h) tp p w (hv.var hw)).mono fun e w' ⟨N, h1, _, _, h2⟩ => ⟨_, h1, .inr ⟨fun v e => (by rw [h] at e; cases e), _, _, _, rfl⟩, h2⟩
theorem parse_app {v : List UInt8} : ∀ {u : List UInt8} {a b : Nat}, Lib.parseUint10 a u = .ok b → Lib.parseUint10 a (u ++ v) = Lib.parseUint10 b v
  | [], a, b, h => by simp only [Lib.parseUint10] at h; cases h; rfl
  | c :: u, a, b, h => by
    simp only [Lib.parseUint10, List.cons_append] at h ⊢
    split at h
    · next h1 =>
      rw [if_pos h1]
      split at h
      · cases h
      · next h2 =>
        rw [if_neg h2]
        split at h
        · cases h
        · next h3 => rw [if_neg h3]; exact parse_app h
    · cases h
theorem parse_nd : ∀ {n : Nat}, n < 10000000000000000000 → Lib.parseUint10 0 (nd n) = .ok n := fun {n} => by
  induction n using Nat.strongRecOn with
  | ind n ih =>
    intro hn
    by_cases h0 : n = 0
    · subst h0; simp [nd, Lib.parseUint10]
    · have hd := dig_nat (k := n)
      rw [nd_step h0, parse_app (ih (n / 10) (by omega) (by omega))]
      simp only [Lib.parseUint10]
      rw [hd, if_pos (by omega), if_neg (by omega), if_neg (by omega)]
      congr 1; omega
theorem atoi_dgs {v : Int} (h0 : 0 ≤ v) (h1 : v ≤ 1073741824) : Lib.atoiAll (dgs v) = .ok v := by
  have hp : Lib.parseUint10 0 (dgs v) = .ok v.toNat := by
    unfold dgs
    split
    · next h => subst h; simp [Lib.parseUint10]
    · rw [if_neg (by omega), show v.natAbs = v.toNat by omega]; exact parse_nd (by omega)
  have hd := dgs_dig h0
  cases hl : dgs v with
  | nil =>
    exfalso
    unfold dgs at hl
    split at hl
    · cases hl
    · rw [if_neg (by omega), nd_step (by omega)] at hl; simp at hl
  | cons c r =>
    rw [hl] at hp hd
    have hc := hd c (by simp)
    unfold isDig at hc
    have hm : Lib.parseMag (c :: r) = .ok v.toNat := by unfold Lib.parseMag; rw [if_neg (by simp)]; exact hp
    unfold Lib.atoiAll
    simp only
    rw [if_neg (by omega), hm]
    simp only
    rw [if_neg (by omega), if_neg (by omega), if_neg (by omega)]
    congr 1; omega
open Classical in
/-- the number that a text spells -/
noncomputable def numL (l : List UInt8) : Option Int := if h : ∃ v, (0 ≤ v ∧ v ≤ 1073741824) ∧ dgs v = l then some h.choose else none
theorem numL_iff {l : List UInt8} {v : Int} : numL l = some v ↔ (0 ≤ v ∧ v ≤ 1073741824) ∧ dgs v = l := by
  unfold numL
  constructor
  · intro h
    split at h
    · next hh => cases h; exact hh.choose_spec
    · cases h
  · intro h
    have hh : ∃ v, (0 ≤ v ∧ v ≤ 1073741824) ∧ dgs v = l := ⟨v, h⟩
    rw [dif_pos hh]
    have h2 := hh.choose_spec
    rw [dgs_inj h2.1.1 h.1.1 (h2.2.trans h.2.symm)]
def NumP (l : List UInt8) (r : Value) : Prop := ∃ n, r = .tuple #[I n, .bool (numL l).isSome] ∧ ∀ v, numL l = some v → n = v
theorem number_spec {W0 : World} {H : Heap} {l : List UInt8} (hP : PkH H) (hl : l.length ≤ cap47) :
    Ct Tryd.prog 66 #[.string (sb l)] W0 H [] (fun r H' B => NumP l r ∧ B = [] ∧ H' = H) := by
  refine Ct.go fun R => ?_
  refine walk ?_
  refine ops_call rfl rfl (atoi_spec hP hl) fun r1 H1 B hl1 ⟨hr, eB, eH⟩ => ?_
  subst eB eH
  rcases hr with ⟨v, h, rfl⟩ | ⟨hno, n, t, u, rfl⟩
  · have hb := Lib.atoiAll_bounds h
    have hf : fits v := by unfold fits; omega
    refine walkG ?_
    refine ops_gcall rfl rfl (fun hg => itoa_spec hP.tab hf) ?_
    refine walkG ?_
    refine fin0 ?_
    refine ⟨⟨v, ?_, fun v' h' => ?_⟩, rfl, rfl⟩
    · by_cases h2 : (0 ≤ v ∧ v ≤ 1073741824) ∧ dgs v = l
      · rw [numL_iff.2 h2, decide_eq_true (p := _ ∧ _) ⟨h2.1, by rw [h2.2]⟩]; rfl
      · have hnone : numL l = none := by
          cases h3 : numL l with
          | none => rfl
          | some v' =>
            obtain ⟨h4, h5⟩ := numL_iff.1 h3
            have h6 := atoi_dgs h4.1 h4.2
            rw [h5, h] at h6
            cases h6
            exact absurd ⟨h4, h5⟩ h2
        rw [hnone, decide_eq_false (p := _ ∧ _) (fun h3 => h2 ⟨h3.1, sb_inj h3.2⟩)]; rfl
    · obtain ⟨h1, h2⟩ := numL_iff.1 h'
      have h3 := atoi_dgs h1.1 h1.2
      rw [h2, h] at h3
      cases h3; rfl
  · have hnone : numL l = none := by
      cases h : numL l with
      | none => rfl
      | some v =>
        obtain ⟨h1, h2⟩ := numL_iff.1 h
        exact absurd (by rw [← h2]; exact atoi_dgs h1.1 h1.2) (hno v)
    refine walkG ?_
    refine fin0 ?_
    exact ⟨⟨n, by rw [hnone]; rfl, fun v h => (by rw [hnone] at h; cases h)⟩, rfl, rfl⟩
end Go.Proofs.YtnfmjkjhiolfdaaDoor
