/- What the five listed package variables give; the start that fits. -/
import Derived.Test.YtpphdbnifbjfmaaGreatDoorJKB
import Derived.Test.YtpphdbnifbjfmaaGreatDoorJKC
import Derived.Test.YtpphdbnifbjfmaaGreatDoorJLP
import Derived.Test.YtpphdbnifbjfmaaGreatDoorJShelf2
import Derived.Lib.SmallJoins
import Derived.Lib.AtoiAllCases
import Derived.Test.YtpphdbnifbjfmaaGreatDoorRows
import Derived.Stop.LaidErr
import Derived.LaidMore
import Derived.LaidHandle
import Derived.MakeChecks
set_option linter.unusedVariables false
set_option linter.unusedSimpArgs false
namespace Go.Proofs.YtpphdbnifbjfmaaGreatDoor
open Go Go.Sx Go.Proofs
instance : TIf Tryz.prog 215 := ⟨_, Tryz.underlying215⟩
def cutB (c : UInt8) : List UInt8 → List UInt8 × List UInt8 × Bool
  | [] => ([], [], false)
  | b :: r => if b = c then ([], r, true) else (b :: (cutB c r).1, (cutB c r).2.1, (cutB c r).2.2)
theorem cutB_at {c : UInt8} {v : List UInt8} : ∀ {u : List UInt8}, c ∉ u → cutB c (u ++ c :: v) = (u, v, true)
  | [], _ => by simp [cutB]
  | b :: u, h => by
    have h1 : ¬ b = c := fun e => h (List.mem_cons.2 (.inl e.symm))
    have ih := cutB_at (v := v) (u := u) (fun e => h (List.mem_cons.2 (.inr e)))
    simp only [List.cons_append, cutB, ih, if_neg h1]
theorem cutB_ok {c : UInt8} : ∀ {l : List UInt8}, (cutB c l).2.2 = true → l = (cutB c l).1 ++ c :: (cutB c l).2.1
  | [], h => by cases h
  | b :: r, h => by
    unfold cutB at h ⊢
    split
    · next e => subst e; rfl
    · next e => rw [if_neg e] at h; simp only [List.cons_append]; rw [← cutB_ok (l := r) h]
theorem cutB_len {c : UInt8} : ∀ {l : List UInt8}, (cutB c l).1.length ≤ l.length ∧ (cutB c l).2.1.length ≤ l.length
  | [] => by simp [cutB]
  | b :: r => by
    have := cutB_len (c := c) (l := r)
    unfold cutB; split
    · simp
    · simp only [List.length_cons]; omega
theorem cutB_idx {c : UInt8} : ∀ {l : List UInt8}, (Lib.indexByte l c = -1 ∧ cutB c l = (l, [], false)) ∨ ∃ j : Nat, j < l.length ∧ Lib.indexByte l c = j ∧ cutB c l = (l.take j, l.drop (j + 1), true)
  | [] => .inl ⟨rfl, rfl⟩
  | b :: r => by
    by_cases e : b = c
    · subst e; exact .inr ⟨0, by simp, by simp [Lib.indexByte], by simp [cutB]⟩
    · have hb : (b == c) = false := by simpa using e
      rcases cutB_idx (c := c) (l := r) with ⟨h1, h2⟩ | ⟨j, h0, h1, h2⟩
      · exact .inl ⟨by simp [Lib.indexByte, hb, h1], by simp [cutB, e, h2]⟩
      · refine .inr ⟨j + 1, by simp; omega, ?_, by simp [cutB, e, h2]⟩
        have h3 : ¬ ((j : Int) = -1) := by omega
        simp [Lib.indexByte, hb, h1, h3]
def preB (c : UInt8) : List UInt8 → List UInt8 × Bool
  | [] => ([], false)
  | b :: r => if b = c then (r, true) else (b :: r, false)
theorem preB_lib {c : UInt8} {l : List UInt8} : Lib.trimPrefix l [c] = (preB c l).1 ∧ Lib.hasPrefix l [c] = (preB c l).2 := by
  cases l with
  | nil => simp [Lib.trimPrefix, Lib.hasPrefix, preB]
  | cons b r =>
    unfold preB Lib.trimPrefix Lib.hasPrefix
    by_cases e : b = c
    · subst e; simp [List.isPrefixOf]
    · have h1 : (c == b) = false := by simpa using fun h : c = b => e h.symm
      have h2 : [c].isPrefixOf (b :: r) = false := by simp [List.isPrefixOf, h1]
      simp [e, h2]
theorem preB_len {c : UInt8} {l : List UInt8} : (preB c l).1.length ≤ l.length := by
  cases l with
  | nil => simp [preB]
  | cons b r => by_cases e : b = c <;> simp [preB, e]
theorem preB_ok {c : UInt8} {l : List UInt8} (h : (preB c l).2 = true) : l = c :: (preB c l).1 := by
  cases l with
  | nil => cases h
  | cons b r =>
    by_cases e : b = c
    · subst e; simp [preB]
    · simp [preB, e] at h
theorem idx1_spec {W0 : World} {H : Heap} {l : List UInt8} {c : UInt8} :
    Ct Tryz.prog 128 #[.string (sb l), .string (sb [c])] W0 H [] (fun r H' B => r = I (Lib.indexByte l c) ∧ B = [] ∧ H' = H) :=
  ct_pure fun w _ => (Tryz.stringslite_Index_one (sb l) c w).mono fun e w' ⟨h1, h2⟩ => ⟨by rw [h1, sb_data], h2 ▸ .refl _ _⟩
instance : TFn Tryz.prog 110 := ⟨Tryz.call110⟩
instance : TBody Tryz.prog 110 Tryz.f110 (Tryz.f110.body.getD .skip) 23 := ⟨Tryz.func110, rfl, Tryz.ntmps110⟩
instance : TFn Tryz.prog 128 := ⟨Tryz.call128⟩
def cutV (c : UInt8) (l : List UInt8) : Value := .tuple #[.string (sb (cutB c l).1), .string (sb (cutB c l).2.1), .bool (cutB c l).2.2]
theorem cut0_spec {W0 : World} {H : Heap} {l : List UInt8} {c : UInt8} (hl : l.length ≤ cap47) :
    Ct Tryz.prog 110 #[.string (sb l), .string (sb [c])] W0 H [] (fun r H' B => r = cutV c l ∧ B = [] ∧ H' = H) := by
  refine Ct.go fun R => ?_
  simp only [cap47] at hl
  refine walk ?_
  refine ops_pcall rfl rfl idx1_spec ?_
  rcases cutB_idx (c := c) (l := l) with ⟨h1, h2⟩ | ⟨j, h0, h1, h2⟩
  · rw [h1]
    refine walk ?_
    refine fin0 ?_
    exact ⟨by unfold cutV; rw [h2], rfl, rfl⟩
  · rw [h1]
    refine walk ?_
    rw [show ((sb [c]).size : Int) = 1 from rfl]
    refine walk ?_
    refine fin0 ?_
    exact ⟨by unfold cutV; rw [h2], rfl, rfl⟩
theorem cutS_spec {W0 : World} {H : Heap} {l : List UInt8} {c : UInt8} (hl : l.length ≤ cap47) :
    Ct Tryz.prog 93 #[.string (sb l), .string (sb [c])] W0 H [] (fun r H' B => r = cutV c l ∧ B = [] ∧ H' = H) := by
  refine Ct.go fun R => ?_
  refine walk ?_
  refine ops_pcall rfl rfl (cut0_spec hl) ?_
  unfold cutV
  refine walk ?_
  refine fin0 ?_
  exact ⟨rfl, rfl, rfl⟩
theorem preS_spec {W0 : World} {H : Heap} {l : List UInt8} {c : UInt8} :
    Ct Tryz.prog 95 #[.string (sb l), .string (sb [c])] W0 H [] (fun r H' B => r = .tuple #[.string (sb (preB c l).1), .bool (preB c l).2] ∧ B = [] ∧ H' = H) :=
  ct_pure fun w _ => (Tryz.strings_CutPrefix (sb l) (sb [c]) w).mono fun e w' ⟨h1, h2⟩ => ⟨by rw [h1, sb_data, sb_data, preB_lib.1, preB_lib.2], h2 ▸ .refl _ _⟩
structure PkH (H : Heap) : Prop where
  tab : TabH Tryz.prog H
  syn : ∃ tp p, VarH Tryz.prog H "strconv.ErrSyntax" [.iface tp p]
  ran : ∃ tp p, VarH Tryz.prog H "strconv.ErrRange" [.iface tp p]
theorem PkH.mono {H H' : Heap} (h : PkH H) (hl : H.le H') : PkH H' := ⟨h.tab.mono hl, let ⟨a, b, c⟩ := h.syn; ⟨a, b, c.mono hl⟩, let ⟨a, b, c⟩ := h.ran; ⟨a, b, c.mono hl⟩⟩
def AtoiP (l : List UInt8) (r : Value) : Prop := (∃ v, Lib.atoiAll l = .ok v ∧ r = .tuple #[I v, .nilIface]) ∨ ((∀ v, Lib.atoiAll l ≠ .ok v) ∧ ∃ n t u, r = .tuple #[I n, .iface t u])
theorem atoi_spec {W0 : World} {H : Heap} {l : List UInt8} (hP : PkH H) (hl : l.length ≤ cap47) :
    Ct Tryz.prog 111 #[.string (sb l)] W0 H [] (fun r H' B => AtoiP l r ∧ B = [] ∧ H' = H) := by
  have hs : (sb l).size ≤ 281474976710656 := by rw [sb_size]; simp only [cap47] at hl; omega
  refine ct_pureP fun w hw => ?_
  cases h : Lib.atoiAll l
  · next v =>
    refine (Tryz.strconv_Atoi_ok (sb l) (by omega) v (by rw [sb_data]; exact h) w).mono fun e w' ⟨h1, h2⟩ => ⟨_, h1, .inl ⟨v, h, rfl⟩, ?_⟩
    rcases h2 with rfl | ⟨t, rfl⟩
    · exact .refl _ _
    · exact Joins.below_bytesWorld _ w _ _ (Nat.le_refl _)
  · obtain ⟨tp, p, hv⟩ := hP.syn
    refine (Any.strconv_Atoi_syntax_var Tryz.laysC172 (sb l) hs (by rw [sb_data]; exact h) tp p w (hv.var hw)).mono fun e w' ⟨N, h1, _, _, h2⟩ => ⟨_, h1, .inr ⟨fun v e => (by rw [h] at e; cases e), _, _, _, rfl⟩, h2⟩
  · obtain ⟨tp, p, hv⟩ := hP.ran
    refine (Any.strconv_Atoi_range_var Tryz.laysC172 (sb l) hs (by rw [sb_data]; exact h) tp p w (hv.var hw)).mono fun e w' ⟨N, h1, _, _, h2⟩ => ⟨_, h1, .inr ⟨fun v e => (by rw [h] at e; cases e), _, _, _, rfl⟩, h2⟩
theorem parse_app {v : List UInt8} : ∀ {u : List UInt8} {a b : Nat}, Lib.parseUint10 a u = .ok b → Lib.parseUint10 a (u ++ v) = Lib.parseUint10 b v
  | [], a, b, h => by simp only [Lib.parseUint10] at h; cases h; rfl
  | c :: u, a, b, h => by
    simp only [Lib.parseUint10, List.cons_append] at h ⊢
    split at h
    · next h1 =>
      rw [if_pos h1]
      split at h
      · cases h
      · next h2 =>
        rw [if_neg h2]
        split at h
        · cases h
        · next h3 => rw [if_neg h3]; exact parse_app h
    · cases h
theorem parse_nd : ∀ {n : Nat}, n < 10000000000000000000 → Lib.parseUint10 0 (nd n) = .ok n := fun {n} => by
  induction n using Nat.strongRecOn with
  | ind n ih =>
    intro hn
    by_cases h0 : n = 0
    · subst h0; simp [nd, Lib.parseUint10]
    · have hd := dig_nat (k := n)
      rw [nd_step h0, parse_app (ih (n / 10) (by omega) (by omega))]
      simp only [Lib.parseUint10]
      rw [hd, if_pos (by omega), if_neg (by omega), if_neg (by omega)]
      congr 1; omega
theorem atoi_dgs {v : Int} (h0 : 0 ≤ v) (h1 : v ≤ 1073741824) : Lib.atoiAll (dgs v) = .ok v := by
  have hp : Lib.parseUint10 0 (dgs v) = .ok v.toNat := by
    unfold dgs
    split
    · next h => subst h; simp [Lib.parseUint10]
    · rw [if_neg (by omega), show v.natAbs = v.toNat by omega]; exact parse_nd (by omega)
  have hd := dgs_dig h0
  cases hl : dgs v with
  | nil =>
    exfalso
    unfold dgs at hl
    split at hl
    · cases hl
    · rw [if_neg (by omega), nd_step (by omega)] at hl; simp at hl
  | cons c r =>
    rw [hl] at hp hd
    have hc := hd c (by simp)
    unfold isDig at hc
    have hm : Lib.parseMag (c :: r) = .ok v.toNat := by unfold Lib.parseMag; rw [if_neg (by simp)]; exact hp
    unfold Lib.atoiAll
    simp only
    rw [if_neg (by omega), hm]
    simp only
    rw [if_neg (by omega), if_neg (by omega), if_neg (by omega)]
    congr 1; omega
open Classical in
noncomputable def numL (l : List UInt8) : Option Int := if h : ∃ v, (0 ≤ v ∧ v ≤ 1073741824) ∧ dgs v = l then some h.choose else none
theorem numL_iff {l : List UInt8} {v : Int} : numL l = some v ↔ (0 ≤ v ∧ v ≤ 1073741824) ∧ dgs v = l := by
  unfold numL
  constructor
  · intro h
    split at h
    · next hh => cases h; exact hh.choose_spec
    · cases h
  · intro h
    have hh : ∃ v, (0 ≤ v ∧ v ≤ 1073741824) ∧ dgs v = l := ⟨v, h⟩
    rw [dif_pos hh]
    have h2 := hh.choose_spec
    rw [dgs_inj h2.1.1 h.1.1 (h2.2.trans h.2.symm)]
def NumP (l : List UInt8) (r : Value) : Prop := ∃ n, r = .tuple #[I n, .bool (numL l).isSome] ∧ ∀ v, numL l = some v → n = v
theorem number_spec {W0 : World} {H : Heap} {l : List UInt8} (hP : PkH H) (hl : l.length ≤ cap47) :
    Ct Tryz.prog 94 #[.string (sb l)] W0 H [] (fun r H' B => NumP l r ∧ B = [] ∧ H' = H) := by
  refine Ct.go fun R => ?_
  refine walk ?_
  refine ops_call rfl rfl (atoi_spec hP hl) fun r1 H1 B hl1 ⟨hr, eB, eH⟩ => ?_
  subst eB eH
  rcases hr with ⟨v, h, rfl⟩ | ⟨hno, n, t, u, rfl⟩
  · have hb := Lib.atoiAll_bounds h
    have hf : fits v := by unfold fits; omega
    refine walkG ?_
    refine ops_gcall rfl rfl (fun hg => itoa_spec hP.tab hf) ?_
    refine walkG ?_
    refine fin0 ?_
    refine ⟨⟨v, ?_, fun v' h' => ?_⟩, rfl, rfl⟩
    · by_cases h2 : (0 ≤ v ∧ v ≤ 1073741824) ∧ dgs v = l
      · rw [numL_iff.2 h2, decide_eq_true (p := _ ∧ _) ⟨h2.1, by rw [h2.2]⟩]; rfl
      · have hnone : numL l = none := by
          cases h3 : numL l with
          | none => rfl
          | some v' =>
            obtain ⟨h4, h5⟩ := numL_iff.1 h3
            have h6 := atoi_dgs h4.1 h4.2
            rw [h5, h] at h6
            cases h6
            exact absurd ⟨h4, h5⟩ h2
        rw [hnone, decide_eq_false (p := _ ∧ _) (fun h3 => h2 ⟨h3.1, sb_inj h3.2⟩)]; rfl
    · obtain ⟨h1, h2⟩ := numL_iff.1 h'
      have h3 := atoi_dgs h1.1 h1.2
      rw [h2, h] at h3
      cases h3; rfl
  · have hnone : numL l = none := by
      cases h : numL l with
      | none => rfl
      | some v =>
        obtain ⟨h1, h2⟩ := numL_iff.1 h
        exact absurd (by rw [← h2]; exact atoi_dgs h1.1 h1.2) (hno v)
    refine walkG ?_
    refine fin0 ?_
    exact ⟨⟨n, by rw [hnone]; rfl, fun v h => (by rw [hnone] at h; cases h)⟩, rfl, rfl⟩
def isKey (l : List UInt8) (k : Int × Int × Int) : Prop := (k.2.1 = -1 ∧ tickI k.1 ∧ tickI k.2.2 ∧ l = slotL k.1 k.2.2) ∨ (tickI k.1 ∧ tickI k.2.1 ∧ k.1 < k.2.1 ∧ tickI k.2.2 ∧ l = passL k.1 k.2.1 k.2.2)
theorem isKey.uniq {l : List UInt8} {k k' : Int × Int × Int} (h : isKey l k) (h' : isKey l k') : k = k' := by
  obtain ⟨a, b, t⟩ := k
  obtain ⟨a', b', t'⟩ := k'
  simp only [isKey, tickI] at h h'
  rcases h with ⟨h1, h2, h3, h4⟩ | ⟨h1, h2, h3, h4, h5⟩
  · rcases h' with ⟨g1, g2, g3, g4⟩ | ⟨g1, g2, g3, g4, g5⟩
    · obtain ⟨e1, e2⟩ := slot_inj h2.1 g2.1 h3.1 g3.1 (h4.symm.trans g4)
      rw [e1, e2, h1, g1]
    · exact absurd (h4.symm.trans g5) slot_pass
  · rcases h' with ⟨g1, g2, g3, g4⟩ | ⟨g1, g2, g3, g4, g5⟩
    · exact absurd (g4.symm.trans h5) slot_pass
    · obtain ⟨⟨e1, e2⟩, e3⟩ := pass_inj h1.1 h2.1 g1.1 g2.1 h4.1 g4.1 (h5.symm.trans g5)
      rw [show a = a' by omega, show b = b' by omega, e3]
def ReadP (l : List UInt8) (r : Value) : Prop := (∃ k, isKey l k ∧ r = .tuple #[.agg #[I k.1, I k.2.1, I k.2.2], .bool true]) ∨ ((∀ k, ¬ isKey l k) ∧ r = .tuple #[.agg #[I 0, I 0, I 0], .bool false])
theorem no_dig {c : UInt8} (hc : ¬ isDig c) {n : Int} (h : 0 ≤ n) : c ∉ dgs n := fun e => hc (dgs_dig h c e)
theorem nd64 : ¬ isDig 64 := by unfold isDig; decide
theorem nd45 : ¬ isDig 45 := by unfold isDig; decide
theorem numL_dgs {n : Int} (h : tickI n) : numL (dgs n) = some n := numL_iff.2 ⟨h, rfl⟩
theorem slot_cut {c t : Int} (h : tickI c) : cutB 64 (slotL c t) = (99 :: dgs c, dgs t, true) := by
  have : slotL c t = (99 :: dgs c) ++ 64 :: dgs t := by simp [slotL]
  rw [this, cutB_at]
  intro e
  rcases List.mem_cons.1 e with e | e
  · cases e
  · exact no_dig nd64 h.1 e
theorem pass_cut {a b t : Int} (ha : tickI a) (hb : tickI b) (hab : a < b) : cutB 64 (passL a b t) = (112 :: (dgs a ++ 45 :: dgs b), dgs t, true) ∧ cutB 45 (dgs a ++ 45 :: dgs b) = (dgs a, dgs b, true) := by
  have : passL a b t = (112 :: (dgs a ++ 45 :: dgs b)) ++ 64 :: dgs t := by
    unfold passL; rw [show min a b = a by omega, show max a b = b by omega]; simp
  refine ⟨?_, cutB_at (no_dig nd45 ha.1)⟩
  rw [this, cutB_at]
  intro e
  rcases List.mem_cons.1 e with e | e
  · cases e
  · rcases List.mem_append.1 e with e | e
    · exact no_dig nd64 ha.1 e
    · rcases List.mem_cons.1 e with e | e
      · cases e
      · exact no_dig nd64 hb.1 e
theorem key_parts {l : List UInt8} {k : Int × Int × Int} (h : isKey l k) : (cutB 64 l).2.2 = true ∧ numL (cutB 64 l).2.1 = some k.2.2 ∧
    ((k.2.1 = -1 ∧ preB 99 (cutB 64 l).1 = (dgs k.1, true) ∧ numL (dgs k.1) = some k.1) ∨ ((preB 99 (cutB 64 l).1).2 = false ∧ (preB 112 (cutB 64 l).1).2 = true ∧ (cutB 45 (preB 112 (cutB 64 l).1).1).2.2 = true ∧ numL (cutB 45 (preB 112 (cutB 64 l).1).1).1 = some k.1 ∧ numL (cutB 45 (preB 112 (cutB 64 l).1).1).2.1 = some k.2.1 ∧ k.1 < k.2.1)) := by
  rcases h with ⟨h1, h2, h3, rfl⟩ | ⟨h1, h2, h3, h4, rfl⟩
  · rw [slot_cut h2]
    exact ⟨rfl, numL_dgs h3, .inl ⟨h1, by simp [preB], numL_dgs h2⟩⟩
  · obtain ⟨e1, e2⟩ := pass_cut (t := k.2.2) h1 h2 h3
    rw [e1]
    refine ⟨rfl, numL_dgs h4, .inr ⟨by simp [preB], by simp [preB], ?_, ?_, ?_, h3⟩⟩ <;> simp only [preB, if_pos] <;> rw [e2]
    · exact numL_dgs h1
    · exact numL_dgs h2
theorem cap_le {a b : Nat} (h : a ≤ b) (hb : b ≤ cap47) : a ≤ cap47 := Nat.le_trans h hb
set_option maxHeartbeats 16000000 in
theorem read_spec {W0 : World} {H : Heap} {l : List UInt8} (hP : PkH H) (hl : l.length ≤ cap47) :
    Ct Tryz.prog 75 #[.string (sb l)] W0 H [] (fun r H' B => ReadP l r ∧ B = [] ∧ H' = H) := by
  refine Ct.go fun R => ?_
  have lc := cutB_len (c := 64) (l := l)
  have hk := fun k => key_parts (l := l) (k := k)
  have hok := cutB_ok (c := 64) (l := l)
  refine walk ?_
  refine ops_alloc rfl fun p2 _ => ?_
  refine walk ?_
  refine ops_pcall rfl rfl (cutS_spec (c := 64) hl) ?_
  unfold cutV
  obtain ⟨pl, tl, ok, hcc⟩ : ∃ pl tl ok, cutB 64 l = (pl, tl, ok) := ⟨_, _, _, rfl⟩
  simp only [hcc] at lc hk hok ⊢
  refine walk ?_
  refine ops_call rfl rfl (number_spec hP (cap_le lc.2 hl)) fun r1 H1 B hl1 ⟨⟨tick, er, htick⟩, eB, eH⟩ => ?_
  subst er eB eH
  refine walkG ?_
  refine ex_if rfl (fun hq => ?_) (fun hq => ?_)
  · have hno : ∀ k, ¬ isKey l k := fun k h => by
      have h1 := hk k h
      rcases hq with h2 | h2
      · rw [h1.1] at h2; cases h2
      · rw [h1.2.1] at h2; cases h2
    refine walk ?_
    refine fin0 ?_
    exact ⟨.inr ⟨hno, rfl⟩, rfl, rfl⟩
  have hok1 : ok = true := by cases ok with | true => rfl | false => exact absurd (.inl rfl) hq
  subst hok1
  obtain ⟨t, ht⟩ : ∃ t, numL tl = some t := by
    cases h : numL tl with
    | some t => exact ⟨t, rfl⟩
    | none => exact absurd (.inr (by rw [h]; rfl)) hq
  obtain rfl := htick t ht
  obtain ⟨tt, et⟩ := numL_iff.1 ht
  have hll := hok rfl
  refine walk ?_
  refine ops_pcall rfl rfl (preS_spec (c := 99) (l := pl)) ?_
  have lp := preB_len (c := 99) (l := pl)
  have hp := preB_ok (c := 99) (l := pl)
  obtain ⟨cell, pre, hpre⟩ : ∃ cell pre, preB 99 pl = (cell, pre) := ⟨_, _, rfl⟩
  simp only [hpre] at lp hp hk ⊢
  cases pre with
  | true =>
    refine walk ?_
    refine ops_call rfl rfl (number_spec hP (cap_le lp (cap_le lc.1 hl))) fun r2 H2 B hl2 ⟨⟨n, er, hn⟩, eB, eH⟩ => ?_
    subst er eB eH
    cases hc : numL cell with
    | none =>
      have hno : ∀ k, ¬ isKey l k := fun k h => by
        rcases (hk k h).2.2 with ⟨_, e, f⟩ | ⟨e, _⟩
        · have e := congrArg Prod.fst e
          simp only at e
          rw [e] at hc; rw [hc] at f; cases f
        · cases e
      rw [show Option.isSome (none : Option Int) = false from rfl]
      refine walk ?_
      refine fin0 ?_
      exact ⟨.inr ⟨hno, rfl⟩, rfl, rfl⟩
    | some c =>
      obtain rfl := hn c hc
      obtain ⟨tc, ec⟩ := numL_iff.1 hc
      rw [show Option.isSome (some n) = true from rfl]
      refine walk ?_
      refine fin0 ?_
      refine ⟨.inl ⟨(n, -1, tick), .inl ⟨rfl, tc, tt, ?_⟩, rfl⟩, rfl, rfl⟩
      rw [hll, hp rfl, ← ec, ← et]; simp [slotL]
  | false =>
    refine walk ?_
    refine ops_pcall rfl rfl (preS_spec (c := 112) (l := pl)) ?_
    have lp2 := preB_len (c := 112) (l := pl)
    have hp2 := preB_ok (c := 112) (l := pl)
    obtain ⟨two, pass, hpass⟩ : ∃ two pass, preB 112 pl = (two, pass) := ⟨_, _, rfl⟩
    simp only [hpass] at lp2 hp2 hk ⊢
    refine walk ?_
    refine ops_pcall rfl rfl (cutS_spec (c := 45) (l := two) (cap_le lp2 (cap_le lc.1 hl))) ?_
    unfold cutV
    have lc2 := cutB_len (c := 45) (l := two)
    have hok2 := cutB_ok (c := 45) (l := two)
    obtain ⟨one, other, ok2, hcc2⟩ : ∃ one other ok2, cutB 45 two = (one, other, ok2) := ⟨_, _, _, rfl⟩
    simp only [hcc2] at lc2 hok2 hk ⊢
    refine walk ?_
    refine ops_call rfl rfl (number_spec hP (cap_le lc2.1 (cap_le lp2 (cap_le lc.1 hl)))) fun r3 H3 B hl3 ⟨⟨a, er, ha⟩, eB, eH⟩ => ?_
    subst er eB eH
    refine walk ?_
    refine ops_call rfl rfl (number_spec hP (cap_le lc2.2 (cap_le lp2 (cap_le lc.1 hl)))) fun r4 H4 B hl4 ⟨⟨b, er, hb⟩, eB, eH⟩ => ?_
    subst er eB eH
    refine walkG ?_
    refine ex_if rfl (fun hq2 => ?_) (fun hq2 => ?_)
    · have hno : ∀ k, ¬ isKey l k := fun k h => by
        rcases (hk k h).2.2 with ⟨_, e, _⟩ | ⟨_, e1, e2, e3, e4, e5⟩
        · cases e
        · have := ha _ e3
          have := hb _ e4
          rw [e1, e2, e3, e4] at hq2
          rcases hq2 with (((h | h) | h) | h) | h
          · cases h
          · cases h
          · cases h
          · cases h
          · omega
      refine walk ?_
      refine fin0 ?_
      exact ⟨.inr ⟨hno, rfl⟩, rfl, rfl⟩
    · have hpa : pass = true := by cases pass with | true => rfl | false => exact absurd (.inl (.inl (.inl (.inl rfl)))) hq2
      have hoa : ok2 = true := by cases ok2 with | true => rfl | false => exact absurd (.inl (.inl (.inl (.inr rfl)))) hq2
      subst hpa hoa
      obtain ⟨a', ha'⟩ : ∃ a', numL one = some a' := by
        cases h : numL one with
        | some t => exact ⟨t, rfl⟩
        | none => exact absurd (.inl (.inl (.inr (by rw [h]; rfl)))) hq2
      obtain ⟨b', hb'⟩ : ∃ b', numL other = some b' := by
        cases h : numL other with
        | some t => exact ⟨t, rfl⟩
        | none => exact absurd (.inl (.inr (by rw [h]; rfl))) hq2
      obtain rfl := ha a' ha'
      obtain rfl := hb b' hb'
      obtain ⟨ta, ea⟩ := numL_iff.1 ha'
      obtain ⟨tb, eb⟩ := numL_iff.1 hb'
      have hab : a < b := by
        by_cases h : b ≤ a
        · exact absurd (.inr h) hq2
        · omega
      refine walk ?_
      refine fin0 ?_
      refine ⟨.inl ⟨(a, b, tick), .inr ⟨ta, tb, hab, tt, ?_⟩, rfl⟩, rfl, rfl⟩
      rw [hll, hp2 rfl, hok2 rfl, ← ea, ← eb, ← et]
      unfold passL
      rw [show min a b = a by omega, show max a b = b by omega]
      simp
end Go.Proofs.YtpphdbnifbjfmaaGreatDoor
namespace Go.Proofs.YtpphdbnifbjfmaaGreatDoor
open Go Go.Sx Go.Proofs Go.ChangeShapes Go.WideShapes Go.ChangeAt Go.RowKit
theorem own0 : ownKnob Tryz.prog.godebug = none := by kernel_rfl
theorem laid0 : laidOutB Tryz.prog = true := by kernel_rfl
theorem varH_of {W : World} {name : String} {cs : List Value} (h : W.var? Tryz.prog name = some cs.toArray) : VarH Tryz.prog (hp W) name cs := by
  unfold World.var? at h
  cases hg : Tryz.prog.globalNamed name with
  | none => rw [hg] at h; cases h
  | some g =>
    rw [hg] at h
    simp only [Option.bind_some] at h
    split at h
    · next cs' T f hc => cases h; exact ⟨g, T, f, hg, hc⟩
    · cases h
theorem tab_of {W : World} {r : List (String × DataW Unit)} (h : laidMet Tryz.prog (("internal/strconv.uint64pow10", Rows.laid_internal_strconv_uint64pow10) :: r) W) : TabH Tryz.prog (hp W) := by
  exact varH_of (Lib.tabIs_of_head (g := 3) (k := .u64) (zs := Lib.pow10Tab) (rest := r) (t := 264) (e := 213) (n := 20) (by kernel_rfl) (by kernel_rfl) Tryz.underlying264 Tryz.underlying213 (by kernel_rfl) (by kernel_rfl) h)
def laid5 : List (String × DataW Unit) := [("math/bits.deBruijn32tab", Rows.laid_math_bits_deBruijn32tab), ("math/bits.deBruijn64tab", Rows.laid_math_bits_deBruijn64tab), ("internal/strconv.uint64pow10", Rows.laid_internal_strconv_uint64pow10), ("strconv.ErrRange", Rows.laid_strconv_ErrRange), ("strconv.ErrSyntax", Rows.laid_strconv_ErrSyntax)]
theorem star0 : "*" ++ "errors.errorString" = "*errors.errorString" := by decide
theorem errRow (u : TypeId) (h : Tryz.prog.typeName? 3 u = some "*errors.errorString") : u = 260 :=
  typeName_ptr_named (nm := "errors.errorString") (by rw [star0]; kernel_rfl) (by kernel_rfl) (by decide) u (by rw [star0]; exact h)
theorem tab5 {W : World} (h : laidMetH Tryz.prog laid5 W) : PkH (hp W) := by
  rw [MakeChecks.laidMetH_plain _ _ _ (by kernel_rfl)] at h
  have h2 := laidMet.tail (laidMet.tail h)
  have h3 := laidMet.tail h2
  have h4 := laidMet.tail h3
  obtain ⟨a0, s0, hv0, -, -, -⟩ := laid_sentinel (g := 2) h3 (by kernel_rfl) (by kernel_rfl) Tryz.underlying215 errRow Tryz.underlying260 Tryz.underlying262 rfl rfl Tryz.underlying9 (by kernel_rfl) (by kernel_rfl)
  obtain ⟨a1, s1, hv1, -, -, -⟩ := laid_sentinel (g := 1) h4 (by kernel_rfl) (by kernel_rfl) Tryz.underlying215 errRow Tryz.underlying260 Tryz.underlying262 rfl rfl Tryz.underlying9 (by kernel_rfl) (by kernel_rfl)
  exact ⟨tab_of h2, ⟨_, _, varH_of hv1⟩, ⟨_, _, varH_of hv0⟩⟩
theorem door5 (os : Os) (args : Array Value) : laidMetH Tryz.prog laid5 ((World.doorLaid Tryz.prog 62 os).forCall (fun _ _ => 0) ⟨#[], args, []⟩).memory :=
  laidMetH_of_parts3 (fuel := 8) (laidMet_of_run' 8 (by kernel_rfl) (by kernel_rfl)) (by kernel_rfl) (by kernel_rfl)
end Go.Proofs.YtpphdbnifbjfmaaGreatDoor
