/- A company: what is held between two steps of the machine. No program in sight. -/
import Derived.Test.YtafhinjggdknjaaDoorPXE
import Derived.Conc.Beside
import Derived.Conc.CrowdStepW
set_option linter.unusedVariables false
set_option linter.unusedSimpArgs false
namespace Go.X
open Go Go.Sx Go.Conc Go.ConcN
def blk : Loc → Option Nat
  | .cell a => some a.block
  | .obj r => some r
  | _ => none
theorem mem_blk {l : Loc} (h : l.isMemory = true) : ∃ b, blk l = some b := by cases l <;> simp_all [blk, Loc.isMemory]
theorem low_blk {l : Loc} {b n : Nat} (h : l.low n) (hb : blk l = some b) : b < n := by cases l <;> simp_all [blk, Loc.low]
def LowT (n : Nat) (x : MemAct) : Prop := ∀ a, x.touch? = some a → a.loc.low n
theorem LowT.of {n : Nat} {x : MemAct} (h : x.low n) : LowT n x := fun a ha => by
  cases x with
  | access e => simp only [MemAct.touch?, Option.some.injEq] at ha; subst ha; exact h
  | mark m => cases m <;> simp only [MemAct.touch?, reduceCtorEq, Option.some.injEq] at ha <;> subst ha <;> exact h
  | _ => simp [MemAct.touch?] at ha
theorem LowT.mono {n n' : Nat} (h : n ≤ n') {x : MemAct} (hx : LowT n x) : LowT n' x := fun a ha => Loc.low_mono h (hx a ha)
theorem LowT.none {n : Nat} {x : MemAct} (h : x.touch? = none) : LowT n x := fun a ha => by rw [h] at ha; cases ha
structure Own4 where
  k : Nat
  M : Nat → Heap
  base : Heap
  win : Heap
  wi : Nat
  Sh : Nat → Prop
  lv : Nat → Prop
  cp : Nat → Prop
  rl : Nat → Nat → Prop
  ac : Nat → Nat → Prop
structure Own4.Apart (o : Own4) (sz : Nat) : Prop where
  own : ∀ g g' b, g ≠ g' → o.M g b ≠ none → o.M g' b = none
  mem : ∀ g b, o.M g b ≠ none → o.base b = none ∧ o.win b = none ∧ ¬ o.Sh b ∧ b < sz
  base : ∀ b, o.base b ≠ none → o.win b = none ∧ ¬ o.Sh b ∧ b < sz
  win : ∀ b, o.win b ≠ none → ¬ o.Sh b ∧ b < sz
  lv : ∀ g, o.lv g → o.cp g
  sh : ∀ b, o.Sh b → b < sz
  ac : ∀ g b, o.ac g b → o.Sh b
def Own4.May (o : Own4) (sz g : Nat) (a : Touch) : Prop := ∀ b, blk a.loc = some b →
  (o.M g b ≠ none ∨ sz ≤ b) ∨ (a.write = false ∧ ((o.base b ≠ none ∧ (g = 0 ∨ o.lv g)) ∨ (o.win b ≠ none ∧ (g = 0 ∨ g = o.wi)))) ∨ (o.Sh b ∧ a.kind ≠ .plain ∧ (a.kind = .said → g = 0) ∧ (g = 0 ∨ (o.cp g ∧ o.ac g b)))
structure TOk (o : Own4) (sz : Nat) (t : Trace) : Prop where
  nr : ∀ said, ¬ Race said t
  low : ∀ op ∈ t, LowT sz op.act
  gs : ∀ op ∈ t, op.g ≤ o.k
  own : ∀ g i a b, touchAt t i = some a → blk a.loc = some b → o.M g b ≠ none → Knows t g i
  base : ∀ g i a b, (g = 0 ∨ o.lv g) → touchAt t i = some a → blk a.loc = some b → o.base b ≠ none → a.write = true → Knows t g i
  baseAll : ∀ i a b, touchAt t i = some a → blk a.loc = some b → o.base b ≠ none → Knows t 0 i ∨ (∃ g, o.lv g ∧ Knows t g i) ∨ ∃ g r, o.rl g r ∧ Before t i r
  winW : ∀ g i a b, (g = 0 ∨ g = o.wi) → touchAt t i = some a → blk a.loc = some b → o.win b ≠ none → a.write = true → Knows t g i
  winAll : ∀ i a b, touchAt t i = some a → blk a.loc = some b → o.win b ≠ none → Knows t 0 i ∨ Knows t o.wi i
  sh : ∀ i a b, touchAt t i = some a → blk a.loc = some b → o.Sh b → a.kind = .plain → ∀ g, (g = 0 ∨ (o.cp g ∧ o.ac g b)) → Knows t g i
  said : ∀ i a, touchAt t i = some a → a.kind = .said → t.g? i = some 0
  hand : ∀ i g, t.g? i = some g → g ≠ 0 → t.counts i → Knows t 0 i ∨ o.lv g ∨ ∃ r, o.rl g r ∧ i ≤ r
theorem touch_low {o : Own4} {sz : Nat} {t : Trace} (h : TOk o sz t) {i : Nat} {a : Touch} {b : Nat} (ha : touchAt t i = some a) (hb : blk a.loc = some b) : b < sz := by
  obtain ⟨op, hop, hx⟩ := touch_of ha
  exact low_blk (h.low op (mem_of_getElem? hop) a hx) hb
theorem touch_cases {t u : Trace} {i : Nat} {a : Touch} (h : touchAt (t ++ u) i = some a) : (i < t.size ∧ touchAt t i = some a) ∨ (t.size ≤ i ∧ ∃ op ∈ u, (t ++ u)[i]? = some op ∧ op.act.touch? = some a) := by
  obtain ⟨x, hx, hxa⟩ := touch_of h
  rcases getElem?_append_cases hx with ⟨hi, hx'⟩ | ⟨hi, hxu⟩
  · exact .inl ⟨hi, by rw [touchAt_of hx']; exact hxa⟩
  · exact .inr ⟨hi, x, hxu, hx, hxa⟩
theorem g_old {t u : Trace} {i g : Nat} (h : (t ++ u).g? i = some g) : (i < t.size ∧ t.g? i = some g) ∨ (t.size ≤ i ∧ ∃ op ∈ u, op.g = g) := by
  obtain ⟨op, ho, rfl⟩ := Option.map_eq_some_iff.1 h
  rcases getElem?_append_cases ho with ⟨hi, ho'⟩ | ⟨hi, hou⟩
  · exact .inl ⟨hi, by simp [Trace.g?, ho']⟩
  · exact .inr ⟨hi, op, hou, rfl⟩
theorem TOk.app {o : Own4} {sz sz' : Nat} {t u : Trace} {g : Nat} {m' : Heap} (h : TOk o sz t) (hA : o.Apart sz) (hg : g ≤ o.k) (hu : ∀ op ∈ u, op.g = g) (hm : ∀ op ∈ u, ∀ a, op.act.touch? = some a → o.May sz g a)
    (hsd : ∀ op ∈ u, ∀ a, op.act.touch? = some a → a.kind = .said → g = 0) (hl : ∀ op ∈ u, LowT sz' op.act) (hs : sz ≤ sz') (hM : ∀ b, m' b ≠ none → o.M g b ≠ none ∨ sz ≤ b) (hc : g = 0 ∨ o.lv g ∨ ∀ i, t.size ≤ i → (t ++ u).g? i = some g → ¬ (t ++ u).counts i) :
    TOk { o with M := ConcN.upd o.M g m' } sz' (t ++ u) := by
  have own : ∀ {i op}, (t ++ u)[i]? = some op → op ∈ u → Knows (t ++ u) g i := fun {i op} hi hop => by have := knows_own hi; rwa [hu op hop] at this
  have old : ∀ {g' i}, Knows t g' i → Knows (t ++ u) g' i := fun hk => hk.app u
  refine ⟨fun said => ?_, fun op hop => ?_, fun op hop => ?_, fun g' i a b ha hb hMb => ?_, fun g' i a b hg' ha hb hbb hw => ?_, fun i a b ha hb hbb => ?_, fun g' i a b hg' ha hb hbb hw => ?_, fun i a b ha hb hbb => ?_,
    fun i a b ha hb hsh hp g' hg' => ?_, fun i a ha hsk => ?_, fun i g' hi hne hcn => ?_⟩
  · refine noRace_append (h.nr said) hu fun i a ha op hop b hb hcf => ?_
    obtain ⟨hloc, hmem, hwr, hk⟩ := hcf
    obtain ⟨x, hx⟩ := mem_blk hmem
    have hbx : blk b.loc = some x := hloc ▸ hx
    rcases hm op hop b hb x hbx with (hM' | hnew) | ⟨hbw, hr⟩ | ⟨hsh, hnp, hsd, hcp⟩
    · exact h.own g i a x ha hx hM'
    · have := touch_low h ha hx; omega
    · have haw : a.write = true := by rcases hwr with e | e; exact e; rw [hbw] at e; cases e
      rcases hr with ⟨hb', hlv⟩ | ⟨hw', hwi⟩
      · exact h.base g i a x hlv ha hx hb' haw
      · exact h.winW g i a x hwi ha hx hw' haw
    · rcases hk with hk | hk | ⟨_, hka, hkb⟩
      · exact h.sh i a x ha hx hsh hk g hcp
      · exact absurd hk hnp
      · have hg0 := hsd hkb
        subst hg0
        have hgi := h.said i a ha hka
        obtain ⟨op', ho', hog⟩ := Option.map_eq_some_iff.1 hgi
        have := knows_own ho'
        rwa [hog] at this
  · rcases Array.mem_append.1 hop with h' | h'
    · exact (h.low op h').mono hs
    · exact hl op h'
  · rcases Array.mem_append.1 hop with h' | h'
    · exact h.gs op h'
    · rw [hu op h']; exact hg
  · rcases touch_cases ha with ⟨hi, ha'⟩ | ⟨hi, op, hop, hoi, hoa⟩
    · by_cases e : g' = g
      · subst e
        simp only [ConcN.upd, if_true] at hMb
        rcases hM b hMb with h1 | h1
        · exact old (h.own _ i a b ha' hb h1)
        · have := touch_low h ha' hb; omega
      · simp only [ConcN.upd, e, if_false] at hMb
        exact old (h.own g' i a b ha' hb hMb)
    · by_cases e : g' = g
      · subst e; exact own hoi hop
      · simp only [ConcN.upd, e, if_false] at hMb
        exfalso
        have hap := hA.mem g' b hMb
        rcases hm op hop a hoa b hb with (h1 | h1) | ⟨_, ⟨h1, _⟩ | ⟨h1, _⟩⟩ | ⟨h1, _⟩
        · exact hMb (hA.own g g' b (Ne.symm e) h1)
        · omega
        · exact h1 hap.1
        · exact h1 hap.2.1
        · exact hap.2.2.1 h1
  · rcases touch_cases ha with ⟨hi, ha'⟩ | ⟨hi, op, hop, hoi, hoa⟩
    · exact old (h.base g' i a b hg' ha' hb hbb hw)
    · exfalso
      have hap := hA.base b hbb
      rcases hm op hop a hoa b hb with (h1 | h1) | ⟨h1, _⟩ | ⟨h1, _⟩
      · exact hbb (hA.mem g b h1).1
      · omega
      · rw [hw] at h1; cases h1
      · exact hap.2.1 h1
  · rcases touch_cases ha with ⟨hi, ha'⟩ | ⟨hi, op, hop, hoi, hoa⟩
    · rcases h.baseAll i a b ha' hb hbb with h1 | ⟨g', h1, h2⟩ | ⟨g', r, h1, h2⟩
      · exact .inl (old h1)
      · exact .inr (.inl ⟨g', h1, old h2⟩)
      · exact .inr (.inr ⟨g', r, h1, h2.app u⟩)
    · have hk := own hoi hop
      have hap := hA.base b hbb
      rcases hm op hop a hoa b hb with (h1 | h1) | ⟨_, ⟨h1, h2⟩ | ⟨h1, _⟩⟩ | ⟨h1, _⟩
      · exact absurd (hA.mem g b h1).1 hbb
      · omega
      · rcases h2 with rfl | h2
        · exact .inl hk
        · exact .inr (.inl ⟨g, h2, hk⟩)
      · exact absurd hap.1 h1
      · exact absurd h1 hap.2.1
  · rcases touch_cases ha with ⟨hi, ha'⟩ | ⟨hi, op, hop, hoi, hoa⟩
    · exact old (h.winW g' i a b hg' ha' hb hbb hw)
    · exfalso
      have hap := hA.win b hbb
      rcases hm op hop a hoa b hb with (h1 | h1) | ⟨h1, _⟩ | ⟨h1, _⟩
      · exact hbb (hA.mem g b h1).2.1
      · omega
      · rw [hw] at h1; cases h1
      · exact hap.1 h1
  · rcases touch_cases ha with ⟨hi, ha'⟩ | ⟨hi, op, hop, hoi, hoa⟩
    · exact (h.winAll i a b ha' hb hbb).imp old old
    · have hk := own hoi hop
      have hap := hA.win b hbb
      rcases hm op hop a hoa b hb with (h1 | h1) | ⟨_, ⟨h1, _⟩ | ⟨_, h1⟩⟩ | ⟨h1, _⟩
      · exact absurd (hA.mem g b h1).2.1 hbb
      · omega
      · exact absurd (hA.base b h1).1 hbb
      · rcases h1 with rfl | rfl
        · exact .inl hk
        · exact .inr hk
      · exact absurd h1 hap.1
  · rcases touch_cases ha with ⟨hi, ha'⟩ | ⟨hi, op, hop, hoi, hoa⟩
    · exact old (h.sh i a b ha' hb hsh hp g' hg')
    · exfalso
      rcases hm op hop a hoa b hb with (h1 | h1) | ⟨_, ⟨h1, _⟩ | ⟨h1, _⟩⟩ | ⟨_, h1, _⟩
      · exact (hA.mem g b h1).2.2.1 hsh
      · have := hA.sh b hsh; omega
      · exact (hA.base b h1).2.1 hsh
      · exact (hA.win b h1).1 hsh
      · exact h1 hp
  · rcases touch_cases ha with ⟨hi, ha'⟩ | ⟨hi, op, hop, hoi, hoa⟩
    · have := h.said i a ha' hsk
      rw [g?_old hi]; exact this
    · simp [Trace.g?, hoi, hu op hop, hsd op hop a hoa hsk]
  · rcases g_old hi with ⟨hlt, hi'⟩ | ⟨hge, op, hop, hog⟩
    · rw [counts_old hlt] at hcn
      rcases h.hand i g' hi' hne hcn with h1 | h1
      · exact .inl (old h1)
      · exact .inr h1
    · have e : g' = g := by rw [← hog, hu op hop]
      subst e
      rcases hc with rfl | h1 | h1
      · exact absurd rfl hne
      · exact .inr (.inl h1)
      · exact absurd hcn (h1 i hge hi)
theorem TOk.still {o : Own4} {sz : Nat} {t u : Trace} (h : TOk o sz t) (hu : ∀ op ∈ u, op.g ≤ o.k ∧ op.act.touch? = none) : TOk o sz (t ++ u) := by
  have old : ∀ {g' i}, Knows t g' i → Knows (t ++ u) g' i := fun hk => hk.app u
  have ot : ∀ {i a}, touchAt (t ++ u) i = some a → i < t.size ∧ touchAt t i = some a := fun {i a} ha => by
    rcases touch_cases ha with h1 | ⟨_, op, hop, _, hoa⟩
    · exact h1
    · rw [(hu op hop).2] at hoa; cases hoa
  refine ⟨fun said => ?_, fun op hop => ?_, fun op hop => ?_, fun g' i a b ha hb hMb => old (h.own g' i a b (ot ha).2 hb hMb), fun g' i a b hg' ha hb hbb hw => old (h.base g' i a b hg' (ot ha).2 hb hbb hw), fun i a b ha hb hbb => ?_,
    fun g' i a b hg' ha hb hbb hw => old (h.winW g' i a b hg' (ot ha).2 hb hbb hw), fun i a b ha hb hbb => (h.winAll i a b (ot ha).2 hb hbb).imp old old,
    fun i a b ha hb hsh hp g' hg' => old (h.sh i a b (ot ha).2 hb hsh hp g' hg'), fun i a ha hsk => by rw [g?_old (ot ha).1]; exact h.said i a (ot ha).2 hsk, fun i g' hi hne hcn => ?_⟩
  · rintro ⟨i, j, hij, ⟨a, b, ha, hb, hc⟩, n1, n2⟩
    obtain ⟨hi, ha'⟩ := ot (i := i) (a := a) ha
    obtain ⟨hj, hb'⟩ := ot (i := j) (a := b) hb
    exact h.nr said ⟨i, j, hij, ⟨a, b, ha', hb', hc⟩, fun e => n1 (hb_app u e), fun e => n2 (hb_app u e)⟩
  · rcases Array.mem_append.1 hop with h' | h'
    · exact h.low op h'
    · exact .none (hu op h').2
  · rcases Array.mem_append.1 hop with h' | h'
    · exact h.gs op h'
    · exact (hu op h').1
  · rcases h.baseAll i a b (ot ha).2 hb hbb with h1 | ⟨g', h1, h2⟩ | ⟨g', r, h1, h2⟩
    · exact .inl (old h1)
    · exact .inr (.inl ⟨g', h1, old h2⟩)
    · exact .inr (.inr ⟨g', r, h1, h2.app u⟩)
  · obtain ⟨x, hx, hm, hk⟩ := hcn
    obtain ⟨hlt, hx'⟩ := ot (i := i) (a := x) hx
    have hcn' : t.counts i := (counts_old (u := u) hlt).1 ⟨x, hx, hm, hk⟩
    rw [g?_old hlt] at hi
    rcases h.hand i g' hi hne hcn' with h1 | h1
    · exact .inl (old h1)
    · exact .inr h1
theorem TOk.turn {o o' : Own4} {sz : Nat} {t : Trace} (h : TOk o sz t) (hk : o.k ≤ o'.k)
    (own : ∀ g b, o'.M g b ≠ none → o.M g b ≠ none ∨ (∀ i a, touchAt t i = some a → blk a.loc = some b → Knows t g i))
    (base : ∀ b, o'.base b ≠ none → (o.base b ≠ none ∧ (∀ g, o'.lv g → o.lv g ∨ ∀ i, Knows t 0 i → Knows t g i) ∧ (∀ g, o.lv g → o'.lv g ∨ ∃ r, o'.rl g r ∧ ∀ i, Knows t g i → Before t i r) ∧ (∀ g r, o.rl g r → o'.rl g r)) ∨ (∀ i a, touchAt t i = some a → blk a.loc = some b → Knows t 0 i ∧ ∀ g, o'.lv g → Knows t g i))
    (win : ∀ b, o'.win b ≠ none → (o.win b ≠ none ∧ o'.wi = o.wi) ∨ (∀ i a, touchAt t i = some a → blk a.loc = some b → Knows t 0 i ∧ Knows t o'.wi i))
    (sh : ∀ b, o'.Sh b → (o.Sh b ∧ ∀ g, (o'.cp g ∧ o'.ac g b) → (o.cp g ∧ o.ac g b) ∨ ∀ i, Knows t 0 i → Knows t g i) ∨ (∀ i a, touchAt t i = some a → blk a.loc = some b → a.kind = .plain → ∀ g, (g = 0 ∨ (o'.cp g ∧ o'.ac g b)) → Knows t g i))
    (hand : ∀ g, o.lv g → o'.lv g ∨ ∃ r, o'.rl g r ∧ ∀ i, t.g? i = some g → i ≤ r) (hrl : ∀ g r, o.rl g r → o'.rl g r) : TOk o' sz t := by
  refine ⟨h.nr, h.low, fun op hop => Nat.le_trans (h.gs op hop) hk, fun g i a b ha hb hM => ?_, fun g i a b hg ha hb hB hw => ?_, fun i a b ha hb hB => ?_, fun g i a b hg ha hb hB hw => ?_, fun i a b ha hb hB => ?_, fun i a b ha hb hS hp g hg => ?_, h.said, fun i g hi hne hc => ?_⟩
  · exact (own g b hM).elim (h.own g i a b ha hb) fun h1 => h1 i a ha hb
  · rcases base b hB with ⟨h1, h2, _⟩ | h1
    · rcases hg with rfl | hg
      · exact h.base 0 i a b (.inl rfl) ha hb h1 hw
      · rcases h2 g hg with h3 | h3
        · exact h.base g i a b (.inr h3) ha hb h1 hw
        · exact h3 i (h.base 0 i a b (.inl rfl) ha hb h1 hw)
    · rcases hg with rfl | hg
      · exact (h1 i a ha hb).1
      · exact (h1 i a ha hb).2 g hg
  · rcases base b hB with ⟨h1, _, h3, h4⟩ | h1
    · rcases h.baseAll i a b ha hb h1 with h5 | ⟨g, h5, h6⟩ | ⟨g, r, h5, h6⟩
      · exact .inl h5
      · rcases h3 g h5 with h7 | ⟨r, h7, h8⟩
        · exact .inr (.inl ⟨g, h7, h6⟩)
        · exact .inr (.inr ⟨g, r, h7, h8 i h6⟩)
      · exact .inr (.inr ⟨g, r, h4 g r h5, h6⟩)
    · exact .inl (h1 i a ha hb).1
  · rcases win b hB with ⟨h1, h2⟩ | h1
    · exact h.winW g i a b (hg.imp id fun e => e.trans h2) ha hb h1 hw
    · rcases hg with rfl | rfl
      · exact (h1 i a ha hb).1
      · exact (h1 i a ha hb).2
  · rcases win b hB with ⟨h1, h2⟩ | h1
    · rw [h2]; exact h.winAll i a b ha hb h1
    · exact .inl (h1 i a ha hb).1
  · rcases sh b hS with ⟨h1, h2⟩ | h1
    · rcases hg with rfl | hg
      · exact h.sh i a b ha hb h1 hp 0 (.inl rfl)
      · rcases h2 g hg with h3 | h3
        · exact h.sh i a b ha hb h1 hp g (.inr h3)
        · exact h3 i (h.sh i a b ha hb h1 hp 0 (.inl rfl))
    · exact h1 i a ha hb hp g hg
  · rcases h.hand i g hi hne hc with h1 | h1 | ⟨r, h1, h2⟩
    · exact .inl h1
    · rcases hand g h1 with h2 | ⟨r, h2, h3⟩
      · exact .inr (.inl h2)
      · exact .inr (.inr ⟨r, h2, h3 i hi⟩)
    · exact .inr (.inr ⟨r, hrl g r h1, h2⟩)
end Go.X
namespace Go.X
open Go Go.Sx Go.Conc Go.ConcN
open Go.ConcR (KK wgBlock WgAt stA smA rd wr mk Payload Bk DC0)
section
variable {P : Program} {Post : Value → World → Prop} {W0 : World}
abbrev MIp (P : Program) (Post : Value → World → Prop) (W0 : World) : Goroutine → XW Gh → Prop := MI P kd W0 (SP P Post W0)
theorem mi_running {g : Goroutine} {x : XW Gh} (h : MIp P Post W0 g x) : g.status = .running := by
  refine MI.induct (sp_mono P Post W0) (T := fun g _ => g.status = .running) (fun g x hx => ?_) h
  rcases hx with hx | hx
  · exact hx.1
  · cases hx <;> assumption
theorem mi_family {α : Type} (Ok : α → Prop) (St : (α → Prop) → α → Prop) (hind : ∀ T : α → Prop, (∀ y, Ok y → St (fun z => Ok z ∧ T z) y → T y) → ∀ y, Ok y → T y)
    (hmono : ∀ I I' : α → Prop, (∀ y, I y → I' y) → ∀ y, St I y → St I' y) :
    ∀ (k : Nat) (T : (Nat → α) → Prop), (∀ F, (∀ i, i < k → Ok (F i) → St (fun y => Ok y ∧ T (ConcN.upd F i y)) (F i)) → T F) → ∀ F, T F := by
  intro k
  induction k with
  | zero => intro T h F; exact h F fun i hi => by omega
  | succ k ih =>
    intro T h F
    have key : ∀ y, Ok y → ∀ F : Nat → α, F k = y → T F := by
      refine hind _ fun y hy hst F e => ?_
      refine ih (fun F' => F' k = y → T F') (fun F' hs' e' => ?_) F e
      refine h F' fun i hi hok => ?_
      rcases Nat.lt_or_ge i k with hlt | hge
      · refine hmono _ _ (fun z hz => ⟨hz.1, hz.2 ?_⟩) _ (hs' i hlt hok)
        simp only [ConcN.upd]; rw [if_neg (by omega)]; exact e'
      · obtain rfl : i = k := by omega
        rw [e']
        exact hmono _ _ (fun z hz => ⟨hz.1, hz.2 _ (by simp [ConcN.upd])⟩) _ hst
    by_cases hk : Ok (F k)
    · exact key _ hk F rfl
    · refine ih (fun F' => ¬ Ok (F' k) → T F') (fun F' hs' hn => ?_) F hk
      refine h F' fun i hi hok => ?_
      rcases Nat.lt_or_ge i k with hlt | hge
      · refine hmono _ _ (fun z hz => ⟨hz.1, hz.2 ?_⟩) _ (hs' i hlt hok)
        simp only [ConcN.upd]; rw [if_neg (by omega)]; exact hn
      · obtain rfl : i = k := by omega
        exact absurd hok hn
end
structure Like (P : Program) (a r : Goroutine) : Prop where
  run : r.status = .running
  step : ∀ main w, stepG P main r w = stepG P main a w
  wake : mayWake P r = mayWake P a
  frame : r.frame = a.frame
theorem Like.refl {P : Program} {a : Goroutine} (h : a.status = .running) : Like P a a := ⟨h, fun _ _ => rfl, rfl, rfl⟩
theorem Like.tries {P : Program} {a : Goroutine} (h : a.status = .running) (cs : Array CommCase) (sh : CommShape) : Like P a { parked a cs sh with status := .running } := by
  refine ⟨rfl, fun main w => ?_, rfl, rfl⟩
  rw [stepG_tries]
  have : ({ a with status := .running } : Goroutine) = a := by cases a; simp at h; simp [h]
  rw [this]
inductive Ph
  | A (pk : Bool)
  | B (s f d : Nat)
  | Q (q : Nat)
def Ph.wd : Ph → WD
  | .A _ => ⟨7, 0, 0⟩
  | .B s f d => ⟨s, f, d⟩
  | .Q _ => ⟨1, 0, 0⟩
def Ph.isA : Ph → Prop
  | .A _ => True
  | _ => False
def Ph.isL : Ph → Prop
  | .A _ => True
  | .B s _ _ => s = 7
  | .Q _ => False
def Ph.isQ : Ph → Prop
  | .Q _ => True
  | _ => False
def tagOf (b : Bool) : Stg → CTag
  | .run | .off => .sp 0 4
  | .adm | .pend => .sp 0 3
  | .w0 _ => .anch
  | .w1 u => .w2 u
  | .reg => if b then .blk else .w3
  | .up => .w4
  | .fin => .ke
  | .ke => .acq
  | .done => .ret
def deafOf : Gh → Nat
  | .co c => match c.st with
    | .off | .adm | .w0 _ | .w1 _ | .reg | .up | .fin => 1
    | _ => 0
  | _ => 0
def shutAt (s : Bool) : Stg → Prop
  | .run => True
  | .off | .adm | .pend => s = false
  | _ => s = true
inductive MB | run | park (live : Bool) | blk
structure Cf where
  gs : Array Goroutine
  w : World
  sl : Option (Nat × Nat)
  t : Trace
  k : Nat
  mb : MB
  F : Nat → Goroutine × XW Gh
  ph : Nat → Ph
  o : Own4
def Cf.D (f : Cf) : Nat → WD := fun i => (f.ph (i + 1)).wd
def NoRelB (rl : Nat → Nat → Prop) (ad : Addr) (t : Trace) : Prop := ∀ i r, rl i r → ∀ y, r ≤ y → t.act? y ≠ some (.mark (.release ad))
theorem NoRelB.app {rl rl' : Nat → Nat → Prop} {ad : Addr} {t t' u : Trace} (h : NoRelB rl ad t) (ht : t' = t ++ u) (hrl : ∀ i r, rl' i r → rl i r) (hlt : ∀ i r, rl i r → r < t.size) (hu : ∀ op ∈ u, op.act ≠ .mark (.release ad)) : NoRelB rl' ad t' := by
  subst ht
  intro i r hr y hy he
  obtain ⟨op, ho, hoa⟩ := Option.map_eq_some_iff.1 he
  rcases getElem?_append_cases ho with ⟨hl, ho'⟩ | ⟨_, hou⟩
  · exact h i r (hrl i r hr) y hy (by simp [Trace.act?, ho', hoa])
  · exact hu op hou hoa
inductive Kept (P : Program) (ty : TypeId) (wg : Nat) : Goroutine → World → Prop
  | mk {g : Goroutine} {w : World} : (∀ w₁, RW ty wg wg 0 0 1 w w₁ → ∀ g' w' es, stepG P false g w₁ = .go g' w' es → (∀ e ∈ es, e.loc ≠ .mark .disable) → ∀ b, b ≠ wg → w'.heap[b]? = w₁.heap[b]?) →
      (∀ w₁, RW ty wg wg 0 0 1 w w₁ → ∀ g' w' es, stepG P false g w₁ = .go g' w' es → (∀ e ∈ es, e.loc ≠ .mark .disable) → Kept P ty wg g' w') → Kept P ty wg g w
theorem Kept.of {P : Program} {ty : TypeId} {wg : Nat} {g : Goroutine} {w : World} (h : ∀ w₁, RW ty wg wg 0 0 1 w w₁ → ∀ g' w' es, stepG P false g w₁ = .go g' w' es → (∀ e ∈ es, e.loc ≠ .mark .disable) → (∀ b, b ≠ wg → w'.heap[b]? = w₁.heap[b]?) ∧ Kept P ty wg g' w') : Kept P ty wg g w :=
  .mk (fun w₁ a g' w' es b c => (h w₁ a g' w' es b c).1) fun w₁ a g' w' es b c => (h w₁ a g' w' es b c).2
theorem Kept.of_k1 {P : Program} {ty : TypeId} {wg : Nat} : ∀ {m : Nat} {g : Goroutine} {w : World}, Goes P false (RW ty wg wg 0 0 1) DC0 (AtK1 P ty wg wg 0 0 2) m g w → Kept P ty wg g w := by
  intro m
  induction m with
  | zero =>
    intro g w h
    refine .of fun w₁ hr g' w' es hs hd => ?_
    obtain ⟨_, g2, h2, _⟩ := h w₁ hr
    rw [hs] at h2; cases h2
    exact absurd rfl (hd (Go.ConcR.mk .disable) (by simp))
  | succ m ih =>
    intro g w h
    refine .of fun w₁ hr g' w' es hs hd => ?_
    rcases h with h | ⟨_, h⟩
    · obtain ⟨_, g2, h2, _⟩ := h w₁ hr
      rw [hs] at h2; cases h2
      exact absurd rfl (hd (Go.ConcR.mk .disable) (by simp))
    · have := h w₁ hr
      rw [hs, goes_go] at this
      obtain ⟨⟨rfl, _⟩, h3⟩ := this
      exact ⟨fun _ _ => rfl, ih h3⟩
theorem Kept.of_r0 {P : Program} {ty : TypeId} {wg : Nat} {v : Value} : ∀ {m : Nat} {g : Goroutine} {w : World}, Goes P false (RW ty wg wg 0 0 1) (DWs wg (fun _ _ => False) (fun _ _ => False) wg 0 2) (AtR0 P ty wg wg 0 0 2 v) m g w → Kept P ty wg g w := by
  intro m
  induction m with
  | zero =>
    intro g w h
    refine .of fun w₁ hr g' w' es hs hd => ?_
    obtain ⟨_, _, g2, h2, m2, h3⟩ := h w₁ hr
    rw [hs] at h2; cases h2
    exact ⟨fun _ _ => rfl, .of_k1 h3⟩
  | succ m ih =>
    intro g w h
    refine .of fun w₁ hr g' w' es hs hd => ?_
    rcases h with h | ⟨_, h⟩
    · obtain ⟨_, _, g2, h2, m2, h3⟩ := h w₁ hr
      rw [hs] at h2; cases h2
      exact ⟨fun _ _ => rfl, .of_k1 h3⟩
    · have := h w₁ hr
      rw [hs, goes_go] at this
      obtain ⟨⟨ha, _⟩, h3⟩ := this
      exact ⟨ha.block, ih h3⟩
theorem Kept.rely {P : Program} {ty : TypeId} {wg : Nat} {g : Goroutine} {w w' : World} (h : Kept P ty wg g w) (hr : RW ty wg wg 0 0 1 w w') : Kept P ty wg g w' := by
  cases h with
  | mk h h' => exact .mk (fun w₁ h1 => h w₁ (hr.trans h1)) fun w₁ h1 => h' w₁ (hr.trans h1)
def BSit (P : Program) (c : Cy) (s f d : Nat) (r : Goroutine) (w : World) : Prop :=
  ∃ (C : Nat) (cs : Array Value) (T : TypeId) (fz : Nat × Nat) (v : Value), c.base C = some (.cells cs T fz) ∧ cs[0]? = some v ∧ WSit P c.ty c.wg C 0 (fun _ _ => False) (fun _ _ => False) 0 1 v s f d r w ∧ (s = 7 → Kept P c.ty c.wg r w)
section
variable (P : Program) (Post : Value → World → Prop) (W0 : World)
def Hope (live : Bool) (c : Co) : Prop := if live then c.wk ≠ [] else ∃ (k j : Nat), c.wk[k]? = some (some j)
inductive MRec (a : Goroutine) (x : XW Gh) : MB → Goroutine → Prop
  | run {r : Goroutine} : Like P a r → MRec a x .run r
  | park {c : Co} {live : Bool} {z1 z2 : Value} : x.s = .co c → c.st = .run → c.shut = false → (live = true ↔ c.nx < c.cy.lim) → Hope live c →
      (∀ w, Env W0 w → x.m.le (rp w) → stepG P true a w = .comm a (deals live c.cy (.int .i64 c.nx) z1 z2) true .select w #[]) → a.status = .running → MRec a x (.park live) (parked a (deals live c.cy (.int .i64 c.nx) z1 z2) .select)
  | blk {c : Co} : x.s = .co c → c.st = .reg → a.status = .running → a.offers = none → MRec a x .blk { a with status := .blocked }
def Fit (q : Cs) (c : Co) : Prop := (q.off = true → c.shut = true) ∧ q.lo ≤ c.nx
inductive RA (y : Goroutine × XW Gh) : Bool → Goroutine → Prop
  | run {r : Goroutine} : Like P y.1 r → RA y false r
  | ask {c : Cs} {z : Value} : y.2.s = .snd c → c.job = none → c.off = false → y.1.status = .running →
      (∀ w, Env W0 w → y.2.m.le (rp w) → stepG P false y.1 w = .comm y.1 #[rcase c.cy.dl z] true (.recv true) w #[]) →
      (∀ j : Nat, c.lo ≤ j → j < c.cy.lim → MIp P Post W0 (Go.Conc.served y.1 (.tuple #[.int .i64 j, .bool true])) ⟨y.2.m, .snd { c with job := some j, lo := j + 1 }⟩) → RA y true (parked y.1 #[rcase c.cy.dl z] (.recv true))
  | give {c : Cs} {j : Nat} {v z : Value} {m' D : Heap} : y.2.s = .snd c → c.job = some j → c.off = false → y.1.status = .running →
      (∀ w, Env W0 w → y.2.m.le (rp w) → stepG P false y.1 w = .comm y.1 #[scase c.cy.dn v z] true .send w #[]) → m'.le y.2.m → D.le y.2.m → Disj m' D → c.cy.ok j v D →
      MIp P Post W0 (y.1.finishComm P #[scase c.cy.dn v z] .send 0 undef false) ⟨m', .snd { c with job := none }⟩ → RA y true (parked y.1 #[scase c.cy.dn v z] .send)
structure Inv1 (f : Cf) (a : Goroutine) (x : XW Gh) : Prop where
  size : f.gs.size = f.k + 1
  env : Env W0 f.w
  main : ∃ r, f.gs[0]? = some r ∧ MRec P W0 a x f.mb r
  ra : ∀ i pk, 1 ≤ i → i ≤ f.k → f.ph i = .A pk → ∃ r, f.gs[i]? = some r ∧ RA P Post W0 (f.F i) pk r
  rq : ∀ i q, 1 ≤ i → i ≤ f.k → f.ph i = .Q q → ∃ r, f.gs[i]? = some r ∧ QuitsD P q (Deaf f.t i) r
  mi : ∀ i, 1 ≤ i → i ≤ f.k → (f.ph i).isA → MIp P Post W0 (f.F i).1 (f.F i).2
  d0 : Deaf f.t 0 = deafOf x.s
  da : ∀ i, 1 ≤ i → i ≤ f.k → (f.ph i).isA → Deaf f.t i = 0
  ok : f.o.k = f.k
  oM0 : f.o.M 0 = x.m
  oMa : ∀ i, 1 ≤ i → i ≤ f.k → (f.ph i).isA → f.o.M i = (f.F i).2.m
  oMn : ∀ i, 1 ≤ i → (f.k < i ∨ ¬ (f.ph i).isA) → f.o.M i = Heap.empty
  lv : ∀ i, f.o.lv i ↔ 1 ≤ i ∧ i ≤ f.k ∧ (f.ph i).isL
  cp : ∀ i, f.o.cp i ↔ 1 ≤ i ∧ i ≤ f.k ∧ ¬ (f.ph i).isQ
  apart : f.o.Apart f.w.heap.size
  mem : ∀ i, (f.o.M i).le (rp f.w)
  mbase : f.o.base.le (rp f.w)
  mwin : f.o.win.le (rp f.w)
  tok : TOk f.o f.w.heap.size f.t
structure Inv2 (f : Cf) (x : XW Gh) (c : Co) (j0 : Nat) : Prop where
  k : f.k = j0 + c.wk.length
  old : ∀ i, 1 ≤ i → i ≤ j0 → (f.ph i).isQ
  base : f.o.base = c.cy.base
  win : f.o.win = Heap.empty
  dl : f.o.Sh c.cy.dl ∧ ∃ n, f.w.heap[c.cy.dl]? = some (.chan 0 #[] c.shut n n false)
  dn : f.o.Sh c.cy.dn ∧ ∃ n, f.w.heap[c.cy.dn]? = some (.chan 0 #[] false n n false)
  wg : f.o.Sh c.cy.wg
  ne : c.cy.dl ≠ c.cy.dn ∧ c.cy.wg ≠ c.cy.dl ∧ c.cy.wg ≠ c.cy.dn
  mode : ∃ st sm, WgAt c.cy.ty c.cy.wg f.w st sm ∧ ConcN.Mode f.k f.D (tagOf (match f.mb with | .blk => true | _ => false) c.st) st sm
  park : ∀ live, f.mb = .park live → ∀ (i : Nat) (o : Option Nat), c.wk[i]? = some o → f.ph (j0 + 1 + i) = .A true → o = none ∧ live = false
  bnd : ∀ n, c.st = .w0 n → Vc f.k f.D ≤ n
  shut : shutAt c.shut c.st
  pk : ∀ i, 1 ≤ i → i ≤ f.k → f.ph i = .A true → c.shut = false
  idle : c.shut = true → ∀ (i : Nat) (o : Option Nat), c.wk[i]? = some o → o = none
  cha : ∀ (i : Nat) (o : Option Nat) pk, c.wk[i]? = some o → f.ph (j0 + 1 + i) = .A pk → ∃ q, (f.F (j0 + 1 + i)).2.s = .snd q ∧ q.cy = c.cy ∧ q.job = o ∧ Fit q c
  chb : ∀ (i : Nat) (o : Option Nat), c.wk[i]? = some o → ¬ (f.ph (j0 + 1 + i)).isA → c.shut = true
  b : ∀ i s g d, f.ph i = .B s g d → j0 < i → i ≤ f.k → Deaf f.t i = d ∧ ∃ r, f.gs[i]? = some r ∧ BSit P c.cy s g d r f.w
  b7 : ∀ i s g d, f.ph i = .B s g d → j0 < i → i ≤ f.k → s ≤ 6 → ∃ r, f.o.rl i r
  rel : ∀ i r, f.o.rl i r → j0 < i ∧ i ≤ f.k ∧ ¬ (f.ph i).isL ∧ RelBy (stA c.cy.wg) f.t i r
  nor : NoRelB f.o.rl (stA c.cy.wg) f.t
  acq : c.st = .done → ∀ i r, f.o.rl i r → Knows f.t 0 r
  few : c.wk.length + 1 < 2147483648
  ac : ∀ i, i < c.wk.length → f.o.ac (j0 + 1 + i) c.cy.dl ∧ f.o.ac (j0 + 1 + i) c.cy.dn ∧ f.o.ac (j0 + 1 + i) c.cy.wg
end
end Go.X
