/- The trace of a company: what everybody knows of the places that are one's own, that are lent, that are shared. No program in sight. -/
import Derived.Test.YtjkiioicjmaeoaaOXQ
import Derived.Conc.Beside
set_option linter.unusedVariables false
set_option linter.unusedSimpArgs false
namespace Go.X
open Go Go.Sx Go.Conc Go.ConcN
def blk : Loc → Option Nat
  | .cell a => some a.block
  | .obj r => some r
  | _ => none
theorem mem_blk {l : Loc} (h : l.isMemory = true) : ∃ b, blk l = some b := by cases l <;> simp_all [blk, Loc.isMemory]
theorem low_blk {l : Loc} {b n : Nat} (h : l.low n) (hb : blk l = some b) : b < n := by cases l <;> simp_all [blk, Loc.low]
def LowT (n : Nat) (x : MemAct) : Prop := ∀ a, x.touch? = some a → a.loc.low n
theorem LowT.of {n : Nat} {x : MemAct} (h : x.low n) : LowT n x := fun a ha => by
  cases x with
  | access e => simp only [MemAct.touch?, Option.some.injEq] at ha; subst ha; exact h
  | mark m => cases m <;> simp only [MemAct.touch?, reduceCtorEq, Option.some.injEq] at ha <;> subst ha <;> exact h
  | _ => simp [MemAct.touch?] at ha
theorem LowT.mono {n n' : Nat} (h : n ≤ n') {x : MemAct} (hx : LowT n x) : LowT n' x := fun a ha => Loc.low_mono h (hx a ha)
theorem LowT.none {n : Nat} {x : MemAct} (h : x.touch? = none) : LowT n x := fun a ha => by rw [h] at ha; cases ha
structure Own4 where
  k : Nat
  M : Nat → Heap
  base : Heap
  win : Heap
  wi : Nat
  Sh : Nat → Prop
  lv : Nat → Prop
  cp : Nat → Prop
  rl : Nat → Nat → Prop
  ac : Nat → Nat → Prop
structure Own4.Apart (o : Own4) (sz : Nat) : Prop where
  own : ∀ g g' b, g ≠ g' → o.M g b ≠ none → o.M g' b = none
  mem : ∀ g b, o.M g b ≠ none → o.base b = none ∧ o.win b = none ∧ ¬ o.Sh b ∧ b < sz
  base : ∀ b, o.base b ≠ none → o.win b = none ∧ ¬ o.Sh b ∧ b < sz
  win : ∀ b, o.win b ≠ none → ¬ o.Sh b ∧ b < sz
  lv : ∀ g, o.lv g → o.cp g
  sh : ∀ b, o.Sh b → b < sz
  ac : ∀ g b, o.ac g b → o.Sh b
def Own4.May (o : Own4) (sz g : Nat) (a : Touch) : Prop := ∀ b, blk a.loc = some b →
  (o.M g b ≠ none ∨ sz ≤ b) ∨ (a.write = false ∧ ((o.base b ≠ none ∧ (g = 0 ∨ o.lv g)) ∨ (o.win b ≠ none ∧ (g = 0 ∨ g = o.wi)))) ∨ (o.Sh b ∧ a.kind ≠ .plain ∧ (a.kind = .said → g = 0) ∧ (g = 0 ∨ (o.cp g ∧ o.ac g b)))
structure TOk (o : Own4) (sz : Nat) (t : Trace) : Prop where
  nr : ∀ said, ¬ Race said t
  low : ∀ op ∈ t, LowT sz op.act
  gs : ∀ op ∈ t, op.g ≤ o.k
  own : ∀ g i a b, touchAt t i = some a → blk a.loc = some b → o.M g b ≠ none → Knows t g i
  base : ∀ g i a b, (g = 0 ∨ o.lv g) → touchAt t i = some a → blk a.loc = some b → o.base b ≠ none → a.write = true → Knows t g i
  baseAll : ∀ i a b, touchAt t i = some a → blk a.loc = some b → o.base b ≠ none → Knows t 0 i ∨ (∃ g, o.lv g ∧ Knows t g i) ∨ ∃ g r, o.rl g r ∧ Before t i r
  winW : ∀ g i a b, (g = 0 ∨ g = o.wi) → touchAt t i = some a → blk a.loc = some b → o.win b ≠ none → a.write = true → Knows t g i
  winAll : ∀ i a b, touchAt t i = some a → blk a.loc = some b → o.win b ≠ none → Knows t 0 i ∨ Knows t o.wi i
  sh : ∀ i a b, touchAt t i = some a → blk a.loc = some b → o.Sh b → a.kind = .plain → ∀ g, (g = 0 ∨ (o.cp g ∧ o.ac g b)) → Knows t g i
  said : ∀ i a, touchAt t i = some a → a.kind = .said → t.g? i = some 0
  hand : ∀ i g, t.g? i = some g → g ≠ 0 → t.counts i → Knows t 0 i ∨ o.lv g ∨ ∃ r, o.rl g r ∧ i ≤ r
theorem touch_low {o : Own4} {sz : Nat} {t : Trace} (h : TOk o sz t) {i : Nat} {a : Touch} {b : Nat} (ha : touchAt t i = some a) (hb : blk a.loc = some b) : b < sz := by
  obtain ⟨op, hop, hx⟩ := touch_of ha
  exact low_blk (h.low op (mem_of_getElem? hop) a hx) hb
theorem touch_cases {t u : Trace} {i : Nat} {a : Touch} (h : touchAt (t ++ u) i = some a) : (i < t.size ∧ touchAt t i = some a) ∨ (t.size ≤ i ∧ ∃ op ∈ u, (t ++ u)[i]? = some op ∧ op.act.touch? = some a) := by
  obtain ⟨x, hx, hxa⟩ := touch_of h
  rcases getElem?_append_cases hx with ⟨hi, hx'⟩ | ⟨hi, hxu⟩
  · exact .inl ⟨hi, by rw [touchAt_of hx']; exact hxa⟩
  · exact .inr ⟨hi, x, hxu, hx, hxa⟩
theorem g_old {t u : Trace} {i g : Nat} (h : (t ++ u).g? i = some g) : (i < t.size ∧ t.g? i = some g) ∨ (t.size ≤ i ∧ ∃ op ∈ u, op.g = g) := by
  obtain ⟨op, ho, rfl⟩ := Option.map_eq_some_iff.1 h
  rcases getElem?_append_cases ho with ⟨hi, ho'⟩ | ⟨hi, hou⟩
  · exact .inl ⟨hi, by simp [Trace.g?, ho']⟩
  · exact .inr ⟨hi, op, hou, rfl⟩
theorem TOk.app {o : Own4} {sz sz' : Nat} {t u : Trace} {g : Nat} {m' : Heap} (h : TOk o sz t) (hA : o.Apart sz) (hg : g ≤ o.k) (hu : ∀ op ∈ u, op.g = g) (hm : ∀ op ∈ u, ∀ a, op.act.touch? = some a → o.May sz g a)
    (hsd : ∀ op ∈ u, ∀ a, op.act.touch? = some a → a.kind = .said → g = 0) (hl : ∀ op ∈ u, LowT sz' op.act) (hs : sz ≤ sz') (hM : ∀ b, m' b ≠ none → o.M g b ≠ none ∨ sz ≤ b) (hc : g = 0 ∨ o.lv g ∨ ∀ i, t.size ≤ i → (t ++ u).g? i = some g → ¬ (t ++ u).counts i) :
    TOk { o with M := ConcN.upd o.M g m' } sz' (t ++ u) := by
  have own : ∀ {i op}, (t ++ u)[i]? = some op → op ∈ u → Knows (t ++ u) g i := fun {i op} hi hop => by have := knows_own hi; rwa [hu op hop] at this
  have old : ∀ {g' i}, Knows t g' i → Knows (t ++ u) g' i := fun hk => hk.app u
  refine ⟨fun said => ?_, fun op hop => ?_, fun op hop => ?_, fun g' i a b ha hb hMb => ?_, fun g' i a b hg' ha hb hbb hw => ?_, fun i a b ha hb hbb => ?_, fun g' i a b hg' ha hb hbb hw => ?_, fun i a b ha hb hbb => ?_,
    fun i a b ha hb hsh hp g' hg' => ?_, fun i a ha hsk => ?_, fun i g' hi hne hcn => ?_⟩
  · refine noRace_append (h.nr said) hu fun i a ha op hop b hb hcf => ?_
    obtain ⟨hloc, hmem, hwr, hk⟩ := hcf
    obtain ⟨x, hx⟩ := mem_blk hmem
    have hbx : blk b.loc = some x := hloc ▸ hx
    rcases hm op hop b hb x hbx with (hM' | hnew) | ⟨hbw, hr⟩ | ⟨hsh, hnp, hsd, hcp⟩
    · exact h.own g i a x ha hx hM'
    · have := touch_low h ha hx; omega
    · have haw : a.write = true := by rcases hwr with e | e; exact e; rw [hbw] at e; cases e
      rcases hr with ⟨hb', hlv⟩ | ⟨hw', hwi⟩
      · exact h.base g i a x hlv ha hx hb' haw
      · exact h.winW g i a x hwi ha hx hw' haw
    · rcases hk with hk | hk | ⟨_, hka, hkb⟩
      · exact h.sh i a x ha hx hsh hk g hcp
      · exact absurd hk hnp
      · have hg0 := hsd hkb
        subst hg0
        have hgi := h.said i a ha hka
        obtain ⟨op', ho', hog⟩ := Option.map_eq_some_iff.1 hgi
        have := knows_own ho'
        rwa [hog] at this
  · rcases Array.mem_append.1 hop with h' | h'
    · exact (h.low op h').mono hs
    · exact hl op h'
  · rcases Array.mem_append.1 hop with h' | h'
    · exact h.gs op h'
    · rw [hu op h']; exact hg
  · rcases touch_cases ha with ⟨hi, ha'⟩ | ⟨hi, op, hop, hoi, hoa⟩
    · by_cases e : g' = g
      · subst e
        simp only [ConcN.upd, if_true] at hMb
        rcases hM b hMb with h1 | h1
        · exact old (h.own _ i a b ha' hb h1)
        · have := touch_low h ha' hb; omega
      · simp only [ConcN.upd, e, if_false] at hMb
        exact old (h.own g' i a b ha' hb hMb)
    · by_cases e : g' = g
      · subst e; exact own hoi hop
      · simp only [ConcN.upd, e, if_false] at hMb
        exfalso
        have hap := hA.mem g' b hMb
        rcases hm op hop a hoa b hb with (h1 | h1) | ⟨_, ⟨h1, _⟩ | ⟨h1, _⟩⟩ | ⟨h1, _⟩
        · exact hMb (hA.own g g' b (Ne.symm e) h1)
        · omega
        · exact h1 hap.1
        · exact h1 hap.2.1
        · exact hap.2.2.1 h1
  · rcases touch_cases ha with ⟨hi, ha'⟩ | ⟨hi, op, hop, hoi, hoa⟩
    · exact old (h.base g' i a b hg' ha' hb hbb hw)
    · exfalso
      have hap := hA.base b hbb
      rcases hm op hop a hoa b hb with (h1 | h1) | ⟨h1, _⟩ | ⟨h1, _⟩
      · exact hbb (hA.mem g b h1).1
      · omega
      · rw [hw] at h1; cases h1
      · exact hap.2.1 h1
  · rcases touch_cases ha with ⟨hi, ha'⟩ | ⟨hi, op, hop, hoi, hoa⟩
    · rcases h.baseAll i a b ha' hb hbb with h1 | ⟨g', h1, h2⟩ | ⟨g', r, h1, h2⟩
      · exact .inl (old h1)
      · exact .inr (.inl ⟨g', h1, old h2⟩)
      · exact .inr (.inr ⟨g', r, h1, h2.app u⟩)
    · have hk := own hoi hop
      have hap := hA.base b hbb
      rcases hm op hop a hoa b hb with (h1 | h1) | ⟨_, ⟨h1, h2⟩ | ⟨h1, _⟩⟩ | ⟨h1, _⟩
      · exact absurd (hA.mem g b h1).1 hbb
      · omega
      · rcases h2 with rfl | h2
        · exact .inl hk
        · exact .inr (.inl ⟨g, h2, hk⟩)
      · exact absurd hap.1 h1
      · exact absurd h1 hap.2.1
  · rcases touch_cases ha with ⟨hi, ha'⟩ | ⟨hi, op, hop, hoi, hoa⟩
    · exact old (h.winW g' i a b hg' ha' hb hbb hw)
    · exfalso
      have hap := hA.win b hbb
      rcases hm op hop a hoa b hb with (h1 | h1) | ⟨h1, _⟩ | ⟨h1, _⟩
      · exact hbb (hA.mem g b h1).2.1
      · omega
      · rw [hw] at h1; cases h1
      · exact hap.1 h1
  · rcases touch_cases ha with ⟨hi, ha'⟩ | ⟨hi, op, hop, hoi, hoa⟩
    · exact (h.winAll i a b ha' hb hbb).imp old old
    · have hk := own hoi hop
      have hap := hA.win b hbb
      rcases hm op hop a hoa b hb with (h1 | h1) | ⟨_, ⟨h1, _⟩ | ⟨_, h1⟩⟩ | ⟨h1, _⟩
      · exact absurd (hA.mem g b h1).2.1 hbb
      · omega
      · exact absurd (hA.base b h1).1 hbb
      · rcases h1 with rfl | rfl
        · exact .inl hk
        · exact .inr hk
      · exact absurd h1 hap.1
  · rcases touch_cases ha with ⟨hi, ha'⟩ | ⟨hi, op, hop, hoi, hoa⟩
    · exact old (h.sh i a b ha' hb hsh hp g' hg')
    · exfalso
      rcases hm op hop a hoa b hb with (h1 | h1) | ⟨_, ⟨h1, _⟩ | ⟨h1, _⟩⟩ | ⟨_, h1, _⟩
      · exact (hA.mem g b h1).2.2.1 hsh
      · have := hA.sh b hsh; omega
      · exact (hA.base b h1).2.1 hsh
      · exact (hA.win b h1).1 hsh
      · exact h1 hp
  · rcases touch_cases ha with ⟨hi, ha'⟩ | ⟨hi, op, hop, hoi, hoa⟩
    · have := h.said i a ha' hsk
      rw [g?_old hi]; exact this
    · simp [Trace.g?, hoi, hu op hop, hsd op hop a hoa hsk]
  · rcases g_old hi with ⟨hlt, hi'⟩ | ⟨hge, op, hop, hog⟩
    · rw [counts_old hlt] at hcn
      rcases h.hand i g' hi' hne hcn with h1 | h1
      · exact .inl (old h1)
      · exact .inr h1
    · have e : g' = g := by rw [← hog, hu op hop]
      subst e
      rcases hc with rfl | h1 | h1
      · exact absurd rfl hne
      · exact .inr (.inl h1)
      · exact absurd hcn (h1 i hge hi)
theorem TOk.still {o : Own4} {sz : Nat} {t u : Trace} (h : TOk o sz t) (hu : ∀ op ∈ u, op.g ≤ o.k ∧ op.act.touch? = none) : TOk o sz (t ++ u) := by
  have old : ∀ {g' i}, Knows t g' i → Knows (t ++ u) g' i := fun hk => hk.app u
  have ot : ∀ {i a}, touchAt (t ++ u) i = some a → i < t.size ∧ touchAt t i = some a := fun {i a} ha => by
    rcases touch_cases ha with h1 | ⟨_, op, hop, _, hoa⟩
    · exact h1
    · rw [(hu op hop).2] at hoa; cases hoa
  refine ⟨fun said => ?_, fun op hop => ?_, fun op hop => ?_, fun g' i a b ha hb hMb => old (h.own g' i a b (ot ha).2 hb hMb), fun g' i a b hg' ha hb hbb hw => old (h.base g' i a b hg' (ot ha).2 hb hbb hw), fun i a b ha hb hbb => ?_,
    fun g' i a b hg' ha hb hbb hw => old (h.winW g' i a b hg' (ot ha).2 hb hbb hw), fun i a b ha hb hbb => (h.winAll i a b (ot ha).2 hb hbb).imp old old,
    fun i a b ha hb hsh hp g' hg' => old (h.sh i a b (ot ha).2 hb hsh hp g' hg'), fun i a ha hsk => by rw [g?_old (ot ha).1]; exact h.said i a (ot ha).2 hsk, fun i g' hi hne hcn => ?_⟩
  · rintro ⟨i, j, hij, ⟨a, b, ha, hb, hc⟩, n1, n2⟩
    obtain ⟨hi, ha'⟩ := ot (i := i) (a := a) ha
    obtain ⟨hj, hb'⟩ := ot (i := j) (a := b) hb
    exact h.nr said ⟨i, j, hij, ⟨a, b, ha', hb', hc⟩, fun e => n1 (hb_app u e), fun e => n2 (hb_app u e)⟩
  · rcases Array.mem_append.1 hop with h' | h'
    · exact h.low op h'
    · exact .none (hu op h').2
  · rcases Array.mem_append.1 hop with h' | h'
    · exact h.gs op h'
    · exact (hu op h').1
  · rcases h.baseAll i a b (ot ha).2 hb hbb with h1 | ⟨g', h1, h2⟩ | ⟨g', r, h1, h2⟩
    · exact .inl (old h1)
    · exact .inr (.inl ⟨g', h1, old h2⟩)
    · exact .inr (.inr ⟨g', r, h1, h2.app u⟩)
  · obtain ⟨x, hx, hm, hk⟩ := hcn
    obtain ⟨hlt, hx'⟩ := ot (i := i) (a := x) hx
    have hcn' : t.counts i := (counts_old (u := u) hlt).1 ⟨x, hx, hm, hk⟩
    rw [g?_old hlt] at hi
    rcases h.hand i g' hi hne hcn' with h1 | h1
    · exact .inl (old h1)
    · exact .inr h1
theorem TOk.turn {o o' : Own4} {sz : Nat} {t : Trace} (h : TOk o sz t) (hk : o.k ≤ o'.k)
    (own : ∀ g b, o'.M g b ≠ none → o.M g b ≠ none ∨ (∀ i a, touchAt t i = some a → blk a.loc = some b → Knows t g i))
    (base : ∀ b, o'.base b ≠ none → (o.base b ≠ none ∧ (∀ g, o'.lv g → o.lv g ∨ ∀ i, Knows t 0 i → Knows t g i) ∧ (∀ g, o.lv g → o'.lv g ∨ ∃ r, o'.rl g r ∧ ∀ i, Knows t g i → Before t i r) ∧ (∀ g r, o.rl g r → o'.rl g r)) ∨ (∀ i a, touchAt t i = some a → blk a.loc = some b → Knows t 0 i ∧ ∀ g, o'.lv g → Knows t g i))
    (win : ∀ b, o'.win b ≠ none → (o.win b ≠ none ∧ o'.wi = o.wi) ∨ (∀ i a, touchAt t i = some a → blk a.loc = some b → Knows t 0 i ∧ Knows t o'.wi i))
    (sh : ∀ b, o'.Sh b → (o.Sh b ∧ ∀ g, (o'.cp g ∧ o'.ac g b) → (o.cp g ∧ o.ac g b) ∨ ∀ i, Knows t 0 i → Knows t g i) ∨ (∀ i a, touchAt t i = some a → blk a.loc = some b → a.kind = .plain → ∀ g, (g = 0 ∨ (o'.cp g ∧ o'.ac g b)) → Knows t g i))
    (hand : ∀ g, o.lv g → o'.lv g ∨ ∃ r, o'.rl g r ∧ ∀ i, t.g? i = some g → i ≤ r) (hrl : ∀ g r, o.rl g r → o'.rl g r) : TOk o' sz t := by
  refine ⟨h.nr, h.low, fun op hop => Nat.le_trans (h.gs op hop) hk, fun g i a b ha hb hM => ?_, fun g i a b hg ha hb hB hw => ?_, fun i a b ha hb hB => ?_, fun g i a b hg ha hb hB hw => ?_, fun i a b ha hb hB => ?_, fun i a b ha hb hS hp g hg => ?_, h.said, fun i g hi hne hc => ?_⟩
  · exact (own g b hM).elim (h.own g i a b ha hb) fun h1 => h1 i a ha hb
  · rcases base b hB with ⟨h1, h2, _⟩ | h1
    · rcases hg with rfl | hg
      · exact h.base 0 i a b (.inl rfl) ha hb h1 hw
      · rcases h2 g hg with h3 | h3
        · exact h.base g i a b (.inr h3) ha hb h1 hw
        · exact h3 i (h.base 0 i a b (.inl rfl) ha hb h1 hw)
    · rcases hg with rfl | hg
      · exact (h1 i a ha hb).1
      · exact (h1 i a ha hb).2 g hg
  · rcases base b hB with ⟨h1, _, h3, h4⟩ | h1
    · rcases h.baseAll i a b ha hb h1 with h5 | ⟨g, h5, h6⟩ | ⟨g, r, h5, h6⟩
      · exact .inl h5
      · rcases h3 g h5 with h7 | ⟨r, h7, h8⟩
        · exact .inr (.inl ⟨g, h7, h6⟩)
        · exact .inr (.inr ⟨g, r, h7, h8 i h6⟩)
      · exact .inr (.inr ⟨g, r, h4 g r h5, h6⟩)
    · exact .inl (h1 i a ha hb).1
  · rcases win b hB with ⟨h1, h2⟩ | h1
    · exact h.winW g i a b (hg.imp id fun e => e.trans h2) ha hb h1 hw
    · rcases hg with rfl | rfl
      · exact (h1 i a ha hb).1
      · exact (h1 i a ha hb).2
  · rcases win b hB with ⟨h1, h2⟩ | h1
    · rw [h2]; exact h.winAll i a b ha hb h1
    · exact .inl (h1 i a ha hb).1
  · rcases sh b hS with ⟨h1, h2⟩ | h1
    · rcases hg with rfl | hg
      · exact h.sh i a b ha hb h1 hp 0 (.inl rfl)
      · rcases h2 g hg with h3 | h3
        · exact h.sh i a b ha hb h1 hp g (.inr h3)
        · exact h3 i (h.sh i a b ha hb h1 hp 0 (.inl rfl))
    · exact h1 i a ha hb hp g hg
  · rcases h.hand i g hi hne hc with h1 | h1 | ⟨r, h1, h2⟩
    · exact .inl h1
    · rcases hand g h1 with h2 | ⟨r, h2, h3⟩
      · exact .inr (.inl h2)
      · exact .inr (.inr ⟨r, h2, h3 i hi⟩)
    · exact .inr (.inr ⟨r, hrl g r h1, h2⟩)
end Go.X
