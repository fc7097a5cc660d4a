/- The table's cells: what they hold, and that it stays small. No program in sight. -/
import Derived.Test.YtadahmihkbpglaaDoorPD
import Derived.Test.YtadahmihkbpglaaDoorE28
set_option linter.unusedVariables false
set_option linter.unusedSimpArgs false
namespace Go.Proofs.YtadahmihkbpglaaDoor
open Go Go.Sx Go.Proofs
/-- a cell of the table, as it lies in memory -/
structure RestV where
  ok : Bool
  comes : Int
  far : Int
  passes : Int
  next : Int
def toV : Option PRest → RestV
  | none => ⟨false, 0, 0, 0, 0⟩
  | some x => ⟨true, x.comes, x.far, x.passes, x.next⟩
def zRV : RestV := ⟨false, 0, 0, 0, 0⟩
def RestV.cv (x : RestV) : List Value := [.bool x.ok, I x.comes, I x.far, I x.passes, I x.next]
def fitV (x : RestV) : Prop := (fits x.comes ∧ fits x.far) ∧ fits x.passes ∧ fits x.next
def rRV : Rd RestV := fun _ c x => c = x.cv ∧ fitV x
instance : RdOk rRV 5 := ⟨fun ⟨h, _⟩ => by subst h; rfl, fun ⟨h, _⟩ => by subst h; rfl, fun _ h => h⟩
instance : RdFlat rRV := ⟨fun h => h⟩
theorem fitV_z : fitV zRV := by simp only [fitV, zRV]; exact ⟨⟨fits0, fits0⟩, fits0, fits0⟩
/-- better, as it is asked in the program -/
def betV (a b : RestV) : Prop := if a.ok = true ∧ b.ok = true then a.comes < b.comes ∨ a.comes = b.comes ∧ (a.far < b.far ∨ a.far = b.far ∧ (a.passes < b.passes ∨ a.passes = b.passes ∧ a.next < b.next)) else a.ok = true
instance {a b : RestV} : Decidable (betV a b) := by unfold betV; infer_instance
theorem pick_V {cur x : Option PRest} : toV (pickB cur x) = if betV (toV x) (toV cur) then toV x else toV cur := by
  cases x with
  | none =>
    rw [if_neg (by simp [betV, toV])]; rfl
  | some x =>
    cases cur with
    | none => rw [if_pos (by simp [betV, toV])]; rfl
    | some b =>
      have e : betV (toV (some x)) (toV (some b)) ↔ rlt x b := by simp [betV, toV, rlt]
      simp only [pickB]
      by_cases h : rlt x b
      · rw [if_pos h, if_pos (e.2 h)]
      · rw [if_neg h, if_neg (fun g => h (e.1 g))]
theorem passA_le : ∀ {l : List Int}, 0 ≤ passA l ∧ passA l ≤ l.length
  | [] => by simp [passA]
  | [c] => by simp [passA]
  | c :: d :: l => by
    have := passA_le (l := d :: l)
    simp only [passA, List.length_cons] at *
    split <;> omega
theorem comes_le {goal : Int} : ∀ {l : List Int} {t : Int}, t + l.length ≤ bigT → comesA goal t l ≤ bigT
  | [], t, _ => by simp [comesA]
  | [c], t, h => by simp only [comesA]; simp only [List.length_cons, List.length_nil] at h; split <;> omega
  | c :: d :: l, t, h => by
    have := comes_le (goal := goal) (l := d :: l) (t := t + 1) (by simp only [List.length_cons] at *; omega)
    simp only [comesA]; simp only [List.length_cons] at h; split <;> omega
theorem last_mem : ∀ {l : List Int}, l ≠ [] → lastA l ∈ l
  | [], h => absurd rfl h
  | [c], _ => by simp [lastA]
  | c :: d :: l, _ => by
    have := last_mem (l := d :: l) (by simp)
    simp only [lastA]
    exact List.mem_cons_of_mem _ this
theorem dist_le {m : Map} (h : sidesM m) {goal c : Int} (hg : isC m goal) (hc : isC m c) : 0 ≤ distM m goal c ∧ distM m goal c ≤ 30 := by
  obtain ⟨⟨a1, a2⟩, a3, a4⟩ := cell_xy h hg
  obtain ⟨⟨b1, b2⟩, b3, b4⟩ := cell_xy h hc
  simp only [sidesM] at h
  unfold distM
  omega
theorem tab_next {m : Map} {tk : List ByteArray} {goal : Int} {k : Nat} {t c : Int} {x : PRest} (h : planT m tk goal k t c = some x) : x.next = 0 ∨ x.next ∈ nextR m c := by
  unfold planT at h
  cases k with
  | zero =>
    simp only [tabP] at h
    split at h
    · have := Option.some.inj h; rw [← this]; exact .inl rfl
    · cases h
  | succ k =>
    simp only [tabP] at h
    split at h
    · rcases bestOf_spec (f := candP (pkM tk) goal (tabP (nextR m) (avM m tk) (pkM tk) goal (distM m goal) k (t + 1)) t c) (l := nextR m c) _ rfl with ⟨h1, _⟩ | ⟨y, h1, ⟨to, hto, hy⟩, _⟩
      · rw [h1] at h; cases h
      · rw [h1] at h
        obtain rfl := Option.some.inj h
        right
        unfold candP at hy
        split at hy
        · cases hy
        · split at hy
          · have := Option.some.inj hy; rw [← this]; exact hto
          · cases hy
    · cases h
theorem next_cell {m : Map} {c d : Int} (h : d ∈ nextR m c) : isC m d := (mem_nextR.1 h).1.2.2
/-- what the table holds stays small -/
theorem tab_small {m : Map} (hs : sidesM m) {tk : List ByteArray} {goal : Int} (hg : isC m goal) {k : Nat} {t c : Int} (h0 : 0 ≤ t) (hb : t + k + 1 ≤ 2000000000) (hk : k ≤ 24) {x : PRest} (h : planT m tk goal k t c = some x) :
    (t ≤ x.comes ∧ x.comes ≤ bigT) ∧ (0 ≤ x.far ∧ x.far ≤ 30) ∧ (0 ≤ x.passes ∧ x.passes ≤ 25) ∧ 0 ≤ x.next ∧ x.next < 256 := by
  have hbig : bigT = 9223372036854775807 := rfl
  have har := area hs
  have hn : 0 ≤ x.next ∧ x.next < 256 := by
    rcases tab_next h with e | e
    · omega
    · have := next_cell e; simp only [isC] at this; omega
  rcases tab_spec (nextR m) (avM m tk) (pkM tk) goal (distM m goal) (k := k) (t := t) (c := c) (by omega) with ⟨h1, _⟩ | ⟨y, h1, h2, ⟨h3, h4, h5⟩, _⟩
  · unfold planT at h; rw [h1] at h; cases h
  · unfold planT at h; rw [h1] at h
    obtain rfl := Option.some.inj h
    obtain ⟨l, e, hl⟩ := path_head (nextR m) (avM m tk) (pkM tk) goal (distM m goal) (k := k) (t := t) (c := c)
    rw [e] at h2 h3 h4 h5
    have hlen : (c :: l).length = k + 1 := by simp [hl]
    have p1 := comes_ge goal (l := c :: l) (t := t) (by rw [hlen]; omega)
    have p2 := comes_le (goal := goal) (l := c :: l) (t := t) (by rw [hlen]; omega)
    have p3 := passA_le (l := c :: l)
    have p4 := dist_le hs hg ((ok_free (m := m) (tk := tk) h2 _ (last_mem (by simp))).2)
    rw [hlen] at p3
    refine ⟨⟨by omega, by omega⟩, ⟨by omega, by omega⟩, ⟨by omega, by omega⟩, hn⟩
theorem toV_fit {m : Map} (hs : sidesM m) {tk : List ByteArray} {goal : Int} (hg : isC m goal) {k : Nat} {t c : Int} (h0 : 0 ≤ t) (hb : t + k + 1 ≤ 2000000000) (hk : k ≤ 24) : fitV (toV (planT m tk goal k t c)) := by
  cases h : planT m tk goal k t c with
  | none => exact fitV_z
  | some x =>
    have hbig : bigT = 9223372036854775807 := rfl
    have := tab_small hs hg h0 hb hk h
    simp only [fitV, toV]
    refine ⟨⟨?_, ?_⟩, ?_, ?_⟩ <;> unfold fits <;> omega
end Go.Proofs.YtadahmihkbpglaaDoor
