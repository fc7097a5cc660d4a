/- Slices among cells, with what they take; arguments read so. No program in sight. -/
import Derived.Test.YtnfmjkjhiolfdaaDoorE1
import Derived.ChangeSame
import Derived.JoinedOf
import Derived.JoinedAt
import Derived.RowKit
import Derived.Carry
import Derived.ChangeSlices
import Derived.SizedLaws
set_option linter.unusedVariables false
set_option linter.unusedSimpArgs false
namespace Go.Sx
open Go Go.ChangeShapes Go.WideShapes Go.ChangeAt Go.RowKit
/-- a slice that is only read, w bytes an element -/
def SlB {α : Type} (R : Rd α) (sz w : Nat) (H : Heap) (v : Value) (xs : List α) : Prop := SlR R sz H v xs ∧ xs.length * w ≤ cap47
theorem SlB.mono {α : Type} {R : Rd α} {sz w : Nat} [RdOk R sz] {H H' : Heap} {v : Value} {xs : List α} (h : SlB R sz w H v xs) (hl : H.le H') : SlB R sz w H' v xs := ⟨h.1.mono hl, h.2⟩
theorem slb_one {α : Type} {R : Rd α} {sz w : Nat} {H : Heap} {v : Value} {xs : List α} (h : SlB R sz w H v xs) : v.oneCell' = true := by obtain ⟨_, _, rfl, _⟩ := h.1.shape; rfl
abbrev nilS : Value := .slice none 0 0
theorem SlB.nil {α : Type} {R : Rd α} {sz w : Nat} {H : Heap} : SlB R sz w H nilS ([] : List α) := ⟨SlR.nil _ _ _ _ _ (by omega), by simp⟩
/-- a slice as a value among others -/
def rSl {α : Type} (R : Rd α) (sz w : Nat) : Rd (List α) := fun H c xs => ∃ v, c = [v] ∧ SlB R sz w H v xs
instance {α : Type} {R : Rd α} {sz w : Nat} [RdOk R sz] : RdOk (rSl R sz w) 1 := ⟨fun ⟨v, h, _⟩ => by subst h; rfl, fun ⟨v, h, h2⟩ => by subst h; simp only [List.all_cons, List.all_nil, slb_one h2]; rfl, fun hl ⟨v, h, h2⟩ => ⟨v, h, h2.mono hl⟩⟩
theorem fits0 : fits 0 := by unfold fits; omega
/-- a number of another kind -/
def inKind (k : IntKind) (n : Int) : Prop := (Lit.int k n).wf = true
def rNum (k : IntKind) : Rd Int := fun _ c x => c = [.int k x] ∧ inKind k x
instance {k : IntKind} : RdOk (rNum k) 1 := ⟨fun ⟨h, _⟩ => by subst h; rfl, fun ⟨h, _⟩ => by subst h; rfl, fun _ h => h⟩
instance {k : IntKind} : R1 (rNum k) (fun x => .int k x) (inKind k) := ⟨fun h => h⟩
theorem inKind0 {k : IntKind} : inKind k 0 := by cases k <;> rfl
theorem cutd {cs v : List Value} {o k o' : Nat} (h : (cs.drop o).take k = v) (ho : o + k = o') : cs.drop o = v ++ cs.drop o' := by
  subst ho; rw [← h, ← List.drop_drop, List.take_append_drop]
/-- the law's own bound: what a slice, a text or a map takes -/
def Wts {H : Type} (P : Program) (t : TypeId) (d : DataW H) : Prop := ∀ x ∈ d.weights P t, x ≤ reachBytes
theorem reach_cap {n : Nat} (h : n ≤ reachBytes) : n ≤ cap47 := by have := reachBytes_lt; unfold cap47; omega
section
variable {P : Program}
/-- a value of type t that is read reads as R says -/
def Rds (P : Program) (t : TypeId) {α : Type} (R : Rd α) : Prop :=
  ∀ {H : Type} {enc : TypeId × Value → H} {W : World} {fuel : Nat} {cs : List Value} {d : DataW H} {ps : List MemPlace}, DataW.trod enc P W 0 (fun _ => true) true fuel t cs = some (d, ps) → Wts P t d → ∃ y, R (hp W) cs y
theorem rds_int {t : TypeId} (ht : P.underlying t = some (.int .i64)) : Rds P t rInt := fun h _ => by
  obtain ⟨n, rfl, -, hw⟩ := DataW.trod_int ht h
  simp only [Lit.wf, Bool.and_eq_true, decide_eq_true_eq] at hw
  exact ⟨n, rfl, by simpa [IntKind.min, IntKind.signed, IntKind.bits] using hw.1, by simpa [IntKind.max, IntKind.signed, IntKind.bits] using hw.2⟩
theorem rds_num {t : TypeId} {k : IntKind} (ht : P.underlying t = some (.int k)) : Rds P t (rNum k) := fun h _ => by
  obtain ⟨n, rfl, -, hw⟩ := DataW.trod_int ht h
  exact ⟨n, rfl, hw⟩
theorem rds_bool {t : TypeId} (ht : P.underlying t = some .bool) : Rds P t rBool := fun h _ => by
  obtain ⟨b, rfl, -⟩ := DataW.trod_bool ht h
  exact ⟨b, rfl⟩
theorem rds_str {t : TypeId} (ht : P.underlying t = some .string) : Rds P t rStr := fun h hw => by
  obtain ⟨s, rfl, e, -⟩ := DataW.trod_string ht h
  cases e
  refine ⟨s, rfl, reach_cap ?_⟩
  have := hw s.data.toList.length (by simp [DataW.weights])
  simpa using this
theorem hcell_of {W : World} {b o : Nat} {v : Value} (h : W.cell? ⟨b, o, none⟩ = some v) : hcell (hp W) b o = some v := by
  unfold World.cell? at h
  unfold hcell hp
  dsimp only at h ⊢
  split at h
  · next hh => rw [hh]; simpa using h
  · cases h
theorem mem_weightsAll {H : Type} {e : TypeId} {x : Nat} : ∀ {l : List (DataW H)}, x ∈ DataW.weightsAll P e l ↔ ∃ d ∈ l, x ∈ d.weights P e
  | [] => by simp [DataW.weightsAll]
  | d :: r => by simp [DataW.weightsAll, mem_weightsAll]
theorem mem_weightsEach {H : Type} {x : Nat} : ∀ {ts : List TypeId} {l : List (DataW H)} {i : Nat} {t : TypeId} {d : DataW H}, ts[i]? = some t → l[i]? = some d → x ∈ d.weights P t → x ∈ DataW.weightsEach P ts l
  | [], _, i, _, _, h, _, _ => by simp at h
  | _ :: _, [], i, _, _, _, h, _ => by simp at h
  | t :: ts, d :: l, 0, _, _, h, h', hx => by simp at h h'; subst h; subst h'; simp [DataW.weightsEach, hx]
  | t :: ts, d :: l, i + 1, _, _, h, h', hx => by
    simp only [DataW.weightsEach, List.mem_append]
    exact .inr (mem_weightsEach (by simpa using h) (by simpa using h') hx)
theorem rds_slice {α : Type} {R : Rd α} {sz w : Nat} [hR : RdOk R sz] {t e : TypeId} (ht : P.underlying t = some (.slice e)) (hc : P.cellsOf e = sz) (hb : P.bytesOf e = w) (h0 : 0 < sz) (he : Rds P e R) : Rds P t (rSl R sz w) := by
  intro H enc W fuel cs d ps h hw
  rcases DataW.trod_slice ht h with ⟨rfl, -⟩ | ⟨a, len, cap, elems, rest, n, -, rfl, hd, -, hl, hm, hlen, hel, -, -⟩
  · exact ⟨[], _, rfl, SlB.nil⟩
  · cases hd
    have hbound : len * w ≤ cap47 := by
      have := hw ((elems.length + rest.length) * P.bytesOf e) (by simp [DataW.weights, ht])
      rw [hb] at this
      refine reach_cap (Nat.le_trans (Nat.mul_le_mul_right _ ?_) this)
      omega
    have hws : ∀ x ∈ elems, Wts P e x.1 := fun x hx y hy => hw y (by
      simp only [DataW.weights, ht, List.mem_cons, List.mem_append, mem_weightsAll]
      exact .inr (.inl ⟨x.1, List.mem_map.2 ⟨x, hx, rfl⟩, hy⟩))
    unfold maxLen at hm
    rw [hc] at hel
    have each : ∀ i, i < len → ∃ c y, c.length = sz ∧ (∀ j, j < sz → W.cell? ((a.add (i * sz)).add j) = c[j]?) ∧ R (hp W) c y := fun i hi => by
      have := hel i hi
      rw [List.getElem?_eq_getElem (by omega)] at this
      cases hcs : W.cells? 0 (a.add (i * sz)) sz with
      | none => rw [hcs] at this; cases this
      | some c =>
        rw [hcs] at this
        obtain ⟨y, hy⟩ := he this (hws _ (List.getElem_mem _))
        obtain ⟨-, hlc, hcl⟩ := World.cells?_some hcs
        exact ⟨c, y, hlc, hcl, hy⟩
    rcases Nat.eq_zero_or_pos len with rfl | hpos
    · exact ⟨[], _, rfl, SlR.nil _ _ _ _ _ (by omega), by simp⟩
    · obtain ⟨b, off, spot⟩ := a
      have hspot : spot = none := by
        obtain ⟨c, y, hlc, hcl, _⟩ := each 0 hpos
        have := hcl 0 h0
        rw [List.getElem?_eq_getElem (by omega)] at this
        simpa [Addr.add] using World.cell?_spot this
      subst hspot
      have all : ∀ m, m ≤ len → ∃ cs xs, xs.length = m ∧ RL R (hp W) cs xs ∧ HRow (hp W) b off cs := fun m => by
        induction m with
        | zero => exact fun _ => ⟨[], [], rfl, rfl, fun j v hj => by simp at hj⟩
        | succ m ih =>
          intro hm'
          obtain ⟨cs, xs, hx, hr, hrow⟩ := ih (by omega)
          obtain ⟨c, y, hlc, hcl, hy⟩ := each m (by omega)
          refine ⟨cs ++ c, xs ++ [y], by simp [hx], hr.snoc hy, fun j v hj => ?_⟩
          have hcsl : cs.length = m * sz := by rw [hr.len, hx]
          rcases Nat.lt_or_ge j cs.length with h | h
          · rw [List.getElem?_append_left h] at hj; exact hrow j v hj
          · rw [List.getElem?_append_right h] at hj
            have hjl : j - cs.length < c.length := by
              rcases Nat.lt_or_ge (j - cs.length) c.length with h | h
              · exact h
              · rw [List.getElem?_eq_none h] at hj; cases hj
            have := hcl (j - cs.length) (by omega)
            rw [add_plain, add_plain, hj] at this
            have e : off + m * sz + (j - cs.length) = off + j := by omega
            rw [e] at this
            exact hcell_of this
      obtain ⟨cs, xs, hx, hr, hrow⟩ := all len (Nat.le_refl _)
      exact ⟨xs, _, rfl, ⟨cs, ⟨_, cap, by rw [hx], ⟨by omega, by omega⟩, hr.len, hr.one, .inr ⟨b, off, rfl, hrow⟩⟩, hr⟩, by rw [hx]; exact hbound⟩
/-- a struct's fields -/
theorem trod_fields {H : Type} {enc : TypeId × Value → H} {W : World} {fuel : Nat} {t : TypeId} {cs : List Value} {d : DataW H} {ps : List MemPlace} {fs : Array Field} (ht : P.underlying t = some (.struct fs))
    (h : DataW.trod enc P W 0 (fun _ => true) true fuel t cs = some (d, ps)) (hw : Wts P t d) :
    cs.length = P.cellsOf t ∧ ∀ (i : Nat) (f : Field), fs[i]? = some f → ∀ (o n : Nat), (f.offset = o ∧ P.cellsOf f.type = n) → ∀ {α : Type} {R : Rd α}, Rds P f.type R → ∃ y, R (hp W) ((cs.drop o).take n) y := by
  obtain ⟨xs, n, -, hx, hl, hxl, he⟩ := DataW.trod_struct ht h
  cases hx
  refine ⟨hl, fun i f hf o m ⟨ho, hm⟩ α R hR => ?_⟩
  have hi : i < xs.length := by rw [hxl]; exact (Array.getElem?_eq_some_iff.1 hf).1
  have h1 := he i f hf
  rw [List.getElem?_eq_getElem hi, ho, hm] at h1
  obtain ⟨y, hy⟩ := hR (d := xs[i].1) (ps := xs[i].2) h1 fun x hx => hw x (by
    simp only [DataW.weights, ht]
    exact mem_weightsEach (i := i) (t := f.type) (d := xs[i].1) (by simp [hf]) (by simp [List.getElem?_eq_getElem hi]) hx)
  exact ⟨y, hy⟩
end
end Go.Sx
