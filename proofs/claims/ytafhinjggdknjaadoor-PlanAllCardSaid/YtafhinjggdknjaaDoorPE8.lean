/- Statements whose order is open, their operations guarded. No program in sight. -/
import Derived.Test.YtafhinjggdknjaaDoorPE1
import Derived.ChangeSame
import Derived.JoinedOf
import Derived.JoinedAt
import Derived.RowKit
import Derived.Carry
import Derived.ChangeSlices
import Derived.SizedLaws
set_option linter.unusedVariables false
set_option linter.unusedSimpArgs false
namespace Go.Sx
open Go Go.X Go.ChangeShapes Go.WideShapes Go.ChangeAt Go.RowKit
def SlB {α : Type} (R : Rd α) (sz w : Nat) (H : Heap) (v : Value) (xs : List α) : Prop := SlR R sz H v xs ∧ xs.length * w ≤ cap47
theorem SlB.mono {α : Type} {R : Rd α} {sz w : Nat} [RdOk R sz] {H H' : Heap} {v : Value} {xs : List α} (h : SlB R sz w H v xs) (hl : H.le H') : SlB R sz w H' v xs := ⟨h.1.mono hl, h.2⟩
theorem slb_one {α : Type} {R : Rd α} {sz w : Nat} {H : Heap} {v : Value} {xs : List α} (h : SlB R sz w H v xs) : v.oneCell' = true := by obtain ⟨_, _, rfl, _⟩ := h.1.shape; rfl
abbrev nilS : Value := .slice none 0 0
theorem SlB.nil {α : Type} {R : Rd α} {sz w : Nat} {H : Heap} : SlB R sz w H nilS ([] : List α) := ⟨SlR.nil _ _ _ _ _ (by omega), by simp⟩
def rSl {α : Type} (R : Rd α) (sz w : Nat) : Rd (List α) := fun H c xs => ∃ v, c = [v] ∧ SlB R sz w H v xs
instance {α : Type} {R : Rd α} {sz w : Nat} [RdOk R sz] : RdOk (rSl R sz w) 1 := ⟨fun ⟨v, h, _⟩ => by subst h; rfl, fun ⟨v, h, h2⟩ => by subst h; simp only [List.all_cons, List.all_nil, slb_one h2]; rfl, fun hl ⟨v, h, h2⟩ => ⟨v, h, h2.mono hl⟩⟩
theorem fits0 : fits 0 := by unfold fits; omega
theorem cutd {cs v : List Value} {o k o' : Nat} (h : (cs.drop o).take k = v) (ho : o + k = o') : cs.drop o = v ++ cs.drop o' := by
  subst ho; rw [← h, ← List.drop_drop, List.take_append_drop]
def Wts {H : Type} (P : Program) (t : TypeId) (d : DataW H) : Prop := ∀ x ∈ d.weights P t, x ≤ reachBytes
theorem reach_cap {n : Nat} (h : n ≤ reachBytes) : n ≤ cap47 := by have := reachBytes_lt; unfold cap47; omega
section
variable {P : Program}
def Rds (P : Program) (t : TypeId) {α : Type} (R : Rd α) : Prop :=
  ∀ {H : Type} {enc : TypeId × Value → H} {W : World} {fuel : Nat} {cs : List Value} {d : DataW H} {ps : List MemPlace}, DataW.trod enc P W 0 (fun _ => true) true fuel t cs = some (d, ps) → Wts P t d → ∃ y, R (rp W) cs y
theorem rds_int {t : TypeId} (ht : P.underlying t = some (.int .i64)) : Rds P t rInt := fun h _ => by
  obtain ⟨n, rfl, -, hw⟩ := DataW.trod_int ht h
  simp only [Lit.wf, Bool.and_eq_true, decide_eq_true_eq] at hw
  exact ⟨n, rfl, by simpa [IntKind.min, IntKind.signed, IntKind.bits] using hw.1, by simpa [IntKind.max, IntKind.signed, IntKind.bits] using hw.2⟩
theorem rds_str {t : TypeId} (ht : P.underlying t = some .string) : Rds P t rStr := fun h hw => by
  obtain ⟨s, rfl, e, -⟩ := DataW.trod_string ht h
  cases e
  refine ⟨s, rfl, reach_cap ?_⟩
  have := hw s.data.toList.length (by simp [DataW.weights])
  simpa using this
theorem hcell_of {W : World} {b o : Nat} {v : Value} (h : W.cell? ⟨b, o, none⟩ = some v) : hcell (rp W) b o = some v := by
  unfold World.cell? at h
  unfold hcell rp
  dsimp only at h ⊢
  split at h
  · next hh => rw [hh]; simpa using h
  · cases h
theorem mem_weightsAll {H : Type} {e : TypeId} {x : Nat} : ∀ {l : List (DataW H)}, x ∈ DataW.weightsAll P e l ↔ ∃ d ∈ l, x ∈ d.weights P e
  | [] => by simp [DataW.weightsAll]
  | d :: r => by simp [DataW.weightsAll, mem_weightsAll]
theorem mem_weightsEach {H : Type} {x : Nat} : ∀ {ts : List TypeId} {l : List (DataW H)} {i : Nat} {t : TypeId} {d : DataW H}, ts[i]? = some t → l[i]? = some d → x ∈ d.weights P t → x ∈ DataW.weightsEach P ts l
  | [], _, i, _, _, h, _, _ => by simp at h
  | _ :: _, [], i, _, _, _, h, _ => by simp at h
  | t :: ts, d :: l, 0, _, _, h, h', hx => by simp at h h'; subst h; subst h'; simp [DataW.weightsEach, hx]
  | t :: ts, d :: l, i + 1, _, _, h, h', hx => by
    simp only [DataW.weightsEach, List.mem_append]
    exact .inr (mem_weightsEach (by simpa using h) (by simpa using h') hx)
theorem rds_slice {α : Type} {R : Rd α} {sz w : Nat} [hR : RdOk R sz] {t e : TypeId} (ht : P.underlying t = some (.slice e)) (hc : P.cellsOf e = sz) (hb : P.bytesOf e = w) (h0 : 0 < sz) (he : Rds P e R) : Rds P t (rSl R sz w) := by
  intro H enc W fuel cs d ps h hw
  rcases DataW.trod_slice ht h with ⟨rfl, -⟩ | ⟨a, len, cap, elems, rest, n, -, rfl, hd, -, hl, hm, hlen, hel, -, -⟩
  · exact ⟨[], _, rfl, SlB.nil⟩
  · cases hd
    have hbound : len * w ≤ cap47 := by
      have := hw ((elems.length + rest.length) * P.bytesOf e) (by simp [DataW.weights, ht])
      rw [hb] at this
      refine reach_cap (Nat.le_trans (Nat.mul_le_mul_right _ ?_) this)
      omega
    have hws : ∀ x ∈ elems, Wts P e x.1 := fun x hx y hy => hw y (by
      simp only [DataW.weights, ht, List.mem_cons, List.mem_append, mem_weightsAll]
      exact .inr (.inl ⟨x.1, List.mem_map.2 ⟨x, hx, rfl⟩, hy⟩))
    unfold maxLen at hm
    rw [hc] at hel
    have each : ∀ i, i < len → ∃ c y, c.length = sz ∧ (∀ j, j < sz → W.cell? ((a.add (i * sz)).add j) = c[j]?) ∧ R (rp W) c y := fun i hi => by
      have := hel i hi
      rw [List.getElem?_eq_getElem (by omega)] at this
      cases hcs : W.cells? 0 (a.add (i * sz)) sz with
      | none => rw [hcs] at this; cases this
      | some c =>
        rw [hcs] at this
        obtain ⟨y, hy⟩ := he this (hws _ (List.getElem_mem _))
        obtain ⟨-, hlc, hcl⟩ := World.cells?_some hcs
        exact ⟨c, y, hlc, hcl, hy⟩
    rcases Nat.eq_zero_or_pos len with rfl | hpos
    · exact ⟨[], _, rfl, SlR.nil _ _ _ _ _ (by omega), by simp⟩
    · obtain ⟨b, off, spot⟩ := a
      have hspot : spot = none := by
        obtain ⟨c, y, hlc, hcl, _⟩ := each 0 hpos
        have := hcl 0 h0
        rw [List.getElem?_eq_getElem (by omega)] at this
        simpa [Addr.add] using World.cell?_spot this
      subst hspot
      have all : ∀ m, m ≤ len → ∃ cs xs, xs.length = m ∧ RL R (rp W) cs xs ∧ HRow (rp W) b off cs := fun m => by
        induction m with
        | zero => exact fun _ => ⟨[], [], rfl, rfl, fun j v hj => by simp at hj⟩
        | succ m ih =>
          intro hm'
          obtain ⟨cs, xs, hx, hr, hrow⟩ := ih (by omega)
          obtain ⟨c, y, hlc, hcl, hy⟩ := each m (by omega)
          refine ⟨cs ++ c, xs ++ [y], by simp [hx], hr.snoc hy, fun j v hj => ?_⟩
          have hcsl : cs.length = m * sz := by rw [hr.len, hx]
          rcases Nat.lt_or_ge j cs.length with h | h
          · rw [List.getElem?_append_left h] at hj; exact hrow j v hj
          · rw [List.getElem?_append_right h] at hj
            have hjl : j - cs.length < c.length := by
              rcases Nat.lt_or_ge (j - cs.length) c.length with h | h
              · exact h
              · rw [List.getElem?_eq_none h] at hj; cases hj
            have := hcl (j - cs.length) (by omega)
            rw [add_plain, add_plain, hj] at this
            have e : off + m * sz + (j - cs.length) = off + j := by omega
            rw [e] at this
            exact hcell_of this
      obtain ⟨cs, xs, hx, hr, hrow⟩ := all len (Nat.le_refl _)
      exact ⟨xs, _, rfl, ⟨cs, ⟨_, cap, by rw [hx], ⟨by omega, by omega⟩, hr.len, hr.one, .inr ⟨b, off, rfl, hrow⟩⟩, hr⟩, by rw [hx]; exact hbound⟩
theorem trod_fields {H : Type} {enc : TypeId × Value → H} {W : World} {fuel : Nat} {t : TypeId} {cs : List Value} {d : DataW H} {ps : List MemPlace} {fs : Array Field} (ht : P.underlying t = some (.struct fs))
    (h : DataW.trod enc P W 0 (fun _ => true) true fuel t cs = some (d, ps)) (hw : Wts P t d) :
    cs.length = P.cellsOf t ∧ ∀ (i : Nat) (f : Field), fs[i]? = some f → ∀ (o n : Nat), (f.offset = o ∧ P.cellsOf f.type = n) → ∀ {α : Type} {R : Rd α}, Rds P f.type R → ∃ y, R (rp W) ((cs.drop o).take n) y := by
  obtain ⟨xs, n, -, hx, hl, hxl, he⟩ := DataW.trod_struct ht h
  cases hx
  refine ⟨hl, fun i f hf o m ⟨ho, hm⟩ α R hR => ?_⟩
  have hi : i < xs.length := by rw [hxl]; exact (Array.getElem?_eq_some_iff.1 hf).1
  have h1 := he i f hf
  rw [List.getElem?_eq_getElem hi, ho, hm] at h1
  obtain ⟨y, hy⟩ := hR (d := xs[i].1) (ps := xs[i].2) h1 fun x hx => hw x (by
    simp only [DataW.weights, ht]
    exact mem_weightsEach (i := i) (t := f.type) (d := xs[i].1) (by simp [hf]) (by simp [List.getElem?_eq_getElem hi]) hx)
  exact ⟨y, hy⟩
end
end Go.Sx
namespace Go.Sx
open Go Go.X
theorem cap47_fits {n w : Nat} (hw : 0 < w) (h : n * w ≤ cap47) : n ≤ cap47 := Nat.le_trans (Nat.le_mul_of_pos_right n hw) h
def ownS {α : Type} (R : Rd α) (sz w T : Nat) (H : Heap) (s : Value) (xs : List α) : HProp := fun h => ∃ cs, (RL R H cs xs ∧ xs.length * w ≤ cap47) ∧ own T sz s xs.length cs h
section
variable {α : Type} {R : Rd α} {sz w T : Nat} {H H' : Heap} {s : Value} {xs : List α} {L : List HProp}
theorem ownS_nil {base : Option Addr} : Sub L (ownS R sz w T H (.slice base 0 0) [] :: L) := own_nil.trans fun h ⟨h1, h2, a, q, d, l1, l2⟩ => ⟨h1, h2, ⟨[], ⟨rfl, by simp⟩, a⟩, q, d, l1, l2⟩
theorem ownS_mk {cs : List Value} (h1 : RL R H cs xs) (h2 : xs.length * w ≤ cap47) : Sub (own T sz s xs.length cs :: L) (ownS R sz w T H s xs :: L) := fun h ⟨h3, h4, p, q, d, l1, l2⟩ => ⟨h3, h4, ⟨cs, ⟨h1, h2⟩, p⟩, q, d, l1, l2⟩
theorem ownS_shape {h : Heap} (ho : ownS R sz w T H s xs h) : ∃ base cap, s = .slice base xs.length cap ∧ xs.length ≤ cap ∧ cap ≤ 9223372036854775807 := by obtain ⟨cs, _, a⟩ := ho; exact (own_shape a).1
theorem ownS_small {h : Heap} (ho : ownS R sz w T H s xs h) : xs.length * w ≤ cap47 := by obtain ⟨cs, a, _⟩ := ho; exact a.2
theorem ownS_reads [RdOk R sz] {h : Heap} (ho : ownS R sz w T H s xs h) (hH : H.le H') (hl : h.le H') : SlB R sz w H' s xs := by
  obtain ⟨cs, ⟨a, b⟩, c⟩ := ho
  exact ⟨⟨cs, own_reads c hl a.one, a.mono hH⟩, b⟩
end
class HasS (L : List HProp) (s : Value) (α : outParam Type) (R : outParam (Rd α)) (sz w T : outParam Nat) (H : outParam Heap) (xs : outParam (List α)) (L' : outParam (List HProp)) : Prop where
  has : Has L (ownS R sz w T H s xs) L'
section
variable {s : Value} {α : Type} {R : Rd α} {sz w T : Nat} {H : Heap} {xs : List α} {L L' B : List HProp} {A : HProp}
instance : HasS (ownS R sz w T H s xs :: L) s α R sz w T H xs L := ⟨.here⟩
instance [h : HasS L s α R sz w T H xs L'] : HasS (A :: L) s α R sz w T H xs (A :: L') := ⟨.there h.has⟩
instance [h : HasS (A :: (B ++ L)) s α R sz w T H xs L'] : HasS ((A :: B) ++ L) s α R sz w T H xs L' := ⟨h.has⟩
end
section
variable {P : Program} {n : NF} {W0 : GW} {Q : Exit → Act → GW → Prop} {F : Slots} {H : Heap} {L : List HProp} {ops : Array Oper} {rest : List Oper} {k : List Fr} {e : Exit} {c : Code}
theorem ops_L {L' : List HProp} (hs : Sub L L') (h : Ops P n W0 Q F H L' false ops rest k) : Ops P n W0 Q F H L false ops rest k := ⟨sat_sub h.run hs⟩
theorem ops_open {σ : Type} {A : HProp} {B : σ → List HProp} {p : σ → Prop} {R : List HProp} (hh : Has L A R) (hu : ∀ h, A h → ∃ s, p s ∧ big (B s) h) (h : ∀ s, p s → Ops P n W0 Q F H (B s ++ R) false ops rest k) : Ops P n W0 Q F H L false ops rest k := ⟨sat_unfold hh hu fun s hp => (h s hp).run⟩
theorem ops_shape {α : Type} {R : Rd α} {sz w T : Nat} {H0 : Heap} {xs : List α} {L' : List HProp} (s : Value) [hh : HasS L s α R sz w T H0 xs L'] (h : ∀ base cap, s = .slice base xs.length cap → xs.length ≤ cap → cap ≤ 9223372036854775807 → xs.length * w ≤ cap47 → Ops P n W0 Q F H L false ops rest k) : Ops P n W0 Q F H L false ops rest k :=
  ⟨sat_know hh.has (fun _ ho => And.intro (ownS_shape ho) (ownS_small ho)) fun ⟨⟨b, c, e, h1, h2⟩, h3⟩ => (h b c e h1 h2 h3).run⟩
theorem ops_freeze {α : Type} {R : Rd α} {sz w T : Nat} {H0 : Heap} {xs : List α} {L' : List HProp} (s : Value) [hh : HasS L s α R sz w T H0 xs L'] [hR : RdOk R sz] (h : ∀ H', H.le H' → SlB R sz w H' s xs → Ops P n W0 Q F H' L' false ops rest k) (hl : H0.le H := by first | exact Go.Sx.Heap.le.refl _ | assumption | ((try simp only [Go.Sx.le_self] at *); (repeat (first | exact Go.Sx.Heap.le.refl _ | assumption | refine Go.Sx.Heap.le.trans ?_ ‹Go.Sx.Heap.le _ _›)))) : Ops P n W0 Q F H L false ops rest k :=
  ⟨sat_unfold (σ := List Value) (B := fun cs => [own T sz s xs.length cs]) (p := fun cs => RL R H0 cs xs ∧ xs.length * w ≤ cap47) hh.has (fun x ⟨cs, a, b⟩ => ⟨cs, a, ⟨x, Heap.empty, b, trivial, fun _ => .inr rfl, .refl _, fun _ _ h => by simp [Heap.empty] at h⟩⟩)
    fun cs ⟨a, b⟩ => sat_freeze_own .here a.one fun H' hl' hs => (h H' hl' ⟨⟨cs, hs, a.mono (hl.trans hl')⟩, b⟩).run⟩
theorem ex_L {L' : List HProp} (hs : Sub L L') (h : Ex P n W0 Q F H L' c k) : Ex P n W0 Q F H L c k := ⟨sat_sub h.run hs⟩
theorem ex_shape {α : Type} {R : Rd α} {sz w T : Nat} {H0 : Heap} {xs : List α} {L' : List HProp} (s : Value) [hh : HasS L s α R sz w T H0 xs L'] (h : ∀ base cap, s = .slice base xs.length cap → xs.length ≤ cap → cap ≤ 9223372036854775807 → xs.length * w ≤ cap47 → Ex P n W0 Q F H L c k) : Ex P n W0 Q F H L c k :=
  ⟨sat_know hh.has (fun _ ho => And.intro (ownS_shape ho) (ownS_small ho)) fun ⟨⟨b, c, e, h1, h2⟩, h3⟩ => (h b c e h1 h2 h3).run⟩
theorem ex_freeze {α : Type} {R : Rd α} {sz w T : Nat} {H0 : Heap} {xs : List α} {L' : List HProp} (s : Value) [hh : HasS L s α R sz w T H0 xs L'] [hR : RdOk R sz] (h : ∀ H', H.le H' → SlB R sz w H' s xs → Ex P n W0 Q F H' L' c k) (hl : H0.le H := by first | exact Go.Sx.Heap.le.refl _ | assumption | ((try simp only [Go.Sx.le_self] at *); (repeat (first | exact Go.Sx.Heap.le.refl _ | assumption | refine Go.Sx.Heap.le.trans ?_ ‹Go.Sx.Heap.le _ _›)))) : Ex P n W0 Q F H L c k :=
  ⟨sat_unfold (σ := List Value) (B := fun cs => [own T sz s xs.length cs]) (p := fun cs => RL R H0 cs xs ∧ xs.length * w ≤ cap47) hh.has (fun x ⟨cs, a, b⟩ => ⟨cs, a, ⟨x, Heap.empty, b, trivial, fun _ => .inr rfl, .refl _, fun _ _ h => by simp [Heap.empty] at h⟩⟩)
    fun cs ⟨a, b⟩ => sat_freeze_own .here a.one fun H' hl' hs => (h H' hl' ⟨⟨cs, hs, a.mono (hl.trans hl')⟩, b⟩).run⟩
theorem out_freeze {α : Type} {R : Rd α} {sz w T : Nat} {H0 : Heap} {xs : List α} {L' : List HProp} (s : Value) [hh : HasS L s α R sz w T H0 xs L'] [hR : RdOk R sz] (h : ∀ H', H.le H' → SlB R sz w H' s xs → Out P n W0 Q F H' L' e k) (hl : H0.le H := by first | exact Go.Sx.Heap.le.refl _ | assumption | ((try simp only [Go.Sx.le_self] at *); (repeat (first | exact Go.Sx.Heap.le.refl _ | assumption | refine Go.Sx.Heap.le.trans ?_ ‹Go.Sx.Heap.le _ _›)))) : Out P n W0 Q F H L e k :=
  ⟨sat_unfold (σ := List Value) (B := fun cs => [own T sz s xs.length cs]) (p := fun cs => RL R H0 cs xs ∧ xs.length * w ≤ cap47) hh.has (fun x ⟨cs, a, b⟩ => ⟨cs, a, ⟨x, Heap.empty, b, trivial, fun _ => .inr rfl, .refl _, fun _ _ h => by simp [Heap.empty] at h⟩⟩)
    fun cs ⟨a, b⟩ => sat_freeze_own .here a.one fun H' hl' hs => (h H' hl' ⟨⟨cs, hs, a.mono (hl.trans hl')⟩, b⟩).run⟩
theorem ops_rowS {α : Type} {R : Rd α} {sz w T : Nat} {H0 : Heap} {xs : List α} {L' : List HProp} (s : Value) [hh : HasS L s α R sz w T H0 xs L'] (h0 : 0 < xs.length)
    (h : ∀ b cap cs sp, s = .slice (some ⟨b, 0, none⟩) xs.length cap → xs.length ≤ cap → cap ≤ 9223372036854775807 → cs.length = xs.length * sz → (cs ++ sp).length = cap * sz → RL R H0 cs xs → xs.length * w ≤ cap47 → Ops P n W0 Q F H (row b T (cs ++ sp) :: L') false ops rest k) : Ops P n W0 Q F H L false ops rest k :=
  ⟨sat_unfold (σ := List Value) (B := fun cs => [own T sz s xs.length cs]) (p := fun cs => RL R H0 cs xs ∧ xs.length * w ≤ cap47) hh.has (fun x ⟨cs, a, b⟩ => ⟨cs, a, ⟨x, Heap.empty, b, trivial, fun _ => .inr rfl, .refl _, fun _ _ h => by simp [Heap.empty] at h⟩⟩)
    fun cs ⟨a, hb⟩ => sat_unfold (σ := Nat × Nat × List Value) (B := fun s => [row s.1 T (cs ++ s.2.2)]) (p := fun x => s = .slice (some ⟨x.1, 0, none⟩) xs.length x.2.1 ∧ xs.length ≤ x.2.1 ∧ x.2.1 ≤ 9223372036854775807 ∧ cs.length = xs.length * sz ∧ (cs ++ x.2.2).length = x.2.1 * sz) .here (fun h ho => own_open h0 ho)
      fun ⟨b, cap, sp⟩ ⟨h1, h2, h3, h4, h5⟩ => (h b cap cs sp h1 h2 h3 h4 h5 a hb).run⟩
theorem ex_rowS {α : Type} {R : Rd α} {sz w T : Nat} {H0 : Heap} {xs : List α} {L' : List HProp} (s : Value) [hh : HasS L s α R sz w T H0 xs L'] (h0 : 0 < xs.length)
    (h : ∀ b cap cs sp, s = .slice (some ⟨b, 0, none⟩) xs.length cap → xs.length ≤ cap → cap ≤ 9223372036854775807 → cs.length = xs.length * sz → (cs ++ sp).length = cap * sz → RL R H0 cs xs → xs.length * w ≤ cap47 → Ex P n W0 Q F H (row b T (cs ++ sp) :: L') c k) : Ex P n W0 Q F H L c k :=
  ⟨sat_unfold (σ := List Value) (B := fun cs => [own T sz s xs.length cs]) (p := fun cs => RL R H0 cs xs ∧ xs.length * w ≤ cap47) hh.has (fun x ⟨cs, a, b⟩ => ⟨cs, a, ⟨x, Heap.empty, b, trivial, fun _ => .inr rfl, .refl _, fun _ _ h => by simp [Heap.empty] at h⟩⟩)
    fun cs ⟨a, hb⟩ => sat_unfold (σ := Nat × Nat × List Value) (B := fun s => [row s.1 T (cs ++ s.2.2)]) (p := fun x => s = .slice (some ⟨x.1, 0, none⟩) xs.length x.2.1 ∧ xs.length ≤ x.2.1 ∧ x.2.1 ≤ 9223372036854775807 ∧ cs.length = xs.length * sz ∧ (cs ++ x.2.2).length = x.2.1 * sz) .here (fun h ho => own_open h0 ho)
      fun ⟨b, cap, sp⟩ ⟨h1, h2, h3, h4, h5⟩ => (h b cap cs sp h1 h2 h3 h4 h5 a hb).run⟩
end
section
variable {P : Program} {n : NF} {W0 : GW} {Q : Exit → Act → GW → Prop} {F : Slots} {H : Heap} {L : List HProp} {ops : Array Oper} {rest : List Oper} {k : List Fr} {ty ty' : TypeId} {pos pos' : String} {aft aft' : Array Edge} {d d' : Tmp} {g g' : Option (Nat × Bool)}
  {α : Type} {R : Rd α} {sz w T : Nat} {H0 : Heap} {xs ys : List α} {y : α} {L' : List HProp} {sv xv z : Value} {us : List Value} {gv gv' : Option (Value × Bool)}
theorem ops_app1 {t : TypeId} {s x : Operand} [hT : TSl P t T] [hI : TIn P T sz w z] [hS' : TSz P T sz] [hZ : TZ P T z] [hR : RdOk R sz] (hg : gval ops F g = some gv) [hb : GOk gv true] (hg' : gval ops F g' = some gv') [hb' : GOk gv' true]
    (hv : opvs F [s, x] = some [sv, xv]) [hc : CellsI xv us] [hh : HasS L sv α R sz w T H0 xs L'] (hy : R H us y) (hcap : (xs.length + 1) * w ≤ cap47)
    (hk : ∀ base cap, Ops P n W0 Q ((d', .slice base (xs.length + 1) cap) :: F) H (ownS R sz w T H (.slice base (xs.length + 1) cap) (xs ++ [y]) :: L') false ops rest k)
    (hl : H0.le H := by first | exact Go.Sx.Heap.le.refl _ | assumption | ((try simp only [Go.Sx.le_self] at *); (repeat (first | exact Go.Sx.Heap.le.refl _ | assumption | refine Go.Sx.Heap.le.trans ?_ ‹Go.Sx.Heap.le _ _›)))) (h0 : (Nat.blt 0 sz && Nat.ble sz 1000 && Nat.blt 0 w) = true := by rfl) (hn : fget F d = none := by rfl) (hne : Nat.beq d d' = false := by rfl) (hd : Nat.blt d n = true := by rfl) (hd' : Nat.blt d' n = true := by rfl)
    (hs0 : ∀ u, opv ((d, u) :: F) s = opv F s := by intro u; rfl) :
    Ops P n W0 Q F H L false ops (⟨some d, .buildSlice t 1 #[(0, x)], ty, pos, aft, g⟩ :: ⟨some d', .call ⟨.builtin .append, #[s, .tmp d], #[t, t]⟩, ty', pos', aft', g'⟩ :: rest) k := by
  obtain ⟨hvs, hvx⟩ := opvs2 hv
  simp only [Bool.and_eq_true] at h0
  have hwpos : 0 < w := by simpa [Nat.blt_eq] using h0.2
  have hzs : z.cells.size = sz := by obtain ⟨_, _, _, _, _, h, _⟩ := hI.ex; exact h
  refine ops_w hg hd (op_buildSlice1 (z := z) hvx hc.h (hR.len hy) hzs (by simp [h0.1]) fun b hbn => ?_)
  refine ops_open (σ := List Value) (B := fun cs => [own T sz sv xs.length cs]) (p := fun cs => RL R H0 cs xs ∧ xs.length * w ≤ cap47) (.there hh.has) (fun x ⟨cs, a, b⟩ => ⟨cs, a, ⟨x, Heap.empty, b, trivial, fun _ => .inr rfl, .refl _, fun _ _ h => by simp [Heap.empty] at h⟩⟩) fun cs ⟨a, hsm⟩ => ?_
  have hc47 := cap47_fits hwpos hcap
  refine ops_w (gval_new hn hg') hd' (op_append (m := xs.length) (k := 1) (news := us) (xv := .slice (some ⟨b, 0, none⟩) 1 1) ((hs0 _).trans hvs) (by simp [opv, fget]) .here (.row0 hT.und (.there .here) (by simpa using hR.len hy) (hR.one hy)) (by simp only [maxLen]; simp only [cap47] at hc47; omega) hcap fun base cap => ?_)
  refine ops_fsub (fsub_new hn) (ops_L ?_ (hk base cap))
  intro h ⟨h1, h2, p, q, dd, l1, l2⟩
  refine ⟨h1, h2, ⟨cs ++ us, ⟨(a.mono hl).snoc hy, by simpa using hcap⟩, by simpa using p⟩, ?_, dd, l1, l2⟩
  exact Sub.drop (Sub.refl _) _ q
theorem ops_appS {t : TypeId} {s x : Operand} [hT : TSl P t T] [hI : TIn P T sz w z] [hR : RdOk R sz] (hg : gval ops F g = some gv) [hb : GOk gv true] (hv : opvs F [s, x] = some [sv, xv]) [hh : HasS L sv α R sz w T H0 xs L'] (hy : SlR R sz H xv ys) (hcap : (xs.length + ys.length) * w ≤ cap47)
    (hk : ∀ base cap, Ops P n W0 Q ((d, .slice base (xs.length + ys.length) cap) :: F) H (ownS R sz w T H (.slice base (xs.length + ys.length) cap) (xs ++ ys) :: L') false ops rest k)
    (hl : H0.le H := by first | exact Go.Sx.Heap.le.refl _ | assumption | ((try simp only [Go.Sx.le_self] at *); (repeat (first | exact Go.Sx.Heap.le.refl _ | assumption | refine Go.Sx.Heap.le.trans ?_ ‹Go.Sx.Heap.le _ _›)))) (h0 : (Nat.blt 0 w) = true := by rfl) (hd : Nat.blt d n = true := by rfl) :
    Ops P n W0 Q F H L false ops (⟨some d, .call ⟨.builtin .append, #[s, x], #[t, t]⟩, ty, pos, aft, g⟩ :: rest) k := by
  obtain ⟨hvs, hvx⟩ := opvs2 hv
  have hwpos : 0 < w := by simpa [Nat.blt_eq] using h0
  obtain ⟨ds, hy1, hy2⟩ := hy
  refine ops_open (σ := List Value) (B := fun cs => [own T sz sv xs.length cs]) (p := fun cs => RL R H0 cs xs ∧ xs.length * w ≤ cap47) hh.has (fun x ⟨cs, a, b⟩ => ⟨cs, a, ⟨x, Heap.empty, b, trivial, fun _ => .inr rfl, .refl _, fun _ _ h => by simp [Heap.empty] at h⟩⟩) fun cs ⟨a, hsm⟩ => ?_
  have hc47 := cap47_fits hwpos hcap
  refine ops_w hg hd (op_append (m := xs.length) (k := ys.length) (news := ds) hvs hvx .here (.ro hT.und hy1) (by simp only [maxLen]; simp only [cap47] at hc47; omega) hcap fun base cap => ?_)
  refine ops_L ?_ (hk base cap)
  intro h ⟨h1, h2, p, q, dd, l1, l2⟩
  exact ⟨h1, h2, ⟨cs ++ ds, ⟨(a.mono hl).app hy2, by simpa using hcap⟩, by simpa using p⟩, q, dd, l1, l2⟩
theorem ops_mk0 (R : Rd α) {t : TypeId} [hT : TSl P t T] [hS' : TSz P T sz] [hR : RdOk R sz] (hg : gval ops F g = some gv) [hb : GOk gv true] (hk : ∀ b, Ops P n W0 Q ((d, .slice b 0 0) :: F) H (ownS R sz w T H (.slice b 0 0) [] :: L) false ops rest k) (hd : Nat.blt d n = true := by rfl) :
    Ops P n W0 Q F H L false ops (⟨some d, .buildSlice t 0 #[], ty, pos, aft, g⟩ :: rest) k :=
  ops_w hg hd (op_buildSlice0 fun b _ => ops_L ((Sub.drop (Sub.refl _)).trans ownS_nil) (hk _))
end
end Go.Sx
namespace Go.Sx
open Go Go.X
def restC : List Oper → Nat → Option (List Oper)
  | l, 0 => some l
  | [], _ + 1 => some []
  | _ :: l, n + 1 => restC l n
theorem restC_eq : ∀ {l : List Oper} {n : Nat} {r : List Oper}, restC l n = some r → l.drop n = r
  | l, 0, r, h => by simpa [restC] using h
  | [], _ + 1, r, h => by simpa [restC] using h
  | _ :: l, n + 1, r, h => by simp only [restC] at h; simpa using restC_eq h
section
variable (P : Program) (n : NF) (W0 : GW) (Q : Exit → Act → GW → Prop) (F : Slots) (H H0 : Heap) (L L0 : List HProp)
end
section
variable {P : Program} {n : NF} {W0 : GW} {Q : Exit → Act → GW → Prop} {F : Slots} {H H0 : Heap} {L L0 : List HProp} {m fuel : Nat} {ops : Array Oper} {listed : Array Bool} {k : List Fr} {op : Op} {ty : TypeId} {pos : String} {aft : Array Edge} {d : Tmp} {v : Value} {vs : List Value}
section
variable {K : Value → Heap → List HProp → Prop} {dst : Option Tmp} {g : Option (Nat × Bool)} {o : Oper}
theorem OpW.sub (h : OpW P n W0 o F H L (fun v H' L' => ∃ L'', Sub L' L'' ∧ K v H' L'')) : OpW P n W0 o F H L K := fun a w next hF hS hn => h a w next hF hS fun v H' L' w' hl ⟨L'', hs, hk⟩ hst => hn v H' L'' w' hl hk (hst.sub hs)
variable {α : Type} {R : Rd α} {sz wd T : Nat} {H1 : Heap} {xs ys : List α} {y : α} {L' : List HProp} {sv xv z : Value} {us : List Value} {t : TypeId} {s x : Operand}
end
end
end Go.Sx
namespace Go.Sx
open Go Go.X
section
variable {α : Type} {R : Rd α} {sz : Nat} {H : Heap}
theorem RL.set [hR : RdOk R sz] : ∀ {cs us : List Value} {xs : List α} {j : Nat} {y : α}, RL R H cs xs → R H us y → j < xs.length → RL R H (cs.take (j * sz) ++ us ++ cs.drop (j * sz + us.length)) (xs.set j y) := by
  intro cs us xs j y h hy hj
  have h1 := h.take (k := j) (by omega)
  have h2 := h.drop (k := j + 1) (by omega)
  have e : xs.set j y = xs.take j ++ [y] ++ xs.drop (j + 1) := by
    rw [List.set_eq_take_append_cons_drop, if_pos hj]; simp
  rw [e, hR.len hy, show j * sz + sz = (j + 1) * sz by rw [Nat.add_mul]; omega]
  exact (h1.snoc hy).app h2
end
section
variable {P : Program} {n : NF} {W0 : GW} {Q : Exit → Act → GW → Prop} {F : Slots} {H H0 : Heap} {L L0 : List HProp} {m fuel : Nat} {ops : Array Oper} {listed : Array Bool} {k : List Fr} {op : Op} {ty ty' : TypeId} {pos pos' : String} {aft aft' : Array Edge} {d : Tmp} {v : Value} {vs : List Value} {rest : List Oper} {g : Option (Nat × Bool)} {gv : Option (Value × Bool)}
theorem ops_stS {α : Type} {R : Rd α} {sz w T : Nat} {HS : Heap} {xs : List α} {L' : List HProp} {t : TypeId} {x i y : Operand} {ii : Int} {j : Nat} {kd : IntKind} {yv : Value} {us : List Value} {y' : α} [hR : RdOk R sz] [TSl P t T] [hsz : TSz P T sz]
    (hg : gval ops F g = some gv) [hb : GOk gv true] (hv : opvs F [x, i] = some [v, .int kd ii]) [hi : NatOf ii j] (hyv : opv F y = some yv) [hc : CellsI yv us] [hh : HasS L v α R sz w T HS xs L'] (hy : R HS us y') (hj : j < xs.length)
    (hk : Ops P n W0 Q F H (ownS R sz w T HS v (xs.set j y') :: L') false ops rest k) (hn : fget F d = none := by rfl) (hd : Nat.blt d n = true := by rfl) (hs0 : ∀ u, opv ((d, u) :: F) y = opv F y := by intro u; rfl) :
    Ops P n W0 Q F H L false ops (⟨some d, .indexAddr t x i, ty, pos, aft, g⟩ :: ⟨none, .store T (.tmp d) y, ty', pos', aft', none⟩ :: rest) k := by
  obtain ⟨rfl⟩ := hi
  obtain ⟨hvx, hvy⟩ := opvs2 hv
  have hne : 0 < xs.length := by omega
  refine ops_rowS v hne fun b cap cs sp e h1 h2 h3 h4 hr hsm => ?_
  have hul := hR.len hy
  have hmul : (j + 1) * sz ≤ xs.length * sz := Nat.mul_le_mul_right _ hj
  rw [Nat.add_mul, Nat.one_mul] at hmul
  subst e
  refine ops_pure hg hd (op_indexAddr (i := (j : Int)) hvx hvy (by omega) (by omega)) ?_
  refine ops_n (op_storeAt (vs := us) (off := j * sz) (by simp [opv, fget]) ((hs0 _).trans hyv) hc.h hul (hR.one hy) .here (by rw [List.length_append]; omega) ?_)
  refine ops_fsub (F := F) ?_ (ops_L ?_ hk)
  · intro t w ht
    rw [fget_cons]
    split
    · rename_i e; subst e; rw [hn] at ht; cases ht
    · exact ht
  · refine Sub.trans (own_set h3 h1 h2 h4 (by omega)) ?_
    have hset := hr.set hy hj
    have hl2 : (xs.set j y').length = xs.length := by simp
    rw [← hl2]
    exact ownS_mk hset (by rw [hl2]; exact hsm)
end
end Go.Sx
namespace Go.Sx
open Go Go.X Go.ChangeShapes Go.WideShapes Go.ChangeAt Go.RowKit
theorem st_below {W w' : World} (h1 : w'.os = W.os) (h2 : w'.tape = W.tape) (h3 : w'.output = W.output) (h : (rp W).le (rp w')) : Below W.heap.size W w' := by
  refine ⟨h1, h2, h3, ?_, fun k hk => ?_⟩
  · refine Nat.le_of_not_lt fun hlt => ?_
    have : rp W w'.heap.size = some W.heap[w'.heap.size] := by simp [rp, hlt]
    have := (Array.getElem?_eq_some_iff.1 (h _ _ this)).1
    omega
  · have e : rp W k = some W.heap[k] := by simp [rp, hk]
    exact (h k _ e).trans e.symm
section
variable {H : Type} {enc : TypeId × Value → H} {P : Program} {W W' : World}
def tysOk (P : Program) (ts : List TypeId) : Bool := ts.all fun t => P.readableRec t && decide (t < P.types.size)
theorem trodAll_below (hl : laidOutB P = true) (hB : Below W.heap.size W W') : ∀ {ts : List TypeId} {vs : List Value} {ds : List (DataW H)} {ps : List MemPlace}, tysOk P ts = true →
    DataW.TrodAll enc P W 0 (fun _ => true) true ts vs ds ps → (∀ x ∈ ps, x.block < W.heap.size) → DataW.TrodAll enc P W' 0 (fun b => decide (b < W.heap.size)) true ts vs ds ps
  | [], vs, ds, ps, _, h, _ => by
    obtain ⟨rfl, rfl, rfl⟩ := trodAll_nil h
    exact rfl
  | t :: ts, vs, ds, ps, ht, h, hlt => by
    obtain ⟨v, vs', d, ds', p, q, rfl, rfl, rfl, h1, h2⟩ := trodAll_cons h
    simp only [tysOk, List.all_cons, Bool.and_eq_true, decide_eq_true_eq] at ht
    exact ⟨p, q, Below.trod hl ht.1.1 ht.1.2 h1 hB (fun x hx => hlt x (List.mem_append_left _ hx)), trodAll_below hl hB (by simpa [tysOk] using ht.2) h2 (fun x hx => hlt x (List.mem_append_right _ hx)), rfl⟩
theorem post_law {f : Func} {s : ChangeSpec} {args : Array Value} {ds : List (DataW H)} {before : List MemPlace} {v : Value} (hl : laidOutB P = true) (hts : tysOk P f.params.toList = true) (hv : s.vars = [])
    (hW : DataW.Whole enc P f.params.toList s.vars false W args.toList ds [] before) (hB : Below W.heap.size W W')
    (hargs : (s.fn H (ds ++ [])).args = ds) (hvars : (s.fn H (ds ++ [])).vars = [])
    (hres : ∀ b sp hd, DataW.TrodAll enc P W' b sp hd f.resultTypes.toList (v.resultList f.resultTypes.size) (s.fn H (ds ++ [])).results []) :
    s.post enc P f false true false false W args v W' := by
  have hlt := hW.lt
  have hW2 := hW
  obtain ⟨p, q, hA, hV, rfl, _, _⟩ := hW2
  rw [hv] at hV
  obtain ⟨-, rfl⟩ := trodVars_none hV
  refine ⟨ds, [], _, [], p, [], hW, hres _ _ _, ?_, ?_, hB.frame _, fun h => by cases h⟩
  · rw [hargs]; exact trodAll_below hl hB hts hA (fun x hx => hlt x (List.mem_append_left _ hx))
  · rw [hvars, hv]; exact rfl
theorem agg_of {v : Value} {cs : List Value} (h : v.cells.toList = cs) (hn : cs.length ≠ 1) : v = .agg cs.toArray := by
  subst h
  cases v <;> simp_all [Value.cells]
theorem arg_rds {α : Type} {R : Rd α} {t : TypeId} (hR : Rds P t R) {v : Value} {d : DataW H} {ps : List MemPlace} (h : DataW.Trod enc P W 0 (fun _ => true) true t v d ps) (hw : Wts P t d) : ∃ y, R (rp W) v.cells.toList y := by
  obtain ⟨fuel, hf⟩ := h
  exact hR hf hw
theorem wts_all {ts : List TypeId} {ds : List (DataW H)} (h : (DataW.weightsEach P ts ds).all (· ≤ reachBytes) = true) {i : Nat} {t : TypeId} {d : DataW H} (ht : ts[i]? = some t) (hd : ds[i]? = some d) : Wts P t d := fun x hx => by
  have := (List.all_eq_true.1 h) x (mem_weightsEach ht hd hx)
  simpa using this
theorem law_end {f : Func} {s : ChangeSpec} {args : Array Value} {ds : List (DataW H)} {before : List MemPlace}
    (hl : laidOutB P = true) (hts : tysOk P f.params.toList = true) (hv : s.vars = []) (hW : DataW.Whole enc P f.params.toList s.vars false W args.toList ds [] before)
    (hargs : (s.fn H (ds ++ [])).args = ds) (hvars : (s.fn H (ds ++ [])).vars = []) (hres : ∀ b sp hd, DataW.TrodAll enc P W' b sp hd f.resultTypes.toList ((Value.bool true).resultList f.resultTypes.size) (s.fn H (ds ++ [])).results [])
    (h1 : W'.os = W.os) (h2 : W'.tape = W.tape) (h3 : W'.output = W.output) (h : (rp W).le (rp W')) : s.post enc P f false true false false W args (.bool true) W' :=
  post_law hl hts hv hW (st_below h1 h2 h3 h) hargs hvars hres
end
end Go.Sx
namespace Go.Sx
open Go Go.X
section
variable {q : Bool} {P : Program} {n : NF} {W0 : GW} {Q : Exit → Act → GW → Prop} {F : Slots} {H : Heap} {L : List HProp} {ops : Array Oper} {rest : List Oper} {k : List Fr} {ty : TypeId} {pos : String} {aft : Array Edge} {d : Tmp} {v : Value} {g : Option (Nat × Bool)} {gv : Option (Value × Bool)}
end
end Go.Sx
namespace Go.Sx
open Go Go.X
section
variable {P : Program} {x y : Operand} {T T' : TypeId} [TBo P T]
end
section
variable {P : Program} {n : NF} {W0 : GW} {Q : Exit → Act → GW → Prop} {F : Slots} {H H0 : Heap} {L L0 : List HProp} {m fuel : Nat} {ops : Array Oper} {listed : Array Bool} {k : List Fr} {op : Op} {ty : TypeId} {pos : String} {aft : Array Edge} {d : Tmp} {v : Value} {vs : List Value}
theorem wanted_T {g : Option (Nat × Bool)} {gv : Option (Value × Bool)} (hg : gval ops F g = some gv) [hb : GOk gv true] {a : Act} (hF : FrOk n a F) : Region.wanted ⟨some d, op, ty, pos, aft, g⟩ (yielded ops a.tmps) = true := by
  cases g with
  | none => simp [Region.wanted]
  | some jw =>
    obtain ⟨j, w⟩ := jw
    obtain ⟨dj, u, hj, hu, hw, _⟩ := gval_spec (b := true) hg
    rw [hw rfl] at hu
    simp [Region.wanted, hF.yielded hj hu, vb]
theorem wanted_F {g : Option (Nat × Bool)} {gv : Option (Value × Bool)} (hg : gval ops F g = some gv) [hb : GOk gv false] {a : Act} (hF : FrOk n a F) : Region.wanted ⟨some d, op, ty, pos, aft, g⟩ (yielded ops a.tmps) = false := by
  cases g with
  | none => cases hg; exact absurd hb.h (by simp)
  | some jw =>
    obtain ⟨j, w⟩ := jw
    obtain ⟨dj, u, hj, hu, _, hw⟩ := gval_spec (b := false) hg
    have hn : vb u ≠ some w := by have := hw rfl; clear hu; cases u <;> simp_all [gno, vb]
    simp only [Region.wanted, hF.yielded hj hu, beq_eq_false_iff_ne]; exact hn
end
end Go.Sx
