/- Slices that are read, owned slices, append. No program in sight. -/
import Derived.Test.YtnfmjkjhiolfdaaDoorSx4
namespace Go.Sx
open Go

/-- the cells of a slice that is only read -/
def SlcR (H : Heap) (sz : Nat) (v : Value) (m : Nat) (cs : List Value) : Prop :=
  ∃ base cap, v = .slice base m cap ∧ (m ≤ cap ∧ cap ≤ 9223372036854775807) ∧ cs.length = m * sz ∧ cs.all (·.oneCell') = true ∧ (m = 0 ∨ ∃ b off, base = some ⟨b, off, none⟩ ∧ HRow H b off cs)
theorem SlcR.mono {H H' : Heap} (hl : H.le H') {sz m : Nat} {v : Value} {cs : List Value} (h : SlcR H sz v m cs) : SlcR H' sz v m cs := by
  obtain ⟨base, cap, a, b, c, d, e⟩ := h
  exact ⟨base, cap, a, b, c, d, e.imp id fun ⟨b, off, x, y⟩ => ⟨b, off, x, y.mono hl⟩⟩
theorem SlcR.nil (H : Heap) (sz : Nat) (base : Option Addr) (cap : Nat) (hc : cap ≤ 9223372036854775807) : SlcR H sz (.slice base 0 cap) 0 [] := ⟨base, cap, rfl, ⟨Nat.zero_le _, hc⟩, by simp, rfl, .inl rfl⟩
/-- with the address at hand -/
theorem SlcR.cases {H : Heap} {sz : Nat} {v : Value} {m : Nat} {cs : List Value} (h : SlcR H sz v m cs) (hm : 0 < m) : ∃ b off cap, v = .slice (some ⟨b, off, none⟩) m cap ∧ (m ≤ cap ∧ cap ≤ 9223372036854775807) ∧ cs.length = m * sz ∧ HRow H b off cs := by
  obtain ⟨base, cap, a, b, c, d, e⟩ := h
  rcases e with e | ⟨x, off, rfl, hr⟩
  · omega
  · exact ⟨x, off, cap, a, b, c, hr⟩
theorem SlcR.shape {H : Heap} {sz : Nat} {v : Value} {m : Nat} {cs : List Value} (h : SlcR H sz v m cs) : ∃ base cap, v = .slice base m cap ∧ m ≤ cap ∧ cap ≤ 9223372036854775807 := by
  obtain ⟨base, cap, a, b, _⟩ := h
  exact ⟨base, cap, a, b.1, b.2⟩
section
variable {P : Program} {n : Nat} {W0 : World} {F : Slots} {H : Heap} {L : List HProp} {K : Value → Heap → List HProp → Prop} {dst : Option Tmp} {ty : TypeId} {pos : String} {aft : Array Edge} {g : Option (Nat × Bool)}
/-- the place of an element of a slice that is only read -/
theorem op_indexR {T e sz : Nat} {x y : Operand} {v : Value} {m : Nat} {cs : List Value} {i : Int} {k : IntKind} [h : TSl P T e] [hs : TSz P e sz] (hx : opv F x = some v) (hy : opv F y = some (.int k i)) (hr : SlcR H sz v m cs)
    (h0 : 0 ≤ i) (h1 : i < m) (hk : ∀ b off, HRow H b off (cs.drop (i.toNat * sz)) → K (.pointer (some ⟨b, off, none⟩)) H L) : OpW P n W0 ⟨dst, .indexAddr T x y, ty, pos, aft, g⟩ F H L K := by
  obtain ⟨b, off, cap, rfl, hc, hl, hrow⟩ := hr.cases (by omega)
  refine (op_indexAddr hx hy h0 h1).toW (hk b (off + i.toNat * sz) fun j u hj => ?_)
  have h2 : cs[i.toNat * sz + j]? = some u := by rw [List.getElem?_drop] at hj; exact hj
  have := hrow _ u h2
  rw [Nat.add_assoc]; exact this
end
end Go.Sx
