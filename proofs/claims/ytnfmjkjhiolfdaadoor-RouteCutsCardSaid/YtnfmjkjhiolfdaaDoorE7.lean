/- Rows written and read whole; a truth value by itself. No program in sight. -/
import Derived.Test.YtnfmjkjhiolfdaaDoorE6
set_option linter.unusedVariables false
set_option linter.unusedSimpArgs false
namespace Go.Sx
open Go
section
variable {q : Bool} {P : Program} {n : Nat} {W0 : World} {Q : Exit → Act → World → Prop} {F : Slots} {H : Heap} {L : List HProp} {ops : Array Oper} {rest : List Oper} {k : List Fr} {ty : TypeId} {pos : String} {aft : Array Edge} {d : Tmp} {v : Value} {g : Option (Nat × Bool)} {gv : Option (Value × Bool)}
instance (priority := low) {x : Operand} {T : TypeId} {b : Bool} : POp P (.unOp .not T x) [.bool b] True (.bool !b) := ⟨fun _ h => op_not (opvs1 h)⟩
/-- a row, written whole -/
theorem ops_stall {x y : Operand} {t : TypeId} {b T m : Nat} {cs us : List Value} {R : List HProp} [TSz P t m] (hv : opvs F [x, y] = some [.pointer (some ⟨b, 0, none⟩), .agg us.toArray]) [h : HasRow L b T cs R] (hl : us.length = m) (hcs : cs.length = m) (h1 : us.all (·.oneCell') = true)
    (hk : Ops P n W0 Q F H (row b T us :: R) false ops rest k) : Ops P n W0 Q F H L false ops (⟨none, .store t x y, ty, pos, aft, none⟩ :: rest) k := by
  refine ops_n (op_storeAt (off := 0) (vs := us) (opvs2 hv).1 (opvs2 hv).2 rfl hl h1 h.has (by omega) ?_)
  rw [List.take_zero, List.nil_append, Nat.zero_add, List.drop_eq_nil_of_le (by omega), List.append_nil]
  exact hk
/-- .. read whole -/
theorem ops_ldall {x : Operand} {t : TypeId} {b T m : Nat} {us : List Value} {R : List HProp} [TAgg P t true] [TSz P t m] (hg : gval ops F g = some gv) [hb : GOk gv true] (hx : opv F x = some (.pointer (some ⟨b, 0, none⟩))) [h : HasRow L b T us R] (hl : us.length = m)
    (hk : Ops P n W0 Q ((d, .agg us.toArray) :: F) H L q ops rest k) (hd : Nat.blt d n = true := by rfl) : Ops P n W0 Q F H L q ops (⟨some d, .load t x, ty, pos, aft, g⟩ :: rest) k :=
  ops_pure hg hd (op_loadAt (off := 0) hx h.has (At.whole us) hl) hk
/-- cells somewhere in a row -/
theorem ops_ldat {x : Operand} {t : TypeId} {b off T m : Nat} {cs us : List Value} {R : List HProp} [TAgg P t true] [TSz P t m] (hg : gval ops F g = some gv) [hb : GOk gv true] (hx : opv F x = some (.pointer (some ⟨b, off, none⟩))) [h : HasRow L b T cs R] (ha : At cs off us) (hl : us.length = m)
    (hk : Ops P n W0 Q ((d, .agg us.toArray) :: F) H L q ops rest k) (hd : Nat.blt d n = true := by rfl) : Ops P n W0 Q F H L q ops (⟨some d, .load t x, ty, pos, aft, g⟩ :: rest) k :=
  ops_pure hg hd (op_loadAt hx h.has ha hl) hk
end
end Go.Sx
