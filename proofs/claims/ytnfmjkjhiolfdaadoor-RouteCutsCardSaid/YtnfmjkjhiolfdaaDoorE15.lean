/- Arrays in memory. No program in sight. -/
import Derived.Test.YtnfmjkjhiolfdaaDoorE14
set_option linter.unusedVariables false
set_option linter.unusedSimpArgs false
namespace Go.Sx
open Go
class TAr (P : Program) (t : TypeId) (n e : outParam Nat) : Prop where
  und : P.underlying t = some (.array n e)
instance {P : Program} {x y : Operand} {T e N : Nat} {k : IntKind} {b off sz j : Nat} {i : Int} [hT : TAr P T N e] [hS : TSz P e sz] [hi : NatOf i j] : POp P (.indexAddr T x y) [.pointer (some ⟨b, off, none⟩), .int k i] (j < N) (.pointer (some ⟨b, off + j * sz, none⟩)) := ⟨fun hs h => .mk fun a w hF _ => by
  obtain ⟨rfl⟩ := hi
  have hu := run_underlying hT.und (w := w)
  have h1 : (0 : Int) ≤ (j : Int) ∧ ((j : Nat) : Int) < (N : Int) := by omega
  simp only [execOp]
  simp [Instr.indexAt, hF.opv (opvs2 h).1, hF.opv (opvs2 h).2, asIntOf, hu, Instr.sureAddr, hS.run, hs, Addr.add_lit]⟩
section
variable {q : Bool} {P : Program} {n : Nat} {W0 : World} {Q : Exit → Act → World → Prop} {F : Slots} {H : Heap} {L R : List HProp} {ops : Array Oper} {rest : List Oper} {k : List Fr} {ty : TypeId} {pos : String} {aft : Array Edge} {d : Tmp} {g : Option (Nat × Bool)} {gv : Option (Value × Bool)} {v : Value}
/-- one cell somewhere in a row -/
theorem ops_ldc {x : Operand} {t : TypeId} {b off T : Nat} {cs : List Value} [TAgg P t false] (hg : gval ops F g = some gv) [hb : GOk gv true] (hx : opv F x = some (.pointer (some ⟨b, off, none⟩))) [h : HasRow L b T cs R] (hc : cs[off]? = some v)
    (hk : Ops P n W0 Q ((d, v) :: F) H L q ops rest k) (hd : Nat.blt d n = true := by rfl) : Ops P n W0 Q F H L q ops (⟨some d, .load t x, ty, pos, aft, g⟩ :: rest) k :=
  ops_pure hg hd (op_load hx h.has hc) hk
/-- written somewhere in a row -/
theorem ops_sta {x y : Operand} {t : TypeId} {b off T m : Nat} {cs us cs' : List Value} [TSz P t m] (hv : opvs F [x, y] = some [.pointer (some ⟨b, off, none⟩), v]) [h : HasRow L b T cs R] [hu : CellsI v us] (hl : us.length = m) (h1 : us.all (·.oneCell') = true) (hle : off + us.length ≤ cs.length) (hcs : cs.take off ++ us ++ cs.drop (off + us.length) = cs')
    (hk : Ops P n W0 Q F H (row b T cs' :: R) false ops rest k) : Ops P n W0 Q F H L false ops (⟨none, .store t x y, ty, pos, aft, none⟩ :: rest) k := by
  subst hcs
  exact ops_n (op_storeAt (opvs2 hv).1 (opvs2 hv).2 hu.h hl h1 h.has hle hk)
end
end Go.Sx
