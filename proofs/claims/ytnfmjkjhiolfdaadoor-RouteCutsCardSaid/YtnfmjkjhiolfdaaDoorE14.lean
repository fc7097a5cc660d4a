/- Texts made of bytes. No program in sight. -/
import Derived.Test.YtnfmjkjhiolfdaaDoorE13
import Derived.Laws.BytesString
set_option linter.unusedVariables false
set_option linter.unusedSimpArgs false
namespace Go.Sx
open Go
instance : NatOf (0 : Int) 0 := ⟨rfl⟩
instance : NatOf (1 : Int) 1 := ⟨rfl⟩
instance : NatOf (2 : Int) 2 := ⟨rfl⟩
instance : NatOf (3 : Int) 3 := ⟨rfl⟩
instance : NatOf (4 : Int) 4 := ⟨rfl⟩
instance : NatOf (5 : Int) 5 := ⟨rfl⟩
instance : NatOf (6 : Int) 6 := ⟨rfl⟩
instance : NatOf (7 : Int) 7 := ⟨rfl⟩
instance : NatOf (8 : Int) 8 := ⟨rfl⟩
instance : NatOf (9 : Int) 9 := ⟨rfl⟩
instance : NatOf (10 : Int) 10 := ⟨rfl⟩
instance : NatOf (11 : Int) 11 := ⟨rfl⟩
instance : NatOf (12 : Int) 12 := ⟨rfl⟩
instance : NatOf (13 : Int) 13 := ⟨rfl⟩
instance : NatOf (14 : Int) 14 := ⟨rfl⟩
instance : NatOf (15 : Int) 15 := ⟨rfl⟩
instance : NatOf (16 : Int) 16 := ⟨rfl⟩
/-- the text of these bytes -/
abbrev sb (l : List UInt8) : ByteArray := ByteArray.mk l.toArray
theorem sb_append (a b : List UInt8) : sb a ++ sb b = sb (a ++ b) := ByteArray.ext (by simp [sb])
theorem sb_size (l : List UInt8) : (sb l).size = l.length := by simp [sb, ByteArray.size]
theorem sb_inj {a b : List UInt8} : sb a = sb b ↔ a = b := by simp [sb]
/-- a bound on a list's length -/
class LenLe (l : List UInt8) (n : outParam Nat) : Prop where
  h : l.length ≤ n
instance : LenLe [] 0 := ⟨Nat.le_refl _⟩
instance {x : UInt8} {r : List UInt8} {n : Nat} [h : LenLe r n] : LenLe (x :: r) (n + 1) := ⟨by have := h.h; simp; omega⟩
instance (priority := high) {a b : List UInt8} {n m : Nat} [h : LenLe a n] [h' : LenLe b m] : LenLe (a ++ b) (n + m) := ⟨by have := h.h; have := h'.h; simp; omega⟩
instance (priority := high) {P : Program} {x y : Operand} {T T' : TypeId} {a b : List UInt8} {n m : Nat} [h : LenLe a n] [h' : LenLe b m] : POp P (.binOp .add T x y T') [.string (ByteArray.mk a.toArray), .string (ByteArray.mk b.toArray)] (n + m ≤ 9223372036854775807) (.string (ByteArray.mk (a ++ b).toArray)) := ⟨fun hs hv => by
  have h1 := h.h
  have h2 := h'.h
  exact OpP.mk fun A w hF _ => by
    simp only [execOp, hF.opv (opvs2 hv).1, hF.opv (opvs2 hv).2]
    have e1 : (sb a).size = a.length := sb_size a
    have e2 : (sb b).size = b.length := sb_size b
    have h3 : ¬ ((9223372036854775807 : Int) < ((sb a).size : Int) + ((sb b).size : Int)) := by omega
    have hm : IntKind.i64.max = 9223372036854775807 := by decide
    have h6 : ¬ (((sb a).size + (sb b).size : Nat) : Int) > IntKind.i64.max := by rw [hm]; omega
    have h4 : (Op.stringOp .add (sb a) (sb b)).run P w = .ok (.string (sb (a ++ b))) w := by
      rw [← sb_append]; simp only [Op.stringOp]; rw [if_neg h6]; rfl
    have h5 : (Op.stringOp .add (ByteArray.mk a.toArray) (ByteArray.mk b.toArray)).run P w = .ok (.string (ByteArray.mk (a ++ b).toArray)) w := h4
    simp [go_sem, h5]⟩
theorem foldl_push (ns : List Int) (r : ByteArray) : ns.foldl (fun r n => r.push (UInt8.ofNat n.toNat)) r = r ++ sb (ns.map fun n => UInt8.ofNat n.toNat) := by
  induction ns generalizing r with
  | nil => exact ByteArray.ext (by simp [sb])
  | cons n ns ih => rw [List.foldl_cons, ih]; cases r; exact ByteArray.ext (by simp [sb, ByteArray.push])
section
variable {P : Program} {n : Nat} {W0 : World} {Q : Exit → Act → World → Prop} {F : Slots} {H : Heap} {L R : List HProp} {ops : Array Oper} {rest : List Oper} {k : List Fr} {ty : TypeId} {pos : String} {aft : Array Edge} {d : Tmp} {g : Option (Nat × Bool)} {gv : Option (Value × Bool)} {dst : Option Tmp}
/-- string([]byte) -/
theorem op_b2s {src dt e : TypeId} {x : Operand} {b off m c T : Nat} {cs : List Value} {ns : List Int} [hT : TSl P src e] [hE : TIt P e .u8] [hD : TSt P dt] (hx : opv F x = some (.slice (some ⟨b, off, none⟩) m c)) (hh : Has L (row b T cs) R) (hat : At cs off (ns.map fun n => Value.int .u8 n)) (hl : ns.length = m) :
    OpP P n W0 ⟨dst, .convert src dt x, ty, pos, aft, g⟩ F H L (.string (sb (ns.map fun n => UInt8.ofNat n.toNat))) := .mk fun a w hF hS => by
  have h1 : ∀ j v, (ns.map fun n => Value.int .u8 n)[j]? = some v → w.cell? ((⟨b, off, none⟩ : Addr).add j) = some v := fun j v hj => by
    rw [Addr.add_lit, (hS.sub hh.to).rowCell]; exact hat j v hj
  have h2 := run_loadCells_list (P := P) w ⟨b, off, none⟩ _ h1
  subst hl
  simp only [List.length_map] at h2
  have h3 := run_bytesToString (P := P) w ⟨b, off, none⟩ ns.length c ns h2
  rw [foldl_push] at h3
  have h4 : (ByteArray.empty ++ sb (ns.map fun n => UInt8.ofNat n.toNat)) = sb (ns.map fun n => UInt8.ofNat n.toNat) := by simp
  rw [h4] at h3
  simp only [execOp, hF.opv hx]
  simp [run_convert_bytes_string w src dt e _ _ _ hT.und hE.und hD.und, h3]
theorem ops_b2s {src dt e : TypeId} {x : Operand} {b m c T : Nat} [hT : TSl P src e] [hE : TIt P e .u8] [hD : TSt P dt] (ns : List Int) (hg : gval ops F g = some gv) [hb : GOk gv true] (hx : opv F x = some (.slice (some ⟨b, 0, none⟩) m c)) (hh : Has L (row b T (ns.map fun n => Value.int .u8 n)) R)
    (hk : Ops P n W0 Q ((d, .string (sb (ns.map fun n => UInt8.ofNat n.toNat))) :: F) H L false ops rest k) (hl : ns.length = m := by rfl) (hd : Nat.blt d n = true := by rfl) : Ops P n W0 Q F H L false ops (⟨some d, .convert src dt x, ty, pos, aft, g⟩ :: rest) k :=
  ops_pure hg hd (op_b2s hx hh (At.whole _) hl) hk
end
end Go.Sx
