/- Calls of the library that only make new blocks; the library's numerals. No program in sight. -/
import Derived.Test.YtnfmjkjhiolfdaaDoorE19
import Derived.Sort.Grow
import Derived.Below
import Derived.Lib.LaidTab
import Derived.Lib.ItoaNum
import Derived.Lib.ConvBytes
import Derived.Lib.ItoaMem
import Derived.WalkKit
set_option linter.unusedVariables false
set_option linter.unusedSimpArgs false
namespace Go.Sx
open Go Go.Sort Go.RowKit
theorem St.below {W0 w w' : World} {H : Heap} {L : List HProp} (hS : St W0 H w L) (hb : RowKit.Below w.heap.size w w') : St W0 H w' L := by
  have keep : ∀ (g : Heap), g.le (hp w) → g.le (hp w') := fun g hg b o h => by
    have h1 := hg b o h
    have hlt := hp_lt h1
    simp only [hp] at h1 ⊢
    rw [hb.block b hlt]; exact h1
  obtain ⟨h, a, b, c⟩ := hS.own
  exact ⟨⟨hb.os.trans hS.env.os, hb.tape.trans hS.env.tape, hb.output.trans hS.env.output⟩, keep _ hS.ro, h, a, keep _ b, c⟩
theorem below_grow (w : World) (n : Nat) (os : Array Obj) : RowKit.Below w.heap.size w (grow (w.drewN n) os) := ⟨rfl, rfl, rfl, by simp [grow], fun k hk => by simp only [grow]; rw [Array.getElem?_append_left (by simpa using hk)]; rfl⟩
/-- a call that only makes new blocks -/
theorem ct_pure {P : Program} {f : FuncId} {vs : Array Value} {W0 : World} {H : Heap} {v : Value} (h : ∀ w, H.le (hp w) → Calls P f vs w fun e w' => e = .returned v ∧ RowKit.Below w.heap.size w w') : Ct P f vs W0 H [] (fun r H' B => r = v ∧ B = [] ∧ H' = H) := by
  intro w R hS
  refine (h w hS.ro).mono ?_
  rintro e w' ⟨rfl, hb⟩
  exact ⟨_, H, [], rfl, .refl _, ⟨rfl, rfl, rfl⟩, hS.below hb⟩
/-- likewise, the answer is told by a property -/
theorem ct_pureP {P : Program} {f : FuncId} {vs : Array Value} {W0 : World} {H : Heap} {K : Value → Prop} (h : ∀ w, H.le (hp w) → Calls P f vs w fun e w' => ∃ v, e = .returned v ∧ K v ∧ RowKit.Below w.heap.size w w') : Ct P f vs W0 H [] (fun r H' B => K r ∧ B = [] ∧ H' = H) := by
  intro w R hS
  refine (h w hS.ro).mono ?_
  rintro e w' ⟨v, rfl, hk, hb⟩
  exact ⟨_, H, [], rfl, .refl _, ⟨hk, rfl, rfl⟩, hS.below hb⟩
/-- a package variable's cells -/
def VarH (P : Program) (H : Heap) (name : String) (cs : List Value) : Prop := ∃ g T f, P.globalNamed name = some g ∧ H g = some (.cells cs.toArray T f)
theorem VarH.mono {P : Program} {H H' : Heap} {name : String} {cs : List Value} (h : VarH P H name cs) (hl : H.le H') : VarH P H' name cs := by
  obtain ⟨g, T, f, a, b⟩ := h; exact ⟨g, T, f, a, hl _ _ b⟩
theorem VarH.var {P : Program} {H : Heap} {w : World} {name : String} {cs : List Value} (h : VarH P H name cs) (hl : H.le (hp w)) : w.var? P name = some cs.toArray := by
  obtain ⟨g, T, f, a, b⟩ := h
  have hb := hl _ _ b
  simp only [hp] at hb
  unfold World.var?
  rw [a]
  simp [hb]
/-- the table that strconv.Itoa reads -/
def TabH (P : Program) (H : Heap) : Prop := VarH P H "internal/strconv.uint64pow10" (Lib.pow10Tab.map fun z => Value.int .u64 z)
theorem TabH.mono {P : Program} {H H' : Heap} (h : TabH P H) (hl : H.le H') : TabH P H' := VarH.mono h hl
theorem ct_itoa {P : Program} {f : FuncId} {W0 : World} {H : Heap} {n : Int} (hT : TabH P H) (hn : fits n)
    (hi : ∀ (n : Int) (h0 : -9223372036854775808 ≤ n) (h1 : n ≤ 9223372036854775807) (w : World) (htab : Lib.TabIs P w "internal/strconv.uint64pow10" .u64 Lib.pow10Tab),
      Calls P f #[.int .i64 n] w fun e w' => e = .returned (.string ⟨(Lib.itoa n).toArray⟩) ∧ ∃ k os, w' = grow (w.drewN k) os) :
    Ct P f #[.int .i64 n] W0 H [] (fun r H' B => r = .string (sb (Lib.itoa n)) ∧ B = [] ∧ H' = H) :=
  ct_pure fun w hl => (hi n hn.1 hn.2 w (VarH.var hT hl)).mono fun e w' ⟨h1, k, os, h2⟩ => ⟨h1, h2 ▸ below_grow w k os⟩
section
variable {P : Program} {n : Nat} {W0 : World} {F : Slots} {H : Heap} {L : List HProp} {ty : TypeId} {pos : String} {aft : Array Edge} {g : Option (Nat × Bool)} {dst : Option Tmp}
theorem equalPtr {T : TypeId} {p q : Option Addr} [hT : TPt P T] (h : p = none ∨ q = none) (w : World) : (Op.equal T (.pointer p) (.pointer q)).run P w = .ok (decide (p = q)) w := by
  obtain ⟨e, he⟩ := hT.ex
  have : ∀ d, (Op.equalIn (d + 1) T (.pointer p) (.pointer q)).run P w = .ok (decide (p = q)) w := fun d => by
    cases p <;> cases q
    · simp [Op.equalIn, run_underlying he]
    · simp [Op.equalIn, run_underlying he]
    · simp [Op.equalIn, run_underlying he]
    · simp at h
  exact this 9999
theorem op_neqPtr {x y : Operand} {T T' : TypeId} {p q : Option Addr} [hT : TPt P T] (hx : opv F x = some (.pointer p)) (hy : opv F y = some (.pointer q)) (h : p = none ∨ q = none) :
    OpP P n W0 ⟨dst, .binOp .neq T x y T', ty, pos, aft, g⟩ F H L (.bool !decide (p = q)) := .mk fun _ w hF _ => by
  have h0 := equalPtr (P := P) (T := T) h w
  simp only [execOp, hF.opv hx, hF.opv hy]; simp [eqGuard_at_pointer, binOp, h0]
theorem op_eqlPtr2 {x y : Operand} {T T' : TypeId} {p q : Option Addr} [hT : TPt P T] (hx : opv F x = some (.pointer p)) (hy : opv F y = some (.pointer q)) (h : p = none ∨ q = none) :
    OpP P n W0 ⟨dst, .binOp .eql T x y T', ty, pos, aft, g⟩ F H L (.bool (decide (p = q))) := .mk fun _ w hF _ => by
  have h0 := equalPtr (P := P) (T := T) h w
  simp only [execOp, hF.opv hx, hF.opv hy]; simp [eqGuard_at_pointer, binOp, h0]
end
section
variable {P : Program} {x y : Operand} {T T' : TypeId}
instance [TPt P T] {p : Addr} : POp P (.binOp .neq T x y T') [.pointer (some p), .pointer none] True (.bool true) := ⟨fun _ h => (op_neqPtr (opvs2 h).1 (opvs2 h).2 (.inr rfl)).cast (by simp)⟩
instance [TPt P T] : POp P (.binOp .neq T x y T') [.pointer none, .pointer none] True (.bool false) := ⟨fun _ h => (op_neqPtr (opvs2 h).1 (opvs2 h).2 (.inr rfl)).cast (by simp)⟩
instance [TPt P T] : POp P (.binOp .eql T x y T') [.pointer none, .pointer none] True (.bool true) := ⟨fun _ h => (op_eqlPtr2 (opvs2 h).1 (opvs2 h).2 (.inr rfl)).cast (by simp)⟩
end
end Go.Sx
