/- make([]T, m). No program in sight. -/
import Derived.Test.YtnfmjkjhiolfdaaDoorE17
import Derived.Laws.MakeOwn
set_option linter.unusedVariables false
set_option linter.unusedSimpArgs false
namespace Go.Sx
open Go
section
variable {P : Program} {n : Nat} {W0 : World} {F : Slots} {H : Heap} {L : List HProp} {K : Value → Heap → List HProp → Prop} {dst : Option Tmp} {ty : TypeId} {pos : String} {aft : Array Edge} {g : Option (Nat × Bool)}
theorem op_mkN {t e : TypeId} {sz by_ : Nat} {z : Value} {l c : Operand} {m : Nat} {kl kc : IntKind} {cs : List Value} [hT : TSl P t e] [hI : TIn P e sz by_ z] (hl : opv F l = some (.int kl m)) (hc : opv F c = some (.int kc m)) (hcs : (madeCells z.cells (m * sz)).toList = cs) (hb : m * by_ ≤ 140737488355328) (h63 : m ≤ 140737488355328)
    (hk : ∀ b, H b = none → K (.slice (some ⟨b, 0, none⟩) m m) H (row b e cs :: L)) : OpW P n W0 ⟨dst, .makeSlice t l c, ty, pos, aft, g⟩ F H L K :=
  .of_run fun a w hF hS => by
    obtain ⟨i, hi, hsz, hby, hz, hzs, hpos⟩ := hI.ex
    subst hsz; subst hby; subst hcs
    have hb' : (i.bytes : Int) * (m : Int) ≤ 281474976710656 := by
      have h : ((m * i.bytes : Nat) : Int) ≤ 281474976710656 := by omega
      rw [Nat.mul_comm] at h
      rwa [Int.natCast_mul] at h
    have hr := run_make (P := P) w t e i z hT.und hi hz kl kc m m (by omega) (Int.le_refl _) hb' (by omega)
    simp only [Int.toNat_natCast] at hr
    have h4 : St W0 H (w.alloc (.cells (madeCells z.cells (m * i.size)) e)) (row w.heap.size e (madeCells z.cells (m * i.size)).toList :: L) := by
      have h5 := hS.alloc (w' := w.alloc (.cells (madeCells z.cells (m * i.size)) e)) (hS.env.of rfl rfl rfl) rfl
      unfold row; rw [show (madeCells z.cells (m * i.size)).toList.toArray = madeCells z.cells (m * i.size) by simp]; exact h5
    refine ⟨_, H, _, _, ?_, .refl _, hk _ h4.ptRead.2, h4⟩
    simp only [execOp]
    rw [hF.opv hl, hF.opv hc]
    simp [hr]
end
end Go.Sx
