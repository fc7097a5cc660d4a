/- make([]T, m) under a guard. -/
import Derived.Test.YtjafnombaehcaaaE28
set_option linter.unusedVariables false
set_option linter.unusedSimpArgs false
namespace Go.Sx
open Go Go.ChangeShapes Go.WideShapes Go.ChangeAt Go.RowKit
section
variable {P : Program} {n : Nat} {W0 : World} {Q : Exit → Act → World → Prop} {F : Slots} {H : Heap} {L : List HProp} {ops : Array Oper} {rest : List Oper} {k : List Fr} {ty : TypeId} {pos : String} {aft : Array Edge} {d : Tmp} {x y : Operand} {t e : TypeId} {sz wd : Nat} {z : Value} {kl kc : IntKind} {g : Option (Nat × Bool)} {gv : Option (Value × Bool)}
theorem ops_mkTg {α : Type} (R : Rd α) (z0 : α) (m : Nat) [hT : TSl P t e] [hI : TIn P e sz wd z] [hR : RdOk R sz] (hg : gval ops F g = some gv) [hb' : GOk gv true] (hv : opvs F [x, y] = some [.int kl m, .int kc m]) (hz : R H z.cells.toList z0) (hb : m * wd ≤ cap47) (hm : m ≤ cap47)
    (h : ∀ b, Ops P n W0 Q ((d, .slice (some ⟨b, 0, none⟩) m m) :: F) H (ownS R sz wd e H (.slice (some ⟨b, 0, none⟩) m m) (List.replicate m z0) :: L) false ops rest k) (hd : Nat.blt d n = true := by rfl) :
    Ops P n W0 Q F H L false ops (⟨some d, .makeSlice t x y, ty, pos, aft, g⟩ :: rest) k := by
  have hsz : z.cells.size = sz := by
    have := hR.len hz; simpa using this
  refine ops_w hg hd (op_mkN (hT := hT) (hI := hI) (m := m) (cs := (List.replicate m z.cells.toList).flatten) (opvs2 hv).1 (opvs2 hv).2 (by rw [← hsz]; exact made_len) hb hm fun b _ => ?_)
  refine ops_L ?_ (h b)
  have hlen : (List.replicate m z.cells.toList).flatten.length = m * sz := by simp [List.length_flatten, hsz]
  have hs := own_shut (T := e) (sz := sz) (m := m) (b := b) (cap := m) (xs := (List.replicate m z.cells.toList).flatten) (sp := []) (R := L) hlen (Nat.le_refl _) (by simp only [cap47] at hm; omega) (by simpa using hlen)
  rw [List.append_nil] at hs
  refine hs.trans ?_
  have hm2 := ownS_mk (sz := sz) (T := e) (w := wd) (s := .slice (some ⟨b, 0, none⟩) m m) (L := L) (RL.rep hz m) (by simpa using hb)
  rw [List.length_replicate] at hm2
  exact hm2
end
end Go.Sx
