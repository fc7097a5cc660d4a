/- A literal's row, of elements of several cells. No program in sight. -/
import Derived.Test.YthoafjeampbkeaaE43
set_option linter.unusedVariables false
set_option linter.unusedSimpArgs false
namespace Go.Sx
open Go
theorem setRow (base : Nat) : ∀ (l : List Value) (i : Nat) (arr : List Value), base + i + l.length ≤ arr.length → (l.zipIdx i).foldl (fun (cs : Array Value) (p : Value × Nat) => cs.setIfInBounds (base + p.2) p.1) arr.toArray = (arr.take (base + i) ++ l ++ arr.drop (base + i + l.length)).toArray
  | [], i, arr, _ => by simp
  | c :: l, i, arr, hl => by
    simp only [List.length_cons] at hl
    simp only [List.zipIdx_cons, List.foldl_cons, List.setIfInBounds_toArray]
    rw [setRow base l (i + 1) (arr.set (base + i) c) (by simp; omega)]
    congr 1
    rw [List.drop_set_of_lt (by omega), show base + (i + 1) = base + i + 1 by omega]
    have e1 : (arr.set (base + i) c).take (base + i + 1) = arr.take (base + i) ++ [c] := by
      rw [List.take_add_one, List.getElem?_set_self (by omega), List.take_set_of_le (by omega)]; simp
    rw [e1]
    simp only [List.length_cons, List.append_assoc, List.singleton_append, List.cons_append, List.nil_append]
    rw [show base + i + 1 + l.length = base + i + (l.length + 1) by omega]
/-- values and their cells, so many each -/
def CLs (sz : Nat) : List Value → List (List Value) → Prop
  | [], [] => True
  | v :: vs, cs :: css => (v.cells = cs.toArray ∧ cs.length = sz) ∧ CLs sz vs css
  | _, _ => False
theorem fillM (sz : Nat) : ∀ (vs : List Value) (css : List (List Value)) (i : Nat) (arr : List Value), CLs sz vs css → i * sz + vs.length * sz ≤ arr.length → Instr.fill (fun i => some (i * sz, sz)) arr.toArray ((vs.zipIdx i).map fun p => (p.2, p.1)) = some (arr.take (i * sz) ++ css.flatten ++ arr.drop (i * sz + vs.length * sz)).toArray
  | [], [], i, arr, _, _ => by simp [Instr.fill]
  | [], _ :: _, _, _, h, _ => h.elim
  | _ :: _, [], _, _, h, _ => h.elim
  | v :: vs, cs :: css, i, arr, ⟨⟨hc, hl⟩, h⟩, hle => by
    simp only [List.length_cons, Nat.succ_mul] at hle
    simp only [List.zipIdx_cons, List.map_cons, Instr.fill, hc]
    rw [if_neg (by simp; omega)]
    have hs := setRow (i * sz) cs 0 arr (by omega)
    simp only [Nat.add_zero] at hs
    have e0 : (cs.toArray : Array Value).zipIdx.foldl (fun (a : Array Value) (x : Value × Nat) => match x with | (c, j) => a.setIfInBounds (i * sz + j) c) arr.toArray = (cs.zipIdx 0).foldl (fun (a : Array Value) (p : Value × Nat) => a.setIfInBounds (i * sz + p.2) p.1) arr.toArray := by
      simp
    rw [e0, hs]
    have hlen : (arr.take (i * sz) ++ cs ++ arr.drop (i * sz + cs.length)).length = arr.length := by simp; omega
    rw [fillM sz vs css (i + 1) _ h (by rw [hlen, Nat.succ_mul]; omega)]
    congr 2
    have t1 : (arr.take (i * sz)).length = i * sz := by simp; omega
    rw [Nat.succ_mul]
    have e1 : (arr.take (i * sz) ++ cs ++ arr.drop (i * sz + cs.length)).take (i * sz + sz) = arr.take (i * sz) ++ cs := by
      rw [List.take_append_of_le_length (by simp; omega), List.take_of_length_le (by simp; omega)]
    have e2 : (arr.take (i * sz) ++ cs ++ arr.drop (i * sz + cs.length)).drop (i * sz + sz + vs.length * sz) = arr.drop (i * sz + (vs.length * sz + sz)) := by
      rw [List.drop_append, List.drop_eq_nil_of_le (by simp; omega), List.nil_append, List.drop_drop]
      congr 1
      simp only [List.length_append, t1, hl]
      omega
    rw [e1, e2]
    simp [Nat.succ_mul]
section
variable {P : Program} {n : Nat} {W0 : World} {F : Slots} {H : Heap} {L : List HProp} {K : Value → Heap → List HProp → Prop} {dst : Option Tmp} {ty : TypeId} {pos : String} {aft : Array Edge} {g : Option (Nat × Bool)}
/-- []T{a, b, ..} of elements of several cells -/
theorem op_bsM {t e : TypeId} {z : Value} {m sz : Nat} {ps : List (Nat × Operand)} {vs : List Value} (css : List (List Value)) [hT : TSl P t e] [hS' : TSz P e sz] [hZ : TZ P e z] (hx : partsC F 0 ps = some vs) (h1 : CLs sz vs css) (hm : vs.length = m) (hz : z.cells.size = sz) (h0 : (Nat.blt 0 (m * sz) && Nat.ble (m * sz) 1000) = true)
    (hk : ∀ b, H b = none → K (.slice (some ⟨b, 0, none⟩) m m) H (row b e css.flatten :: L)) : OpW P n W0 ⟨dst, .buildSlice t m ps.toArray, ty, pos, aft, g⟩ F H L K :=
  .of_run fun a w hF hS => by
    have hs : St W0 H (w.alloc (.cells css.flatten.toArray e)) (row w.heap.size e css.flatten :: L) := hS.alloc (hS.env.of rfl rfl rfl) rfl
    refine ⟨_, H, _, _, ?_, .refl _, hk _ hs.ptRead.2, hs⟩
    have h0 : 0 < m * sz ∧ m * sz ≤ 1000 := by simpa using h0
    have hsz : sz ≠ 0 := fun h => by subst h; simp at h0
    have hmz : m ≠ 0 := fun h => by subst h; simp at h0
    have hms : m * sz ≠ 0 := by omega
    have hm1 : m ≤ m * sz := Nat.le_mul_of_pos_right _ (by omega)
    have hfill := fillM sz vs css 0 ((List.range (m * sz)).map (fun i => z.cells[i % z.cells.size]!)) h1 (by simp [hm])
    have hd : ((List.range (m * sz)).map (fun i => z.cells[i % z.cells.size]!)).drop (0 * sz + vs.length * sz) = [] := List.drop_eq_nil_of_le (by simp [hm])
    rw [hd] at hfill
    simp only [Nat.zero_mul, List.take_zero, List.nil_append, List.append_nil] at hfill
    have e2 : ((Array.range (m * sz)).map (fun i => z.cells[i % z.cells.size]!)) = ((List.range (m * sz)).map (fun i => z.cells[i % z.cells.size]!)).toArray := by
      apply Array.ext'; simp [Array.toList_range]
    rw [← e2] at hfill
    have hp := partsC_eval hF hx
    have hp3 : (ps.map fun x => (x.1, a.eval x.2)) = (vs.zipIdx 0).map fun p => (p.2, p.1) := hp
    simp only [execOp]
    simp [Instr.buildSlice, run_underlying hT.und, hS'.run, hmz, hsz, hZ.run, newRow]
    rw [if_neg (by omega)]
    simp only [hp3, hfill]
    simp [hms]
    try exact fun h => absurd h hms
end
section
variable {P : Program} {n : Nat} {W0 : World} {Q : Exit → Act → World → Prop} {F : Slots} {H : Heap} {L : List HProp} {ops : Array Oper} {rest : List Oper} {k : List Fr} {ty : TypeId} {pos : String} {aft : Array Edge} {d : Tmp} {g : Option (Nat × Bool)} {gv : Option (Value × Bool)} {t e : TypeId} {z : Value} {ml sz : Nat} {ps : List (Nat × Operand)} {vs : List Value}
theorem ops_bsM (css : List (List Value)) [hT : TSl P t e] [hS' : TSz P e sz] [hZ : TZ P e z] (hg : gval ops F g = some gv) [hb : GOk gv true] (hx : partsC F 0 ps = some vs) (h1 : CLs sz vs css) (hk : ∀ b, H b = none → Ops P n W0 Q ((d, .slice (some ⟨b, 0, none⟩) ml ml) :: F) H (row b e css.flatten :: L) false ops rest k)
    (hm : vs.length = ml := by rfl) (hz : z.cells.size = sz := by rfl) (h0 : (Nat.blt 0 (ml * sz) && Nat.ble (ml * sz) 1000) = true := by rfl) (hd : Nat.blt d n = true := by rfl) : Ops P n W0 Q F H L false ops (⟨some d, .buildSlice t ml ps.toArray, ty, pos, aft, g⟩ :: rest) k :=
  ops_w hg hd (op_bsM css hx h1 hm hz h0 hk)
end
end Go.Sx
