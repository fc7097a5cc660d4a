/- The library's sort and its compaction, as contracts of the walk. No program in sight. -/
import Derived.Test.YtnfmjkjhiolfdaaDoorE11
import Derived.Sort.Row
import Derived.Sort.Grow
import Derived.Lib.SlicesCompact
set_option linter.unusedVariables false
set_option linter.unusedSimpArgs false
namespace Go.Sx
open Go Go.Sort
section
variable {α : Type} [Inhabited α]
theorem putCells_row (enc : α → Value) {xs ys : List α} {sp : List Value} (hl : ys.length = xs.length) : putCells enc 0 ys.toArray (xs.map enc ++ sp).toArray = (ys.map enc ++ sp).toArray := by
  apply Array.ext'
  simp only [putCells, Array.toList_mapIdx]
  apply List.ext_getElem?
  intro i
  simp only [List.getElem?_mapIdx, Nat.zero_add, Nat.zero_le, true_and, Nat.sub_zero]
  by_cases h : i < ys.length
  · have h2 : i < xs.length := by omega
    rw [List.getElem?_append_left (by simpa using h2), List.getElem?_append_left (by simpa using h)]
    simp [h, h2]
  · rw [List.getElem?_append_right (by simp; omega), List.getElem?_append_right (by simp; omega)]
    simp only [List.length_map, hl]
    simp [h]
theorem St.putRow {W0 w : World} {H : Heap} {R : List HProp} {b T n : Nat} {enc : α → Value} {xs ys : List α} {sp : List Value} {os : Array Obj} (hS : St W0 H w (row b T (xs.map enc ++ sp) :: R)) (hl : ys.length = xs.length) :
    St W0 H (grow (Go.Sort.putRow enc (Sort.ahead w n) b 0 ys.toArray) os) (row b T (ys.map enc ++ sp) :: R) := by
  have h0 := hS.ptRead.1
  have hlt : b < w.heap.size := (Array.getElem?_eq_some_iff.1 h0).1
  refine hS.step (hS.env.of rfl rfl rfl) fun hA a lA => ⟨fun x hx hn => ?_, one b (.cells (ys.map enc ++ sp).toArray T (0, 0)), by simp [row, pt, one], one_le ?_, fun x hx => ?_⟩
  · simp only [hp, grow, Go.Sort.putRow, mapBlock, Sort.ahead]
    rw [Array.getElem?_append_left (by simpa using hx), Array.getElem?_modify]
    rw [if_neg (by rintro rfl; rw [show hA b = some _ from a] at hn; cases hn)]
  · simp only [hp, grow, Go.Sort.putRow, mapBlock, Sort.ahead]
    rw [Array.getElem?_append_left (by simpa using hlt), Array.getElem?_modify, if_pos rfl, h0]
    simp only [Option.map_some, onCells, putCells_row enc hl]
  · left; simp only [one] at hx; split at hx
    · rename_i e; subst e; rw [show hA x = some _ from a]; simp
    · simp at hx
theorem St.holds {W0 w : World} {H : Heap} {R : List HProp} {b T : Nat} {enc : α → Value} {xs : List α} {sp : List Value} (hS : St W0 H w (row b T (xs.map enc ++ sp) :: R)) : Holds enc w b 0 xs.toArray := fun j hj => by
  have hj' : j < xs.length := by simpa using hj
  refine ⟨?_, hS.rowFree⟩
  rw [Nat.zero_add, hS.rowCell, List.getElem?_append_left (by simpa using hj'), List.getElem?_map, List.getElem?_eq_getElem hj']
  simp [hj']
end
theorem RL.map1 {α : Type} {R : Rd α} {val : α → Value} {ok : α → Prop} [h1 : R1 R val ok] {H : Heap} : ∀ {cs : List Value} {xs : List α}, RL R H cs xs → cs = xs.map val ∧ ∀ x ∈ xs, ok x
  | _, [], h => ⟨h, by simp⟩
  | _, y :: ys, ⟨c, r, e, h2, h3⟩ => by
    obtain ⟨rfl, k⟩ := h1.h h2
    obtain ⟨rfl, k2⟩ := RL.map1 h3
    refine ⟨e, fun x hx => ?_⟩
    rcases List.mem_cons.1 hx with rfl | hx
    · exact k
    · exact k2 x hx
/-- one-cell elements, put back -/
class R1b {α : Type} (R : Rd α) (val : α → Value) (ok : α → Prop) : Prop where
  h : ∀ {H : Heap} {x : α}, ok x → R H [val x] x
instance : R1b rInt (fun x => .int .i64 x) fits := ⟨fun h => ⟨rfl, h⟩⟩
instance : R1b rStr (fun x => .string x) (fun x => x.size ≤ cap47) := ⟨fun h => ⟨rfl, h⟩⟩
theorem RL.mk1 {α : Type} {R : Rd α} {val : α → Value} {ok : α → Prop} [h1 : R1b R val ok] {H : Heap} : ∀ {xs : List α}, (∀ x ∈ xs, ok x) → RL R H (xs.map val) xs
  | [], _ => rfl
  | x :: xs, h => ⟨[val x], xs.map val, rfl, h1.h (h x (by simp)), RL.mk1 fun y hy => h y (by simp [hy])⟩
section
variable {P : Program} {f : FuncId} {W0 : World} {H H0 : Heap} {T : Nat} {v : Value}
theorem ct_sortI {xs : List Int} (hsort : ∀ (blk off cap : Nat) (zs : List Int) (w : World), Holds (Value.int .i64) w blk off zs.toArray → blk < w.heap.size → zs.length < 4611686018427387904 →
      Calls P f #[.slice (some ⟨blk, off, none⟩) zs.length cap] w fun e w' => e = .returned (.tuple #[]) ∧ ∃ n os, w' = grow (Go.Sort.putRow (Value.int .i64) (Sort.ahead w n) blk off (zs.mergeSort fun x y => decide (x ≤ y)).toArray) os)
    (hnone : ∀ (p : Option Addr) (cap : Nat) (w : World), Calls P f #[.slice p 0 cap] w fun e w' => e = .returned (.tuple #[]) ∧ w' = w) :
    Ct P f #[v] W0 H [ownS rInt 1 8 T H0 v xs] (fun r H' B => r = .tuple #[] ∧ B = [ownS rInt 1 8 T H0 v (xs.mergeSort fun x y => decide (x ≤ y))] ∧ H' = H) := by
  intro w R hS
  obtain ⟨hA, hR, ⟨cs, ⟨hr, hw⟩, ho⟩, r, d, dA, dR, lA, lR⟩ := hS.parts
  obtain ⟨hcs, hok⟩ := RL.map1 hr
  obtain ⟨hl, hc⟩ := ho
  have hok' : ∀ x ∈ xs.mergeSort (fun x y => decide (x ≤ y)), fits x := fun x hx => hok x (List.mem_mergeSort.1 hx)
  have hlen : (xs.mergeSort (fun x y => decide (x ≤ y))).length = xs.length := List.length_mergeSort xs
  rcases hc with ⟨h0, b, rfl⟩ | ⟨b, cap, sp, rfl, hp0, h1, h2, h3, h4⟩
  · have hx : xs = [] := List.eq_nil_of_length_eq_zero h0
    subst hx
    refine (hnone b 0 w).mono ?_
    rintro e w' ⟨rfl, rfl⟩
    exact ⟨_, H, _, rfl, .refl _, ⟨rfl, rfl, rfl⟩, by simpa using hS⟩
  · subst hcs
    have hS' : St W0 H w (row b T (xs.map (Value.int .i64) ++ sp) :: R) := St.of_parts hS.env hS.ro h4 r d dA dR lA lR
    refine (hsort b 0 cap xs w hS'.holds (hp_lt (w := w) (b := b) hS'.ptRead.1) (by simp only [cap47] at hw; omega)).mono ?_
    rintro e w' ⟨rfl, n, os, rfl⟩
    have hS2 := hS'.putRow (n := n) (os := os) (ys := xs.mergeSort (fun x y => decide (x ≤ y))) hlen
    refine ⟨_, H, [ownS rInt 1 8 T H0 (.slice (some ⟨b, 0, none⟩) xs.length cap) (xs.mergeSort fun x y => decide (x ≤ y))], rfl, .refl _, ⟨rfl, rfl, rfl⟩, hS2.sub ?_⟩
    rintro h ⟨k1, k2, a, rr, q, l1, l2⟩
    refine ⟨k1, k2, ⟨_, ⟨RL.mk1 (R := rInt) (val := fun x => .int .i64 x) hok', by rw [hlen]; exact hw⟩, by simp [hlen], .inr ⟨b, cap, sp, by rw [hlen], hp0, by rw [hlen]; exact h1, h2, ?_, a⟩⟩, rr, q, l1, l2⟩
    simpa [hlen] using h3
theorem compact_len {α : Type} [DecidableEq α] [Inhabited α] (xs : List α) : (Lib.compact xs).length ≤ xs.length := by
  unfold Lib.compact Lib.compactUpTo
  rw [List.length_map]
  exact Nat.le_trans (List.length_filter_le _ _) (by simp)
theorem mem_compactUpTo {α : Type} [DecidableEq α] [Inhabited α] {d : Array α} {x : α} : ∀ {m : Nat}, x ∈ Lib.compactUpTo d m ↔ ∃ j, j < m ∧ d[j]! = x
  | 0 => by simp [Lib.compactUpTo]
  | m + 1 => by
    rw [Lib.compactUpTo_succ, List.mem_append, mem_compactUpTo]
    constructor
    · rintro (⟨j, h1, h2⟩ | h)
      · exact ⟨j, by omega, h2⟩
      · split at h
        · exact ⟨m, by omega, (List.mem_singleton.1 h).symm⟩
        · cases h
    · rintro ⟨j, h1, h2⟩
      by_cases e : j = m
      · subst e
        cases hk : Lib.keeps d j with
        | true => right; simp [h2]
        | false =>
          left
          by_cases e : j = 0
          · subst e; simp [Lib.keeps] at hk
          · refine ⟨j - 1, by omega, ?_⟩
            have : d[j]! = d[j - 1]! := Classical.byContradiction fun h => by rw [Lib.keeps_pos h] at hk; cases hk
            rw [← this]; exact h2
      · exact .inl ⟨j, by omega, h2⟩
theorem mem_compact {α : Type} [DecidableEq α] [Inhabited α] {xs : List α} {x : α} : x ∈ Lib.compact xs ↔ x ∈ xs := by
  unfold Lib.compact
  rw [mem_compactUpTo, List.mem_iff_getElem]
  constructor
  · rintro ⟨j, h1, h2⟩; exact ⟨j, h1, by simpa [h1] using h2⟩
  · rintro ⟨j, h1, h2⟩; exact ⟨j, h1, by simpa [h1] using h2⟩
theorem ct_compactI {xs : List Int} (hcomp : ∀ (blk off cap : Nat) (zs : List Int) (w : World), Holds (Value.int .i64) w blk off zs.toArray → zs.length ≤ 9223372036854775807 → zs.length ≤ cap →
      Calls P f #[.slice (some ⟨blk, off, none⟩) zs.length cap] w fun e w' => e = .returned (.slice (some ⟨blk, off, none⟩) (Lib.compact zs).length cap) ∧ ∃ q, w' = Go.Sort.putRow (Value.int .i64) (Sort.ahead w q) blk off (Lib.compact zs ++ List.replicate (zs.length - (Lib.compact zs).length) 0).toArray)
    (hnone : ∀ (a : Option Addr) (cap : Nat) (w : World), Calls P f #[.slice a 0 cap] w fun e w' => e = .returned (.slice a 0 cap) ∧ w' = w) :
    Ct P f #[v] W0 H [ownS rInt 1 8 T H0 v xs] (fun r H' B => B = [ownS rInt 1 8 T H0 r (Lib.compact xs)] ∧ H' = H) := by
  intro w R hS
  obtain ⟨hA, hR, ⟨cs, ⟨hr, hw⟩, ho⟩, r, d, dA, dR, lA, lR⟩ := hS.parts
  obtain ⟨hcs, hok⟩ := RL.map1 hr
  obtain ⟨hl, hc⟩ := ho
  have hok' : ∀ x ∈ Lib.compact xs, fits x := fun x hx => hok x (mem_compact.1 hx)
  have hlen := compact_len xs
  rcases hc with ⟨h0, b, rfl⟩ | ⟨b, cap, sp, rfl, hp0, h1, h2, h3, h4⟩
  · have hx : xs = [] := List.eq_nil_of_length_eq_zero h0
    subst hx
    refine (hnone b 0 w).mono ?_
    rintro e w' ⟨rfl, rfl⟩
    exact ⟨_, H, _, rfl, .refl _, ⟨rfl, rfl⟩, hS⟩
  · subst hcs
    have hS' : St W0 H w (row b T (xs.map (Value.int .i64) ++ sp) :: R) := St.of_parts hS.env hS.ro h4 r d dA dR lA lR
    refine (hcomp b 0 cap xs w hS'.holds (by simp only [cap47] at hw; omega) h1).mono ?_
    rintro e w' ⟨rfl, q, rfl⟩
    have hS2 := hS'.putRow (n := q) (os := #[]) (ys := Lib.compact xs ++ List.replicate (xs.length - (Lib.compact xs).length) 0) (by simp; omega)
    rw [grow_empty] at hS2
    refine ⟨_, H, [ownS rInt 1 8 T H0 (.slice (some ⟨b, 0, none⟩) (Lib.compact xs).length cap) (Lib.compact xs)], rfl, .refl _, ⟨rfl, rfl⟩, hS2.sub ?_⟩
    rintro h ⟨k1, k2, a, rr, qq, l1, l2⟩
    refine ⟨k1, k2, ⟨_, ⟨RL.mk1 (R := rInt) (val := fun x => .int .i64 x) hok', by omega⟩, by simp, .inr ⟨b, cap, (List.replicate (xs.length - (Lib.compact xs).length) (0 : Int)).map (Value.int .i64) ++ sp, rfl, hp0, by omega, h2, ?_, ?_⟩⟩, rr, qq, l1, l2⟩
    · simp at h3 ⊢; omega
    · have : (Lib.compact xs).map (fun x => Value.int .i64 x) ++ ((List.replicate (xs.length - (Lib.compact xs).length) (0 : Int)).map (Value.int .i64) ++ sp) = (Lib.compact xs ++ List.replicate (xs.length - (Lib.compact xs).length) 0).map (Value.int .i64) ++ sp := by simp
      rw [this]; exact a
end
/-! ### The row of a literal -/
def oneC : Value → Bool
  | .agg _ => false
  | _ => true
theorem oneC_cells {v : Value} (h : oneC v = true) : v.cells = #[v] := by cases v <;> first | rfl | simp [oneC] at h
def partsC (F : Slots) : Nat → List (Nat × Operand) → Option (List Value)
  | _, [] => some []
  | i, (j, x) :: r => match Nat.beq i j with
    | false => none
    | true => match opv F x with
      | none => none
      | some v => match partsC F (i + 1) r with
        | none => none
        | some vs => some (v :: vs)
theorem fillN : ∀ (vs : List Value) (i : Nat) (arr : List Value), vs.all oneC = true → i + vs.length ≤ arr.length → Instr.fill (fun i => some (i * 1, 1)) arr.toArray ((vs.zipIdx i).map fun p => (p.2, p.1)) = some (arr.take i ++ vs ++ arr.drop (i + vs.length)).toArray
  | [], i, arr, _, _ => by simp [Instr.fill]
  | v :: vs, i, arr, h, hl => by
    simp only [List.all_cons, Bool.and_eq_true] at h
    simp only [List.zipIdx_cons, List.map_cons, Instr.fill, oneC_cells h.1]
    simp only [List.length_cons] at hl
    rw [if_neg (by simp; omega)]
    have := fillN vs (i + 1) (arr.set i v) h.2 (by simp; omega)
    have e : (#[v] : Array Value).zipIdx.foldl (fun cs (c, j) => cs.setIfInBounds (i * 1 + j) c) arr.toArray = (arr.set i v).toArray := by simp
    rw [e, this]
    congr 2
    rw [List.take_add_one, List.getElem?_set_self (by omega), List.take_set_of_le (by omega), List.drop_set_of_lt (by omega)]
    simp [Nat.add_assoc, Nat.add_comm 1]
section
variable {P : Program} {n : Nat} {W0 : World} {F : Slots} {H : Heap} {L : List HProp} {K : Value → Heap → List HProp → Prop} {dst : Option Tmp} {ty : TypeId} {pos : String} {aft : Array Edge} {g : Option (Nat × Bool)}
theorem partsC_eval {a : Act} (hF : FrOk n a F) : ∀ {ps : List (Nat × Operand)} {i : Nat} {vs : List Value}, partsC F i ps = some vs → ps.map (fun p => (p.1, a.eval p.2)) = (vs.zipIdx i).map fun p => (p.2, p.1)
  | [], i, vs, h => by simp [partsC] at h; subst h; rfl
  | (j, x) :: r, i, vs, h => by
    simp only [partsC] at h
    split at h
    · cases h
    · next hij =>
      split at h
      · cases h
      · next v hv =>
        split at h
        · cases h
        · next us hu =>
          cases h
          have e : i = j := by simpa using hij
          subst e
          simp only [List.map_cons, List.zipIdx_cons, hF.opv hv, partsC_eval hF hu]
/-- []T{a, b, ..} of elements of one cell -/
theorem op_bsN {t e : TypeId} {z : Value} {m : Nat} {ps : List (Nat × Operand)} {vs : List Value} [hT : TSl P t e] [hS' : TSz P e 1] [hZ : TZ P e z] (hx : partsC F 0 ps = some vs) (h1 : vs.all oneC = true) (hm : vs.length = m) (hz : z.cells.size = 1) (h0 : (Nat.blt 0 m && Nat.ble m 1000) = true)
    (hk : ∀ b, H b = none → K (.slice (some ⟨b, 0, none⟩) m m) H (row b e vs :: L)) : OpW P n W0 ⟨dst, .buildSlice t m ps.toArray, ty, pos, aft, g⟩ F H L K :=
  .of_run fun a w hF hS => by
    have hs : St W0 H (w.alloc (.cells vs.toArray e)) (row w.heap.size e vs :: L) := hS.alloc (hS.env.of rfl rfl rfl) rfl
    refine ⟨_, H, _, _, ?_, .refl _, hk _ hs.ptRead.2, hs⟩
    have h0 : 0 < m ∧ m ≤ 1000 := by simpa using h0
    have hne : m ≠ 0 := by omega
    have hfill := fillN vs 0 ((List.range (m * 1)).map (fun i => z.cells[i % z.cells.size]!)) h1 (by simp; omega)
    have hd : ((List.range (m * 1)).map (fun i => z.cells[i % z.cells.size]!)).drop (0 + vs.length) = [] := List.drop_eq_nil_of_le (by simp; omega)
    rw [hd] at hfill
    simp only [List.take_zero, List.nil_append, List.append_nil] at hfill
    have e2 : ((Array.range (m * 1)).map (fun i => z.cells[i % z.cells.size]!)) = ((List.range (m * 1)).map (fun i => z.cells[i % z.cells.size]!)).toArray := by
      apply Array.ext'; simp [Array.toList_range]
    rw [← e2] at hfill
    have hp := partsC_eval hF hx
    have hp2 : (ps.toArray.map fun p => (p.1, a.eval p.2)).toList = (vs.zipIdx 0).map fun p => (p.2, p.1) := by rw [← hp]; simp
    simp only [execOp]
    simp only [Nat.mul_one] at hfill
    simp [Instr.buildSlice, run_underlying hT.und, hS'.run, hne, hZ.run, newRow]
    rw [if_neg (by omega)]
    have hp3 : (ps.map fun x => (x.1, a.eval x.2)) = (vs.zipIdx 0).map fun p => (p.2, p.1) := hp
    simp only [hp3, hfill]
    simp
end
section
variable {P : Program} {n : Nat} {W0 : World} {Q : Exit → Act → World → Prop} {F : Slots} {H H0 : Heap} {L L0 : List HProp} {m fuel : Nat} {ops : Array Oper} {rest : List Oper} {listed : Array Bool} {k : List Fr} {ty : TypeId} {pos : String} {aft : Array Edge} {d : Tmp} {g : Option (Nat × Bool)} {gv : Option (Value × Bool)} {t e : TypeId} {z : Value} {ml : Nat} {ps : List (Nat × Operand)} {vs : List Value}
theorem ops_bsN [hT : TSl P t e] [hS' : TSz P e 1] [hZ : TZ P e z] (hg : gval ops F g = some gv) [hb : GOk gv true] (hx : partsC F 0 ps = some vs) (hk : ∀ b, H b = none → Ops P n W0 Q ((d, .slice (some ⟨b, 0, none⟩) ml ml) :: F) H (row b e vs :: L) false ops rest k)
    (h1 : vs.all oneC = true := by rfl) (hm : vs.length = ml := by rfl) (hz : z.cells.size = 1 := by rfl) (h0 : (Nat.blt 0 ml && Nat.ble ml 1000) = true := by rfl) (hd : Nat.blt d n = true := by rfl) : Ops P n W0 Q F H L false ops (⟨some d, .buildSlice t ml ps.toArray, ty, pos, aft, g⟩ :: rest) k :=
  ops_w hg hd (op_bsN hx h1 hm hz h0 hk)
theorem gny_bsN (i : Nat) [hT : TSl P t e] [hS' : TSz P e 1] [hZ : TZ P e z] (hi : ops[i]? = some ⟨some d, .buildSlice t ml ps.toArray, ty, pos, aft, g⟩) (hg : gval ops F g = some gv) [hb : GOk gv true] (hx : partsC F 0 ps = some vs) (hk : ∀ b, H b = none → AnyO P n W0 Q ((d, .slice (some ⟨b, 0, none⟩) ml ml) :: F) H H0 (row b e vs :: L) L0 m ops fuel (listed.setIfInBounds i true) k)
    (h1 : vs.all oneC = true := by rfl) (hm : vs.length = ml := by rfl) (hz : z.cells.size = 1 := by rfl) (h0 : (Nat.blt 0 ml && Nat.ble ml 1000) = true := by rfl)
    (hl : H0.le H := by first | exact Go.Sx.Heap.le.refl _ | assumption | ((try simp only [Go.Sx.le_self] at *); (repeat (first | exact Go.Sx.Heap.le.refl _ | assumption | refine Go.Sx.Heap.le.trans ?_ ‹Go.Sx.Heap.le _ _›)))) (hsub : Sub L L0 := by (repeat (first | exact Go.Sx.Sub.refl _ | exact Go.Sx.Sub.nil _ | (apply Go.Sx.sub_pick; (repeat (first | exact Go.Sx.Has.here | apply Go.Sx.Has.there)); skip) | apply Go.Sx.Sub.drop)))
    (hr : Region.ready .any ops listed = [i] := by decide +kernel) (hd : Nat.blt d n = true := by rfl) : AnyO P n W0 Q F H H0 L L0 m ops (fuel + 1) listed k :=
  gny_w i hi hg (op_bsN hx h1 hm hz h0 fun b hb => ⟨hl, Sub.drop hsub, hk b hb⟩) hr hd
end
theorem slr_of_hrow {α : Type} {R : Rd α} {sz : Nat} [RdOk R sz] {H : Heap} {b cap : Nat} {cs : List Value} {xs : List α} (h : HRow H b 0 cs) (hr : RL R H cs xs) (h1 : xs.length ≤ cap) (h2 : cap ≤ 9223372036854775807) : SlR R sz H (.slice (some ⟨b, 0, none⟩) xs.length cap) xs :=
  ⟨cs, ⟨_, cap, rfl, ⟨h1, h2⟩, hr.len, hr.one, .inr ⟨b, 0, rfl, h⟩⟩, hr⟩
end Go.Sx
