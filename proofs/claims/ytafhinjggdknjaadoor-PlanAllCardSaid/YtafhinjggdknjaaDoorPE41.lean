/- One operation of an open region, by its number: the script is held here, so that it is not copied. -/
import Derived.Test.YtafhinjggdknjaaDoorPE35
import Derived.Lib.SlicesCompact
set_option linter.unusedVariables false
set_option linter.unusedSimpArgs false
namespace Go.Sx
open Go Go.X
section
variable {P : Program} {n : NF} {W0 : GW} {Q : Exit → Act → GW → Prop} {F : Slots} {H : Heap} {L : List HProp} {ops : Array Oper} {rest : List Oper} {k : List Fr} {ty ty' : TypeId} {pos pos' : String} {aft aft' : Array Edge} {d d' : Tmp} {g g' : Option (Nat × Bool)} {v : Value}
end
theorem RL.rep {α : Type} {R : Rd α} {sz : Nat} [hR : RdOk R sz] {H : Heap} {c : List Value} {z : α} (h : R H c z) : ∀ m, RL R H (List.replicate m c).flatten (List.replicate m z)
  | 0 => rfl
  | m + 1 => ⟨c, _, by rw [List.replicate_succ, List.flatten_cons], h, RL.rep h m⟩
theorem made_len {z : Array Value} {m : Nat} : (madeCells z (m * z.size)).toList = (List.replicate m z.toList).flatten := by
  apply List.ext_getElem
  · simp [madeCells, List.length_flatten]
  · intro i h1 h2
    simp only [madeCells, Array.length_toList, Array.size_map, Array.size_range] at h1
    have hz : 0 < z.size := by rcases Nat.eq_zero_or_pos z.size with h | h; · rw [h] at h1; simp at h1
                               · exact h
    rw [Array.getElem_toList]
    simp only [madeCells, Array.getElem_map, Array.getElem_range]
    rw [getElem!_pos z _ (Nat.mod_lt _ hz)]
    have key : ∀ (m i : Nat) (h : i < (List.replicate m z.toList).flatten.length), (List.replicate m z.toList).flatten[i] = z[i % z.size]'(Nat.mod_lt _ hz) := by
      intro m
      induction m with
      | zero => intro i h; simp at h
      | succ m ih =>
        intro i h
        simp only [List.replicate_succ, List.flatten_cons] at h ⊢
        by_cases hi : i < z.size
        · rw [List.getElem_append_left (by simpa using hi)]
          simp [Nat.mod_eq_of_lt hi]
        · rw [List.getElem_append_right (by simpa using hi)]
          rw [ih (i - z.toList.length) (by have e1 : z.toList.length = z.size := by simp
                                           have h' : i < z.toList.length + (List.replicate m z.toList).flatten.length := by rw [← List.length_append]; exact h
                                           omega)]
          congr 1
          simp only [Array.length_toList]
          rw [Nat.mod_eq_sub_mod (Nat.le_of_not_lt hi)]
    exact (key m i h2).symm
section
variable {P : Program} {n : NF} {W0 : GW} {Q : Exit → Act → GW → Prop} {F : Slots} {H : Heap} {L : List HProp} {ops : Array Oper} {rest : List Oper} {k : List Fr} {ty : TypeId} {pos : String} {aft : Array Edge} {d : Tmp} {x y : Operand} {t e : TypeId} {sz wd : Nat} {z : Value} {kl kc : IntKind}
theorem ops_mkT {α : Type} (R : Rd α) (z0 : α) (m : Nat) [hT : TSl P t e] [hI : TIn P e sz wd z] [hR : RdOk R sz] (hv : opvs F [x, y] = some [.int kl m, .int kc m]) (hz : R H z.cells.toList z0) (hb : m * wd ≤ cap47) (hm : m ≤ cap47)
    (h : ∀ b, Ops P n W0 Q ((d, .slice (some ⟨b, 0, none⟩) m m) :: F) H (ownS R sz wd e H (.slice (some ⟨b, 0, none⟩) m m) (List.replicate m z0) :: L) false ops rest k) (hd : Nat.blt d n = true := by rfl) :
    Ops P n W0 Q F H L false ops (⟨some d, .makeSlice t x y, ty, pos, aft, none⟩ :: rest) k := by
  have hsz : z.cells.size = sz := by
    have := hR.len hz; simpa using this
  refine ops_w rfl hd (op_mkN (hT := hT) (hI := hI) (m := m) (cs := (List.replicate m z.cells.toList).flatten) (opvs2 hv).1 (opvs2 hv).2 (by rw [← hsz]; exact made_len) hb hm fun b _ => ?_)
  refine ops_L ?_ (h b)
  have hlen : (List.replicate m z.cells.toList).flatten.length = m * sz := by simp [List.length_flatten, hsz]
  have hs := own_shut (T := e) (sz := sz) (m := m) (b := b) (cap := m) (xs := (List.replicate m z.cells.toList).flatten) (sp := []) (R := L) hlen (Nat.le_refl _) (by simp only [cap47] at hm; omega) (by simpa using hlen)
  rw [List.append_nil] at hs
  refine hs.trans ?_
  have hm2 := ownS_mk (sz := sz) (T := e) (w := wd) (s := .slice (some ⟨b, 0, none⟩) m m) (L := L) (RL.rep hz m) (by simpa using hb)
  rw [List.length_replicate] at hm2
  exact hm2
end
end Go.Sx
namespace Go.Sx
open Go Go.X Go.Sort
section
variable {α : Type} [Inhabited α]
end
class R1b {α : Type} (R : Rd α) (val : α → Value) (ok : α → Prop) : Prop where
  h : ∀ {H : Heap} {x : α}, ok x → R H [val x] x
instance : R1b rInt (fun x => .int .i64 x) fits := ⟨fun h => ⟨rfl, h⟩⟩
instance : R1b rStr (fun x => .string x) (fun x => x.size ≤ cap47) := ⟨fun h => ⟨rfl, h⟩⟩
theorem RL.mk1 {α : Type} {R : Rd α} {val : α → Value} {ok : α → Prop} [h1 : R1b R val ok] {H : Heap} : ∀ {xs : List α}, (∀ x ∈ xs, ok x) → RL R H (xs.map val) xs
  | [], _ => rfl
  | x :: xs, h => ⟨[val x], xs.map val, rfl, h1.h (h x (by simp)), RL.mk1 fun y hy => h y (by simp [hy])⟩
section
variable {P : Program} {f : FuncId} {W0 : GW} {H H0 : Heap} {T : Nat} {v : Value}
theorem mem_compactUpTo {α : Type} [DecidableEq α] [Inhabited α] {d : Array α} {x : α} : ∀ {m : Nat}, x ∈ Lib.compactUpTo d m ↔ ∃ j, j < m ∧ d[j]! = x
  | 0 => by simp [Lib.compactUpTo]
  | m + 1 => by
    rw [Lib.compactUpTo_succ, List.mem_append, mem_compactUpTo]
    constructor
    · rintro (⟨j, h1, h2⟩ | h)
      · exact ⟨j, by omega, h2⟩
      · split at h
        · exact ⟨m, by omega, (List.mem_singleton.1 h).symm⟩
        · cases h
    · rintro ⟨j, h1, h2⟩
      by_cases e : j = m
      · subst e
        cases hk : Lib.keeps d j with
        | true => right; simp [h2]
        | false =>
          left
          by_cases e : j = 0
          · subst e; simp [Lib.keeps] at hk
          · refine ⟨j - 1, by omega, ?_⟩
            have : d[j]! = d[j - 1]! := Classical.byContradiction fun h => by rw [Lib.keeps_pos h] at hk; cases hk
            rw [← this]; exact h2
      · exact .inl ⟨j, by omega, h2⟩
theorem mem_compact {α : Type} [DecidableEq α] [Inhabited α] {xs : List α} {x : α} : x ∈ Lib.compact xs ↔ x ∈ xs := by
  unfold Lib.compact
  rw [mem_compactUpTo, List.mem_iff_getElem]
  constructor
  · rintro ⟨j, h1, h2⟩; exact ⟨j, h1, by simpa [h1] using h2⟩
  · rintro ⟨j, h1, h2⟩; exact ⟨j, h1, by simpa [h1] using h2⟩
end
def oneC : Value → Bool
  | .agg _ => false
  | _ => true
theorem oneC_cells {v : Value} (h : oneC v = true) : v.cells = #[v] := by cases v <;> first | rfl | simp [oneC] at h
def partsC (F : Slots) : Nat → List (Nat × Operand) → Option (List Value)
  | _, [] => some []
  | i, (j, x) :: r => match Nat.beq i j with
    | false => none
    | true => match opv F x with
      | none => none
      | some v => match partsC F (i + 1) r with
        | none => none
        | some vs => some (v :: vs)
theorem fillN : ∀ (vs : List Value) (i : Nat) (arr : List Value), vs.all oneC = true → i + vs.length ≤ arr.length → Instr.fill (fun i => some (i * 1, 1)) arr.toArray ((vs.zipIdx i).map fun p => (p.2, p.1)) = some (arr.take i ++ vs ++ arr.drop (i + vs.length)).toArray
  | [], i, arr, _, _ => by simp [Instr.fill]
  | v :: vs, i, arr, h, hl => by
    simp only [List.all_cons, Bool.and_eq_true] at h
    simp only [List.zipIdx_cons, List.map_cons, Instr.fill, oneC_cells h.1]
    simp only [List.length_cons] at hl
    rw [if_neg (by simp; omega)]
    have := fillN vs (i + 1) (arr.set i v) h.2 (by simp; omega)
    have e : (#[v] : Array Value).zipIdx.foldl (fun cs (c, j) => cs.setIfInBounds (i * 1 + j) c) arr.toArray = (arr.set i v).toArray := by simp
    rw [e, this]
    congr 2
    rw [List.take_add_one, List.getElem?_set_self (by omega), List.take_set_of_le (by omega), List.drop_set_of_lt (by omega)]
    simp [Nat.add_assoc, Nat.add_comm 1]
section
variable {P : Program} {n : NF} {W0 : GW} {F : Slots} {H : Heap} {L : List HProp} {K : Value → Heap → List HProp → Prop} {dst : Option Tmp} {ty : TypeId} {pos : String} {aft : Array Edge} {g : Option (Nat × Bool)}
theorem partsC_eval {a : Act} (hF : FrOk n a F) : ∀ {ps : List (Nat × Operand)} {i : Nat} {vs : List Value}, partsC F i ps = some vs → ps.map (fun p => (p.1, a.eval p.2)) = (vs.zipIdx i).map fun p => (p.2, p.1)
  | [], i, vs, h => by simp [partsC] at h; subst h; rfl
  | (j, x) :: r, i, vs, h => by
    simp only [partsC] at h
    split at h
    · cases h
    · next hij =>
      split at h
      · cases h
      · next v hv =>
        split at h
        · cases h
        · next us hu =>
          cases h
          have e : i = j := by simpa using hij
          subst e
          simp only [List.map_cons, List.zipIdx_cons, hF.opv hv, partsC_eval hF hu]
theorem op_bsN {t e : TypeId} {z : Value} {m : Nat} {ps : List (Nat × Operand)} {vs : List Value} [hT : TSl P t e] [hS' : TSz P e 1] [hZ : TZ P e z] (hx : partsC F 0 ps = some vs) (h1 : vs.all oneC = true) (hm : vs.length = m) (hz : z.cells.size = 1) (h0 : (Nat.blt 0 m && Nat.ble m 1000) = true)
    (hk : ∀ b, H b = none → K (.slice (some ⟨b, 0, none⟩) m m) H (row b e vs :: L)) : OpW P n W0 ⟨dst, .buildSlice t m ps.toArray, ty, pos, aft, g⟩ F H L K :=
  .of_run fun {W1} a w hF hS => by
    have hs : St W1 H (w.alloc (.cells vs.toArray e)) (row w.heap.size e vs :: L) := hS.alloc (hS.env.of rfl rfl rfl) rfl
    refine ⟨_, H, _, _, ?_, .refl _, hk _ hs.ptRead.2, hs⟩
    have h0 : 0 < m ∧ m ≤ 1000 := by simpa using h0
    have hne : m ≠ 0 := by omega
    have hfill := fillN vs 0 ((List.range (m * 1)).map (fun i => z.cells[i % z.cells.size]!)) h1 (by simp; omega)
    have hd : ((List.range (m * 1)).map (fun i => z.cells[i % z.cells.size]!)).drop (0 + vs.length) = [] := List.drop_eq_nil_of_le (by simp; omega)
    rw [hd] at hfill
    simp only [List.take_zero, List.nil_append, List.append_nil] at hfill
    have e2 : ((Array.range (m * 1)).map (fun i => z.cells[i % z.cells.size]!)) = ((List.range (m * 1)).map (fun i => z.cells[i % z.cells.size]!)).toArray := by
      apply Array.ext'; simp [Array.toList_range]
    rw [← e2] at hfill
    have hp := partsC_eval hF hx
    have hp2 : (ps.toArray.map fun p => (p.1, a.eval p.2)).toList = (vs.zipIdx 0).map fun p => (p.2, p.1) := by rw [← hp]; simp
    simp only [execOp]
    simp only [Nat.mul_one] at hfill
    simp [Instr.buildSlice, run_underlying hT.und, hS'.run, hne, hZ.run, newRow]
    rw [if_neg (by omega)]
    have hp3 : (ps.map fun x => (x.1, a.eval x.2)) = (vs.zipIdx 0).map fun p => (p.2, p.1) := hp
    simp only [hp3, hfill]
    simp
end
section
variable {P : Program} {n : NF} {W0 : GW} {Q : Exit → Act → GW → Prop} {F : Slots} {H H0 : Heap} {L L0 : List HProp} {m fuel : Nat} {ops : Array Oper} {rest : List Oper} {listed : Array Bool} {k : List Fr} {ty : TypeId} {pos : String} {aft : Array Edge} {d : Tmp} {g : Option (Nat × Bool)} {gv : Option (Value × Bool)} {t e : TypeId} {z : Value} {ml : Nat} {ps : List (Nat × Operand)} {vs : List Value}
theorem ops_bsN [hT : TSl P t e] [hS' : TSz P e 1] [hZ : TZ P e z] (hg : gval ops F g = some gv) [hb : GOk gv true] (hx : partsC F 0 ps = some vs) (hk : ∀ b, H b = none → Ops P n W0 Q ((d, .slice (some ⟨b, 0, none⟩) ml ml) :: F) H (row b e vs :: L) false ops rest k)
    (h1 : vs.all oneC = true := by rfl) (hm : vs.length = ml := by rfl) (hz : z.cells.size = 1 := by rfl) (h0 : (Nat.blt 0 ml && Nat.ble ml 1000) = true := by rfl) (hd : Nat.blt d n = true := by rfl) : Ops P n W0 Q F H L false ops (⟨some d, .buildSlice t ml ps.toArray, ty, pos, aft, g⟩ :: rest) k :=
  ops_w hg hd (op_bsN hx h1 hm hz h0 hk)
theorem gny_bsN (i : Nat) [hT : TSl P t e] [hS' : TSz P e 1] [hZ : TZ P e z] (hi : ops[i]? = some ⟨some d, .buildSlice t ml ps.toArray, ty, pos, aft, g⟩) (hg : gval ops F g = some gv) [hb : GOk gv true] (hx : partsC F 0 ps = some vs) (hk : ∀ b, H b = none → AnyO P n W0 Q ((d, .slice (some ⟨b, 0, none⟩) ml ml) :: F) H H0 (row b e vs :: L) L0 m ops fuel (listed.setIfInBounds i true) k)
    (h1 : vs.all oneC = true := by rfl) (hm : vs.length = ml := by rfl) (hz : z.cells.size = 1 := by rfl) (h0 : (Nat.blt 0 ml && Nat.ble ml 1000) = true := by rfl)
    (hl : H0.le H := by first | exact Go.Sx.Heap.le.refl _ | assumption | ((try simp only [Go.Sx.le_self] at *); (repeat (first | exact Go.Sx.Heap.le.refl _ | assumption | refine Go.Sx.Heap.le.trans ?_ ‹Go.Sx.Heap.le _ _›)))) (hsub : Sub L L0 := by (repeat (first | exact Go.Sx.Sub.refl _ | exact Go.Sx.Sub.nil _ | (apply Go.Sx.sub_pick; (repeat (first | exact Go.Sx.Has.here | apply Go.Sx.Has.there)); skip) | apply Go.Sx.Sub.drop)))
    (hr : Region.ready .any ops listed = [i] := by decide +kernel) (hd : Nat.blt d n = true := by rfl) : AnyO P n W0 Q F H H0 L L0 m ops (fuel + 1) listed k :=
  gny_w i hi hg (op_bsN hx h1 hm hz h0 fun b hb => ⟨hl, Sub.drop hsub, hk b hb⟩) hr hd
end
theorem slr_of_hrow {α : Type} {R : Rd α} {sz : Nat} [RdOk R sz] {H : Heap} {b cap : Nat} {cs : List Value} {xs : List α} (h : HRow H b 0 cs) (hr : RL R H cs xs) (h1 : xs.length ≤ cap) (h2 : cap ≤ 9223372036854775807) : SlR R sz H (.slice (some ⟨b, 0, none⟩) xs.length cap) xs :=
  ⟨cs, ⟨_, cap, rfl, ⟨h1, h2⟩, hr.len, hr.one, .inr ⟨b, 0, rfl, h⟩⟩, hr⟩
end Go.Sx
namespace Go.Sx
open Go Go.X Go.ChangeShapes Go.WideShapes Go.ChangeAt Go.RowKit
section
variable {P : Program} {n : NF} {W0 : GW} {Q : Exit → Act → GW → Prop} {F : Slots} {H : Heap} {L : List HProp} {ops : Array Oper} {rest : List Oper} {k : List Fr} {ty : TypeId} {pos : String} {aft : Array Edge} {d : Tmp} {x y : Operand} {t e : TypeId} {sz wd : Nat} {z : Value} {kl kc : IntKind} {g : Option (Nat × Bool)} {gv : Option (Value × Bool)}
end
end Go.Sx
namespace Go.Sx
open Go Go.X
section
variable {P : Program} {n : NF} {W0 : GW} {Q : Exit → Act → GW → Prop} {F : Slots} {H H0 : Heap} {L L0 R : List HProp} {ops : Array Oper} {k : List Fr} {op : Op} {ty : TypeId} {pos : String} {aft : Array Edge} {d : Tmp} {v : Value} {m fuel : Nat} {listed : Array Bool}
theorem at_w (i : Nat) (hi : ops[i]? = some ⟨some d, op, ty, pos, aft, none⟩) (h : OpW P n W0 ⟨some d, op, ty, pos, aft, none⟩ F H L (fun v H' L' => H0.le H' ∧ Sub L' L0 ∧ AnyO P n W0 Q ((d, v) :: F) H' H0 L' L0 m ops fuel (listed.setIfInBounds i true) k)) (hd : Nat.blt d n = true := by rfl) :
    AnyAt P n W0 F H H0 L L0 m ops (Kx P Q k) fuel listed i := at_some hi hd (h.mono fun v H' L' _ ⟨a, b, c⟩ => ⟨a, b, c.run⟩)
theorem at_s (i : Nat) {x y : Operand} {t : TypeId} {b off T m' : Nat} {cs us cs' : List Value} [TSz P t m'] (hi : ops[i]? = some ⟨none, .store t x y, ty, pos, aft, none⟩)
    (hv : opvs F [x, y] = some [.pointer (some ⟨b, off, none⟩), v]) [hr' : HasRow L b T cs R] [hu : CellsI v us] (hl : us.length = m') (h1 : us.all (·.oneCell') = true) (hle : off + us.length ≤ cs.length) (hcs : cs.take off ++ us ++ cs.drop (off + us.length) = cs')
    (hk : Sub (row b T cs' :: R) L0 ∧ AnyO P n W0 Q F H H0 (row b T cs' :: R) L0 m ops fuel (listed.setIfInBounds i true) k)
    (hl0 : H0.le H := by first | exact Go.Sx.Heap.le.refl _ | assumption | ((try simp only [Go.Sx.le_self] at *); (repeat (first | exact Go.Sx.Heap.le.refl _ | assumption | refine Go.Sx.Heap.le.trans ?_ ‹Go.Sx.Heap.le _ _›)))) :
    AnyAt P n W0 F H H0 L L0 m ops (Kx P Q k) fuel listed i := by
  subst hcs
  have hst : OpW P n W0 ⟨none, .store t x y, ty, pos, aft, none⟩ F H L (fun v H' L' => H0.le H' ∧ Sub L' L0 ∧ AnyO P n W0 Q F H' H0 L' L0 m ops fuel (listed.setIfInBounds i true) k) := op_storeAt (opvs2 hv).1 (opvs2 hv).2 hu.h hl h1 hr'.has hle ⟨hl0, hk.1, hk.2⟩
  exact at_none hi (hst.mono fun v H' L' _ ⟨a, b, c⟩ => ⟨a, b, c.run⟩)
theorem any_2 (i j : Nat) (h : AnyAt P n W0 F H H0 L L0 m ops (Kx P Q k) fuel listed i) (h' : AnyAt P n W0 F H H0 L L0 m ops (Kx P Q k) fuel listed j) (hr : Region.ready .any ops listed = [i, j] := by decide +kernel) : AnyO P n W0 Q F H H0 L L0 m ops (fuel + 1) listed k := ⟨any_two hr h h'⟩
theorem any_3 (i j l : Nat) (h : AnyAt P n W0 F H H0 L L0 m ops (Kx P Q k) fuel listed i) (h' : AnyAt P n W0 F H H0 L L0 m ops (Kx P Q k) fuel listed j) (h2 : AnyAt P n W0 F H H0 L L0 m ops (Kx P Q k) fuel listed l) (hr : Region.ready .any ops listed = [i, j, l] := by decide +kernel) : AnyO P n W0 Q F H H0 L L0 m ops (fuel + 1) listed k := ⟨any_three hr h h' h2⟩
end
end Go.Sx
namespace Go.Sx
open Go Go.X
structure HeldI (i : Nat) (q : Prop) : Type where
  out : q
section
variable {P : Program} {n : NF} {W0 : GW} {Q : Exit → Act → GW → Prop} {F : Slots} {H H0 : Heap} {L L0 : List HProp} {m fuel : Nat} {ops : Array Oper} {listed : Array Bool} {k : List Fr} {op : Op} {ty : TypeId} {pos : String} {aft : Array Edge} {d : Tmp} {v : Value} {vs : List Value}
theorem gny_pY {i : Nat} {qq : Prop} (hh : HeldI i qq) {g : Option (Nat × Bool)} {gv : Option (Value × Bool)} {side : Prop} (hi : ops[i]? = some ⟨some d, op, ty, pos, aft, g⟩) (hg : gval ops F g = some gv) [hb : GOk gv true] (hv : opvs F (opsOf op) = some vs) [hp : POp P op vs side v] (h : AnyO P n W0 Q ((d, v) :: F) H H0 L L0 m ops fuel (listed.setIfInBounds i true) k) (hs : side := by first | exact True.intro | omega | assumption | (unfold Go.Sx.fits; omega) | (refine ⟨?_, ?_⟩ <;> (try unfold Go.Sx.fits) <;> omega)) (hok : takeOk ops m listed i = true := by decide +kernel)
    (hl : H0.le H := by first | exact Go.Sx.Heap.le.refl _ | assumption | ((try simp only [Go.Sx.le_self] at *); (repeat (first | exact Go.Sx.Heap.le.refl _ | assumption | refine Go.Sx.Heap.le.trans ?_ ‹Go.Sx.Heap.le _ _›)))) (hsub : Sub L L0 := by (repeat (first | exact Go.Sx.Sub.refl _ | exact Go.Sx.Sub.nil _ | (apply Go.Sx.sub_pick; (repeat (first | exact Go.Sx.Has.here | apply Go.Sx.Has.there)); skip) | apply Go.Sx.Sub.drop))) (hd : Nat.blt d n = true := by rfl) : AnyO P n W0 Q F H H0 L L0 m ops (fuel + 1) listed k := gny_pure i hi hg (hp.run hs hv) h hok hl hsub hd
end
section
variable {P : Program} {n : NF} {W0 : GW} {Q : Exit → Act → GW → Prop} {F : Slots} {H H0 : Heap} {L L0 : List HProp} {m fuel : Nat} {ops : Array Oper} {listed : Array Bool} {k : List Fr} {op : Op} {ty : TypeId} {pos : String} {aft : Array Edge} {d : Tmp} {v : Value} {vs : List Value}
theorem gny_ldY {i : Nat} {qq : Prop} (hh : HeldI i qq) {g : Option (Nat × Bool)} {gv : Option (Value × Bool)} {x : Operand} {t : TypeId} {b off T : Nat} {cs : List Value} {R : List HProp} [TAgg P t false] (hi : ops[i]? = some ⟨some d, .load t x, ty, pos, aft, g⟩) (hg : gval ops F g = some gv) [hb : GOk gv true] (hx : opv F x = some (.pointer (some ⟨b, off, none⟩))) [hr : HasRow L0 b T cs R] (hc : cs[off]? = some v) (h : AnyO P n W0 Q ((d, v) :: F) H H0 L L0 m ops fuel (listed.setIfInBounds i true) k) (hok : takeOk ops m listed i = true := by decide +kernel)
    (hl : H0.le H := by first | exact Go.Sx.Heap.le.refl _ | assumption | ((try simp only [Go.Sx.le_self] at *); (repeat (first | exact Go.Sx.Heap.le.refl _ | assumption | refine Go.Sx.Heap.le.trans ?_ ‹Go.Sx.Heap.le _ _›)))) (hsub : Sub L L0 := by (repeat (first | exact Go.Sx.Sub.refl _ | exact Go.Sx.Sub.nil _ | (apply Go.Sx.sub_pick; (repeat (first | exact Go.Sx.Has.here | apply Go.Sx.Has.there)); skip) | apply Go.Sx.Sub.drop))) (hd : Nat.blt d n = true := by rfl) : AnyO P n W0 Q F H H0 L L0 m ops (fuel + 1) listed k := gny_pure i hi hg (op_load hx hr.has hc) h hok hl hsub hd
end
section
variable {P : Program} {n : NF} {W0 : GW} {Q : Exit → Act → GW → Prop} {F : Slots} {H H0 : Heap} {L L0 : List HProp} {m fuel : Nat} {ops : Array Oper} {listed : Array Bool} {k : List Fr} {op : Op} {ty : TypeId} {pos : String} {aft : Array Edge} {d : Tmp} {v : Value} {vs us : List Value} {g : Option (Nat × Bool)} {gv : Option (Value × Bool)} {p : Prop}
theorem gny_ldHY {i : Nat} {qq : Prop} (hh : HeldI i qq) {x : Operand} {t : TypeId} {b o : Nat} {cs : List Value} [TAgg P t false] (hi : ops[i]? = some ⟨some d, .load t x, ty, pos, aft, g⟩) (hg : gval ops F g = some gv) [hb : GOk gv true] (hx : opv F x = some (.pointer (some ⟨b, o, none⟩))) (hr : HRow H0 b 0 cs) (hc : cs[o]? = some v) (h : AnyO P n W0 Q ((d, v) :: F) H H0 L L0 m ops fuel (listed.setIfInBounds i true) k)
    (hok : takeOk ops m listed i = true := by decide +kernel)
    (hl : H0.le H := by first | exact Go.Sx.Heap.le.refl _ | assumption | ((try simp only [Go.Sx.le_self] at *); (repeat (first | exact Go.Sx.Heap.le.refl _ | assumption | refine Go.Sx.Heap.le.trans ?_ ‹Go.Sx.Heap.le _ _›)))) (hsub : Sub L L0 := by (repeat (first | exact Go.Sx.Sub.refl _ | exact Go.Sx.Sub.nil _ | (apply Go.Sx.sub_pick; (repeat (first | exact Go.Sx.Has.here | apply Go.Sx.Has.there)); skip) | apply Go.Sx.Sub.drop))) (hd : Nat.blt d n = true := by rfl) : AnyO P n W0 Q F H H0 L L0 m ops (fuel + 1) listed k :=
  gny_pure i hi hg (op_loadH hx (hrow_cell hr o (Nat.zero_add _) hc)) h hok hl hsub hd
end
section
variable {P : Program} {n : NF} {W0 : GW} {Q : Exit → Act → GW → Prop} {F : Slots} {H H0 : Heap} {L L0 : List HProp} {m fuel : Nat} {ops : Array Oper} {listed : Array Bool} {k : List Fr} {op : Op} {ty : TypeId} {pos : String} {aft : Array Edge} {d : Tmp} {v : Value} {vs : List Value}
theorem gny_TY {i : Nat} {qq : Prop} (hh : HeldI i qq) {g : Option (Nat × Bool)} {gv : Option (Value × Bool)} {p : Prop} {dp : Decidable p} (hi : ops[i]? = some ⟨some d, op, ty, pos, aft, g⟩) (hg : gval ops F g = some gv) [hb : GOk gv true] (hv : opvs F (opsOf op) = some vs) [hp : BOp P op vs p dp] (h : AnyO P n W0 Q ((d, .bool true) :: F) H H0 L L0 m ops fuel (listed.setIfInBounds i true) k) (hs : p := by first | assumption | omega) (hok : takeOk ops m listed i = true := by decide +kernel)
    (hl : H0.le H := by first | exact Go.Sx.Heap.le.refl _ | assumption | ((try simp only [Go.Sx.le_self] at *); (repeat (first | exact Go.Sx.Heap.le.refl _ | assumption | refine Go.Sx.Heap.le.trans ?_ ‹Go.Sx.Heap.le _ _›)))) (hsub : Sub L L0 := by (repeat (first | exact Go.Sx.Sub.refl _ | exact Go.Sx.Sub.nil _ | (apply Go.Sx.sub_pick; (repeat (first | exact Go.Sx.Has.here | apply Go.Sx.Has.there)); skip) | apply Go.Sx.Sub.drop))) (hd : Nat.blt d n = true := by rfl) : AnyO P n W0 Q F H H0 L L0 m ops (fuel + 1) listed k := gny_pure i hi hg ((hp.run hv).cast (by simp [hs])) h hok hl hsub hd
end
section
variable {P : Program} {n : NF} {W0 : GW} {Q : Exit → Act → GW → Prop} {F : Slots} {H H0 : Heap} {L L0 : List HProp} {m fuel : Nat} {ops : Array Oper} {listed : Array Bool} {k : List Fr} {op : Op} {ty : TypeId} {pos : String} {aft : Array Edge} {d : Tmp} {v : Value} {vs : List Value}
theorem gny_FY {i : Nat} {qq : Prop} (hh : HeldI i qq) {g : Option (Nat × Bool)} {gv : Option (Value × Bool)} {p : Prop} {dp : Decidable p} (hi : ops[i]? = some ⟨some d, op, ty, pos, aft, g⟩) (hg : gval ops F g = some gv) [hb : GOk gv true] (hv : opvs F (opsOf op) = some vs) [hp : BOp P op vs p dp] (h : AnyO P n W0 Q ((d, .bool false) :: F) H H0 L L0 m ops fuel (listed.setIfInBounds i true) k) (hs : ¬ p := by first | assumption | omega) (hok : takeOk ops m listed i = true := by decide +kernel)
    (hl : H0.le H := by first | exact Go.Sx.Heap.le.refl _ | assumption | ((try simp only [Go.Sx.le_self] at *); (repeat (first | exact Go.Sx.Heap.le.refl _ | assumption | refine Go.Sx.Heap.le.trans ?_ ‹Go.Sx.Heap.le _ _›)))) (hsub : Sub L L0 := by (repeat (first | exact Go.Sx.Sub.refl _ | exact Go.Sx.Sub.nil _ | (apply Go.Sx.sub_pick; (repeat (first | exact Go.Sx.Has.here | apply Go.Sx.Has.there)); skip) | apply Go.Sx.Sub.drop))) (hd : Nat.blt d n = true := by rfl) : AnyO P n W0 Q F H H0 L L0 m ops (fuel + 1) listed k := gny_pure i hi hg ((hp.run hv).cast (by simp [hs])) h hok hl hsub hd
end
section
variable {P : Program} {n : NF} {W0 : GW} {Q : Exit → Act → GW → Prop} {F : Slots} {H H0 : Heap} {L L0 : List HProp} {m fuel : Nat} {ops : Array Oper} {listed : Array Bool} {k : List Fr} {op : Op} {ty : TypeId} {pos : String} {aft : Array Edge} {d : Tmp} {v : Value} {vs : List Value}
theorem gny_BY {i : Nat} {qq : Prop} (hh : HeldI i qq) {g : Option (Nat × Bool)} {gv : Option (Value × Bool)} {p : Prop} {dp : Decidable p} (hi : ops[i]? = some ⟨some d, op, ty, pos, aft, g⟩) (hg : gval ops F g = some gv) [hb : GOk gv true] (hv : opvs F (opsOf op) = some vs) [hp : BOp P op vs p dp] (h : AnyO P n W0 Q ((d, .bool (@decide p dp)) :: F) H H0 L L0 m ops fuel (listed.setIfInBounds i true) k) (hok : takeOk ops m listed i = true := by decide +kernel)
    (hl : H0.le H := by first | exact Go.Sx.Heap.le.refl _ | assumption | ((try simp only [Go.Sx.le_self] at *); (repeat (first | exact Go.Sx.Heap.le.refl _ | assumption | refine Go.Sx.Heap.le.trans ?_ ‹Go.Sx.Heap.le _ _›)))) (hsub : Sub L L0 := by (repeat (first | exact Go.Sx.Sub.refl _ | exact Go.Sx.Sub.nil _ | (apply Go.Sx.sub_pick; (repeat (first | exact Go.Sx.Has.here | apply Go.Sx.Has.there)); skip) | apply Go.Sx.Sub.drop))) (hd : Nat.blt d n = true := by rfl) : AnyO P n W0 Q F H H0 L L0 m ops (fuel + 1) listed k := gny_pure i hi hg (hp.run hv) h hok hl hsub hd
end
section
variable {P : Program} {n : NF} {W0 : GW} {Q : Exit → Act → GW → Prop} {F : Slots} {H H0 : Heap} {L L0 : List HProp} {m fuel : Nat} {ops : Array Oper} {listed : Array Bool} {k : List Fr} {op : Op} {ty : TypeId} {pos : String} {aft : Array Edge} {d : Tmp} {v : Value} {vs : List Value}
theorem gny_skipY {i : Nat} {qq : Prop} (hh : HeldI i qq) {g : Option (Nat × Bool)} {gv : Option (Value × Bool)} (hi : ops[i]? = some ⟨some d, op, ty, pos, aft, g⟩) (hg : gval ops F g = some gv) [hb : GOk gv false] (h : AnyO P n W0 Q ((d, undef) :: F) H H0 L L0 m ops fuel (listed.setIfInBounds i true) k) (hok : takeOk ops m listed i = true := by decide +kernel)
    (hl : H0.le H := by first | exact Go.Sx.Heap.le.refl _ | assumption | ((try simp only [Go.Sx.le_self] at *); (repeat (first | exact Go.Sx.Heap.le.refl _ | assumption | refine Go.Sx.Heap.le.trans ?_ ‹Go.Sx.Heap.le _ _›)))) (hsub : Sub L L0 := by (repeat (first | exact Go.Sx.Sub.refl _ | exact Go.Sx.Sub.nil _ | (apply Go.Sx.sub_pick; (repeat (first | exact Go.Sx.Has.here | apply Go.Sx.Has.there)); skip) | apply Go.Sx.Sub.drop))) (hd : Nat.blt d n = true := by rfl) : AnyO P n W0 Q F H H0 L L0 m ops (fuel + 1) listed k := ⟨fun a w hF hS => by
  simp only [takeOk, Bool.and_eq_true, Nat.blt_eq] at hok
  obtain ⟨⟨⟨⟨⟨h1, h2⟩, h3⟩, h4⟩, h5⟩, h6⟩ := hok
  exact wpP_first hi h5 (Region.noSelect_spec h1) fuel listed a w h4 h6 (Region.free_spec hi h2) (by simpa using h3) (.inr ⟨wanted_F hg hF, rfl⟩) ((hS.weak hl).sub hsub) (h.run _ w (hF.put hd undef) hS)⟩
end
section
variable {P : Program} {n : NF} {W0 : GW} {Q : Exit → Act → GW → Prop} {F : Slots} {H H0 : Heap} {L L0 : List HProp} {m fuel : Nat} {ops : Array Oper} {listed : Array Bool} {k : List Fr} {op : Op} {ty : TypeId} {pos : String} {aft : Array Edge} {d : Tmp} {v : Value} {vs us : List Value} {g : Option (Nat × Bool)} {gv : Option (Value × Bool)} {p : Prop}
theorem gny_spY {i : Nat} {qq : Prop} (hh : HeldI i qq) {side : Prop} (hi : ops[i]? = some ⟨some d, op, ty, pos, aft, g⟩) (hg : gval ops F g = some gv) [hs : GSym gv p] (hv : opvs F (opsOf op) = some vs) [hu : UnGs p vs us] [hp : POp P op us side v] (h : AnyO P n W0 Q ((d, gd p v) :: F) H H0 L L0 m ops fuel (listed.setIfInBounds i true) k)
    (hside : p → side := by intro hg; first | exact True.intro | omega | assumption | (unfold Go.Sx.fits; omega) | (refine ⟨?_, ?_⟩ <;> (try unfold Go.Sx.fits) <;> omega)) (hok : takeOk ops m listed i = true := by decide +kernel)
    (hl : H0.le H := by first | exact Go.Sx.Heap.le.refl _ | assumption | ((try simp only [Go.Sx.le_self] at *); (repeat (first | exact Go.Sx.Heap.le.refl _ | assumption | refine Go.Sx.Heap.le.trans ?_ ‹Go.Sx.Heap.le _ _›)))) (hsub : Sub L L0 := by (repeat (first | exact Go.Sx.Sub.refl _ | exact Go.Sx.Sub.nil _ | (apply Go.Sx.sub_pick; (repeat (first | exact Go.Sx.Has.here | apply Go.Sx.Has.there)); skip) | apply Go.Sx.Sub.drop))) (hd : Nat.blt d n = true := by rfl) : AnyO P n W0 Q F H H0 L L0 m ops (fuel + 1) listed k :=
  gny_sym i hi hg (fun h => hp.run (hside h) (by rw [hv, hu.h h])) h hok hl hsub hd
end
section
variable {P : Program} {n : NF} {W0 : GW} {Q : Exit → Act → GW → Prop} {F : Slots} {H H0 : Heap} {L L0 : List HProp} {m fuel : Nat} {ops : Array Oper} {listed : Array Bool} {k : List Fr} {op : Op} {ty : TypeId} {pos : String} {aft : Array Edge} {d : Tmp} {v : Value} {vs us : List Value} {g : Option (Nat × Bool)} {gv : Option (Value × Bool)} {p : Prop}
theorem gny_sBY {i : Nat} {qq : Prop} (hh : HeldI i qq) {r : Prop} {dr : Decidable r} (hi : ops[i]? = some ⟨some d, op, ty, pos, aft, g⟩) (hg : gval ops F g = some gv) [hs : GSym gv p] (hv : opvs F (opsOf op) = some vs) [hu : UnGs p vs us] [hp : BOp P op us r dr] (h : AnyO P n W0 Q ((d, gd p (.bool (@decide r dr))) :: F) H H0 L L0 m ops fuel (listed.setIfInBounds i true) k)
    (hok : takeOk ops m listed i = true := by decide +kernel)
    (hl : H0.le H := by first | exact Go.Sx.Heap.le.refl _ | assumption | ((try simp only [Go.Sx.le_self] at *); (repeat (first | exact Go.Sx.Heap.le.refl _ | assumption | refine Go.Sx.Heap.le.trans ?_ ‹Go.Sx.Heap.le _ _›)))) (hsub : Sub L L0 := by (repeat (first | exact Go.Sx.Sub.refl _ | exact Go.Sx.Sub.nil _ | (apply Go.Sx.sub_pick; (repeat (first | exact Go.Sx.Has.here | apply Go.Sx.Has.there)); skip) | apply Go.Sx.Sub.drop))) (hd : Nat.blt d n = true := by rfl) : AnyO P n W0 Q F H H0 L L0 m ops (fuel + 1) listed k :=
  gny_sym i hi hg (fun h => hp.run (by rw [hv, hu.h h])) h hok hl hsub hd
end
section
variable {P : Program} {n : NF} {W0 : GW} {Q : Exit → Act → GW → Prop} {F : Slots} {H H0 : Heap} {L L0 : List HProp} {m fuel : Nat} {ops : Array Oper} {listed : Array Bool} {k : List Fr} {op : Op} {ty : TypeId} {pos : String} {aft : Array Edge} {d : Tmp} {v : Value} {vs us : List Value} {g : Option (Nat × Bool)} {gv : Option (Value × Bool)} {p : Prop}
theorem gny_sldY {i : Nat} {qq : Prop} (hh : HeldI i qq) {x : Operand} {t : TypeId} {xv : Value} {b off T : Nat} {cs : List Value} {R : List HProp} [TAgg P t false] (hi : ops[i]? = some ⟨some d, .load t x, ty, pos, aft, g⟩) (hg : gval ops F g = some gv) [hs : GSym gv p] (hx : opv F x = some xv) [hu : UnG p xv (.pointer (some ⟨b, off, none⟩))] [hr : HasRow L0 b T cs R] (hc : cs[off]? = some v) (h : AnyO P n W0 Q ((d, gd p v) :: F) H H0 L L0 m ops fuel (listed.setIfInBounds i true) k)
    (hok : takeOk ops m listed i = true := by decide +kernel)
    (hl : H0.le H := by first | exact Go.Sx.Heap.le.refl _ | assumption | ((try simp only [Go.Sx.le_self] at *); (repeat (first | exact Go.Sx.Heap.le.refl _ | assumption | refine Go.Sx.Heap.le.trans ?_ ‹Go.Sx.Heap.le _ _›)))) (hsub : Sub L L0 := by (repeat (first | exact Go.Sx.Sub.refl _ | exact Go.Sx.Sub.nil _ | (apply Go.Sx.sub_pick; (repeat (first | exact Go.Sx.Has.here | apply Go.Sx.Has.there)); skip) | apply Go.Sx.Sub.drop))) (hd : Nat.blt d n = true := by rfl) : AnyO P n W0 Q F H H0 L L0 m ops (fuel + 1) listed k :=
  gny_sym i hi hg (fun hp => op_load (by rw [hx, hu.h hp]) hr.has hc) h hok hl hsub hd
end
section
variable {P : Program} {n : NF} {W0 : GW} {Q : Exit → Act → GW → Prop} {F : Slots} {H H0 : Heap} {L L0 : List HProp} {m fuel : Nat} {ops : Array Oper} {listed : Array Bool} {k : List Fr} {op : Op} {ty : TypeId} {pos : String} {aft : Array Edge} {d : Tmp} {v : Value} {vs us : List Value} {g : Option (Nat × Bool)} {gv : Option (Value × Bool)} {p : Prop}
theorem gny_sldHY {i : Nat} {qq : Prop} (hh : HeldI i qq) {x : Operand} {t : TypeId} {xv : Value} {b o : Nat} {cs : List Value} [TAgg P t false] (hi : ops[i]? = some ⟨some d, .load t x, ty, pos, aft, g⟩) (hg : gval ops F g = some gv) [hs : GSym gv p] (hx : opv F x = some xv) [hu : UnG p xv (.pointer (some ⟨b, o, none⟩))] (hr : HRow H0 b 0 cs) (hc : cs[o]? = some v) (h : AnyO P n W0 Q ((d, gd p v) :: F) H H0 L L0 m ops fuel (listed.setIfInBounds i true) k)
    (hok : takeOk ops m listed i = true := by decide +kernel)
    (hl : H0.le H := by first | exact Go.Sx.Heap.le.refl _ | assumption | ((try simp only [Go.Sx.le_self] at *); (repeat (first | exact Go.Sx.Heap.le.refl _ | assumption | refine Go.Sx.Heap.le.trans ?_ ‹Go.Sx.Heap.le _ _›)))) (hsub : Sub L L0 := by (repeat (first | exact Go.Sx.Sub.refl _ | exact Go.Sx.Sub.nil _ | (apply Go.Sx.sub_pick; (repeat (first | exact Go.Sx.Has.here | apply Go.Sx.Has.there)); skip) | apply Go.Sx.Sub.drop))) (hd : Nat.blt d n = true := by rfl) : AnyO P n W0 Q F H H0 L L0 m ops (fuel + 1) listed k :=
  gny_sym i hi hg (fun hp => op_loadH (by rw [hx, hu.h hp]) (hrow_cell hr o (Nat.zero_add _) hc)) h hok hl hsub hd
end
section
variable {P : Program} {n : NF} {W0 : GW} {Q : Exit → Act → GW → Prop} {F : Slots} {H H0 : Heap} {L L0 : List HProp} {m fuel : Nat} {ops : Array Oper} {listed : Array Bool} {k : List Fr} {op : Op} {ty : TypeId} {pos : String} {aft : Array Edge} {d : Tmp} {v : Value} {vs : List Value}
theorem gny_ldNY {i : Nat} {qq : Prop} (hh : HeldI i qq) {g : Option (Nat × Bool)} {gv : Option (Value × Bool)} {x : Operand} {t : TypeId} {b off T sz : Nat} {cs us : List Value} {R : List HProp} [TAgg P t true] [TSz P t sz] (hi : ops[i]? = some ⟨some d, .load t x, ty, pos, aft, g⟩) (hg : gval ops F g = some gv) [hb : GOk gv true] (hx : opv F x = some (.pointer (some ⟨b, off, none⟩))) [hr : HasRow L0 b T cs R] (hc : pickC cs off sz = some us) (h : AnyO P n W0 Q ((d, .agg us.toArray) :: F) H H0 L L0 m ops fuel (listed.setIfInBounds i true) k) (hok : takeOk ops m listed i = true := by decide +kernel)
    (hl : H0.le H := by first | exact Go.Sx.Heap.le.refl _ | assumption | ((try simp only [Go.Sx.le_self] at *); (repeat (first | exact Go.Sx.Heap.le.refl _ | assumption | refine Go.Sx.Heap.le.trans ?_ ‹Go.Sx.Heap.le _ _›)))) (hsub : Sub L L0 := by (repeat (first | exact Go.Sx.Sub.refl _ | exact Go.Sx.Sub.nil _ | (apply Go.Sx.sub_pick; (repeat (first | exact Go.Sx.Has.here | apply Go.Sx.Has.there)); skip) | apply Go.Sx.Sub.drop))) (hd : Nat.blt d n = true := by rfl) : AnyO P n W0 Q F H H0 L L0 m ops (fuel + 1) listed k := gny_pure i hi hg (op_loadN hx hr.has (pickC_pick hc)) h hok hl hsub hd
end
section
variable {P : Program} {n : NF} {W0 : GW} {Q : Exit → Act → GW → Prop} {F : Slots} {H H0 : Heap} {L L0 : List HProp} {m fuel : Nat} {ops : Array Oper} {listed : Array Bool} {k : List Fr} {op : Op} {ty : TypeId} {pos : String} {aft : Array Edge} {d : Tmp} {v : Value} {vs : List Value}
theorem gny_bldY {i : Nat} {qq : Prop} (hh : HeldI i qq) {g : Option (Nat × Bool)} {gv : Option (Value × Bool)} {t : TypeId} {pl : List (Nat × Nat)} {ps : List (Nat × Operand)} {zs cs : List Value} [hT : TPl P t pl] [hZ : TZL P t zs] (hi : ops[i]? = some ⟨some d, .build t ps.toArray, ty, pos, aft, g⟩) (hg : gval ops F g = some gv) [hb : GOk gv true] (hf : fillC F pl ps zs = some cs) (h : AnyO P n W0 Q ((d, .agg cs.toArray) :: F) H H0 L L0 m ops fuel (listed.setIfInBounds i true) k) (hok : takeOk ops m listed i = true := by decide +kernel)
    (hl : H0.le H := by first | exact Go.Sx.Heap.le.refl _ | assumption | ((try simp only [Go.Sx.le_self] at *); (repeat (first | exact Go.Sx.Heap.le.refl _ | assumption | refine Go.Sx.Heap.le.trans ?_ ‹Go.Sx.Heap.le _ _›)))) (hsub : Sub L L0 := by (repeat (first | exact Go.Sx.Sub.refl _ | exact Go.Sx.Sub.nil _ | (apply Go.Sx.sub_pick; (repeat (first | exact Go.Sx.Has.here | apply Go.Sx.Has.there)); skip) | apply Go.Sx.Sub.drop))) (hd : Nat.blt d n = true := by rfl) : AnyO P n W0 Q F H H0 L L0 m ops (fuel + 1) listed k := gny_pure i hi hg (op_build (fillC_fill hf)) h hok hl hsub hd
end
theorem stepY (i : Nat) {P : Program} {n : NF} {W0 : GW} {Q : Exit → Act → GW → Prop} {F : Slots} {H H0 : Heap} {L L0 : List HProp} {m fuel : Nat} {ops : Array Oper} {listed : Array Bool} {k : List Fr} {q : Prop} (hq : q)
    (hle : H0.le H := by first | exact Go.Sx.Heap.le.refl _ | assumption | ((try simp only [Go.Sx.le_self] at *); (repeat (first | exact Go.Sx.Heap.le.refl _ | assumption | refine Go.Sx.Heap.le.trans ?_ ‹Go.Sx.Heap.le _ _›))))
    (hsb : Sub L L0 := by (repeat (first | exact Go.Sx.Sub.refl _ | exact Go.Sx.Sub.nil _ | (apply Go.Sx.sub_pick; (repeat (first | exact Go.Sx.Has.here | apply Go.Sx.Has.there)); skip) | apply Go.Sx.Sub.drop)))
    (h : H0.le H → Sub L L0 → HeldI i q → AnyO P n W0 Q F H H0 L L0 m ops fuel listed k := by
    intro hle hsb hq
    first
      | refine Go.Sx.gny_pY hq rfl rfl rfl ?_ (hl := hle) (hsub := hsb)
      | refine Go.Sx.gny_ldY hq rfl rfl rfl rfl ?_ (hl := hle) (hsub := hsb)
      | refine Go.Sx.gny_ldHY hq rfl rfl rfl ‹Go.Sx.HRow _ _ 0 _› rfl ?_ (hl := hle) (hsub := hsb)
      | refine Go.Sx.gny_TY hq rfl rfl rfl ?_ (hl := hle) (hsub := hsb)
      | refine Go.Sx.gny_FY hq rfl rfl rfl ?_ (hl := hle) (hsub := hsb)
      | refine Go.Sx.gny_BY hq rfl rfl rfl ?_ (hl := hle) (hsub := hsb)
      | refine Go.Sx.gny_skipY hq rfl rfl ?_ (hl := hle) (hsub := hsb)
      | refine Go.Sx.gny_spY hq rfl rfl rfl ?_ (hl := hle) (hsub := hsb)
      | refine Go.Sx.gny_sBY hq rfl rfl rfl ?_ (hl := hle) (hsub := hsb)
      | refine Go.Sx.gny_sldY hq rfl rfl rfl rfl ?_ (hl := hle) (hsub := hsb)
      | refine Go.Sx.gny_sldHY hq rfl rfl rfl ‹Go.Sx.HRow _ _ 0 _› rfl ?_ (hl := hle) (hsub := hsb)
      | refine Go.Sx.gny_ldNY hq rfl rfl rfl rfl ?_ (hl := hle) (hsub := hsb)
      | refine Go.Sx.gny_bldY hq rfl rfl rfl ?_ (hl := hle) (hsub := hsb)
    exact hq.out) : AnyO P n W0 Q F H H0 L L0 m ops fuel listed k := h hle hsb ⟨hq⟩
end Go.Sx
