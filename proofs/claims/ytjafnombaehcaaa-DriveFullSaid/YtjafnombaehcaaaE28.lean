/- Slices of any values, read off what is owned; make([]T, m) as an owned slice. No program in sight. -/
import Derived.Test.YtjafnombaehcaaaE27
set_option linter.unusedVariables false
set_option linter.unusedSimpArgs false
namespace Go.Sx
open Go
/-- a value of one cell, as it is -/
def rVal : Rd Value := fun _ c x => c = [x] ∧ x.oneCell' = true
instance : RdOk rVal 1 := ⟨fun ⟨h, _⟩ => by subst h; rfl, fun ⟨h, ho⟩ => by subst h; simpa using ho, fun _ h => h⟩
instance : RdFlat rVal := ⟨fun h => h⟩
instance : R1 rVal (fun x => x) (fun x => x.oneCell' = true) := ⟨fun h => h⟩
section
variable {P : Program} {n : Nat} {W0 : World} {Q : Exit → Act → World → Prop} {F : Slots} {H : Heap} {L : List HProp} {ops : Array Oper} {rest : List Oper} {k : List Fr} {ty ty' : TypeId} {pos pos' : String} {aft aft' : Array Edge} {d d' : Tmp} {g g' : Option (Nat × Bool)} {v : Value}
theorem empty_le (H : Heap) : Heap.empty.le H := fun _ _ h => by simp [Heap.empty] at h
/-- an owned slice, only read for a while -/
theorem ops_lendS {α : Type} {R : Rd α} {sz w T : Nat} {HS : Heap} {xs : List α} {L' : List HProp} (s : Value) [hh : HasS L s α R sz w T HS xs L'] [RdOk R sz] [RdFlat R]
    (h : ∀ D, ownS R sz w T HS s xs D → Disj H D → H.le (union H D) → SlB R sz w (union H D) s xs → Ops P n W0 Q F (union H D) L' false ops rest k) : Ops P n W0 Q F H L false ops rest k :=
  ops_lend hh.has fun D hD hd h1 h2 => h D hD hd h1 (ownS_reads (ownS_flat (H' := Heap.empty) hD) (empty_le _) h2)
theorem ex_lendS {c : Code} {α : Type} {R : Rd α} {sz w T : Nat} {HS : Heap} {xs : List α} {L' : List HProp} (s : Value) [hh : HasS L s α R sz w T HS xs L'] [RdOk R sz] [RdFlat R]
    (h : ∀ D, ownS R sz w T HS s xs D → Disj H D → H.le (union H D) → SlB R sz w (union H D) s xs → Ex P n W0 Q F (union H D) L' c k) : Ex P n W0 Q F H L c k :=
  ex_lend hh.has fun D hD hd h1 h2 => h D hD hd h1 (ownS_reads (ownS_flat (H' := Heap.empty) hD) (empty_le _) h2)
theorem any_lendS {H0 : Heap} {L0 : List HProp} {m fuel : Nat} {listed : Array Bool} {α : Type} {R : Rd α} {sz w T : Nat} {HS : Heap} {xs : List α} {L' : List HProp} (s : Value) [hh : HasS L s α R sz w T HS xs L'] [RdOk R sz] [RdFlat R]
    (h : ∀ D, ownS R sz w T HS s xs D → Disj H D → H.le (union H D) → SlB R sz w (union H D) s xs → AnyO P n W0 Q F (union H D) H0 L' L0 m ops fuel listed k) : AnyO P n W0 Q F H H0 L L0 m ops fuel listed k :=
  ⟨sat_lend hh.has fun D hD hd h1 h2 => (h D hD hd h1 (ownS_reads (ownS_flat (H' := Heap.empty) hD) (empty_le _) h2)).run⟩
/-- the first m operations are done: what stands from now on may be something else -/
theorem any_stage {H0 : Heap} {L0 : List HProp} {m fuel : Nat} {listed : Array Bool} (m' : Nat) (L0' : List HProp) (h : AnyO P n W0 Q F H H L L0' m' ops fuel listed k) (hp : preDone m listed = true := by decide +kernel) : AnyO P n W0 Q F H H0 L L0 m ops fuel listed k :=
  ⟨fun a w hF hS => by
    have h' := wpP_any _ _ _ _ (h.run a w hF hS)
    show wpP P ops _ _ m fuel listed a w
    cases fuel with
    | zero => exact h'
    | succ f => unfold wpP; rw [if_pos hp]; exact h'⟩
/-- an element of an owned slice, of one cell -/
theorem ops_ixo1 {α : Type} {R : Rd α} {val : α → Value} {ok : α → Prop} {w T : Nat} {HS : Heap} {xs : List α} {L' : List HProp} {t T' : TypeId} {x y : Operand} {i : Int} {j : Nat} {kd : IntKind} {gv gv' : Option (Value × Bool)} [h1 : R1 R val ok] [hR : RdOk R 1] [RdFlat R] [TSl P T' t] [TSz P t 1] [TAgg P t false]
    (hg : gval ops F g = some gv) [hb : GOk gv true] (hg' : gval ops F g' = some gv') [hb' : GOk gv' true] (hv : opvs F [x, y] = some [v, .int kd i]) [hi : NatOf i j] [hh : HasS L v α R 1 w T HS xs L'] (hj : j < xs.length)
    (hk : Ops P n W0 Q ((d', val (xs[j]'hj)) :: F) H L false ops rest k) (hn : fget F d = none := by rfl) (hd : Nat.blt d n = true := by rfl) (hd' : Nat.blt d' n = true := by rfl) :
    Ops P n W0 Q F H L false ops (⟨some d, .indexAddr T' x y, ty, pos, aft, g⟩ :: ⟨some d', .load t (.tmp d), ty', pos', aft', g'⟩ :: rest) k := by
  refine ops_lendS v fun D hD hdj hl hs => ?_
  refine ops_ix hg hg' hv hs.1 hj ?_ hn hd hd'
  refine ops_back hD hdj (.refl _) ?_
  exact ops_L hh.has.from hk
end
/-! ### make -/
theorem RL.rep {α : Type} {R : Rd α} {sz : Nat} [hR : RdOk R sz] {H : Heap} {c : List Value} {z : α} (h : R H c z) : ∀ m, RL R H (List.replicate m c).flatten (List.replicate m z)
  | 0 => rfl
  | m + 1 => ⟨c, _, by rw [List.replicate_succ, List.flatten_cons], h, RL.rep h m⟩
theorem made_len {z : Array Value} {m : Nat} : (madeCells z (m * z.size)).toList = (List.replicate m z.toList).flatten := by
  apply List.ext_getElem
  · simp [madeCells, List.length_flatten]
  · intro i h1 h2
    simp only [madeCells, Array.length_toList, Array.size_map, Array.size_range] at h1
    have hz : 0 < z.size := by rcases Nat.eq_zero_or_pos z.size with h | h; · rw [h] at h1; simp at h1
                               · exact h
    rw [Array.getElem_toList]
    simp only [madeCells, Array.getElem_map, Array.getElem_range]
    rw [getElem!_pos z _ (Nat.mod_lt _ hz)]
    have key : ∀ (m i : Nat) (h : i < (List.replicate m z.toList).flatten.length), (List.replicate m z.toList).flatten[i] = z[i % z.size]'(Nat.mod_lt _ hz) := by
      intro m
      induction m with
      | zero => intro i h; simp at h
      | succ m ih =>
        intro i h
        simp only [List.replicate_succ, List.flatten_cons] at h ⊢
        by_cases hi : i < z.size
        · rw [List.getElem_append_left (by simpa using hi)]
          simp [Nat.mod_eq_of_lt hi]
        · rw [List.getElem_append_right (by simpa using hi)]
          rw [ih (i - z.toList.length) (by have e1 : z.toList.length = z.size := by simp
                                           have h' : i < z.toList.length + (List.replicate m z.toList).flatten.length := by rw [← List.length_append]; exact h
                                           omega)]
          congr 1
          simp only [Array.length_toList]
          rw [Nat.mod_eq_sub_mod (Nat.le_of_not_lt hi)]
    exact (key m i h2).symm
section
variable {P : Program} {n : Nat} {W0 : World} {Q : Exit → Act → World → Prop} {F : Slots} {H : Heap} {L : List HProp} {ops : Array Oper} {rest : List Oper} {k : List Fr} {ty : TypeId} {pos : String} {aft : Array Edge} {d : Tmp} {x y : Operand} {t e : TypeId} {sz wd : Nat} {z : Value} {kl kc : IntKind}
/-- make([]T, m) as an owned slice of m zeros -/
theorem ops_mkT {α : Type} (R : Rd α) (z0 : α) (m : Nat) [hT : TSl P t e] [hI : TIn P e sz wd z] [hR : RdOk R sz] (hv : opvs F [x, y] = some [.int kl m, .int kc m]) (hz : R H z.cells.toList z0) (hb : m * wd ≤ cap47) (hm : m ≤ cap47)
    (h : ∀ b, Ops P n W0 Q ((d, .slice (some ⟨b, 0, none⟩) m m) :: F) H (ownS R sz wd e H (.slice (some ⟨b, 0, none⟩) m m) (List.replicate m z0) :: L) false ops rest k) (hd : Nat.blt d n = true := by rfl) :
    Ops P n W0 Q F H L false ops (⟨some d, .makeSlice t x y, ty, pos, aft, none⟩ :: rest) k := by
  have hsz : z.cells.size = sz := by
    have := hR.len hz; simpa using this
  refine ops_w rfl hd (op_mkN (hT := hT) (hI := hI) (m := m) (cs := (List.replicate m z.cells.toList).flatten) (opvs2 hv).1 (opvs2 hv).2 (by rw [← hsz]; exact made_len) hb hm fun b _ => ?_)
  refine ops_L ?_ (h b)
  have hlen : (List.replicate m z.cells.toList).flatten.length = m * sz := by simp [List.length_flatten, hsz]
  have hs := own_shut (T := e) (sz := sz) (m := m) (b := b) (cap := m) (xs := (List.replicate m z.cells.toList).flatten) (sp := []) (R := L) hlen (Nat.le_refl _) (by simp only [cap47] at hm; omega) (by simpa using hlen)
  rw [List.append_nil] at hs
  refine hs.trans ?_
  have hm2 := ownS_mk (sz := sz) (T := e) (w := wd) (s := .slice (some ⟨b, 0, none⟩) m m) (L := L) (RL.rep hz m) (by simpa using hb)
  rw [List.length_replicate] at hm2
  exact hm2
end
end Go.Sx
