/- Rows of owned things; more on slices. No program in sight. -/
import Derived.Test.YtafhinjggdknjaaDoorPSx7
import Derived.Laws.Cover3
set_option linter.unusedVariables false
set_option linter.unusedSimpArgs false
namespace Go.Sx
open Go Go.X
class TBo (P : Program) (t : TypeId) : Prop where
  und : P.underlying t = some .bool
theorem sub_pick {L M L' : List HProp} {A : HProp} (h : Has L A M) (hs : Sub M L') : Sub L (A :: L') := h.to.trans (Sub.cons hs)
section
variable {P : Program} {n : NF} {W0 : GW} {F : Slots} {H : Heap} {L : List HProp} {K : Value → Heap → List HProp → Prop} {dst : Option Tmp} {ty : TypeId} {pos : String} {aft : Array Edge} {g : Option (Nat × Bool)}
theorem op_append {t tx e : TypeId} {sz by_ : Nat} {z : Value} [hT : TSl P t e] [hI : TIn P e sz by_ z] {s x : Operand} {sv xv : Value} {m k : Nat} {xs news : List Value} {R : List HProp}
    (hs : opv F s = some sv) (hx : opv F x = some xv) (hh : Has L (own e sz sv m xs) R) (hsrc : ASrc P sz H L tx xv k news) (hb1 : m + k ≤ maxLen) (hb2 : (m + k) * by_ ≤ 140737488355328)
    (hk : ∀ base cap, K (.slice base (m + k) cap) H (own e sz (.slice base (m + k) cap) (m + k) (xs ++ news) :: R)) :
    OpW P n W0 ⟨dst, .call ⟨.builtin .append, #[s, x], #[t, tx]⟩, ty, pos, aft, g⟩ F H L K :=
  .of_run fun a w hF hS => by
    obtain ⟨base, cap, w', hr, hS'⟩ := run_append_mine (P := P) (ty := ty) (t := t) (tx := tx) (hS.sub hh.to) (hsrc.src hS) hb1 hb2
    refine ⟨_, H, _, w', ?_, .refl _, hk base cap, hS'⟩
    simp only [execOp, resolve]
    simp [invoke, builtin, hF.opv hs, hF.opv hx, hr]
theorem op_buildSlice1 {t e : TypeId} {sz : Nat} {z v : Value} {cs : List Value} {x : Operand} [hT : TSl P t e] [hS' : TSz P e sz] [hZ : TZ P e z] (hx : opv F x = some v) (hc : v.cells = cs.toArray) (hl : cs.length = sz) (hz : z.cells.size = sz)
    (h0 : Nat.blt 0 sz && Nat.ble sz 1000 = true) (hk : ∀ b, H b = none → K (.slice (some ⟨b, 0, none⟩) 1 1) H (row b e cs :: L)) : OpW P n W0 ⟨dst, .buildSlice t 1 #[(0, x)], ty, pos, aft, g⟩ F H L K :=
  .of_run fun a w hF hS => by
    have hs : St _ H (w.alloc (.cells cs.toArray e)) (row w.heap.size e cs :: L) := hS.alloc (hS.env.of rfl rfl rfl) rfl
    refine ⟨_, H, _, _, ?_, .refl _, hk _ hs.ptRead.2, hs⟩
    have h0 : 0 < sz ∧ sz ≤ 1000 := by simpa using h0
    have hne : sz ≠ 0 := by omega
    have hfold : ∀ (l : List Value) (i : Nat) (arr : List Value), i + l.length ≤ arr.length → (l.zipIdx i).foldl (fun (cs : Array Value) (c, j) => cs.setIfInBounds (0 + j) c) arr.toArray = (arr.take i ++ l ++ arr.drop (i + l.length)).toArray := by
      intro l
      induction l with
      | nil => intro i arr _; simp
      | cons c l ih =>
        intro i arr hl'
        simp only [List.zipIdx_cons, List.foldl_cons, Nat.zero_add, List.setIfInBounds_toArray]
        rw [show (fun (cs : Array Value) (x : Value × Nat) => cs.setIfInBounds x.2 x.1) = (fun (cs : Array Value) (x : Value × Nat) => match x with | (c, j) => cs.setIfInBounds (0 + j) c) from by funext cs x; simp]
        rw [ih (i + 1) _ (by simp at hl' ⊢; omega)]
        congr 1
        simp only [List.length_cons] at hl' ⊢
        rw [List.drop_set_of_lt (by omega)]
        have e1 : (arr.set i c).take (i + 1) = arr.take i ++ [c] := by
          rw [List.take_add_one, List.getElem?_set_self (by omega), List.take_set_of_le (by omega)]; simp
        rw [e1]; simp [Nat.add_assoc, Nat.add_comm 1]
    have hf := hfold cs 0 ((List.range (1 * sz)).map (fun i => z.cells[i % z.cells.size]!)) (by simp; omega)
    have hd : ((List.range (1 * sz)).map (fun i => z.cells[i % z.cells.size]!)).drop (0 + cs.length) = [] := List.drop_eq_nil_of_le (by simp; omega)
    rw [hd] at hf
    simp only [List.take_zero, List.nil_append, List.append_nil] at hf
    have hfill : Instr.fill (fun i => some (i * sz, sz)) ((Array.range (1 * sz)).map (fun i => z.cells[i % z.cells.size]!)) [(0, v)] = some cs.toArray := by
      simp only [Instr.fill, hc, Nat.zero_mul]
      rw [if_neg (by simp; omega)]
      have e2 : ((Array.range (1 * sz)).map (fun i => z.cells[i % z.cells.size]!)) = ((List.range (1 * sz)).map (fun i => z.cells[i % z.cells.size]!)).toArray := by
        apply Array.ext'; simp [Array.toList_range]
      rw [e2]
      simpa using hf
    simp only [execOp]
    simp [Instr.buildSlice, run_underlying hT.und, hS'.run, hne, hZ.run, hF.opv hx, newRow]
    rw [if_neg (by omega)]
    simp only [Nat.one_mul] at hfill
    simp [hfill]
theorem op_buildSlice0 {t e : TypeId} {sz : Nat} [hT : TSl P t e] [hS' : TSz P e sz] (hk : ∀ b, H b = none → K (.slice (some ⟨b, 0, none⟩) 0 0) H (row b e [] :: L)) : OpW P n W0 ⟨dst, .buildSlice t 0 #[], ty, pos, aft, g⟩ F H L K :=
  .of_run fun a w hF hS => by
    have hs : St _ H (w.alloc (.cells #[] e)) (row w.heap.size e [] :: L) := hS.alloc (hS.env.of rfl rfl rfl) rfl
    refine ⟨_, H, _, _, ?_, .refl _, hk _ hs.ptRead.2, hs⟩
    simp only [execOp]
    simp [Instr.buildSlice, run_underlying hT.und, hS'.run, newRow, Instr.fill, Array.range_zero']
def slc (base : Option Addr) (cap l h sz : Nat) : Value := .slice (if cap = l then base else base.map (·.add (l * sz))) (h - l) (cap - l)
def ob (F : Slots) (o : Option Operand) (d : Int) : Option Int := match o with | none => some d | some x => match opv F x with | some (.int _ i) => some i | _ => none
theorem op_slice {t e : TypeId} {sz : Nat} [hT : TSl P t e] [hs : TSz P e sz] {x : Operand} {lo hi : Option Operand} {base : Option Addr} {m cap : Nat} {l h : Int} (hx : opv F x = some (.slice base m cap)) (hlo : ob F lo 0 = some l) (hhi : ob F hi m = some h)
    (h0 : 0 ≤ l) (h1 : l ≤ h) (h2 : h ≤ cap) :
    OpP P n ⟨dst, .slice t x lo hi none, ty, pos, aft, g⟩ F H L (slc base cap l.toNat h.toNat sz) :=
  .mk fun a w hF hS => by
    have hb : (Instr.sliceBounds true m cap (lo.map a.eval) (hi.map a.eval) none).run P w = .ok (l.toNat, h.toNat, cap) w := by
      have hhi' : ∀ y, hi = some y → ∃ k, a.eval y = .int k h := fun y hy => by
        subst hy; simp only [ob] at hhi; split at hhi
        · rename_i k i hy'; cases hhi; exact ⟨k, hF.opv hy'⟩
        · cases hhi
      have hlo' : ∀ y, lo = some y → ∃ k, a.eval y = .int k l := fun y hy => by
        subst hy; simp only [ob] at hlo; split at hlo
        · rename_i k i hy'; cases hlo; exact ⟨k, hF.opv hy'⟩
        · cases hlo
      have e1 : ∀ (k : IntKind) (c : BoundsCode), (Instr.sliceBound (.int k h) cap c).run P w = .ok h.toNat w := fun k c => by
        simp [Instr.sliceBound, asIntOf, show 0 ≤ h by omega, h2]
      have e2 : ∀ (k : IntKind) (c : BoundsCode), (Instr.sliceBound (.int k l) h.toNat c).run P w = .ok l.toNat w := fun k c => by
        simp [Instr.sliceBound, asIntOf, h0]; omega
      cases hi with
      | none =>
        simp only [ob, Option.some.injEq] at hhi
        subst hhi
        cases lo with
        | none => simp only [ob, Option.some.injEq] at hlo; subst hlo; simp [Instr.sliceBounds]
        | some y => obtain ⟨k, hk⟩ := hlo' y rfl; have := e2 k .sliceB; simp at this; simp [Instr.sliceBounds, hk, this]
      | some y =>
        obtain ⟨k, hk⟩ := hhi' y rfl
        cases lo with
        | none => simp only [ob, Option.some.injEq] at hlo; subst hlo; simp [Instr.sliceBounds, hk, e1]
        | some y' => obtain ⟨k', hk'⟩ := hlo' y' rfl; simp [Instr.sliceBounds, hk, hk', e1, e2]
    simp only [execOp]
    simp [Instr.sliceAt, Instr.slice, run_underlying hT.und, hs.run, hF.opv hx, hb, slc]
end
theorem own_of_row {b e : Nat} {sz m : Nat} {xs : List Value} {R : List HProp} (hl : xs.length = m * sz) (hm : m ≤ maxLen) : Sub (row b e xs :: R) (own e sz (.slice (some ⟨b, 0, none⟩) m m) m xs :: R) := fun h ⟨h1, h2, p, q, d, l1, l2⟩ => by
  refine ⟨h1, h2, ⟨hl, ?_⟩, q, d, l1, l2⟩
  by_cases h0 : m = 0
  · subst h0; exact .inl ⟨rfl, _, rfl⟩
  · exact .inr ⟨b, m, [], rfl, by omega, Nat.le_refl _, hm, by simpa using hl, by simpa [row, pt] using p⟩
theorem own_nil {e sz : Nat} {base : Option Addr} {L : List HProp} : Sub L (own e sz (.slice base 0 0) 0 [] :: L) := fun h hb =>
  ⟨Heap.empty, h, ⟨by simp, .inl ⟨rfl, base, rfl⟩⟩, hb, fun _ => .inl rfl, fun _ _ h => by simp [Heap.empty] at h, .refl _⟩
theorem sat_freeze_own {n : NF} {W0 : GW} {F : Slots} {H : Heap} {L R : List HProp} {G : Act → GW → Prop} {e sz m : Nat} {s : Value} {xs : List Value} (hh : Has L (own e sz s m xs) R) (h1 : xs.all (·.oneCell') = true)
    (h : ∀ H', H.le H' → SlcR H' sz s m xs → Sat n W0 F H' R G) : Sat n W0 F H L G := fun a w hF hS => by
  have hS' := hS.sub hh.to
  obtain ⟨hA, hR, ⟨hl, hc⟩, r, d, dA, dR, lA, lR⟩ := hS'.parts
  rcases hc with ⟨rfl, base, rfl⟩ | ⟨b, cap, sp, rfl, _, hmc, hcm, _, hb⟩
  · have : xs = [] := List.eq_nil_of_length_eq_zero (by simpa using hl)
    subst this
    exact h H (.refl _) (SlcR.nil H sz base 0 (by omega)) a w hF (hS.sub (hh.to.trans (Sub.drop (Sub.refl _))))
  · have hpt : StG W0 H w (pt b (.cells (xs ++ sp).toArray e (0, 0)) :: R) := StG.of_parts hS hS.ro (hA := hA) hb r d dA dR lA lR
    obtain ⟨hn, hS2⟩ := hpt.freeze
    refine h _ (le_upd hn) ⟨_, cap, rfl, ⟨hmc, hcm⟩, hl, h1, .inr ⟨b, 0, rfl, fun j u hj => ?_⟩⟩ a w hF hS2
    have : (xs ++ sp)[j]? = some u := by rw [List.getElem?_append_left (List.getElem?_eq_some_iff.1 hj).1]; exact hj
    simp [hcell, upd_same, this]
section
variable {q : Bool} {P : Program} {n : NF} {W0 : GW} {F : Slots} {H : Heap} {L : List HProp} {ops : Array Oper} {Q : Exit → Act → GW → Prop} {rest : List Oper} {ty : TypeId} {pos : String} {aft : Array Edge} {d : Tmp} {g : Option (Nat × Bool)}
  {x y : Operand} {k : IntKind} {a b : Int} {T T' : TypeId}
end
end Go.Sx
namespace Go.Sx
open Go Go.X
theorem big_app {A B : List HProp} {h : Heap} (hb : big (A ++ B) h) : ∃ h1 h2, big A h1 ∧ big B h2 ∧ Disj h1 h2 ∧ h1.le h ∧ h2.le h := by
  induction A generalizing h with
  | nil => exact ⟨Heap.empty, h, trivial, hb, fun _ => .inl rfl, fun _ _ h => by simp [Heap.empty] at h, .refl _⟩
  | cons a A ih =>
    obtain ⟨h1, h2, p, q, d, l1, l2⟩ := hb
    obtain ⟨h3, h4, p3, p4, d34, l3, l4⟩ := ih q
    have d13 : Disj h1 h3 := (d.symm.mono l3).symm
    have d14 : Disj h1 h4 := (d.symm.mono l4).symm
    exact ⟨union h1 h3, h4, ⟨h1, h3, p, p3, d13, le_union_left _ _, le_union_right d13⟩, p4, disj_union d14 d34, union_le l1 (l3.trans l2), l4.trans l2⟩
theorem big_mk {A B : List HProp} {h h1 h2 : Heap} (ha : big A h1) (hb : big B h2) (d : Disj h1 h2) (l1 : h1.le h) (l2 : h2.le h) : big (A ++ B) h := by
  induction A generalizing h h1 with
  | nil => exact big_mono l2 hb
  | cons a A ih =>
    obtain ⟨h3, h4, p, q, dd, l3, l4⟩ := ha
    have d32 : Disj h3 h2 := d.mono l3
    have d42 : Disj h4 h2 := d.mono l4
    exact ⟨h3, union h4 h2, p, ih q d42 (le_union_left _ _) (le_union_right d42), (disj_union dd.symm d32.symm).symm, l3.trans l1, union_le (l4.trans l1) l2⟩
section
variable {n : NF} {W0 : GW} {F : Slots} {H : Heap} {L R : List HProp} {G : Act → GW → Prop}
theorem sat_unfold {σ : Type} {A : HProp} {B : σ → List HProp} {p : σ → Prop} (hh : Has L A R) (hu : ∀ h, A h → ∃ s, p s ∧ big (B s) h) (h : ∀ s, p s → Sat n W0 F H (B s ++ R) G) : Sat n W0 F H L G := fun a w hF hS => by
  obtain ⟨hA, hR, pa, r, d, dA, dR, lA, lR⟩ := (hS.sub hh.to).parts
  obtain ⟨s, hp, hb⟩ := hu hA pa
  refine h s hp a w hF (hS.mk' hS.ro ⟨union hA hR, big_mk hb r d (le_union_left _ _) (le_union_right d), union_le lA lR, (disj_union dA.symm dR.symm).symm⟩)
theorem sat_sub {L' : List HProp} (h : Sat n W0 F H L' G) (hs : Sub L L') : Sat n W0 F H L G := fun a w hF hS => h a w hF (hS.sub hs)
theorem sat_know {A : HProp} {p : Prop} (hh : Has L A R) (hu : ∀ h, A h → p) (h : p → Sat n W0 F H L G) : Sat n W0 F H L G := fun a w hF hS => by
  obtain ⟨hA, hR, pa, _⟩ := (hS.sub hh.to).parts
  exact h (hu hA pa) a w hF hS
end
theorem own_open {T sz m : Nat} {s : Value} {xs : List Value} {h : Heap} (hm : 0 < m) (ho : own T sz s m xs h) :
    ∃ x : Nat × Nat × List Value, (s = .slice (some ⟨x.1, 0, none⟩) m x.2.1 ∧ m ≤ x.2.1 ∧ x.2.1 ≤ 9223372036854775807 ∧ xs.length = m * sz ∧ (xs ++ x.2.2).length = x.2.1 * sz) ∧ big [row x.1 T (xs ++ x.2.2)] h := by
  obtain ⟨hl, hc⟩ := ho
  rcases hc with ⟨rfl, _⟩ | ⟨b, cap, sp, rfl, _, h1, h2, h3, h4⟩
  · omega
  · exact ⟨(b, cap, sp), ⟨rfl, h1, h2, hl, h3⟩, h, Heap.empty, h4, trivial, fun _ => .inr rfl, .refl _, fun _ _ h => by simp [Heap.empty] at h⟩
theorem own_shut {T sz m b cap : Nat} {xs sp : List Value} {R : List HProp} (hl : xs.length = m * sz) (h1 : m ≤ cap) (h2 : cap ≤ 9223372036854775807) (h3 : (xs ++ sp).length = cap * sz) :
    Sub (row b T (xs ++ sp) :: R) (own T sz (.slice (some ⟨b, 0, none⟩) m cap) m xs :: R) := fun h ⟨h1', h2', p, q, d, l1, l2⟩ => by
  refine ⟨h1', h2', ⟨hl, ?_⟩, q, d, l1, l2⟩
  by_cases h0 : cap = 0
  · subst h0; have : m = 0 := by omega
    subst this; exact .inl ⟨rfl, _, rfl⟩
  · exact .inr ⟨b, cap, sp, rfl, by omega, h1, h2, h3, p⟩
theorem own_shape {T sz m : Nat} {s : Value} {xs : List Value} {h : Heap} (ho : own T sz s m xs h) : (∃ base cap, s = .slice base m cap ∧ m ≤ cap ∧ cap ≤ 9223372036854775807) ∧ xs.length = m * sz := by
  obtain ⟨hl, hc⟩ := ho
  rcases hc with ⟨rfl, b, rfl⟩ | ⟨b, cap, sp, rfl, _, h1, h2, h3, h4⟩
  · exact ⟨⟨b, 0, rfl, by omega, by omega⟩, hl⟩
  · exact ⟨⟨_, cap, rfl, h1, h2⟩, hl⟩
theorem own_reads {T sz m : Nat} {s : Value} {xs : List Value} {h H : Heap} (ho : own T sz s m xs h) (hl : h.le H) (h1 : xs.all (·.oneCell') = true) : SlcR H sz s m xs := by
  obtain ⟨hxl, hc⟩ := ho
  rcases hc with ⟨rfl, b, rfl⟩ | ⟨b, cap, sp, rfl, _, hm, hm2, h3, h4⟩
  · have : xs = [] := List.eq_nil_of_length_eq_zero (by simpa using hxl)
    subst this; exact SlcR.nil H sz b 0 (by omega)
  · refine ⟨_, cap, rfl, ⟨hm, hm2⟩, hxl, h1, .inr ⟨b, 0, rfl, fun j u hj => ?_⟩⟩
    have : (xs ++ sp)[j]? = some u := by rw [List.getElem?_append_left (List.getElem?_eq_some_iff.1 hj).1]; exact hj
    simp [hcell, hl _ _ h4, this]
section
variable {P : Program} {n : NF} {W0 : GW} {F : Slots} {H : Heap} {L : List HProp} {K : Value → Heap → List HProp → Prop} {dst : Option Tmp} {ty : TypeId} {pos : String} {aft : Array Edge} {g : Option (Nat × Bool)}
theorem op_storeAt {t : TypeId} {x y : Operand} {b off k : Nat} {T : TypeId} {cs vs : List Value} {v : Value} {R : List HProp} [hz : TSz P t k] (hx : opv F x = some (.pointer (some ⟨b, off, none⟩)))
    (hy : opv F y = some v) (hvc : v.cells = vs.toArray) (hl : vs.length = k) (h1 : vs.all (·.oneCell') = true) (hu : Has L (row b T cs) R) (hle : off + vs.length ≤ cs.length)
    (hk : K undef H (row b T (cs.take off ++ vs ++ cs.drop (off + vs.length)) :: R)) : OpW P n W0 ⟨dst, .store t x y, ty, pos, aft, g⟩ F H L K :=
  .of_skip fun a w hF hS => by
    have h0 := hS.sub hu.to
    have hst := run_storeCells_at P b off T vs 0 cs.toArray w h0.ptRead.1 (by simpa using hle) (by simpa using h1)
    simp only [Nat.add_zero] at hst
    refine ⟨H, _, _, ?_, .refl _, hk, h0.rowPut (cs' := cs.take off ++ vs ++ cs.drop (off + vs.length))⟩
    simp only [execOp, hF.opv hx, hF.opv hy, Instr.storeAt, Instr.sureAddr]
    simp [storeVar, hz.run, hvc, hl]
    rw [hst]; simp [hl]
theorem zeroCells_list (z : Value) (m : Nat) : (Builtin.zeroCells z.cells m).toList = (List.range (m * z.cells.size)).map fun i => z.cells[i % z.cells.size]! := by simp [Builtin.zeroCells, Array.toList_range]
theorem op_clear {t e : TypeId} {sz by_ : Nat} {z : Value} [hT : TSl P t e] [hI : TIn P e sz by_ z] {x : Operand} {b off m cap : Nat} {cs : List Value} {R : List HProp} (hx : opv F x = some (.slice (some ⟨b, off, none⟩) m cap))
    (hh : Has L (row b e cs) R) (hfit : off + m * sz ≤ cs.length) (h1 : z.cells.all (·.oneCell') = true) (hk : ∀ zs : List Value, zs.length = m * sz → K (.tuple #[]) H (row b e (cs.take off ++ zs ++ cs.drop (off + m * sz)) :: R)) :
    OpW P n W0 ⟨dst, .call ⟨.builtin .clear, #[x], #[t]⟩, ty, pos, aft, g⟩ F H L K :=
  .of_run fun a w hF hS => by
    obtain ⟨i, hi, hsz, hby, hz, hzs, hpos⟩ := hI.ex
    subst hsz
    have h0 := hS.sub hh.to
    have hzl : (Builtin.zeroCells z.cells m).toList.length = m * i.size := by rw [zeroCells_list]; simp [hzs]
    have hone : ∀ v ∈ (Builtin.zeroCells z.cells m).toList, v.oneCell' = true := fun v hv => by
      rw [zeroCells_list] at hv
      obtain ⟨j, _, rfl⟩ := List.mem_map.1 hv
      have hlt : j % z.cells.size < z.cells.size := Nat.mod_lt _ (by omega)
      rw [getElem!_pos z.cells _ hlt]
      exact (Array.all_eq_true.1 h1) _ hlt
    by_cases hm : m = 0
    · subst hm
      refine ⟨_, H, _, w, ?_, .refl _, hk [] (by simp), ?_⟩
      · simp only [execOp, resolve]
        simp [invoke, builtin, hF.opv hx, Builtin.clear_, run_underlying hT.und]
      · simpa using h0
    · have hst := run_storeCells_at P b off e (Builtin.zeroCells z.cells m).toList 0 cs.toArray w h0.ptRead.1 (by simp only [hzl]; simpa using hfit) hone
      simp only [Nat.add_zero] at hst
      refine ⟨_, H, _, _, ?_, .refl _, hk (Builtin.zeroCells z.cells m).toList hzl, h0.rowPut (cs' := cs.take off ++ (Builtin.zeroCells z.cells m).toList ++ cs.drop (off + m * i.size))⟩
      simp only [execOp, resolve]
      obtain ⟨m', rfl⟩ : ∃ m', m = m' + 1 := ⟨m - 1, by omega⟩
      simp [invoke, builtin, hF.opv hx, Builtin.clear_, run_underlying hT.und, zeroValue, typeInfo, hi, hz]
      rw [hst]; simp [hzl]
theorem op_makeFunc {f : FuncId} {l : List Operand} {vs : List Value} (ha : Args F l vs) : OpP P n ⟨dst, .makeFunc (.func f) #[] l.toArray, ty, pos, aft, g⟩ F H L (.func (.func f) #[] vs.toArray) := .mk fun a w hF hS => by
  have := ha.eval hF
  simp [execOp, Instr.makeFunc, this]
theorem op_eqlNil {x y : Operand} {T T' e : TypeId} {base : Option Addr} {m c : Nat} [hT : TSl P T e] (hx : opv F x = some (.slice base m c)) (hy : opv F y = some (.slice none 0 0)) :
    OpP P n ⟨dst, .binOp .eql T x y T', ty, pos, aft, g⟩ F H L (.bool base.isNone) := .mk (fun _ w hF _ => by
  simp only [execOp, hF.opv hx, hF.opv hy]; simp [eqGuard_at_slice, binOp, run_equal_slice_nil w T e base m c hT.und]) fun a hF => calm_eqSl hT.und (by simp) (hF.opv hx) (hF.opv hy)
class TPl (P : Program) (t : TypeId) (pl : outParam (List (Nat × Nat))) : Prop where
  ex : ∃ fs, P.underlying t = some (.struct fs) ∧ ∀ w, (fs.mapM (m := Sem) fun f => do pure (f.offset, ← sizeOf f.type)).run P w = .ok pl.toArray w
inductive FillR (F : Slots) (pl : List (Nat × Nat)) : List (Nat × Operand) → List Value → List Value → Prop
  | nil {cs : List Value} : FillR F pl [] cs cs
  | cons {i off k : Nat} {x : Operand} {v : Value} {us cs cs' cs'' : List Value} {r : List (Nat × Operand)} : pl[i]? = some (off, k) → opv F x = some v → v.cells = us.toArray → us.length = k → Lay cs off us cs' → FillR F pl r cs' cs'' → FillR F pl ((i, x) :: r) cs cs''
theorem fold_lay : ∀ (l : List Value) (off i : Nat) (arr : List Value), off + i + l.length ≤ arr.length →
    (l.zipIdx i).foldl (fun (cs : Array Value) (c, j) => cs.setIfInBounds (off + j) c) arr.toArray = (arr.take (off + i) ++ l ++ arr.drop (off + i + l.length)).toArray := by
  intro l
  induction l with
  | nil => intro off i arr _; simp
  | cons c l ih =>
    intro off i arr hl'
    simp only [List.zipIdx_cons, List.foldl_cons, List.setIfInBounds_toArray]
    rw [ih off (i + 1) _ (by simp at hl' ⊢; omega)]
    congr 1
    simp only [List.length_cons] at hl' ⊢
    rw [List.drop_set_of_lt (by omega)]
    have e1 : (arr.set (off + i) c).take (off + (i + 1)) = arr.take (off + i) ++ [c] := by
      rw [← Nat.add_assoc, List.take_add_one, List.getElem?_set_self (by omega), List.take_set_of_le (by omega)]; simp
    rw [e1]
    simp [Nat.add_assoc, Nat.add_comm 1]
theorem FillR.run {pl : List (Nat × Nat)} {ps : List (Nat × Operand)} {cs cs' : List Value} (h : FillR F pl ps cs cs') {a : Act} (hF : FrOk n a F) : Instr.fill (fun i => pl[i]?) cs.toArray (ps.map fun x => (x.1, a.eval x.2)) = some cs'.toArray := by
  induction h with
  | nil => rfl
  | @cons i off k x v us cs cs' cs'' r hp hx hc hl hlay _ ih =>
    obtain ⟨he, hfit⟩ := hlay.eq
    simp only [List.map_cons, Instr.fill, hp, hF.opv hx, hc]
    rw [if_neg (by simp; omega)]
    have := fold_lay us off 0 cs (by omega)
    simp only [Nat.add_zero] at this
    rw [← he] at this
    have e2 : (us.toArray.zipIdx.foldl (fun (cs : Array Value) (x : Value × Nat) => match x with | (c, j) => cs.setIfInBounds (off + j) c) cs.toArray) = cs'.toArray := by simpa using this
    rw [e2]; exact ih
theorem op_build {t : TypeId} {pl : List (Nat × Nat)} {ps : List (Nat × Operand)} {zs cs : List Value} [hT : TPl P t pl] [hZ : TZL P t zs] (hf : FillR F pl ps zs cs) :
    OpP P n ⟨dst, .build t ps.toArray, ty, pos, aft, g⟩ F H L (.agg cs.toArray) := .mk fun a w hF hS => by
  obtain ⟨fs, hu, hm⟩ := hT.ex
  obtain ⟨z, hz1, hz⟩ := hZ.ex
  have := hf.run hF
  have hm' := hm w
  simp only [execOp]
  simp [Instr.build, hz1, run_underlying hu, hz]
  simp at hm'
  rw [hm']
  simp
  rw [this]
  rfl
end
end Go.Sx
namespace Go.Sx
open Go Go.X
def OL {α : Type} (O : List Value → α → HProp) : List Value → List α → HProp
  | cs, [] => fun _ => cs = []
  | cs, x :: xs => fun h => ∃ c r, cs = c ++ r ∧ big [O c x, OL O r xs] h
class OOk {α : Type} (O : List Value → α → HProp) (sz : outParam Nat) : Prop where
  len : ∀ {c x h}, O c x h → c.length = sz
  one : ∀ {c x h}, O c x h → c.all (·.oneCell') = true
  mono : ∀ {c x h h'}, Heap.le h h' → O c x h → O c x h'
section
variable {α : Type} {O : List Value → α → HProp} {sz : Nat}
theorem big_two {A B : HProp} {h : Heap} (hb : big [A, B] h) : ∃ h1 h2, A h1 ∧ B h2 ∧ Disj h1 h2 ∧ h1.le h ∧ h2.le h := by
  obtain ⟨h1, h2, a, ⟨h3, h4, b, _, d', l3, l4⟩, d, l1, l2⟩ := hb
  exact ⟨h1, h3, a, b, (d.symm.mono l3).symm, l1, l3.trans l2⟩
theorem big_pair {A B : HProp} {h h1 h2 : Heap} (a : A h1) (b : B h2) (d : Disj h1 h2) (l1 : h1.le h) (l2 : h2.le h) : big [A, B] h :=
  ⟨h1, h2, a, ⟨h2, Heap.empty, b, trivial, fun _ => .inr rfl, .refl _, fun _ _ h => by simp [Heap.empty] at h⟩, d, l1, l2⟩
theorem OL.mono [hO : OOk O sz] : ∀ {cs : List Value} {xs : List α} {h h' : Heap}, h.le h' → OL O cs xs h → OL O cs xs h'
  | _, [], _, _, _, hh => hh
  | _, _ :: _, _, _, hl, ⟨c, r, e, hb⟩ => ⟨c, r, e, big_mono hl hb⟩
theorem OL.len [hO : OOk O sz] : ∀ {cs : List Value} {xs : List α} {h : Heap}, OL O cs xs h → cs.length = xs.length * sz
  | _, [], _, hh => by rw [show _ = [] from hh]; simp
  | _, _ :: xs, _, ⟨c, r, e, hb⟩ => by
    obtain ⟨h1, h2, a, b, _⟩ := big_two hb
    rw [e, List.length_append, hO.len a, OL.len b, List.length_cons, Nat.add_mul]; omega
theorem OL.join [hO : OOk O sz] : ∀ {cs ds : List Value} {xs ys : List α} {h : Heap}, big [OL O cs xs, OL O ds ys] h → OL O (cs ++ ds) (xs ++ ys) h
  | cs, ds, [], ys, h, hb => by
    obtain ⟨h1, h2, a, b, d, l1, l2⟩ := big_two hb
    rw [show cs = [] from a]
    exact OL.mono (O := O) l2 b
  | cs, ds, x :: xs, ys, h, hb => by
    obtain ⟨h1, h2, ⟨c, r, e, hb1⟩, b, d, l1, l2⟩ := big_two hb
    obtain ⟨h3, h4, a3, a4, d34, l3, l4⟩ := big_two hb1
    have d42 : Disj h4 h2 := d.mono l4
    have d32 : Disj h3 h2 := d.mono l3
    refine ⟨c, r ++ ds, by rw [e, List.append_assoc], big_pair a3 (OL.join (big_pair a4 b d42 (le_union_left _ _) (le_union_right d42))) (disj_union d34.symm d32.symm).symm (l3.trans l1) (union_le (l4.trans l1) l2)⟩
theorem OL.split [hO : OOk O sz] : ∀ {k : Nat} {cs : List Value} {xs : List α} {h : Heap}, OL O cs xs h → k ≤ xs.length → big [OL O (cs.take (k * sz)) (xs.take k), OL O (cs.drop (k * sz)) (xs.drop k)] h
  | 0, cs, xs, h, ho, _ => by
    simp only [Nat.zero_mul, List.take_zero, List.drop_zero]
    exact big_pair (h1 := Heap.empty) rfl ho (fun _ => .inl rfl) (fun _ _ h => by simp [Heap.empty] at h) (.refl _)
  | k + 1, _, [], _, _, hk => by simp at hk
  | k + 1, cs, x :: xs, h, ⟨c, r, e, hb⟩, hk => by
    obtain ⟨h1, h2, a, b, d, l1, l2⟩ := big_two hb
    have hl := hO.len a
    obtain ⟨h3, h4, p, q, d34, l3, l4⟩ := big_two (OL.split b (k := k) (by simpa using hk))
    have e1 : (k + 1) * sz = c.length + k * sz := by rw [Nat.add_mul, hl]; omega
    rw [e, e1, List.take_length_add_append, List.drop_length_add_append]
    have d13 : Disj h1 h3 := (d.symm.mono l3).symm
    have d14 : Disj h1 h4 := (d.symm.mono l4).symm
    exact big_pair (h1 := union h1 h3) ⟨c, _, rfl, big_pair a p d13 (le_union_left _ _) (le_union_right d13)⟩ q (disj_union d14 d34) (union_le l1 (l3.trans l2)) (l4.trans l2)
theorem big_three {A B C : HProp} {h h1 h2 h3 : Heap} (a : A h1) (b : B h2) (c : C h3) (d12 : Disj h1 h2) (d13 : Disj h1 h3) (d23 : Disj h2 h3) (l1 : h1.le h) (l2 : h2.le h) (l3 : h3.le h) : big [A, B, C] h :=
  ⟨h1, union h2 h3, a, big_pair b c d23 (le_union_left _ _) (le_union_right d23), (disj_union d12.symm d13.symm).symm, l1, union_le l2 l3⟩
theorem OL.at [hO : OOk O sz] {k : Nat} {cs : List Value} {xs : List α} {h : Heap} (ho : OL O cs xs h) (hk : k < xs.length) :
    ∃ c r, cs.drop (k * sz) = c ++ r ∧ c.length = sz ∧ big [OL O (cs.take (k * sz)) (xs.take k), O c xs[k], OL O r (xs.drop (k + 1))] h := by
  obtain ⟨h1, h2, a, b, d, l1, l2⟩ := big_two (ho.split (Nat.le_of_lt hk))
  rw [List.drop_eq_getElem_cons hk] at b
  obtain ⟨c, r, e, hb⟩ := b
  obtain ⟨h3, h4, p, q, d34, l3, l4⟩ := big_two hb
  exact ⟨c, r, e, hO.len p, big_three a p q (d.symm.mono l3).symm (d.symm.mono l4).symm d34 l1 (l3.trans l2) (l4.trans l2)⟩
theorem OL.put [hO : OOk O sz] {c1 c c2 : List Value} {xs ys : List α} {x : α} {h : Heap} (hb : big [OL O c1 xs, O c x, OL O c2 ys] h) : OL O (c1 ++ (c ++ c2)) (xs ++ x :: ys) h := by
  obtain ⟨h1, h2, a, hb2, d, l1, l2⟩ := hb
  obtain ⟨h3, h4, p, q, d34, l3, l4⟩ := big_two hb2
  exact OL.join (big_pair a (h2 := h2) ⟨c, c2, rfl, hb2⟩ d l1 l2)
end
theorem ASrc.row0 {P : Program} {sz : Nat} {H : Heap} {L : List HProp} {t e : TypeId} {b m c : Nat} {T : TypeId} {cs : List Value} {R : List HProp} (hk : P.underlying t = some (.slice e)) (hh : Has L (Sx.row b T cs) R) (hl : cs.length = m * sz) (h1 : cs.all (·.oneCell') = true) :
    ASrc P sz H L t (.slice (some ⟨b, 0, none⟩) m c) m cs := .row (sp := []) hk (by rw [List.append_nil]; exact hh) hl h1
section
variable {P : Program} {n : NF} {W0 : GW} {F : Slots} {H : Heap} {L : List HProp} {K : Value → Heap → List HProp → Prop} {dst : Option Tmp} {ty : TypeId} {pos : String} {aft : Array Edge} {g : Option (Nat × Bool)}
theorem slc_pre (base : Option Addr) (cap h sz : Nat) : slc base cap 0 h sz = .slice base h cap := by
  unfold slc; cases base <;> simp [Addr.add]
theorem slc_suf {b off cap l h sz : Nat} (hl : l < cap) : slc (some ⟨b, off, none⟩) cap l h sz = .slice (some ⟨b, off + l * sz, none⟩) (h - l) (cap - l) := by
  unfold slc; rw [if_neg (by omega)]; simp [Addr.add_lit]
theorem op_sliceTo {t e : TypeId} {sz : Nat} [hT : TSl P t e] [hs : TSz P e sz] {x y : Operand} {base : Option Addr} {m cap : Nat} {h : Int} {k : IntKind} (hx : opv F x = some (.slice base m cap)) (hy : opv F y = some (.int k h)) (h1 : 0 ≤ h) (h2 : h ≤ cap) :
    OpP P n ⟨dst, .slice t x none (some y) none, ty, pos, aft, g⟩ F H L (.slice base h.toNat cap) := by
  have := op_slice (P := P) (n := n) (H := H) (L := L) (dst := dst) (ty := ty) (pos := pos) (aft := aft) (g := g) (t := t) (lo := none) (hi := some y) (l := 0) (h := h) hx rfl (by simp [ob, hy]) (by omega) h1 h2
  rwa [show (0 : Int).toNat = 0 from rfl, slc_pre] at this
theorem op_sliceFrom {t e : TypeId} {sz : Nat} [hT : TSl P t e] [hs : TSz P e sz] {x y : Operand} {b off m cap : Nat} {l : Int} {k : IntKind} (hx : opv F x = some (.slice (some ⟨b, off, none⟩) m cap)) (hy : opv F y = some (.int k l)) (h0 : 0 ≤ l) (h1 : l ≤ m) (h2 : m ≤ cap) (h3 : l < cap) :
    OpP P n ⟨dst, .slice t x (some y) none none, ty, pos, aft, g⟩ F H L (.slice (some ⟨b, off + l.toNat * sz, none⟩) (m - l.toNat) (cap - l.toNat)) := by
  have := op_slice (P := P) (n := n) (H := H) (L := L) (dst := dst) (ty := ty) (pos := pos) (aft := aft) (g := g) (t := t) (lo := some y) (hi := none) (l := l) (h := m) hx (by simp [ob, hy]) rfl h0 h1 (by omega)
  rwa [slc_suf (by omega)] at this
end
class TPt (P : Program) (t : TypeId) : Prop where
  ex : ∃ e, P.underlying t = some (.pointer e)
section
variable {P : Program} {n : NF} {W0 : GW} {F : Slots} {H : Heap} {L : List HProp} {dst : Option Tmp} {ty : TypeId} {pos : String} {aft : Array Edge} {g : Option (Nat × Bool)}
theorem op_eqlPtr {x y : Operand} {T T' : TypeId} {a : Addr} [hT : TPt P T] (hx : opv F x = some (.pointer (some a))) (hy : opv F y = some (.pointer none)) :
    OpP P n ⟨dst, .binOp .eql T x y T', ty, pos, aft, g⟩ F H L (.bool false) := .mk (calm := fun a hF => let ⟨e, he⟩ := hT.ex; calm_eqNil he (by simp) (hF.opv hx) (hF.opv hy)) fun _ w hF _ => by
  obtain ⟨e, he⟩ := hT.ex
  have h0 : (Op.equal T (.pointer (some a)) (.pointer none)).run P w = .ok false w := by
    have : ∀ d, (Op.equalIn (d + 1) T (.pointer (some a)) (.pointer none)).run P w = .ok false w := fun d => by simp [Op.equalIn, run_underlying he]
    exact this 9999
  simp only [execOp, hF.opv hx, hF.opv hy]; simp [eqGuard_at_pointer, binOp, h0]
end
section
variable {P : Program} {n : NF} {W0 : GW} {F : Slots} {H : Heap} {L : List HProp} {dst : Option Tmp} {ty : TypeId} {pos : String} {aft : Array Edge} {g : Option (Nat × Bool)}
theorem op_min {x y : Operand} {at_ : Array TypeId} {k : IntKind} {a b z : Int} (hx : opv F x = some (.int k a)) (hy : opv F y = some (.int k b)) (hz : z = if b < a then b else a) :
    OpP P n ⟨dst, .call ⟨.builtin .min, #[x, y], at_⟩, ty, pos, aft, g⟩ F H L (.int k z) := .mk fun _ w hF _ => by
  subst hz
  simp only [execOp, resolve]
  simp [invoke, builtin, hF.opv hx, hF.opv hy, Builtin.min_, Builtin.min2]
theorem op_max {x y : Operand} {at_ : Array TypeId} {k : IntKind} {a b z : Int} (hx : opv F x = some (.int k a)) (hy : opv F y = some (.int k b)) (hz : z = if a < b then b else a) :
    OpP P n ⟨dst, .call ⟨.builtin .max, #[x, y], at_⟩, ty, pos, aft, g⟩ F H L (.int k z) := .mk fun _ w hF _ => by
  subst hz
  simp only [execOp, resolve]
  simp [invoke, builtin, hF.opv hx, hF.opv hy, Builtin.max_, Builtin.max2]
end
theorem own_set {T sz m b cap off : Nat} {xs sp vs : List Value} {R : List HProp} (hl : xs.length = m * sz) (h1 : m ≤ cap) (h2 : cap ≤ 9223372036854775807) (h3 : (xs ++ sp).length = cap * sz) (ho : off + vs.length ≤ xs.length) :
    Sub (row b T ((xs ++ sp).take off ++ vs ++ (xs ++ sp).drop (off + vs.length)) :: R) (own T sz (.slice (some ⟨b, 0, none⟩) m cap) m (xs.take off ++ vs ++ xs.drop (off + vs.length)) :: R) := by
  have e : (xs ++ sp).take off ++ vs ++ (xs ++ sp).drop (off + vs.length) = (xs.take off ++ vs ++ xs.drop (off + vs.length)) ++ sp := by
    rw [List.take_append_of_le_length (by omega), List.drop_append_of_le_length (by omega)]; simp [List.append_assoc]
  rw [e]
  have hlen : (xs.take off ++ vs ++ xs.drop (off + vs.length)).length = xs.length := by simp only [List.length_append, List.length_take, List.length_drop]; omega
  exact own_shut (by rw [hlen, hl]) h1 h2 (by rw [List.length_append, hlen, ← List.length_append, h3])
end Go.Sx
