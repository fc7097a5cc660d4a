/- Rows of owned things; more on slices. No program in sight. -/
import Derived.Test.YtjkiioicjmaeoaaKSx7
import Derived.Laws.Cover3
set_option linter.unusedVariables false
set_option linter.unusedSimpArgs false
namespace Go.Sx
open Go Go.X
class TBo (P : Program) (t : TypeId) : Prop where
  und : P.underlying t = some .bool
theorem sub_pick {L M L' : List HProp} {A : HProp} (h : Has L A M) (hs : Sub M L') : Sub L (A :: L') := h.to.trans (Sub.cons hs)
section
variable {P : Program} {n : NF} {W0 : GW} {F : Slots} {H : Heap} {L : List HProp} {K : Value → Heap → List HProp → Prop} {dst : Option Tmp} {ty : TypeId} {pos : String} {aft : Array Edge} {g : Option (Nat × Bool)}
theorem op_append {t tx e : TypeId} {sz by_ : Nat} {z : Value} [hT : TSl P t e] [hI : TIn P e sz by_ z] {s x : Operand} {sv xv : Value} {m k : Nat} {xs news : List Value} {R : List HProp}
    (hs : opv F s = some sv) (hx : opv F x = some xv) (hh : Has L (own e sz sv m xs) R) (hsrc : ASrc P sz H L tx xv k news) (hb1 : m + k ≤ maxLen) (hb2 : (m + k) * by_ ≤ 140737488355328)
    (hk : ∀ base cap, K (.slice base (m + k) cap) H (own e sz (.slice base (m + k) cap) (m + k) (xs ++ news) :: R)) :
    OpW P n W0 ⟨dst, .call ⟨.builtin .append, #[s, x], #[t, tx]⟩, ty, pos, aft, g⟩ F H L K :=
  .of_run fun a w hF hS => by
    obtain ⟨base, cap, w', hr, hS'⟩ := run_append_mine (P := P) (ty := ty) (t := t) (tx := tx) (hS.sub hh.to) (hsrc.src hS) hb1 hb2
    refine ⟨_, H, _, w', ?_, .refl _, hk base cap, hS'⟩
    simp only [execOp, resolve]
    simp [invoke, builtin, hF.opv hs, hF.opv hx, hr]
theorem op_buildSlice1 {t e : TypeId} {sz : Nat} {z v : Value} {cs : List Value} {x : Operand} [hT : TSl P t e] [hS' : TSz P e sz] [hZ : TZ P e z] (hx : opv F x = some v) (hc : v.cells = cs.toArray) (hl : cs.length = sz) (hz : z.cells.size = sz)
    (h0 : Nat.blt 0 sz && Nat.ble sz 1000 = true) (hk : ∀ b, H b = none → K (.slice (some ⟨b, 0, none⟩) 1 1) H (row b e cs :: L)) : OpW P n W0 ⟨dst, .buildSlice t 1 #[(0, x)], ty, pos, aft, g⟩ F H L K :=
  .of_run fun a w hF hS => by
    have hs : St _ H (w.alloc (.cells cs.toArray e)) (row w.heap.size e cs :: L) := hS.alloc (hS.env.of rfl rfl rfl) rfl
    refine ⟨_, H, _, _, ?_, .refl _, hk _ hs.ptRead.2, hs⟩
    have h0 : 0 < sz ∧ sz ≤ 1000 := by simpa using h0
    have hne : sz ≠ 0 := by omega
    have hfold : ∀ (l : List Value) (i : Nat) (arr : List Value), i + l.length ≤ arr.length → (l.zipIdx i).foldl (fun (cs : Array Value) (c, j) => cs.setIfInBounds (0 + j) c) arr.toArray = (arr.take i ++ l ++ arr.drop (i + l.length)).toArray := by
      intro l
      induction l with
      | nil => intro i arr _; simp
      | cons c l ih =>
        intro i arr hl'
        simp only [List.zipIdx_cons, List.foldl_cons, Nat.zero_add, List.setIfInBounds_toArray]
        rw [show (fun (cs : Array Value) (x : Value × Nat) => cs.setIfInBounds x.2 x.1) = (fun (cs : Array Value) (x : Value × Nat) => match x with | (c, j) => cs.setIfInBounds (0 + j) c) from by funext cs x; simp]
        rw [ih (i + 1) _ (by simp at hl' ⊢; omega)]
        congr 1
        simp only [List.length_cons] at hl' ⊢
        rw [List.drop_set_of_lt (by omega)]
        have e1 : (arr.set i c).take (i + 1) = arr.take i ++ [c] := by
          rw [List.take_add_one, List.getElem?_set_self (by omega), List.take_set_of_le (by omega)]; simp
        rw [e1]; simp [Nat.add_assoc, Nat.add_comm 1]
    have hf := hfold cs 0 ((List.range (1 * sz)).map (fun i => z.cells[i % z.cells.size]!)) (by simp; omega)
    have hd : ((List.range (1 * sz)).map (fun i => z.cells[i % z.cells.size]!)).drop (0 + cs.length) = [] := List.drop_eq_nil_of_le (by simp; omega)
    rw [hd] at hf
    simp only [List.take_zero, List.nil_append, List.append_nil] at hf
    have hfill : Instr.fill (fun i => some (i * sz, sz)) ((Array.range (1 * sz)).map (fun i => z.cells[i % z.cells.size]!)) [(0, v)] = some cs.toArray := by
      simp only [Instr.fill, hc, Nat.zero_mul]
      rw [if_neg (by simp; omega)]
      have e2 : ((Array.range (1 * sz)).map (fun i => z.cells[i % z.cells.size]!)) = ((List.range (1 * sz)).map (fun i => z.cells[i % z.cells.size]!)).toArray := by
        apply Array.ext'; simp [Array.toList_range]
      rw [e2]
      simpa using hf
    simp only [execOp]
    simp [Instr.buildSlice, run_underlying hT.und, hS'.run, hne, hZ.run, hF.opv hx, newRow]
    rw [if_neg (by omega)]
    simp only [Nat.one_mul] at hfill
    simp [hfill]
theorem op_buildSlice0 {t e : TypeId} {sz : Nat} [hT : TSl P t e] [hS' : TSz P e sz] (hk : ∀ b, H b = none → K (.slice (some ⟨b, 0, none⟩) 0 0) H (row b e [] :: L)) : OpW P n W0 ⟨dst, .buildSlice t 0 #[], ty, pos, aft, g⟩ F H L K :=
  .of_run fun a w hF hS => by
    have hs : St _ H (w.alloc (.cells #[] e)) (row w.heap.size e [] :: L) := hS.alloc (hS.env.of rfl rfl rfl) rfl
    refine ⟨_, H, _, _, ?_, .refl _, hk _ hs.ptRead.2, hs⟩
    simp only [execOp]
    simp [Instr.buildSlice, run_underlying hT.und, hS'.run, newRow, Instr.fill, Array.range_zero']
def slc (base : Option Addr) (cap l h sz : Nat) : Value := .slice (if cap = l then base else base.map (·.add (l * sz))) (h - l) (cap - l)
def ob (F : Slots) (o : Option Operand) (d : Int) : Option Int := match o with | none => some d | some x => match opv F x with | some (.int _ i) => some i | _ => none
theorem op_slice {t e : TypeId} {sz : Nat} [hT : TSl P t e] [hs : TSz P e sz] {x : Operand} {lo hi : Option Operand} {base : Option Addr} {m cap : Nat} {l h : Int} (hx : opv F x = some (.slice base m cap)) (hlo : ob F lo 0 = some l) (hhi : ob F hi m = some h)
    (h0 : 0 ≤ l) (h1 : l ≤ h) (h2 : h ≤ cap) :
    OpP P n ⟨dst, .slice t x lo hi none, ty, pos, aft, g⟩ F H L (slc base cap l.toNat h.toNat sz) :=
  .mk fun a w hF hS => by
    have hb : (Instr.sliceBounds true m cap (lo.map a.eval) (hi.map a.eval) none).run P w = .ok (l.toNat, h.toNat, cap) w := by
      have hhi' : ∀ y, hi = some y → ∃ k, a.eval y = .int k h := fun y hy => by
        subst hy; simp only [ob] at hhi; split at hhi
        · rename_i k i hy'; cases hhi; exact ⟨k, hF.opv hy'⟩
        · cases hhi
      have hlo' : ∀ y, lo = some y → ∃ k, a.eval y = .int k l := fun y hy => by
        subst hy; simp only [ob] at hlo; split at hlo
        · rename_i k i hy'; cases hlo; exact ⟨k, hF.opv hy'⟩
        · cases hlo
      have e1 : ∀ (k : IntKind) (c : BoundsCode), (Instr.sliceBound (.int k h) cap c).run P w = .ok h.toNat w := fun k c => by
        simp [Instr.sliceBound, asIntOf, show 0 ≤ h by omega, h2]
      have e2 : ∀ (k : IntKind) (c : BoundsCode), (Instr.sliceBound (.int k l) h.toNat c).run P w = .ok l.toNat w := fun k c => by
        simp [Instr.sliceBound, asIntOf, h0]; omega
      cases hi with
      | none =>
        simp only [ob, Option.some.injEq] at hhi
        subst hhi
        cases lo with
        | none => simp only [ob, Option.some.injEq] at hlo; subst hlo; simp [Instr.sliceBounds]
        | some y => obtain ⟨k, hk⟩ := hlo' y rfl; have := e2 k .sliceB; simp at this; simp [Instr.sliceBounds, hk, this]
      | some y =>
        obtain ⟨k, hk⟩ := hhi' y rfl
        cases lo with
        | none => simp only [ob, Option.some.injEq] at hlo; subst hlo; simp [Instr.sliceBounds, hk, e1]
        | some y' => obtain ⟨k', hk'⟩ := hlo' y' rfl; simp [Instr.sliceBounds, hk, hk', e1, e2]
    simp only [execOp]
    simp [Instr.sliceAt, Instr.slice, run_underlying hT.und, hs.run, hF.opv hx, hb, slc]
theorem SlcR.slc {H : Heap} {base : Option Addr} {m cap l h sz : Nat} {cs : List Value} (hr : SlcR H sz (.slice base m cap) m cs) (h1 : l ≤ h) (h2 : h ≤ m) : SlcR H sz (Sx.slc base cap l h sz) (h - l) ((cs.drop (l * sz)).take ((h - l) * sz)) := by
  obtain ⟨base', cap', e, hc, hl, h1c, he⟩ := hr
  cases e
  have hmul : (h - l) * sz + l * sz ≤ m * sz := by rw [← Nat.add_mul]; exact Nat.mul_le_mul_right _ (by omega)
  refine ⟨_, _, rfl, by omega, by rw [List.length_take, List.length_drop, hl]; omega, ?_, ?_⟩
  · simp only [List.all_eq_true] at h1c ⊢
    exact fun u hu => h1c u (List.mem_of_mem_drop (List.mem_of_mem_take hu))
  · by_cases hz : h - l = 0
    · exact .inl hz
    · right
      rcases he with he | ⟨b, off, rfl, hrow⟩
      · omega
      · rw [if_neg (by omega)]
        exact ⟨b, off + l * sz, by simp [Addr.add_lit], hrow.drop.take⟩
theorem SlR.slc {α : Type} {R : Rd α} {sz : Nat} [RdOk R sz] {H : Heap} {base : Option Addr} {m cap l h : Nat} {xs : List α} (hr : SlR R sz H (.slice base m cap) xs) (h1 : l ≤ h) (h2 : h ≤ xs.length) :
    SlR R sz H (Sx.slc base cap l h sz) ((xs.drop l).take (h - l)) := by
  obtain ⟨cs, a, b⟩ := hr
  have hm : m = xs.length := by obtain ⟨_, _, e, _⟩ := a; cases e; rfl
  subst hm
  have hl : ((xs.drop l).take (h - l)).length = h - l := by simp; omega
  refine ⟨_, hl.symm ▸ a.slc h1 h2, (b.drop (by omega)).take (by simp; omega)⟩
end
theorem own_nil {e sz : Nat} {base : Option Addr} {L : List HProp} : Sub L (own e sz (.slice base 0 0) 0 [] :: L) := fun h hb =>
  ⟨Heap.empty, h, ⟨by simp, .inl ⟨rfl, base, rfl⟩⟩, hb, fun _ => .inl rfl, fun _ _ h => by simp [Heap.empty] at h, .refl _⟩
theorem sat_freeze_own {n : NF} {W0 : GW} {F : Slots} {H : Heap} {L R : List HProp} {G : Act → GW → Prop} {e sz m : Nat} {s : Value} {xs : List Value} (hh : Has L (own e sz s m xs) R) (h1 : xs.all (·.oneCell') = true)
    (h : ∀ H', H.le H' → SlcR H' sz s m xs → Sat n W0 F H' R G) : Sat n W0 F H L G := fun a w hF hS => by
  have hS' := hS.sub hh.to
  obtain ⟨hA, hR, ⟨hl, hc⟩, r, d, dA, dR, lA, lR⟩ := hS'.parts
  rcases hc with ⟨rfl, base, rfl⟩ | ⟨b, cap, sp, rfl, _, hmc, hcm, _, hb⟩
  · have : xs = [] := List.eq_nil_of_length_eq_zero (by simpa using hl)
    subst this
    exact h H (.refl _) (SlcR.nil H sz base 0 (by omega)) a w hF (hS.sub (hh.to.trans (Sub.drop (Sub.refl _))))
  · have hpt : StG W0 H w (pt b (.cells (xs ++ sp).toArray e (0, 0)) :: R) := StG.of_parts hS hS.ro (hA := hA) hb r d dA dR lA lR
    obtain ⟨hn, hS2⟩ := hpt.freeze
    refine h _ (le_upd hn) ⟨_, cap, rfl, ⟨hmc, hcm⟩, hl, h1, .inr ⟨b, 0, rfl, fun j u hj => ?_⟩⟩ a w hF hS2
    have : (xs ++ sp)[j]? = some u := by rw [List.getElem?_append_left (List.getElem?_eq_some_iff.1 hj).1]; exact hj
    simp [hcell, upd_same, this]
section
variable {q : Bool} {P : Program} {n : NF} {W0 : GW} {F : Slots} {H : Heap} {L : List HProp} {ops : Array Oper} {Q : Exit → Act → GW → Prop} {rest : List Oper} {ty : TypeId} {pos : String} {aft : Array Edge} {d : Tmp} {g : Option (Nat × Bool)}
  {x y : Operand} {k : IntKind} {a b : Int} {T T' : TypeId}
end
end Go.Sx
namespace Go.Sx
open Go Go.X
theorem big_app {A B : List HProp} {h : Heap} (hb : big (A ++ B) h) : ∃ h1 h2, big A h1 ∧ big B h2 ∧ Disj h1 h2 ∧ h1.le h ∧ h2.le h := by
  induction A generalizing h with
  | nil => exact ⟨Heap.empty, h, trivial, hb, fun _ => .inl rfl, fun _ _ h => by simp [Heap.empty] at h, .refl _⟩
  | cons a A ih =>
    obtain ⟨h1, h2, p, q, d, l1, l2⟩ := hb
    obtain ⟨h3, h4, p3, p4, d34, l3, l4⟩ := ih q
    have d13 : Disj h1 h3 := (d.symm.mono l3).symm
    have d14 : Disj h1 h4 := (d.symm.mono l4).symm
    exact ⟨union h1 h3, h4, ⟨h1, h3, p, p3, d13, le_union_left _ _, le_union_right d13⟩, p4, disj_union d14 d34, union_le l1 (l3.trans l2), l4.trans l2⟩
theorem big_mk {A B : List HProp} {h h1 h2 : Heap} (ha : big A h1) (hb : big B h2) (d : Disj h1 h2) (l1 : h1.le h) (l2 : h2.le h) : big (A ++ B) h := by
  induction A generalizing h h1 with
  | nil => exact big_mono l2 hb
  | cons a A ih =>
    obtain ⟨h3, h4, p, q, dd, l3, l4⟩ := ha
    have d32 : Disj h3 h2 := d.mono l3
    have d42 : Disj h4 h2 := d.mono l4
    exact ⟨h3, union h4 h2, p, ih q d42 (le_union_left _ _) (le_union_right d42), (disj_union dd.symm d32.symm).symm, l3.trans l1, union_le (l4.trans l1) l2⟩
theorem sub_open {A : HProp} {B R : List HProp} (h : ∀ x, A x → big B x) : Sub (A :: R) (B ++ R) := fun x ⟨h1, h2, p, q, d, l1, l2⟩ => big_mk (h _ p) q d l1 l2
theorem sub_shut {A : HProp} {B R : List HProp} (h : ∀ x, big B x → A x) : Sub (B ++ R) (A :: R) := fun x hx => by
  obtain ⟨h1, h2, p, q, d, l1, l2⟩ := big_app hx
  exact ⟨h1, h2, h _ p, q, d, l1, l2⟩
section
variable {n : NF} {W0 : GW} {F : Slots} {H : Heap} {L R : List HProp} {G : Act → GW → Prop}
theorem sat_unfold {σ : Type} {A : HProp} {B : σ → List HProp} {p : σ → Prop} (hh : Has L A R) (hu : ∀ h, A h → ∃ s, p s ∧ big (B s) h) (h : ∀ s, p s → Sat n W0 F H (B s ++ R) G) : Sat n W0 F H L G := fun a w hF hS => by
  obtain ⟨hA, hR, pa, r, d, dA, dR, lA, lR⟩ := (hS.sub hh.to).parts
  obtain ⟨s, hp, hb⟩ := hu hA pa
  refine h s hp a w hF (hS.mk' hS.ro ⟨union hA hR, big_mk hb r d (le_union_left _ _) (le_union_right d), union_le lA lR, (disj_union dA.symm dR.symm).symm⟩)
theorem sat_sub {L' : List HProp} (h : Sat n W0 F H L' G) (hs : Sub L L') : Sat n W0 F H L G := fun a w hF hS => h a w hF (hS.sub hs)
theorem sat_know {A : HProp} {p : Prop} (hh : Has L A R) (hu : ∀ h, A h → p) (h : p → Sat n W0 F H L G) : Sat n W0 F H L G := fun a w hF hS => by
  obtain ⟨hA, hR, pa, _⟩ := (hS.sub hh.to).parts
  exact h (hu hA pa) a w hF hS
end
theorem own_shut {T sz m b cap : Nat} {xs sp : List Value} {R : List HProp} (hl : xs.length = m * sz) (h1 : m ≤ cap) (h2 : cap ≤ 9223372036854775807) (h3 : (xs ++ sp).length = cap * sz) :
    Sub (row b T (xs ++ sp) :: R) (own T sz (.slice (some ⟨b, 0, none⟩) m cap) m xs :: R) := fun h ⟨h1', h2', p, q, d, l1, l2⟩ => by
  refine ⟨h1', h2', ⟨hl, ?_⟩, q, d, l1, l2⟩
  by_cases h0 : cap = 0
  · subst h0; have : m = 0 := by omega
    subst this; exact .inl ⟨rfl, _, rfl⟩
  · exact .inr ⟨b, cap, sp, rfl, by omega, h1, h2, h3, p⟩
theorem own_shape {T sz m : Nat} {s : Value} {xs : List Value} {h : Heap} (ho : own T sz s m xs h) : (∃ base cap, s = .slice base m cap ∧ m ≤ cap ∧ cap ≤ 9223372036854775807) ∧ xs.length = m * sz := by
  obtain ⟨hl, hc⟩ := ho
  rcases hc with ⟨rfl, b, rfl⟩ | ⟨b, cap, sp, rfl, _, h1, h2, h3, h4⟩
  · exact ⟨⟨b, 0, rfl, by omega, by omega⟩, hl⟩
  · exact ⟨⟨_, cap, rfl, h1, h2⟩, hl⟩
theorem own_reads {T sz m : Nat} {s : Value} {xs : List Value} {h H : Heap} (ho : own T sz s m xs h) (hl : h.le H) (h1 : xs.all (·.oneCell') = true) : SlcR H sz s m xs := by
  obtain ⟨hxl, hc⟩ := ho
  rcases hc with ⟨rfl, b, rfl⟩ | ⟨b, cap, sp, rfl, _, hm, hm2, h3, h4⟩
  · have : xs = [] := List.eq_nil_of_length_eq_zero (by simpa using hxl)
    subst this; exact SlcR.nil H sz b 0 (by omega)
  · refine ⟨_, cap, rfl, ⟨hm, hm2⟩, hxl, h1, .inr ⟨b, 0, rfl, fun j u hj => ?_⟩⟩
    have : (xs ++ sp)[j]? = some u := by rw [List.getElem?_append_left (List.getElem?_eq_some_iff.1 hj).1]; exact hj
    simp [hcell, hl _ _ h4, this]
section
variable {P : Program} {n : NF} {W0 : GW} {F : Slots} {H : Heap} {L : List HProp} {K : Value → Heap → List HProp → Prop} {dst : Option Tmp} {ty : TypeId} {pos : String} {aft : Array Edge} {g : Option (Nat × Bool)}
theorem op_makeFunc {f : FuncId} {l : List Operand} {vs : List Value} (ha : Args F l vs) : OpP P n ⟨dst, .makeFunc (.func f) #[] l.toArray, ty, pos, aft, g⟩ F H L (.func (.func f) #[] vs.toArray) := .mk fun a w hF hS => by
  have := ha.eval hF
  simp [execOp, Instr.makeFunc, this]
class TPl (P : Program) (t : TypeId) (pl : outParam (List (Nat × Nat))) : Prop where
  ex : ∃ fs, P.underlying t = some (.struct fs) ∧ ∀ w, (fs.mapM (m := Sem) fun f => do pure (f.offset, ← sizeOf f.type)).run P w = .ok pl.toArray w
inductive FillR (F : Slots) (pl : List (Nat × Nat)) : List (Nat × Operand) → List Value → List Value → Prop
  | nil {cs : List Value} : FillR F pl [] cs cs
  | cons {i off k : Nat} {x : Operand} {v : Value} {us cs cs' cs'' : List Value} {r : List (Nat × Operand)} : pl[i]? = some (off, k) → opv F x = some v → v.cells = us.toArray → us.length = k → Lay cs off us cs' → FillR F pl r cs' cs'' → FillR F pl ((i, x) :: r) cs cs''
theorem fold_lay : ∀ (l : List Value) (off i : Nat) (arr : List Value), off + i + l.length ≤ arr.length →
    (l.zipIdx i).foldl (fun (cs : Array Value) (c, j) => cs.setIfInBounds (off + j) c) arr.toArray = (arr.take (off + i) ++ l ++ arr.drop (off + i + l.length)).toArray := by
  intro l
  induction l with
  | nil => intro off i arr _; simp
  | cons c l ih =>
    intro off i arr hl'
    simp only [List.zipIdx_cons, List.foldl_cons, List.setIfInBounds_toArray]
    rw [ih off (i + 1) _ (by simp at hl' ⊢; omega)]
    congr 1
    simp only [List.length_cons] at hl' ⊢
    rw [List.drop_set_of_lt (by omega)]
    have e1 : (arr.set (off + i) c).take (off + (i + 1)) = arr.take (off + i) ++ [c] := by
      rw [← Nat.add_assoc, List.take_add_one, List.getElem?_set_self (by omega), List.take_set_of_le (by omega)]; simp
    rw [e1]
    simp [Nat.add_assoc, Nat.add_comm 1]
theorem FillR.run {pl : List (Nat × Nat)} {ps : List (Nat × Operand)} {cs cs' : List Value} (h : FillR F pl ps cs cs') {a : Act} (hF : FrOk n a F) : Instr.fill (fun i => pl[i]?) cs.toArray (ps.map fun x => (x.1, a.eval x.2)) = some cs'.toArray := by
  induction h with
  | nil => rfl
  | @cons i off k x v us cs cs' cs'' r hp hx hc hl hlay _ ih =>
    obtain ⟨he, hfit⟩ := hlay.eq
    simp only [List.map_cons, Instr.fill, hp, hF.opv hx, hc]
    rw [if_neg (by simp; omega)]
    have := fold_lay us off 0 cs (by omega)
    simp only [Nat.add_zero] at this
    rw [← he] at this
    have e2 : (us.toArray.zipIdx.foldl (fun (cs : Array Value) (x : Value × Nat) => match x with | (c, j) => cs.setIfInBounds (off + j) c) cs.toArray) = cs'.toArray := by simpa using this
    rw [e2]; exact ih
theorem op_build {t : TypeId} {pl : List (Nat × Nat)} {ps : List (Nat × Operand)} {zs cs : List Value} [hT : TPl P t pl] [hZ : TZL P t zs] (hf : FillR F pl ps zs cs) :
    OpP P n ⟨dst, .build t ps.toArray, ty, pos, aft, g⟩ F H L (.agg cs.toArray) := .mk fun a w hF hS => by
  obtain ⟨fs, hu, hm⟩ := hT.ex
  obtain ⟨z, hz1, hz⟩ := hZ.ex
  have := hf.run hF
  have hm' := hm w
  simp only [execOp]
  simp [Instr.build, hz1, run_underlying hu, hz]
  simp at hm'
  rw [hm']
  simp
  rw [this]
  rfl
end
end Go.Sx
namespace Go.Sx
open Go Go.X
def OL {α : Type} (O : List Value → α → HProp) : List Value → List α → HProp
  | cs, [] => fun _ => cs = []
  | cs, x :: xs => fun h => ∃ c r, cs = c ++ r ∧ big [O c x, OL O r xs] h
class OOk {α : Type} (O : List Value → α → HProp) (sz : outParam Nat) : Prop where
  len : ∀ {c x h}, O c x h → c.length = sz
  one : ∀ {c x h}, O c x h → c.all (·.oneCell') = true
  mono : ∀ {c x h h'}, Heap.le h h' → O c x h → O c x h'
section
variable {α : Type} {O : List Value → α → HProp} {sz : Nat}
theorem big_two {A B : HProp} {h : Heap} (hb : big [A, B] h) : ∃ h1 h2, A h1 ∧ B h2 ∧ Disj h1 h2 ∧ h1.le h ∧ h2.le h := by
  obtain ⟨h1, h2, a, ⟨h3, h4, b, _, d', l3, l4⟩, d, l1, l2⟩ := hb
  exact ⟨h1, h3, a, b, (d.symm.mono l3).symm, l1, l3.trans l2⟩
theorem OL.mono [hO : OOk O sz] : ∀ {cs : List Value} {xs : List α} {h h' : Heap}, h.le h' → OL O cs xs h → OL O cs xs h'
  | _, [], _, _, _, hh => hh
  | _, _ :: _, _, _, hl, ⟨c, r, e, hb⟩ => ⟨c, r, e, big_mono hl hb⟩
end
theorem ASrc.row0 {P : Program} {sz : Nat} {H : Heap} {L : List HProp} {t e : TypeId} {b m c : Nat} {T : TypeId} {cs : List Value} {R : List HProp} (hk : P.underlying t = some (.slice e)) (hh : Has L (Sx.row b T cs) R) (hl : cs.length = m * sz) (h1 : cs.all (·.oneCell') = true) :
    ASrc P sz H L t (.slice (some ⟨b, 0, none⟩) m c) m cs := .row (sp := []) hk (by rw [List.append_nil]; exact hh) hl h1
section
variable {P : Program} {n : NF} {W0 : GW} {F : Slots} {H : Heap} {L : List HProp} {K : Value → Heap → List HProp → Prop} {dst : Option Tmp} {ty : TypeId} {pos : String} {aft : Array Edge} {g : Option (Nat × Bool)}
theorem slc_pre (base : Option Addr) (cap h sz : Nat) : slc base cap 0 h sz = .slice base h cap := by
  unfold slc; cases base <;> simp [Addr.add]
theorem op_sliceTo {t e : TypeId} {sz : Nat} [hT : TSl P t e] [hs : TSz P e sz] {x y : Operand} {base : Option Addr} {m cap : Nat} {h : Int} {k : IntKind} (hx : opv F x = some (.slice base m cap)) (hy : opv F y = some (.int k h)) (h1 : 0 ≤ h) (h2 : h ≤ cap) :
    OpP P n ⟨dst, .slice t x none (some y) none, ty, pos, aft, g⟩ F H L (.slice base h.toNat cap) := by
  have := op_slice (P := P) (n := n) (H := H) (L := L) (dst := dst) (ty := ty) (pos := pos) (aft := aft) (g := g) (t := t) (lo := none) (hi := some y) (l := 0) (h := h) hx rfl (by simp [ob, hy]) (by omega) h1 h2
  rwa [show (0 : Int).toNat = 0 from rfl, slc_pre] at this
end
class TPt (P : Program) (t : TypeId) : Prop where
  ex : ∃ e, P.underlying t = some (.pointer e)
section
variable {P : Program} {n : NF} {W0 : GW} {F : Slots} {H : Heap} {L : List HProp} {dst : Option Tmp} {ty : TypeId} {pos : String} {aft : Array Edge} {g : Option (Nat × Bool)}
theorem op_eqlPtr {x y : Operand} {T T' : TypeId} {a : Addr} [hT : TPt P T] (hx : opv F x = some (.pointer (some a))) (hy : opv F y = some (.pointer none)) :
    OpP P n ⟨dst, .binOp .eql T x y T', ty, pos, aft, g⟩ F H L (.bool false) := .mk (calm := fun a hF => let ⟨e, he⟩ := hT.ex; calm_eqNil he (by simp) (hF.opv hx) (hF.opv hy)) fun _ w hF _ => by
  obtain ⟨e, he⟩ := hT.ex
  have h0 : (Op.equal T (.pointer (some a)) (.pointer none)).run P w = .ok false w := by
    have : ∀ d, (Op.equalIn (d + 1) T (.pointer (some a)) (.pointer none)).run P w = .ok false w := fun d => by simp [Op.equalIn, run_underlying he]
    exact this 9999
  simp only [execOp, hF.opv hx, hF.opv hy]; simp [eqGuard_at_pointer, binOp, h0]
end
section
variable {P : Program} {n : NF} {W0 : GW} {F : Slots} {H : Heap} {L : List HProp} {dst : Option Tmp} {ty : TypeId} {pos : String} {aft : Array Edge} {g : Option (Nat × Bool)}
theorem op_min {x y : Operand} {at_ : Array TypeId} {k : IntKind} {a b z : Int} (hx : opv F x = some (.int k a)) (hy : opv F y = some (.int k b)) (hz : z = if b < a then b else a) :
    OpP P n ⟨dst, .call ⟨.builtin .min, #[x, y], at_⟩, ty, pos, aft, g⟩ F H L (.int k z) := .mk fun _ w hF _ => by
  subst hz
  simp only [execOp, resolve]
  simp [invoke, builtin, hF.opv hx, hF.opv hy, Builtin.min_, Builtin.min2]
end
end Go.Sx
