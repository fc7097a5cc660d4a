/- The operations on slices, in the walk. No program in sight. -/
import Derived.Test.YtnfmjkjhiolfdaaDoorSx7
namespace Go.Sx
open Go
class TBo (P : Program) (t : TypeId) : Prop where
  und : P.underlying t = some .bool
theorem sub_pick {L M L' : List HProp} {A : HProp} (h : Has L A M) (hs : Sub M L') : Sub L (A :: L') := h.to.trans (Sub.cons hs)
section
variable {P : Program} {n : Nat} {W0 : World} {F : Slots} {H : Heap} {L : List HProp} {K : Value → Heap → List HProp → Prop} {dst : Option Tmp} {ty : TypeId} {pos : String} {aft : Array Edge} {g : Option (Nat × Bool)}
theorem op_append {t tx e : TypeId} {sz by_ : Nat} {z : Value} [hT : TSl P t e] [hI : TIn P e sz by_ z] {s x : Operand} {sv xv : Value} {m k : Nat} {xs news : List Value} {R : List HProp}
    (hs : opv F s = some sv) (hx : opv F x = some xv) (hh : Has L (own e sz sv m xs) R) (hsrc : ASrc P sz H L tx xv k news) (hb1 : m + k ≤ maxLen) (hb2 : (m + k) * by_ ≤ 140737488355328)
    (hk : ∀ base cap, K (.slice base (m + k) cap) H (own e sz (.slice base (m + k) cap) (m + k) (xs ++ news) :: R)) :
    OpW P n W0 ⟨dst, .call ⟨.builtin .append, #[s, x], #[t, tx]⟩, ty, pos, aft, g⟩ F H L K :=
  .of_run fun a w hF hS => by
    obtain ⟨base, cap, w', hr, hS'⟩ := run_append_mine (P := P) (ty := ty) (t := t) (tx := tx) (hS.sub hh.to) (hsrc.src hS) hb1 hb2
    refine ⟨_, H, _, w', ?_, .refl _, hk base cap, hS'⟩
    simp only [execOp, resolve]
    simp [invoke, builtin, hF.opv hs, hF.opv hx, hr]
theorem op_appendTo {t tx e : TypeId} {sz by_ : Nat} {z : Value} [hT : TSl P t e] [hI : TIn P e sz by_ z] {s x : Operand} {sv xv : Value} {m k mk : Nat} {xs news ys : List Value} {R : List HProp}
    (hs : opv F s = some sv) (hx : opv F x = some xv) (hh : Has L (own e sz sv m xs) R) (hsrc : ASrc P sz H L tx xv k news) (hm : m + k = mk) (hy : xs ++ news = ys) (hb1 : mk ≤ maxLen) (hb2 : mk * by_ ≤ 140737488355328)
    (hk : ∀ base cap, K (.slice base mk cap) H (own e sz (.slice base mk cap) mk ys :: R)) :
    OpW P n W0 ⟨dst, .call ⟨.builtin .append, #[s, x], #[t, tx]⟩, ty, pos, aft, g⟩ F H L K := by
  subst hm; subst hy; exact op_append hs hx hh hsrc hb1 hb2 hk
theorem sl_sub {ops : Array Oper} {Q : Exit → Act → World → Prop} {rest : List Oper} {L' : List HProp} (hs : Sub L L') (h : SL false P n W0 F H L' ops Q rest) : SL false P n W0 F H L ops Q rest := fun a w hF hS => h a w hF (hS.sub hs)
/-- the row of a literal of one element -/
theorem op_buildSlice1 {t e : TypeId} {sz : Nat} {z v : Value} {cs : List Value} {x : Operand} [hT : TSl P t e] [hS' : TSz P e sz] [hZ : TZ P e z] (hx : opv F x = some v) (hc : v.cells = cs.toArray) (hl : cs.length = sz) (hz : z.cells.size = sz)
    (h0 : Nat.blt 0 sz && Nat.ble sz 1000 = true) (hk : ∀ b, H b = none → K (.slice (some ⟨b, 0, none⟩) 1 1) H (row b e cs :: L)) : OpW P n W0 ⟨dst, .buildSlice t 1 #[(0, x)], ty, pos, aft, g⟩ F H L K :=
  .of_run fun a w hF hS => by
    have hs : St W0 H (w.alloc (.cells cs.toArray e)) (row w.heap.size e cs :: L) := hS.alloc (hS.env.of rfl rfl rfl) rfl
    refine ⟨_, H, _, _, ?_, .refl _, hk _ hs.ptRead.2, hs⟩
    have h0 : 0 < sz ∧ sz ≤ 1000 := by simpa using h0
    have hne : sz ≠ 0 := by omega
    have hfold : ∀ (l : List Value) (i : Nat) (arr : List Value), i + l.length ≤ arr.length → (l.zipIdx i).foldl (fun (cs : Array Value) (c, j) => cs.setIfInBounds (0 + j) c) arr.toArray = (arr.take i ++ l ++ arr.drop (i + l.length)).toArray := by
      intro l
      induction l with
      | nil => intro i arr _; simp
      | cons c l ih =>
        intro i arr hl'
        simp only [List.zipIdx_cons, List.foldl_cons, Nat.zero_add, List.setIfInBounds_toArray]
        rw [show (fun (cs : Array Value) (x : Value × Nat) => cs.setIfInBounds x.2 x.1) = (fun (cs : Array Value) (x : Value × Nat) => match x with | (c, j) => cs.setIfInBounds (0 + j) c) from by funext cs x; simp]
        rw [ih (i + 1) _ (by simp at hl' ⊢; omega)]
        congr 1
        simp only [List.length_cons] at hl' ⊢
        rw [List.drop_set_of_lt (by omega)]
        have e1 : (arr.set i c).take (i + 1) = arr.take i ++ [c] := by
          rw [List.take_add_one, List.getElem?_set_self (by omega), List.take_set_of_le (by omega)]; simp
        rw [e1]; simp [Nat.add_assoc, Nat.add_comm 1]
    have hf := hfold cs 0 ((List.range (1 * sz)).map (fun i => z.cells[i % z.cells.size]!)) (by simp; omega)
    have hd : ((List.range (1 * sz)).map (fun i => z.cells[i % z.cells.size]!)).drop (0 + cs.length) = [] := List.drop_eq_nil_of_le (by simp; omega)
    rw [hd] at hf
    simp only [List.take_zero, List.nil_append, List.append_nil] at hf
    have hfill : Instr.fill (fun i => some (i * sz, sz)) ((Array.range (1 * sz)).map (fun i => z.cells[i % z.cells.size]!)) [(0, v)] = some cs.toArray := by
      simp only [Instr.fill, hc, Nat.zero_mul]
      rw [if_neg (by simp; omega)]
      have e2 : ((Array.range (1 * sz)).map (fun i => z.cells[i % z.cells.size]!)) = ((List.range (1 * sz)).map (fun i => z.cells[i % z.cells.size]!)).toArray := by
        apply Array.ext'; simp [Array.toList_range]
      rw [e2]
      simpa using hf
    simp only [execOp]
    simp [Instr.buildSlice, run_underlying hT.und, hS'.run, hne, hZ.run, hF.opv hx, newRow]
    rw [if_neg (by omega)]
    simp only [Nat.one_mul] at hfill
    simp [hfill]
theorem op_buildSlice0 {t e : TypeId} {sz : Nat} [hT : TSl P t e] [hS' : TSz P e sz] (hk : ∀ b, H b = none → K (.slice (some ⟨b, 0, none⟩) 0 0) H (row b e [] :: L)) : OpW P n W0 ⟨dst, .buildSlice t 0 #[], ty, pos, aft, g⟩ F H L K :=
  .of_run fun a w hF hS => by
    have hs : St W0 H (w.alloc (.cells #[] e)) (row w.heap.size e [] :: L) := hS.alloc (hS.env.of rfl rfl rfl) rfl
    refine ⟨_, H, _, _, ?_, .refl _, hk _ hs.ptRead.2, hs⟩
    simp only [execOp]
    simp [Instr.buildSlice, run_underlying hT.und, hS'.run, newRow, Instr.fill, Array.range_zero']
/-- x[l:h] -/
def slc (base : Option Addr) (cap l h sz : Nat) : Value := .slice (if cap = l then base else base.map (·.add (l * sz))) (h - l) (cap - l)
def ob (F : Slots) (o : Option Operand) (d : Int) : Option Int := match o with | none => some d | some x => match opv F x with | some (.int _ i) => some i | _ => none
theorem op_slice {t e : TypeId} {sz : Nat} [hT : TSl P t e] [hs : TSz P e sz] {x : Operand} {lo hi : Option Operand} {base : Option Addr} {m cap : Nat} {l h : Int} (hx : opv F x = some (.slice base m cap)) (hlo : ob F lo 0 = some l) (hhi : ob F hi m = some h)
    (h0 : 0 ≤ l) (h1 : l ≤ h) (h2 : h ≤ cap) :
    OpP P n W0 ⟨dst, .slice t x lo hi none, ty, pos, aft, g⟩ F H L (slc base cap l.toNat h.toNat sz) :=
  .mk fun a w hF hS => by
    have hb : (Instr.sliceBounds true m cap (lo.map a.eval) (hi.map a.eval) none).run P w = .ok (l.toNat, h.toNat, cap) w := by
      have hhi' : ∀ y, hi = some y → ∃ k, a.eval y = .int k h := fun y hy => by
        subst hy; simp only [ob] at hhi; split at hhi
        · rename_i k i hy'; cases hhi; exact ⟨k, hF.opv hy'⟩
        · cases hhi
      have hlo' : ∀ y, lo = some y → ∃ k, a.eval y = .int k l := fun y hy => by
        subst hy; simp only [ob] at hlo; split at hlo
        · rename_i k i hy'; cases hlo; exact ⟨k, hF.opv hy'⟩
        · cases hlo
      have e1 : ∀ (k : IntKind) (c : BoundsCode), (Instr.sliceBound (.int k h) cap c).run P w = .ok h.toNat w := fun k c => by
        simp [Instr.sliceBound, asIntOf, show 0 ≤ h by omega, h2]
      have e2 : ∀ (k : IntKind) (c : BoundsCode), (Instr.sliceBound (.int k l) h.toNat c).run P w = .ok l.toNat w := fun k c => by
        simp [Instr.sliceBound, asIntOf, h0]; omega
      cases hi with
      | none =>
        simp only [ob, Option.some.injEq] at hhi
        subst hhi
        cases lo with
        | none => simp only [ob, Option.some.injEq] at hlo; subst hlo; simp [Instr.sliceBounds]
        | some y => obtain ⟨k, hk⟩ := hlo' y rfl; have := e2 k .sliceB; simp at this; simp [Instr.sliceBounds, hk, this]
      | some y =>
        obtain ⟨k, hk⟩ := hhi' y rfl
        cases lo with
        | none => simp only [ob, Option.some.injEq] at hlo; subst hlo; simp [Instr.sliceBounds, hk, e1]
        | some y' => obtain ⟨k', hk'⟩ := hlo' y' rfl; simp [Instr.sliceBounds, hk, hk', e1, e2]
    simp only [execOp]
    simp [Instr.sliceAt, Instr.slice, run_underlying hT.und, hs.run, hF.opv hx, hb, slc]
theorem sx_slice {q : Bool} {ops : Array Oper} {Q : Exit → Act → World → Prop} {rest : List Oper} {d : Tmp} {t e : TypeId} {sz : Nat} [hT : TSl P t e] [hs : TSz P e sz] {x : Operand} {lo hi : Option Operand} {base : Option Addr} {m cap : Nat} {l h : Int} (hx : opv F x = some (.slice base m cap)) (hlo : ob F lo 0 = some l) (hhi : ob F hi m = some h)
    (h0 : 0 ≤ l) (h1 : l ≤ h) (h2 : h ≤ cap) (hd : Nat.blt d n = true) (hk : SL q P n W0 ((d, slc base cap l.toNat h.toNat sz) :: F) H L ops Q rest) :
    SL q P n W0 F H L ops Q (⟨some d, .slice t x lo hi none, ty, pos, aft, none⟩ :: rest) := sx_p hd (op_slice hx hlo hhi h0 h1 h2) hk
theorem SlcR.slc {H : Heap} {base : Option Addr} {m cap l h sz : Nat} {cs : List Value} (hr : SlcR H sz (.slice base m cap) m cs) (h1 : l ≤ h) (h2 : h ≤ m) : SlcR H sz (Sx.slc base cap l h sz) (h - l) ((cs.drop (l * sz)).take ((h - l) * sz)) := by
  obtain ⟨base', cap', e, hc, hl, h1c, he⟩ := hr
  cases e
  have hmul : (h - l) * sz + l * sz ≤ m * sz := by rw [← Nat.add_mul]; exact Nat.mul_le_mul_right _ (by omega)
  refine ⟨_, _, rfl, by omega, by rw [List.length_take, List.length_drop, hl]; omega, ?_, ?_⟩
  · simp only [List.all_eq_true] at h1c ⊢
    exact fun u hu => h1c u (List.mem_of_mem_drop (List.mem_of_mem_take hu))
  · by_cases hz : h - l = 0
    · exact .inl hz
    · right
      rcases he with he | ⟨b, off, rfl, hrow⟩
      · omega
      · rw [if_neg (by omega)]
        exact ⟨b, off + l * sz, by simp [Addr.add_lit], hrow.drop.take⟩
theorem SlR.slc {α : Type} {R : Rd α} {sz : Nat} [RdOk R sz] {H : Heap} {base : Option Addr} {m cap l h : Nat} {xs : List α} (hr : SlR R sz H (.slice base m cap) xs) (h1 : l ≤ h) (h2 : h ≤ xs.length) :
    SlR R sz H (Sx.slc base cap l h sz) ((xs.drop l).take (h - l)) := by
  obtain ⟨cs, a, b⟩ := hr
  have hm : m = xs.length := by obtain ⟨_, _, e, _⟩ := a; cases e; rfl
  subst hm
  have hl : ((xs.drop l).take (h - l)).length = h - l := by simp; omega
  refine ⟨_, hl.symm ▸ a.slc h1 h2, (b.drop (by omega)).take (by simp; omega)⟩
end
/-! ### Owned slices, made and given away -/
theorem own_of_row {b e : Nat} {sz m : Nat} {xs : List Value} {R : List HProp} (hl : xs.length = m * sz) (hm : m ≤ maxLen) : Sub (row b e xs :: R) (own e sz (.slice (some ⟨b, 0, none⟩) m m) m xs :: R) := fun h ⟨h1, h2, p, q, d, l1, l2⟩ => by
  refine ⟨h1, h2, ⟨hl, ?_⟩, q, d, l1, l2⟩
  by_cases h0 : m = 0
  · subst h0; exact .inl ⟨rfl, _, rfl⟩
  · exact .inr ⟨b, m, [], rfl, by omega, Nat.le_refl _, hm, by simpa using hl, by simpa [row, pt] using p⟩
theorem own_row0 {b e sz : Nat} {R : List HProp} : Sub (row b e [] :: R) (own e sz (.slice (some ⟨b, 0, none⟩) 0 0) 0 [] :: R) := own_of_row (m := 0) (by simp) (by simp [maxLen])
theorem own_nil {e sz : Nat} {base : Option Addr} {L : List HProp} : Sub L (own e sz (.slice base 0 0) 0 [] :: L) := fun h hb =>
  ⟨Heap.empty, h, ⟨by simp, .inl ⟨rfl, base, rfl⟩⟩, hb, fun _ => .inl rfl, fun _ _ h => by simp [Heap.empty] at h, .refl _⟩
theorem sat_freeze_own {n : Nat} {W0 : World} {F : Slots} {H : Heap} {L R : List HProp} {G : Act → World → Prop} {e sz m : Nat} {s : Value} {xs : List Value} (hh : Has L (own e sz s m xs) R) (h1 : xs.all (·.oneCell') = true)
    (h : ∀ H', H.le H' → SlcR H' sz s m xs → Sat n W0 F H' R G) : Sat n W0 F H L G := fun a w hF hS => by
  have hS' := hS.sub hh.to
  obtain ⟨hA, hR, ⟨hl, hc⟩, r, d, dA, dR, lA, lR⟩ := hS'.parts
  rcases hc with ⟨rfl, base, rfl⟩ | ⟨b, cap, sp, rfl, _, hmc, hcm, _, hb⟩
  · have : xs = [] := List.eq_nil_of_length_eq_zero (by simpa using hl)
    subst this
    exact h H (.refl _) (SlcR.nil H sz base 0 (by omega)) a w hF (hS.sub (hh.to.trans (Sub.drop (Sub.refl _))))
  · have hpt : St W0 H w (pt b (.cells (xs ++ sp).toArray e (0, 0)) :: R) := St.of_parts hS.env hS.ro (hA := hA) hb r d dA dR lA lR
    obtain ⟨hn, hS2⟩ := hpt.freeze
    refine h _ (le_upd hn) ⟨_, cap, rfl, ⟨hmc, hcm⟩, hl, h1, .inr ⟨b, 0, rfl, fun j u hj => ?_⟩⟩ a w hF hS2
    have : (xs ++ sp)[j]? = some u := by rw [List.getElem?_append_left (List.getElem?_eq_some_iff.1 hj).1]; exact hj
    simp [hcell, upd_same, this]
/-- an owned slice becomes one that is read, typed -/
theorem sat_freeze_sl {α : Type} {Rr : Rd α} {n sz : Nat} [RdOk Rr sz] {W0 : World} {F : Slots} {H : Heap} {L R : List HProp} {G : Act → World → Prop} {e m : Nat} {s : Value} {cs : List Value} {xs : List α} (hh : Has L (own e sz s m cs) R) (hr : RL Rr H cs xs)
    (hm : m = xs.length) (h : ∀ H', H.le H' → SlR Rr sz H' s xs → Sat n W0 F H' R G) : Sat n W0 F H L G :=
  sat_freeze_own hh hr.one fun H' hl hs => h H' hl ⟨cs, hm ▸ hs, hr.mono hl⟩
/-- a truth value -/
def IsB (r : Value) (p : Prop) : Prop := ∃ t : Bool, r = .bool t ∧ (t = true ↔ p)
theorem IsB.mk {p : Prop} (t : Bool) (h : t = true ↔ p) : IsB (.bool t) p := ⟨t, rfl, h⟩
theorem IsB.T {p : Prop} (h : p) : IsB (.bool true) p := ⟨true, rfl, by simp [h]⟩
theorem IsB.F {p : Prop} (h : ¬ p) : IsB (.bool false) p := ⟨false, rfl, by simp [h]⟩
theorem IsB.D {p : Prop} [Decidable p] : IsB (.bool (decide p)) p := ⟨_, rfl, by simp⟩
section
variable {q : Bool} {P : Program} {n : Nat} {W0 : World} {F : Slots} {H : Heap} {L : List HProp} {ops : Array Oper} {Q : Exit → Act → World → Prop} {rest : List Oper} {ty : TypeId} {pos : String} {aft : Array Edge} {d : Tmp} {g : Option (Nat × Bool)}
  {x y : Operand} {k : IntKind} {a b : Int} {T T' : TypeId}
theorem op_eqlT {dst : Option Tmp} (hx : opv F x = some (.int k a)) (hy : opv F y = some (.int k b)) (h : a = b) : OpP P n W0 ⟨dst, .binOp .eql T x y T', ty, pos, aft, g⟩ F H L (.bool true) := by
  have := op_eql (P := P) (n := n) (W0 := W0) (H := H) (L := L) (dst := dst) (ty := ty) (pos := pos) (aft := aft) (g := g) (T := T) (T' := T') hx hy
  simpa [h] using this
theorem sx_eqlT (hx : opv F x = some (.int k a)) (hy : opv F y = some (.int k b)) (h : a = b) (hd : Nat.blt d n = true) (hk : SL q P n W0 ((d, .bool true) :: F) H L ops Q rest) :
    SL q P n W0 F H L ops Q (⟨some d, .binOp .eql T x y T', ty, pos, aft, none⟩ :: rest) := sx_p hd (op_eqlT hx hy h) hk
theorem sxg_eqlT {j dj : Nat} {want : Bool} (hx : opv F x = some (.int k a)) (hy : opv F y = some (.int k b)) (h : a = b) (hj : (ops[j]?).bind (·.dst) = some dj) (hjv : fget F dj = some (.bool want)) (hd : Nat.blt d n = true) (hk : SL q P n W0 ((d, .bool true) :: F) H L ops Q rest) :
    SL q P n W0 F H L ops Q (⟨some d, .binOp .eql T x y T', ty, pos, aft, some (j, want)⟩ :: rest) := sx_pg hj hjv hd (op_eqlT hx hy h) hk
theorem op_eqlF {dst : Option Tmp} (hx : opv F x = some (.int k a)) (hy : opv F y = some (.int k b)) (h : ¬ (a = b)) : OpP P n W0 ⟨dst, .binOp .eql T x y T', ty, pos, aft, g⟩ F H L (.bool false) := by
  have := op_eql (P := P) (n := n) (W0 := W0) (H := H) (L := L) (dst := dst) (ty := ty) (pos := pos) (aft := aft) (g := g) (T := T) (T' := T') hx hy
  simpa [h] using this
theorem sx_eqlF (hx : opv F x = some (.int k a)) (hy : opv F y = some (.int k b)) (h : ¬ (a = b)) (hd : Nat.blt d n = true) (hk : SL q P n W0 ((d, .bool false) :: F) H L ops Q rest) :
    SL q P n W0 F H L ops Q (⟨some d, .binOp .eql T x y T', ty, pos, aft, none⟩ :: rest) := sx_p hd (op_eqlF hx hy h) hk
theorem sxg_eqlF {j dj : Nat} {want : Bool} (hx : opv F x = some (.int k a)) (hy : opv F y = some (.int k b)) (h : ¬ (a = b)) (hj : (ops[j]?).bind (·.dst) = some dj) (hjv : fget F dj = some (.bool want)) (hd : Nat.blt d n = true) (hk : SL q P n W0 ((d, .bool false) :: F) H L ops Q rest) :
    SL q P n W0 F H L ops Q (⟨some d, .binOp .eql T x y T', ty, pos, aft, some (j, want)⟩ :: rest) := sx_pg hj hjv hd (op_eqlF hx hy h) hk
theorem op_neqT {dst : Option Tmp} (hx : opv F x = some (.int k a)) (hy : opv F y = some (.int k b)) (h : ¬ a = b) : OpP P n W0 ⟨dst, .binOp .neq T x y T', ty, pos, aft, g⟩ F H L (.bool true) := by
  have := op_neq (P := P) (n := n) (W0 := W0) (H := H) (L := L) (dst := dst) (ty := ty) (pos := pos) (aft := aft) (g := g) (T := T) (T' := T') hx hy
  simpa [h] using this
theorem sx_neqT (hx : opv F x = some (.int k a)) (hy : opv F y = some (.int k b)) (h : ¬ a = b) (hd : Nat.blt d n = true) (hk : SL q P n W0 ((d, .bool true) :: F) H L ops Q rest) :
    SL q P n W0 F H L ops Q (⟨some d, .binOp .neq T x y T', ty, pos, aft, none⟩ :: rest) := sx_p hd (op_neqT hx hy h) hk
theorem sxg_neqT {j dj : Nat} {want : Bool} (hx : opv F x = some (.int k a)) (hy : opv F y = some (.int k b)) (h : ¬ a = b) (hj : (ops[j]?).bind (·.dst) = some dj) (hjv : fget F dj = some (.bool want)) (hd : Nat.blt d n = true) (hk : SL q P n W0 ((d, .bool true) :: F) H L ops Q rest) :
    SL q P n W0 F H L ops Q (⟨some d, .binOp .neq T x y T', ty, pos, aft, some (j, want)⟩ :: rest) := sx_pg hj hjv hd (op_neqT hx hy h) hk
theorem op_neqF {dst : Option Tmp} (hx : opv F x = some (.int k a)) (hy : opv F y = some (.int k b)) (h : ¬ (¬ a = b)) : OpP P n W0 ⟨dst, .binOp .neq T x y T', ty, pos, aft, g⟩ F H L (.bool false) := by
  have := op_neq (P := P) (n := n) (W0 := W0) (H := H) (L := L) (dst := dst) (ty := ty) (pos := pos) (aft := aft) (g := g) (T := T) (T' := T') hx hy
  simp only [Decidable.not_not] at h
  simpa [h] using this
theorem sx_neqF (hx : opv F x = some (.int k a)) (hy : opv F y = some (.int k b)) (h : ¬ (¬ a = b)) (hd : Nat.blt d n = true) (hk : SL q P n W0 ((d, .bool false) :: F) H L ops Q rest) :
    SL q P n W0 F H L ops Q (⟨some d, .binOp .neq T x y T', ty, pos, aft, none⟩ :: rest) := sx_p hd (op_neqF hx hy h) hk
theorem sxg_neqF {j dj : Nat} {want : Bool} (hx : opv F x = some (.int k a)) (hy : opv F y = some (.int k b)) (h : ¬ (¬ a = b)) (hj : (ops[j]?).bind (·.dst) = some dj) (hjv : fget F dj = some (.bool want)) (hd : Nat.blt d n = true) (hk : SL q P n W0 ((d, .bool false) :: F) H L ops Q rest) :
    SL q P n W0 F H L ops Q (⟨some d, .binOp .neq T x y T', ty, pos, aft, some (j, want)⟩ :: rest) := sx_pg hj hjv hd (op_neqF hx hy h) hk
theorem op_lssT {dst : Option Tmp} (hx : opv F x = some (.int k a)) (hy : opv F y = some (.int k b)) (h : a < b) : OpP P n W0 ⟨dst, .binOp .lss T x y T', ty, pos, aft, g⟩ F H L (.bool true) := by
  have := op_lss (P := P) (n := n) (W0 := W0) (H := H) (L := L) (dst := dst) (ty := ty) (pos := pos) (aft := aft) (g := g) (T := T) (T' := T') hx hy
  simpa [h] using this
theorem sx_lssT (hx : opv F x = some (.int k a)) (hy : opv F y = some (.int k b)) (h : a < b) (hd : Nat.blt d n = true) (hk : SL q P n W0 ((d, .bool true) :: F) H L ops Q rest) :
    SL q P n W0 F H L ops Q (⟨some d, .binOp .lss T x y T', ty, pos, aft, none⟩ :: rest) := sx_p hd (op_lssT hx hy h) hk
theorem sxg_lssT {j dj : Nat} {want : Bool} (hx : opv F x = some (.int k a)) (hy : opv F y = some (.int k b)) (h : a < b) (hj : (ops[j]?).bind (·.dst) = some dj) (hjv : fget F dj = some (.bool want)) (hd : Nat.blt d n = true) (hk : SL q P n W0 ((d, .bool true) :: F) H L ops Q rest) :
    SL q P n W0 F H L ops Q (⟨some d, .binOp .lss T x y T', ty, pos, aft, some (j, want)⟩ :: rest) := sx_pg hj hjv hd (op_lssT hx hy h) hk
theorem op_lssF {dst : Option Tmp} (hx : opv F x = some (.int k a)) (hy : opv F y = some (.int k b)) (h : ¬ (a < b)) : OpP P n W0 ⟨dst, .binOp .lss T x y T', ty, pos, aft, g⟩ F H L (.bool false) := by
  have := op_lss (P := P) (n := n) (W0 := W0) (H := H) (L := L) (dst := dst) (ty := ty) (pos := pos) (aft := aft) (g := g) (T := T) (T' := T') hx hy
  simpa [h] using this
theorem sx_lssF (hx : opv F x = some (.int k a)) (hy : opv F y = some (.int k b)) (h : ¬ (a < b)) (hd : Nat.blt d n = true) (hk : SL q P n W0 ((d, .bool false) :: F) H L ops Q rest) :
    SL q P n W0 F H L ops Q (⟨some d, .binOp .lss T x y T', ty, pos, aft, none⟩ :: rest) := sx_p hd (op_lssF hx hy h) hk
theorem sxg_lssF {j dj : Nat} {want : Bool} (hx : opv F x = some (.int k a)) (hy : opv F y = some (.int k b)) (h : ¬ (a < b)) (hj : (ops[j]?).bind (·.dst) = some dj) (hjv : fget F dj = some (.bool want)) (hd : Nat.blt d n = true) (hk : SL q P n W0 ((d, .bool false) :: F) H L ops Q rest) :
    SL q P n W0 F H L ops Q (⟨some d, .binOp .lss T x y T', ty, pos, aft, some (j, want)⟩ :: rest) := sx_pg hj hjv hd (op_lssF hx hy h) hk
theorem op_leqT {dst : Option Tmp} (hx : opv F x = some (.int k a)) (hy : opv F y = some (.int k b)) (h : a ≤ b) : OpP P n W0 ⟨dst, .binOp .leq T x y T', ty, pos, aft, g⟩ F H L (.bool true) := by
  have := op_leq (P := P) (n := n) (W0 := W0) (H := H) (L := L) (dst := dst) (ty := ty) (pos := pos) (aft := aft) (g := g) (T := T) (T' := T') hx hy
  simpa [h] using this
theorem sx_leqT (hx : opv F x = some (.int k a)) (hy : opv F y = some (.int k b)) (h : a ≤ b) (hd : Nat.blt d n = true) (hk : SL q P n W0 ((d, .bool true) :: F) H L ops Q rest) :
    SL q P n W0 F H L ops Q (⟨some d, .binOp .leq T x y T', ty, pos, aft, none⟩ :: rest) := sx_p hd (op_leqT hx hy h) hk
theorem sxg_leqT {j dj : Nat} {want : Bool} (hx : opv F x = some (.int k a)) (hy : opv F y = some (.int k b)) (h : a ≤ b) (hj : (ops[j]?).bind (·.dst) = some dj) (hjv : fget F dj = some (.bool want)) (hd : Nat.blt d n = true) (hk : SL q P n W0 ((d, .bool true) :: F) H L ops Q rest) :
    SL q P n W0 F H L ops Q (⟨some d, .binOp .leq T x y T', ty, pos, aft, some (j, want)⟩ :: rest) := sx_pg hj hjv hd (op_leqT hx hy h) hk
theorem op_leqF {dst : Option Tmp} (hx : opv F x = some (.int k a)) (hy : opv F y = some (.int k b)) (h : ¬ (a ≤ b)) : OpP P n W0 ⟨dst, .binOp .leq T x y T', ty, pos, aft, g⟩ F H L (.bool false) := by
  have := op_leq (P := P) (n := n) (W0 := W0) (H := H) (L := L) (dst := dst) (ty := ty) (pos := pos) (aft := aft) (g := g) (T := T) (T' := T') hx hy
  simpa [h] using this
theorem sx_leqF (hx : opv F x = some (.int k a)) (hy : opv F y = some (.int k b)) (h : ¬ (a ≤ b)) (hd : Nat.blt d n = true) (hk : SL q P n W0 ((d, .bool false) :: F) H L ops Q rest) :
    SL q P n W0 F H L ops Q (⟨some d, .binOp .leq T x y T', ty, pos, aft, none⟩ :: rest) := sx_p hd (op_leqF hx hy h) hk
theorem sxg_leqF {j dj : Nat} {want : Bool} (hx : opv F x = some (.int k a)) (hy : opv F y = some (.int k b)) (h : ¬ (a ≤ b)) (hj : (ops[j]?).bind (·.dst) = some dj) (hjv : fget F dj = some (.bool want)) (hd : Nat.blt d n = true) (hk : SL q P n W0 ((d, .bool false) :: F) H L ops Q rest) :
    SL q P n W0 F H L ops Q (⟨some d, .binOp .leq T x y T', ty, pos, aft, some (j, want)⟩ :: rest) := sx_pg hj hjv hd (op_leqF hx hy h) hk
theorem op_gtrT {dst : Option Tmp} (hx : opv F x = some (.int k a)) (hy : opv F y = some (.int k b)) (h : b < a) : OpP P n W0 ⟨dst, .binOp .gtr T x y T', ty, pos, aft, g⟩ F H L (.bool true) := by
  have := op_gtr (P := P) (n := n) (W0 := W0) (H := H) (L := L) (dst := dst) (ty := ty) (pos := pos) (aft := aft) (g := g) (T := T) (T' := T') hx hy
  simpa [h] using this
theorem sx_gtrT (hx : opv F x = some (.int k a)) (hy : opv F y = some (.int k b)) (h : b < a) (hd : Nat.blt d n = true) (hk : SL q P n W0 ((d, .bool true) :: F) H L ops Q rest) :
    SL q P n W0 F H L ops Q (⟨some d, .binOp .gtr T x y T', ty, pos, aft, none⟩ :: rest) := sx_p hd (op_gtrT hx hy h) hk
theorem sxg_gtrT {j dj : Nat} {want : Bool} (hx : opv F x = some (.int k a)) (hy : opv F y = some (.int k b)) (h : b < a) (hj : (ops[j]?).bind (·.dst) = some dj) (hjv : fget F dj = some (.bool want)) (hd : Nat.blt d n = true) (hk : SL q P n W0 ((d, .bool true) :: F) H L ops Q rest) :
    SL q P n W0 F H L ops Q (⟨some d, .binOp .gtr T x y T', ty, pos, aft, some (j, want)⟩ :: rest) := sx_pg hj hjv hd (op_gtrT hx hy h) hk
theorem op_gtrF {dst : Option Tmp} (hx : opv F x = some (.int k a)) (hy : opv F y = some (.int k b)) (h : ¬ (b < a)) : OpP P n W0 ⟨dst, .binOp .gtr T x y T', ty, pos, aft, g⟩ F H L (.bool false) := by
  have := op_gtr (P := P) (n := n) (W0 := W0) (H := H) (L := L) (dst := dst) (ty := ty) (pos := pos) (aft := aft) (g := g) (T := T) (T' := T') hx hy
  simpa [h] using this
theorem sx_gtrF (hx : opv F x = some (.int k a)) (hy : opv F y = some (.int k b)) (h : ¬ (b < a)) (hd : Nat.blt d n = true) (hk : SL q P n W0 ((d, .bool false) :: F) H L ops Q rest) :
    SL q P n W0 F H L ops Q (⟨some d, .binOp .gtr T x y T', ty, pos, aft, none⟩ :: rest) := sx_p hd (op_gtrF hx hy h) hk
theorem sxg_gtrF {j dj : Nat} {want : Bool} (hx : opv F x = some (.int k a)) (hy : opv F y = some (.int k b)) (h : ¬ (b < a)) (hj : (ops[j]?).bind (·.dst) = some dj) (hjv : fget F dj = some (.bool want)) (hd : Nat.blt d n = true) (hk : SL q P n W0 ((d, .bool false) :: F) H L ops Q rest) :
    SL q P n W0 F H L ops Q (⟨some d, .binOp .gtr T x y T', ty, pos, aft, some (j, want)⟩ :: rest) := sx_pg hj hjv hd (op_gtrF hx hy h) hk
theorem op_geqT {dst : Option Tmp} (hx : opv F x = some (.int k a)) (hy : opv F y = some (.int k b)) (h : b ≤ a) : OpP P n W0 ⟨dst, .binOp .geq T x y T', ty, pos, aft, g⟩ F H L (.bool true) := by
  have := op_geq (P := P) (n := n) (W0 := W0) (H := H) (L := L) (dst := dst) (ty := ty) (pos := pos) (aft := aft) (g := g) (T := T) (T' := T') hx hy
  simpa [h] using this
theorem sx_geqT (hx : opv F x = some (.int k a)) (hy : opv F y = some (.int k b)) (h : b ≤ a) (hd : Nat.blt d n = true) (hk : SL q P n W0 ((d, .bool true) :: F) H L ops Q rest) :
    SL q P n W0 F H L ops Q (⟨some d, .binOp .geq T x y T', ty, pos, aft, none⟩ :: rest) := sx_p hd (op_geqT hx hy h) hk
theorem sxg_geqT {j dj : Nat} {want : Bool} (hx : opv F x = some (.int k a)) (hy : opv F y = some (.int k b)) (h : b ≤ a) (hj : (ops[j]?).bind (·.dst) = some dj) (hjv : fget F dj = some (.bool want)) (hd : Nat.blt d n = true) (hk : SL q P n W0 ((d, .bool true) :: F) H L ops Q rest) :
    SL q P n W0 F H L ops Q (⟨some d, .binOp .geq T x y T', ty, pos, aft, some (j, want)⟩ :: rest) := sx_pg hj hjv hd (op_geqT hx hy h) hk
theorem op_geqF {dst : Option Tmp} (hx : opv F x = some (.int k a)) (hy : opv F y = some (.int k b)) (h : ¬ (b ≤ a)) : OpP P n W0 ⟨dst, .binOp .geq T x y T', ty, pos, aft, g⟩ F H L (.bool false) := by
  have := op_geq (P := P) (n := n) (W0 := W0) (H := H) (L := L) (dst := dst) (ty := ty) (pos := pos) (aft := aft) (g := g) (T := T) (T' := T') hx hy
  simpa [h] using this
theorem sx_geqF (hx : opv F x = some (.int k a)) (hy : opv F y = some (.int k b)) (h : ¬ (b ≤ a)) (hd : Nat.blt d n = true) (hk : SL q P n W0 ((d, .bool false) :: F) H L ops Q rest) :
    SL q P n W0 F H L ops Q (⟨some d, .binOp .geq T x y T', ty, pos, aft, none⟩ :: rest) := sx_p hd (op_geqF hx hy h) hk
theorem sxg_geqF {j dj : Nat} {want : Bool} (hx : opv F x = some (.int k a)) (hy : opv F y = some (.int k b)) (h : ¬ (b ≤ a)) (hj : (ops[j]?).bind (·.dst) = some dj) (hjv : fget F dj = some (.bool want)) (hd : Nat.blt d n = true) (hk : SL q P n W0 ((d, .bool false) :: F) H L ops Q rest) :
    SL q P n W0 F H L ops Q (⟨some d, .binOp .geq T x y T', ty, pos, aft, some (j, want)⟩ :: rest) := sx_pg hj hjv hd (op_geqF hx hy h) hk
theorem op_eqlB {dst : Option Tmp} {s t : Bool} [hT : TBo P T] (hx : opv F x = some (.bool s)) (hy : opv F y = some (.bool t)) : OpP P n W0 ⟨dst, .binOp .eql T x y T', ty, pos, aft, g⟩ F H L (.bool (s == t)) :=
  .mk fun _ w hF _ => by simp only [execOp, hF.opv hx, hF.opv hy]; simp [eqGuard_at_bool, binOp, run_equal_bool w T s t hT.und]
end
end Go.Sx
