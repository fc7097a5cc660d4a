/- Rows of owned things; more on slices. No program in sight. -/
import Derived.Test.YtnfmjkjhiolfdaaDoorSx9
set_option linter.unusedVariables false
set_option linter.unusedSimpArgs false
namespace Go.Sx
open Go
/-- a row of things, each with memory of its own -/
def OL {α : Type} (O : List Value → α → HProp) : List Value → List α → HProp
  | cs, [] => fun _ => cs = []
  | cs, x :: xs => fun h => ∃ c r, cs = c ++ r ∧ big [O c x, OL O r xs] h
class OOk {α : Type} (O : List Value → α → HProp) (sz : outParam Nat) : Prop where
  len : ∀ {c x h}, O c x h → c.length = sz
  one : ∀ {c x h}, O c x h → c.all (·.oneCell') = true
  mono : ∀ {c x h h'}, Heap.le h h' → O c x h → O c x h'
section
variable {α : Type} {O : List Value → α → HProp} {sz : Nat}
theorem big_two {A B : HProp} {h : Heap} (hb : big [A, B] h) : ∃ h1 h2, A h1 ∧ B h2 ∧ Disj h1 h2 ∧ h1.le h ∧ h2.le h := by
  obtain ⟨h1, h2, a, ⟨h3, h4, b, _, d', l3, l4⟩, d, l1, l2⟩ := hb
  exact ⟨h1, h3, a, b, (d.symm.mono l3).symm, l1, l3.trans l2⟩
theorem big_pair {A B : HProp} {h h1 h2 : Heap} (a : A h1) (b : B h2) (d : Disj h1 h2) (l1 : h1.le h) (l2 : h2.le h) : big [A, B] h :=
  ⟨h1, h2, a, ⟨h2, Heap.empty, b, trivial, fun _ => .inr rfl, .refl _, fun _ _ h => by simp [Heap.empty] at h⟩, d, l1, l2⟩
theorem OL.mono [hO : OOk O sz] : ∀ {cs : List Value} {xs : List α} {h h' : Heap}, h.le h' → OL O cs xs h → OL O cs xs h'
  | _, [], _, _, _, hh => hh
  | _, _ :: _, _, _, hl, ⟨c, r, e, hb⟩ => ⟨c, r, e, big_mono hl hb⟩
theorem OL.len [hO : OOk O sz] : ∀ {cs : List Value} {xs : List α} {h : Heap}, OL O cs xs h → cs.length = xs.length * sz
  | _, [], _, hh => by rw [show _ = [] from hh]; simp
  | _, _ :: xs, _, ⟨c, r, e, hb⟩ => by
    obtain ⟨h1, h2, a, b, _⟩ := big_two hb
    rw [e, List.length_append, hO.len a, OL.len b, List.length_cons, Nat.add_mul]; omega
theorem OL.one [hO : OOk O sz] : ∀ {cs : List Value} {xs : List α} {h : Heap}, OL O cs xs h → cs.all (·.oneCell') = true
  | _, [], _, hh => by rw [show _ = [] from hh]; rfl
  | _, _ :: xs, _, ⟨c, r, e, hb⟩ => by
    obtain ⟨h1, h2, a, b, _⟩ := big_two hb
    rw [e, List.all_append, hO.one a, OL.one b]; rfl
theorem OL.join [hO : OOk O sz] : ∀ {cs ds : List Value} {xs ys : List α} {h : Heap}, big [OL O cs xs, OL O ds ys] h → OL O (cs ++ ds) (xs ++ ys) h
  | cs, ds, [], ys, h, hb => by
    obtain ⟨h1, h2, a, b, d, l1, l2⟩ := big_two hb
    rw [show cs = [] from a]
    exact OL.mono (O := O) l2 b
  | cs, ds, x :: xs, ys, h, hb => by
    obtain ⟨h1, h2, ⟨c, r, e, hb1⟩, b, d, l1, l2⟩ := big_two hb
    obtain ⟨h3, h4, a3, a4, d34, l3, l4⟩ := big_two hb1
    have d42 : Disj h4 h2 := d.mono l4
    have d32 : Disj h3 h2 := d.mono l3
    refine ⟨c, r ++ ds, by rw [e, List.append_assoc], big_pair a3 (OL.join (big_pair a4 b d42 (le_union_left _ _) (le_union_right d42))) (disj_union d34.symm d32.symm).symm (l3.trans l1) (union_le (l4.trans l1) l2)⟩
theorem OL.single [OOk O sz] {c : List Value} {x : α} {h : Heap} (hx : O c x h) : OL O c [x] h :=
  ⟨c, [], by simp, big_pair hx (h2 := Heap.empty) rfl (fun _ => .inr rfl) (.refl _) (fun _ _ h => by simp [Heap.empty] at h)⟩
theorem OL.snoc [OOk O sz] {cs c : List Value} {xs : List α} {x : α} {h : Heap} (hb : big [OL O cs xs, O c x] h) : OL O (cs ++ c) (xs ++ [x]) h := by
  obtain ⟨h1, h2, a, b, d, l1, l2⟩ := big_two hb
  exact OL.join (big_pair a (OL.single b) d l1 l2)
theorem OL.split [hO : OOk O sz] : ∀ {k : Nat} {cs : List Value} {xs : List α} {h : Heap}, OL O cs xs h → k ≤ xs.length → big [OL O (cs.take (k * sz)) (xs.take k), OL O (cs.drop (k * sz)) (xs.drop k)] h
  | 0, cs, xs, h, ho, _ => by
    simp only [Nat.zero_mul, List.take_zero, List.drop_zero]
    exact big_pair (h1 := Heap.empty) rfl ho (fun _ => .inl rfl) (fun _ _ h => by simp [Heap.empty] at h) (.refl _)
  | k + 1, _, [], _, _, hk => by simp at hk
  | k + 1, cs, x :: xs, h, ⟨c, r, e, hb⟩, hk => by
    obtain ⟨h1, h2, a, b, d, l1, l2⟩ := big_two hb
    have hl := hO.len a
    obtain ⟨h3, h4, p, q, d34, l3, l4⟩ := big_two (OL.split b (k := k) (by simpa using hk))
    have e1 : (k + 1) * sz = c.length + k * sz := by rw [Nat.add_mul, hl]; omega
    rw [e, e1, List.take_length_add_append, List.drop_length_add_append]
    have d13 : Disj h1 h3 := (d.symm.mono l3).symm
    have d14 : Disj h1 h4 := (d.symm.mono l4).symm
    exact big_pair (h1 := union h1 h3) ⟨c, _, rfl, big_pair a p d13 (le_union_left _ _) (le_union_right d13)⟩ q (disj_union d14 d34) (union_le l1 (l3.trans l2)) (l4.trans l2)
theorem big_three {A B C : HProp} {h h1 h2 h3 : Heap} (a : A h1) (b : B h2) (c : C h3) (d12 : Disj h1 h2) (d13 : Disj h1 h3) (d23 : Disj h2 h3) (l1 : h1.le h) (l2 : h2.le h) (l3 : h3.le h) : big [A, B, C] h :=
  ⟨h1, union h2 h3, a, big_pair b c d23 (le_union_left _ _) (le_union_right d23), (disj_union d12.symm d13.symm).symm, l1, union_le l2 l3⟩
theorem OL.at [hO : OOk O sz] {k : Nat} {cs : List Value} {xs : List α} {h : Heap} (ho : OL O cs xs h) (hk : k < xs.length) :
    ∃ c r, cs.drop (k * sz) = c ++ r ∧ c.length = sz ∧ big [OL O (cs.take (k * sz)) (xs.take k), O c xs[k], OL O r (xs.drop (k + 1))] h := by
  obtain ⟨h1, h2, a, b, d, l1, l2⟩ := big_two (ho.split (Nat.le_of_lt hk))
  rw [List.drop_eq_getElem_cons hk] at b
  obtain ⟨c, r, e, hb⟩ := b
  obtain ⟨h3, h4, p, q, d34, l3, l4⟩ := big_two hb
  exact ⟨c, r, e, hO.len p, big_three a p q (d.symm.mono l3).symm (d.symm.mono l4).symm d34 l1 (l3.trans l2) (l4.trans l2)⟩
theorem OL.at_open [hO : OOk O sz] {k : Nat} {cs : List Value} {xs : List α} {h : Heap} (hk : k < xs.length) (ho : OL O cs xs h) :
    ∃ x : List Value × List Value, (cs.drop (k * sz) = x.1 ++ x.2 ∧ x.1.length = sz) ∧ big [OL O (cs.take (k * sz)) (xs.take k), O x.1 xs[k], OL O x.2 (xs.drop (k + 1))] h := by
  obtain ⟨c, r, e, hl, hb⟩ := ho.at hk
  exact ⟨(c, r), ⟨e, hl⟩, hb⟩
/-- put together again -/
theorem OL.put [hO : OOk O sz] {c1 c c2 : List Value} {xs ys : List α} {x : α} {h : Heap} (hb : big [OL O c1 xs, O c x, OL O c2 ys] h) : OL O (c1 ++ (c ++ c2)) (xs ++ x :: ys) h := by
  obtain ⟨h1, h2, a, hb2, d, l1, l2⟩ := hb
  obtain ⟨h3, h4, p, q, d34, l3, l4⟩ := big_two hb2
  exact OL.join (big_pair a (h2 := h2) ⟨c, c2, rfl, hb2⟩ d l1 l2)
theorem OL.at_shut [hO : OOk O sz] {k : Nat} {cs c r : List Value} {xs : List α} {h : Heap} (hk : k < xs.length) (e : cs.drop (k * sz) = c ++ r) (hb : big [OL O (cs.take (k * sz)) (xs.take k), O c xs[k], OL O r (xs.drop (k + 1))] h) : OL O cs xs h := by
  have e1 : cs.take (k * sz) ++ (c ++ r) = cs := by rw [← e, List.take_append_drop]
  have e2 : xs.take k ++ xs[k] :: xs.drop (k + 1) = xs := by rw [← List.drop_eq_getElem_cons hk, List.take_append_drop]
  have := OL.put hb
  rw [e1, e2] at this
  exact this
theorem at_of_drop {cs sp c r : List Value} {off : Nat} (e : cs.drop off = c ++ r) : At (cs ++ sp) (0 + off) c := fun j v hj => by
  have hj1 : (cs.drop off)[j]? = some v := by rw [e, List.getElem?_append_left (List.getElem?_eq_some_iff.1 hj).1]; exact hj
  rw [List.getElem?_drop] at hj1
  rw [Nat.zero_add, List.getElem?_append_left (List.getElem?_eq_some_iff.1 hj1).1]
  exact hj1
end
theorem ASrc.row0 {P : Program} {sz : Nat} {H : Heap} {L : List HProp} {t e : TypeId} {b m c : Nat} {T : TypeId} {cs : List Value} {R : List HProp} (hk : P.underlying t = some (.slice e)) (hh : Has L (Sx.row b T cs) R) (hl : cs.length = m * sz) (h1 : cs.all (·.oneCell') = true) :
    ASrc P sz H L t (.slice (some ⟨b, 0, none⟩) m c) m cs := .row (sp := []) hk (by rw [List.append_nil]; exact hh) hl h1
section
variable {P : Program} {n : Nat} {W0 : World} {F : Slots} {H : Heap} {L : List HProp} {K : Value → Heap → List HProp → Prop} {dst : Option Tmp} {ty : TypeId} {pos : String} {aft : Array Edge} {g : Option (Nat × Bool)}
theorem slc_pre (base : Option Addr) (cap h sz : Nat) : slc base cap 0 h sz = .slice base h cap := by
  unfold slc; cases base <;> simp [Addr.add]
theorem slc_suf {b off cap l h sz : Nat} (hl : l < cap) : slc (some ⟨b, off, none⟩) cap l h sz = .slice (some ⟨b, off + l * sz, none⟩) (h - l) (cap - l) := by
  unfold slc; rw [if_neg (by omega)]; simp [Addr.add_lit]
theorem op_sliceTo {t e : TypeId} {sz : Nat} [hT : TSl P t e] [hs : TSz P e sz] {x y : Operand} {base : Option Addr} {m cap : Nat} {h : Int} {k : IntKind} (hx : opv F x = some (.slice base m cap)) (hy : opv F y = some (.int k h)) (h1 : 0 ≤ h) (h2 : h ≤ cap) :
    OpP P n W0 ⟨dst, .slice t x none (some y) none, ty, pos, aft, g⟩ F H L (.slice base h.toNat cap) := by
  have := op_slice (P := P) (n := n) (W0 := W0) (H := H) (L := L) (dst := dst) (ty := ty) (pos := pos) (aft := aft) (g := g) (t := t) (lo := none) (hi := some y) (l := 0) (h := h) hx rfl (by simp [ob, hy]) (by omega) h1 h2
  rwa [show (0 : Int).toNat = 0 from rfl, slc_pre] at this
theorem op_sliceFrom {t e : TypeId} {sz : Nat} [hT : TSl P t e] [hs : TSz P e sz] {x y : Operand} {b off m cap : Nat} {l : Int} {k : IntKind} (hx : opv F x = some (.slice (some ⟨b, off, none⟩) m cap)) (hy : opv F y = some (.int k l)) (h0 : 0 ≤ l) (h1 : l ≤ m) (h2 : m ≤ cap) (h3 : l < cap) :
    OpP P n W0 ⟨dst, .slice t x (some y) none none, ty, pos, aft, g⟩ F H L (.slice (some ⟨b, off + l.toNat * sz, none⟩) (m - l.toNat) (cap - l.toNat)) := by
  have := op_slice (P := P) (n := n) (W0 := W0) (H := H) (L := L) (dst := dst) (ty := ty) (pos := pos) (aft := aft) (g := g) (t := t) (lo := some y) (hi := none) (l := l) (h := m) hx (by simp [ob, hy]) rfl h0 h1 (by omega)
  rwa [slc_suf (by omega)] at this
theorem op_sliceMid {t e : TypeId} {sz : Nat} [hT : TSl P t e] [hs : TSz P e sz] {x y z : Operand} {b off m cap : Nat} {l h : Int} {k k' : IntKind} (hx : opv F x = some (.slice (some ⟨b, off, none⟩) m cap)) (hy : opv F y = some (.int k l)) (hz : opv F z = some (.int k' h)) (h0 : 0 ≤ l) (h1 : l ≤ h) (h2 : h ≤ cap) (h3 : l < cap) :
    OpP P n W0 ⟨dst, .slice t x (some y) (some z) none, ty, pos, aft, g⟩ F H L (.slice (some ⟨b, off + l.toNat * sz, none⟩) (h.toNat - l.toNat) (cap - l.toNat)) := by
  have := op_slice (P := P) (n := n) (W0 := W0) (H := H) (L := L) (dst := dst) (ty := ty) (pos := pos) (aft := aft) (g := g) (t := t) (lo := some y) (hi := some z) (l := l) (h := h) hx (by simp [ob, hy]) (by simp [ob, hz]) h0 h1 h2
  rwa [slc_suf (by omega)] at this
theorem sx_sliceMid {q : Bool} {ops : Array Oper} {Q : Exit → Act → World → Prop} {rest : List Oper} {d : Tmp} {t e : TypeId} {sz : Nat} [hT : TSl P t e] [hs : TSz P e sz] {x y z : Operand} {b off m cap : Nat} {l h : Int} {k k' : IntKind} (hx : opv F x = some (.slice (some ⟨b, off, none⟩) m cap)) (hy : opv F y = some (.int k l)) (hz : opv F z = some (.int k' h)) (h0 : 0 ≤ l) (h1 : l ≤ h) (h2 : h ≤ cap) (h3 : l < cap) (hd : Nat.blt d n = true)
    (hk : SL q P n W0 ((d, .slice (some ⟨b, off + l.toNat * sz, none⟩) (h.toNat - l.toNat) (cap - l.toNat)) :: F) H L ops Q rest) : SL q P n W0 F H L ops Q (⟨some d, .slice t x (some y) (some z) none, ty, pos, aft, none⟩ :: rest) := sx_p hd (op_sliceMid hx hy hz h0 h1 h2 h3) hk
theorem sx_sliceTo {q : Bool} {ops : Array Oper} {Q : Exit → Act → World → Prop} {rest : List Oper} {d : Tmp} {t e : TypeId} {sz : Nat} [hT : TSl P t e] [hs : TSz P e sz] {x y : Operand} {base : Option Addr} {m cap : Nat} {h : Int} {k : IntKind} (hx : opv F x = some (.slice base m cap)) (hy : opv F y = some (.int k h)) (h1 : 0 ≤ h) (h2 : h ≤ cap) (hd : Nat.blt d n = true)
    (hk : SL q P n W0 ((d, .slice base h.toNat cap) :: F) H L ops Q rest) : SL q P n W0 F H L ops Q (⟨some d, .slice t x none (some y) none, ty, pos, aft, none⟩ :: rest) := sx_p hd (op_sliceTo hx hy h1 h2) hk
theorem sx_sliceFrom {q : Bool} {ops : Array Oper} {Q : Exit → Act → World → Prop} {rest : List Oper} {d : Tmp} {t e : TypeId} {sz : Nat} [hT : TSl P t e] [hs : TSz P e sz] {x y : Operand} {b off m cap : Nat} {l : Int} {k : IntKind} (hx : opv F x = some (.slice (some ⟨b, off, none⟩) m cap)) (hy : opv F y = some (.int k l)) (h0 : 0 ≤ l) (h1 : l ≤ m) (h2 : m ≤ cap) (h3 : l < cap) (hd : Nat.blt d n = true)
    (hk : SL q P n W0 ((d, .slice (some ⟨b, off + l.toNat * sz, none⟩) (m - l.toNat) (cap - l.toNat)) :: F) H L ops Q rest) : SL q P n W0 F H L ops Q (⟨some d, .slice t x (some y) none none, ty, pos, aft, none⟩ :: rest) := sx_p hd (op_sliceFrom hx hy h0 h1 h2 h3) hk
theorem op_slice3 {t e : TypeId} {sz : Nat} [hT : TSl P t e] [hs : TSz P e sz] {x lo hi mx : Operand} {base : Option Addr} {m cap : Nat} {k1 k2 k3 : IntKind} {l h u : Int} (hx : opv F x = some (.slice base m cap)) (hlo : opv F lo = some (.int k1 l)) (hhi : opv F hi = some (.int k2 h)) (hmx : opv F mx = some (.int k3 u))
    (h0 : 0 ≤ l) (h1 : l ≤ h) (h2 : h ≤ u) (h3 : u ≤ cap) :
    OpP P n W0 ⟨dst, .slice t x (some lo) (some hi) (some mx), ty, pos, aft, g⟩ F H L (slc base u.toNat l.toNat h.toNat sz) :=
  .mk fun a w hF hS => by
    have e3 : ∀ c : BoundsCode, (Instr.sliceBound (.int k3 u) cap c).run P w = .ok u.toNat w := fun c => by
      simp [Instr.sliceBound, asIntOf, show 0 ≤ u by omega, h3]
    have e2 : ∀ c : BoundsCode, (Instr.sliceBound (.int k2 h) u.toNat c).run P w = .ok h.toNat w := fun c => by
      simp [Instr.sliceBound, asIntOf, show 0 ≤ h by omega]; omega
    have e1 : ∀ c : BoundsCode, (Instr.sliceBound (.int k1 l) h.toNat c).run P w = .ok l.toNat w := fun c => by
      simp [Instr.sliceBound, asIntOf, h0]; omega
    simp only [execOp]
    simp [Instr.sliceAt, Instr.slice, Instr.sliceBounds, run_underlying hT.und, hs.run, hF.opv hx, hF.opv hlo, hF.opv hhi, hF.opv hmx, e1, e2, e3, slc]
end
class TPt (P : Program) (t : TypeId) : Prop where
  ex : ∃ e, P.underlying t = some (.pointer e)
section
variable {P : Program} {n : Nat} {W0 : World} {F : Slots} {H : Heap} {L : List HProp} {dst : Option Tmp} {ty : TypeId} {pos : String} {aft : Array Edge} {g : Option (Nat × Bool)}
theorem op_eqlPtr {x y : Operand} {T T' : TypeId} {a : Addr} [hT : TPt P T] (hx : opv F x = some (.pointer (some a))) (hy : opv F y = some (.pointer none)) :
    OpP P n W0 ⟨dst, .binOp .eql T x y T', ty, pos, aft, g⟩ F H L (.bool false) := .mk fun _ w hF _ => by
  obtain ⟨e, he⟩ := hT.ex
  have h0 : (Op.equal T (.pointer (some a)) (.pointer none)).run P w = .ok false w := by
    have : ∀ d, (Op.equalIn (d + 1) T (.pointer (some a)) (.pointer none)).run P w = .ok false w := fun d => by simp [Op.equalIn, run_underlying he]
    exact this 9999
  simp only [execOp, hF.opv hx, hF.opv hy]; simp [eqGuard_at_pointer, binOp, h0]
theorem sxg_eqlPtr {q : Bool} {ops : Array Oper} {Q : Exit → Act → World → Prop} {rest : List Oper} {d : Tmp} {x y : Operand} {T T' : TypeId} {a : Addr} {j dj : Nat} {want : Bool} [hT : TPt P T] (hx : opv F x = some (.pointer (some a))) (hy : opv F y = some (.pointer none)) (hj : (ops[j]?).bind (·.dst) = some dj) (hjv : fget F dj = some (.bool want)) (hd : Nat.blt d n = true) (hk : SL q P n W0 ((d, .bool false) :: F) H L ops Q rest) :
    SL q P n W0 F H L ops Q (⟨some d, .binOp .eql T x y T', ty, pos, aft, some (j, want)⟩ :: rest) := sx_pg hj hjv hd (op_eqlPtr hx hy) hk
theorem sx_eqlPtr {q : Bool} {ops : Array Oper} {Q : Exit → Act → World → Prop} {rest : List Oper} {d : Tmp} {x y : Operand} {T T' : TypeId} {a : Addr} [hT : TPt P T] (hx : opv F x = some (.pointer (some a))) (hy : opv F y = some (.pointer none)) (hd : Nat.blt d n = true) (hk : SL q P n W0 ((d, .bool false) :: F) H L ops Q rest) :
    SL q P n W0 F H L ops Q (⟨some d, .binOp .eql T x y T', ty, pos, aft, none⟩ :: rest) := sx_p hd (op_eqlPtr hx hy) hk
end
section
variable {P : Program} {n : Nat} {W0 : World} {F : Slots} {H : Heap} {L : List HProp} {dst : Option Tmp} {ty : TypeId} {pos : String} {aft : Array Edge} {g : Option (Nat × Bool)}
theorem op_min {x y : Operand} {at_ : Array TypeId} {k : IntKind} {a b z : Int} (hx : opv F x = some (.int k a)) (hy : opv F y = some (.int k b)) (hz : z = if b < a then b else a) :
    OpP P n W0 ⟨dst, .call ⟨.builtin .min, #[x, y], at_⟩, ty, pos, aft, g⟩ F H L (.int k z) := .mk fun _ w hF _ => by
  subst hz
  simp only [execOp, resolve]
  simp [invoke, builtin, hF.opv hx, hF.opv hy, Builtin.min_, Builtin.min2]
theorem op_max {x y : Operand} {at_ : Array TypeId} {k : IntKind} {a b z : Int} (hx : opv F x = some (.int k a)) (hy : opv F y = some (.int k b)) (hz : z = if a < b then b else a) :
    OpP P n W0 ⟨dst, .call ⟨.builtin .max, #[x, y], at_⟩, ty, pos, aft, g⟩ F H L (.int k z) := .mk fun _ w hF _ => by
  subst hz
  simp only [execOp, resolve]
  simp [invoke, builtin, hF.opv hx, hF.opv hy, Builtin.max_, Builtin.max2]
end
/-- writing into an owned slice, and shutting it again -/
theorem own_set {T sz m b cap off : Nat} {xs sp vs : List Value} {R : List HProp} (hl : xs.length = m * sz) (h1 : m ≤ cap) (h2 : cap ≤ 9223372036854775807) (h3 : (xs ++ sp).length = cap * sz) (ho : off + vs.length ≤ xs.length) :
    Sub (row b T ((xs ++ sp).take off ++ vs ++ (xs ++ sp).drop (off + vs.length)) :: R) (own T sz (.slice (some ⟨b, 0, none⟩) m cap) m (xs.take off ++ vs ++ xs.drop (off + vs.length)) :: R) := by
  have e : (xs ++ sp).take off ++ vs ++ (xs ++ sp).drop (off + vs.length) = (xs.take off ++ vs ++ xs.drop (off + vs.length)) ++ sp := by
    rw [List.take_append_of_le_length (by omega), List.drop_append_of_le_length (by omega)]; simp [List.append_assoc]
  rw [e]
  have hlen : (xs.take off ++ vs ++ xs.drop (off + vs.length)).length = xs.length := by simp only [List.length_append, List.length_take, List.length_drop]; omega
  exact own_shut (by rw [hlen, hl]) h1 h2 (by rw [List.length_append, hlen, ← List.length_append, h3])
end Go.Sx
