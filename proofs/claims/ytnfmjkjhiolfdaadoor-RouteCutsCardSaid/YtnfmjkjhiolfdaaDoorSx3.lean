/- The walk's rules, more: numbers, texts, slices; lists of operations, regions, branches, loops, calls, returns. No program in sight. -/
import Derived.Test.YtnfmjkjhiolfdaaDoorSx2
namespace Go.Sx
open Go
section
variable {P : Program} {n : Nat} {W0 : World} {F : Slots} {H : Heap} {L : List HProp} {K : Value → Heap → List HProp → Prop} {dst : Option Tmp} {ty : TypeId} {pos : String} {aft : Array Edge} {g : Option (Nat × Bool)}

/-! ### Numbers, truth values, texts -/
def fits (z : Int) : Prop := -9223372036854775808 ≤ z ∧ z ≤ 9223372036854775807
theorem wrap_fits {z : Int} (h : fits z) : IntKind.i64.wrap z = z := by
  obtain ⟨h1, h2⟩ := h
  simp [IntKind.wrap, IntKind.bits, IntKind.signed]
  omega
section
variable {x y : Operand} {k : IntKind} {a b : Int} {T T' : TypeId}
theorem op_add (hx : opv F x = some (.int .i64 a)) (hy : opv F y = some (.int .i64 b)) (hf : fits (a + b)) :
    OpP P n W0 ⟨dst, .binOp .add T x y T', ty, pos, aft, g⟩ F H L (.int .i64 (a + b)) :=
  .mk fun _ w hF _ => by simp only [execOp, hF.opv hx, hF.opv hy]; simp [go_sem, Op.intArith, wrap_fits hf]
theorem op_sub (hx : opv F x = some (.int .i64 a)) (hy : opv F y = some (.int .i64 b)) (hf : fits (a - b)) :
    OpP P n W0 ⟨dst, .binOp .sub T x y T', ty, pos, aft, g⟩ F H L (.int .i64 (a - b)) :=
  .mk fun _ w hF _ => by simp only [execOp, hF.opv hx, hF.opv hy]; simp [go_sem, Op.intArith, wrap_fits hf]
theorem op_mul (hx : opv F x = some (.int .i64 a)) (hy : opv F y = some (.int .i64 b)) (hf : fits (a * b)) :
    OpP P n W0 ⟨dst, .binOp .mul T x y T', ty, pos, aft, g⟩ F H L (.int .i64 (a * b)) :=
  .mk fun _ w hF _ => by simp only [execOp, hF.opv hx, hF.opv hy]; simp [go_sem, Op.intArith, wrap_fits hf]
theorem op_addw (hx : opv F x = some (.int k a)) (hy : opv F y = some (.int k b)) :
    OpP P n W0 ⟨dst, .binOp .add T x y T', ty, pos, aft, g⟩ F H L (.int k (k.wrap (a + b))) :=
  .mk fun _ w hF _ => by simp only [execOp, hF.opv hx, hF.opv hy]; simp [go_sem, Op.intArith]
theorem op_subw (hx : opv F x = some (.int k a)) (hy : opv F y = some (.int k b)) :
    OpP P n W0 ⟨dst, .binOp .sub T x y T', ty, pos, aft, g⟩ F H L (.int k (k.wrap (a - b))) :=
  .mk fun _ w hF _ => by simp only [execOp, hF.opv hx, hF.opv hy]; simp [go_sem, Op.intArith]
theorem op_mulw (hx : opv F x = some (.int k a)) (hy : opv F y = some (.int k b)) :
    OpP P n W0 ⟨dst, .binOp .mul T x y T', ty, pos, aft, g⟩ F H L (.int k (k.wrap (a * b))) :=
  .mk fun _ w hF _ => by simp only [execOp, hF.opv hx, hF.opv hy]; simp [go_sem, Op.intArith]
theorem op_quo (hx : opv F x = some (.int .i64 a)) (hy : opv F y = some (.int .i64 b)) (h0 : 0 < b) (hf : fits (a.tdiv b)) :
    OpP P n W0 ⟨dst, .binOp .quo T x y T', ty, pos, aft, g⟩ F H L (.int .i64 (a.tdiv b)) :=
  .mk fun _ w hF _ => by
    have h : b ≠ 0 := by omega
    simp only [execOp, hF.opv hx, hF.opv hy]; simp [go_sem, Op.intDiv, wrap_fits hf, h]
theorem op_rem (hx : opv F x = some (.int k a)) (hy : opv F y = some (.int k b)) (h0 : 0 < b) :
    OpP P n W0 ⟨dst, .binOp .rem T x y T', ty, pos, aft, g⟩ F H L (.int k (a.tmod b)) :=
  .mk fun _ w hF _ => by
    have h : b ≠ 0 := by omega
    simp only [execOp, hF.opv hx, hF.opv hy]; simp [go_sem, Op.intDiv, h]
theorem op_eql (hx : opv F x = some (.int k a)) (hy : opv F y = some (.int k b)) :
    OpP P n W0 ⟨dst, .binOp .eql T x y T', ty, pos, aft, g⟩ F H L (.bool (decide (a = b))) :=
  .mk fun _ w hF _ => by simp only [execOp, hF.opv hx, hF.opv hy]; simp [go_sem, BEq.beq]
theorem op_neq (hx : opv F x = some (.int k a)) (hy : opv F y = some (.int k b)) :
    OpP P n W0 ⟨dst, .binOp .neq T x y T', ty, pos, aft, g⟩ F H L (.bool (!decide (a = b))) :=
  .mk fun _ w hF _ => by simp only [execOp, hF.opv hx, hF.opv hy]; simp [go_sem, bne, BEq.beq]
theorem op_lss (hx : opv F x = some (.int k a)) (hy : opv F y = some (.int k b)) :
    OpP P n W0 ⟨dst, .binOp .lss T x y T', ty, pos, aft, g⟩ F H L (.bool (decide (a < b))) :=
  .mk fun _ w hF _ => by simp only [execOp, hF.opv hx, hF.opv hy]; simp [go_sem]
theorem op_leq (hx : opv F x = some (.int k a)) (hy : opv F y = some (.int k b)) :
    OpP P n W0 ⟨dst, .binOp .leq T x y T', ty, pos, aft, g⟩ F H L (.bool (decide (a ≤ b))) :=
  .mk fun _ w hF _ => by simp only [execOp, hF.opv hx, hF.opv hy]; simp [go_sem]
theorem op_gtr (hx : opv F x = some (.int k a)) (hy : opv F y = some (.int k b)) :
    OpP P n W0 ⟨dst, .binOp .gtr T x y T', ty, pos, aft, g⟩ F H L (.bool (decide (b < a))) :=
  .mk fun _ w hF _ => by simp only [execOp, hF.opv hx, hF.opv hy]; simp [go_sem]
theorem op_geq (hx : opv F x = some (.int k a)) (hy : opv F y = some (.int k b)) :
    OpP P n W0 ⟨dst, .binOp .geq T x y T', ty, pos, aft, g⟩ F H L (.bool (decide (b ≤ a))) :=
  .mk fun _ w hF _ => by simp only [execOp, hF.opv hx, hF.opv hy]; simp [go_sem]
theorem op_neg (hx : opv F x = some (.int .i64 a)) (hf : fits (-a)) :
    OpP P n W0 ⟨dst, .unOp .neg T x, ty, pos, aft, g⟩ F H L (.int .i64 (-a)) :=
  .mk fun _ w hF _ => by simp only [execOp, hF.opv hx]; simp [Op.unary, Op.intArith, wrap_fits hf]
theorem op_not {c : Bool} (hx : opv F x = some (.bool c)) :
    OpP P n W0 ⟨dst, .unOp .not T x, ty, pos, aft, g⟩ F H L (.bool !c) :=
  .mk fun _ w hF _ => by simp only [execOp, hF.opv hx]; simp [Op.unary]
theorem loop_eq (bs : ByteArray) : ∀ (m i : Nat) (r : List UInt8), bs.size - i = m → ByteArray.toList.loop bs i r = r.reverse ++ bs.data.toList.drop i := by
  intro m
  induction m with
  | zero =>
    intro i r h
    unfold ByteArray.toList.loop
    have : ¬ i < bs.size := by omega
    have h2 : bs.data.toList.length ≤ i := by simpa using (Nat.not_lt.1 this)
    simp [this, List.drop_eq_nil_of_le h2]
  | succ m ih =>
    intro i r h
    unfold ByteArray.toList.loop
    have hl : i < bs.size := by omega
    have hl' : i < bs.data.toList.length := by simpa using hl
    rw [if_pos hl, ih (i + 1) _ (by omega), List.drop_eq_getElem_cons hl']
    have : bs.get! i = bs.data.toList[i] := by
      show bs.data[i]! = _
      have hl2 : i < bs.data.size := hl
      simp [getElem!_pos bs.data i hl2]
    simp [this]
theorem bytes_toList (s : ByteArray) : s.toList = s.data.toList := by
  have := loop_eq s s.size 0 [] (by omega)
  simpa [ByteArray.toList] using this
theorem bytes_eq (s t : ByteArray) : (s.toList == t.toList) = decide (s = t) := by
  rw [Bool.eq_iff_iff]
  simp only [beq_iff_eq, decide_eq_true_eq]
  constructor
  · intro h
    rw [bytes_toList, bytes_toList] at h
    exact ByteArray.ext (Array.ext' h)
  · rintro rfl; rfl
theorem op_eqlS {s t : ByteArray} (hx : opv F x = some (.string s)) (hy : opv F y = some (.string t)) :
    OpP P n W0 ⟨dst, .binOp .eql T x y T', ty, pos, aft, g⟩ F H L (.bool (decide (s = t))) :=
  .mk fun _ w hF _ => by simp only [execOp, hF.opv hx, hF.opv hy]; simp [eqGuard_at_string, binOp, Op.stringOp, bytes_eq]
theorem op_neqS {s t : ByteArray} (hx : opv F x = some (.string s)) (hy : opv F y = some (.string t)) :
    OpP P n W0 ⟨dst, .binOp .neq T x y T', ty, pos, aft, g⟩ F H L (.bool (!decide (s = t))) :=
  .mk fun _ w hF _ => by simp only [execOp, hF.opv hx, hF.opv hy]; simp [eqGuard_at_string, binOp, Op.stringOp, bytes_eq]
def sless (s t : ByteArray) : Bool := Op.bytesLess s.toList t.toList
theorem op_lssS {s t : ByteArray} (hx : opv F x = some (.string s)) (hy : opv F y = some (.string t)) :
    OpP P n W0 ⟨dst, .binOp .lss T x y T', ty, pos, aft, g⟩ F H L (.bool (sless s t)) :=
  .mk fun _ w hF _ => by simp only [execOp, hF.opv hx, hF.opv hy]; simp [eqGuard_at_string, binOp, Op.stringOp, sless]
theorem op_leqS {s t : ByteArray} (hx : opv F x = some (.string s)) (hy : opv F y = some (.string t)) :
    OpP P n W0 ⟨dst, .binOp .leq T x y T', ty, pos, aft, g⟩ F H L (.bool (sless s t || decide (s = t))) :=
  .mk fun _ w hF _ => by simp only [execOp, hF.opv hx, hF.opv hy]; simp [eqGuard_at_string, binOp, Op.stringOp, sless, bytes_eq]
theorem op_gtrS {s t : ByteArray} (hx : opv F x = some (.string s)) (hy : opv F y = some (.string t)) :
    OpP P n W0 ⟨dst, .binOp .gtr T x y T', ty, pos, aft, g⟩ F H L (.bool (!(sless s t || decide (s = t)))) :=
  .mk fun _ w hF _ => by simp only [execOp, hF.opv hx, hF.opv hy]; simp [eqGuard_at_string, binOp, Op.stringOp, sless, bytes_eq]
theorem op_geqS {s t : ByteArray} (hx : opv F x = some (.string s)) (hy : opv F y = some (.string t)) :
    OpP P n W0 ⟨dst, .binOp .geq T x y T', ty, pos, aft, g⟩ F H L (.bool (!(sless s t))) :=
  .mk fun _ w hF _ => by simp only [execOp, hF.opv hx, hF.opv hy]; simp [eqGuard_at_string, binOp, Op.stringOp, sless]
theorem op_convI [hd : TIt P T' .i64] [hs : TIt P T k] (hx : opv F x = some (.int k a)) (hf : fits a) :
    OpP P n W0 ⟨dst, .convert T T' x, ty, pos, aft, g⟩ F H L (.int .i64 a) :=
  .mk fun _ w hF _ => by simp only [execOp, hF.opv hx]; simp [convert, run_underlying hd.und, run_underlying hs.und, Conv.intToInt, wrap_fits hf]
theorem op_conv {k' : IntKind} [hd : TIt P T' k'] [hs : TIt P T k] (hx : opv F x = some (.int k a)) :
    OpP P n W0 ⟨dst, .convert T T' x, ty, pos, aft, g⟩ F H L (.int k' (k'.wrap a)) :=
  .mk fun _ w hF _ => by simp only [execOp, hF.opv hx]; simp [convert, run_underlying hd.und, run_underlying hs.und, Conv.intToInt]
end

/-! ### Slices -/
section
variable {x y : Operand} {T e : TypeId}
theorem op_len {base : Option Addr} {m c : Nat} {at_ : Array TypeId} [h : TSl P T e] (ha : at_ = #[T]) (hx : opv F x = some (.slice base m c)) :
    OpP P n W0 ⟨dst, .call ⟨.builtin .len, #[x], at_⟩, ty, pos, aft, g⟩ F H L (.int .i64 m) :=
  .mk fun _ w hF _ => by subst ha; simp only [execOp]; simp [hF.opv hx, resolve, invoke, builtin, Builtin.len_, run_underlying h.und, goInt]
theorem op_lenS {s : ByteArray} {at_ : Array TypeId} [h : TSt P T] (ha : at_ = #[T]) (hx : opv F x = some (.string s)) :
    OpP P n W0 ⟨dst, .call ⟨.builtin .len, #[x], at_⟩, ty, pos, aft, g⟩ F H L (.int .i64 s.size) :=
  .mk fun _ w hF _ => by subst ha; simp only [execOp]; simp [hF.opv hx, resolve, invoke, builtin, Builtin.len_, run_underlying h.und, goInt]
theorem op_indexAddr {b off m c sz : Nat} {i : Int} {k : IntKind} [h : TSl P T e] [hs : TSz P e sz] (hx : opv F x = some (.slice (some ⟨b, off, none⟩) m c)) (hy : opv F y = some (.int k i))
    (h0 : 0 ≤ i) (h1 : i < m) :
    OpP P n W0 ⟨dst, .indexAddr T x y, ty, pos, aft, g⟩ F H L (.pointer (some ⟨b, off + i.toNat * sz, none⟩)) :=
  .mk fun _ w hF _ => by
    simp only [execOp, hF.opv hx, hF.opv hy]; simp [Instr.indexAt, asIntOf, run_underlying h.und, hs.run, h0, h1, Addr.add_lit]
theorem op_indexS {s : ByteArray} {i : Nat} {u : UInt8} {k : IntKind} [h : TSt P T] (hx : opv F x = some (.string s)) (hy : opv F y = some (.int k i)) (hu : s[i]? = some u) :
    OpP P n W0 ⟨dst, .index T x y, ty, pos, aft, g⟩ F H L (.int .u8 u.toNat) :=
  .mk fun _ w hF _ => by simp only [execOp, hF.opv hx, hF.opv hy]; simp [Instr.index, asIntOf, run_underlying h.und, hu]
theorem op_extract {vs : Array Value} {i : Nat} {v : Value} (hx : opv F x = some (.tuple vs)) (hv : vs[i]? = some v) :
    OpP P n W0 ⟨dst, .extract x i, ty, pos, aft, g⟩ F H L v :=
  .mk fun _ w hF _ => by simp only [execOp, hF.opv hx]; simp [Instr.extract, hv]
end
end

/-! ### Lists of operations: in their order (q = false), or, where they only read and reckon, in whatever order (q = true) -/
/-- each operation reads and reckons, in the text's order -/
def SQ (P : Program) (n : Nat) (W0 : World) (H : Heap) (L : List HProp) (ops : Array Oper) (Q : Exit → Act → World → Prop) : List Oper → Slots → Prop
  | [], F => Sat n W0 F H L (Q .normal)
  | o :: r, F => ∃ d v, o.dst = some d ∧ Nat.blt d n = true ∧
      ((∀ a w, FrOk n a F → St W0 H w L → Region.wanted o (yielded ops a.tmps) = true ∧ (execOp a.eval o).run P w = .ok (.value v) w) ∨ ((∀ a w, FrOk n a F → St W0 H w L → Region.wanted o (yielded ops a.tmps) = false) ∧ v = undef)) ∧
      SQ P n W0 H L ops Q r ((d, v) :: F)
def SL (q : Bool) (P : Program) (n : Nat) (W0 : World) (F : Slots) (H : Heap) (L : List HProp) (ops : Array Oper) (Q : Exit → Act → World → Prop) (rest : List Oper) : Prop :=
  match q with
  | false => Sat n W0 F H L (wpList P ops Q rest)
  | true => SQ P n W0 H L ops Q rest F
section
variable {q : Bool} {P : Program} {n : Nat} {W0 : World} {F : Slots} {H : Heap} {L : List HProp} {ops : Array Oper} {Q : Exit → Act → World → Prop} {rest : List Oper} {op : Op} {ty : TypeId} {pos : String} {aft : Array Edge} {d : Tmp}
theorem sx_some (hd : Nat.blt d n = true) (h : OpW P n W0 ⟨some d, op, ty, pos, aft, none⟩ F H L (fun v H' L' => SL false P n W0 ((d, v) :: F) H' L' ops Q rest)) :
    SL false P n W0 F H L ops Q (⟨some d, op, ty, pos, aft, none⟩ :: rest) := by
  intro a w hF hS
  unfold wpList
  rw [if_pos (by simp [Region.wanted])]
  exact .inl (h a w _ Q hF hS fun v H' L' w' _ hk hs => hk _ _ (hF.put hd v) hs)
theorem sx_none (h : OpW P n W0 ⟨none, op, ty, pos, aft, none⟩ F H L (fun _ H' L' => SL false P n W0 F H' L' ops Q rest)) :
    SL false P n W0 F H L ops Q (⟨none, op, ty, pos, aft, none⟩ :: rest) := by
  intro a w hF hS
  unfold wpList
  rw [if_pos (by simp [Region.wanted])]
  exact .inl (h a w _ Q hF hS fun v H' L' w' _ hk hs => hk _ _ (hF.put0 v) hs)
def vb : Value → Option Bool | .bool b => some b | _ => none
theorem FrOk.yielded {a : Act} (hF : FrOk n a F) {j dj : Nat} {v : Value} (hj : (ops[j]?).bind (·.dst) = some dj) (hv : fget F dj = some v) : Go.yielded ops a.tmps j = vb v := by
  have := hF.get dj v hv
  simp only [Go.yielded, hj, Option.bind_some, this]
  cases v <;> rfl
theorem sx_guard {j dj : Nat} {want : Bool} (hj : (ops[j]?).bind (·.dst) = some dj) (hv : fget F dj = some (.bool want)) (hd : Nat.blt d n = true)
    (h : OpW P n W0 ⟨some d, op, ty, pos, aft, some (j, want)⟩ F H L (fun v H' L' => SL false P n W0 ((d, v) :: F) H' L' ops Q rest)) :
    SL false P n W0 F H L ops Q (⟨some d, op, ty, pos, aft, some (j, want)⟩ :: rest) := by
  intro a w hF hS
  unfold wpList
  rw [if_pos (by simp [Region.wanted, hF.yielded hj hv, vb])]
  exact .inl (h a w _ Q hF hS fun v H' L' w' _ hk hs => hk _ _ (hF.put hd v) hs)
theorem sx_p {v : Value} (hd : Nat.blt d n = true) (h : OpP P n W0 ⟨some d, op, ty, pos, aft, none⟩ F H L v) (hk : SL q P n W0 ((d, v) :: F) H L ops Q rest) :
    SL q P n W0 F H L ops Q (⟨some d, op, ty, pos, aft, none⟩ :: rest) := by
  cases q with
  | false => exact sx_some hd (h.toW hk)
  | true => exact ⟨d, v, rfl, hd, .inl fun a w hF hS => ⟨by simp [Region.wanted], h.run a w hF hS⟩, hk⟩
theorem sx_pg {v : Value} {j dj : Nat} {want : Bool} (hj : (ops[j]?).bind (·.dst) = some dj) (hv : fget F dj = some (.bool want)) (hd : Nat.blt d n = true)
    (h : OpP P n W0 ⟨some d, op, ty, pos, aft, some (j, want)⟩ F H L v) (hk : SL q P n W0 ((d, v) :: F) H L ops Q rest) :
    SL q P n W0 F H L ops Q (⟨some d, op, ty, pos, aft, some (j, want)⟩ :: rest) := by
  cases q with
  | false => exact sx_guard hj hv hd (h.toW hk)
  | true => exact ⟨d, v, rfl, hd, .inl fun a w hF hS => ⟨by simp [Region.wanted, hF.yielded hj hv, vb], h.run a w hF hS⟩, hk⟩
def gno (v : Value) (want : Bool) : Bool := match v with | .bool b => b != want | _ => true
theorem sx_skip {j dj : Nat} {want : Bool} {v : Value} (hj : (ops[j]?).bind (·.dst) = some dj) (hv : fget F dj = some v) (hn : gno v want = true) (hd : Nat.blt d n = true)
    (h : SL q P n W0 ((d, undef) :: F) H L ops Q rest) : SL q P n W0 F H L ops Q (⟨some d, op, ty, pos, aft, some (j, want)⟩ :: rest) := by
  have hn : vb v ≠ some want := by
    clear hv
    cases v <;> simp_all [gno, vb]
  cases q with
  | false =>
    intro a w hF hS
    unfold wpList
    rw [if_neg (by simp only [Region.wanted, hF.yielded hj hv, beq_iff_eq]; exact hn)]
    exact h _ _ (hF.put hd undef) hS
  | true =>
    refine ⟨d, undef, rfl, hd, .inr ⟨fun a w hF hS => ?_, rfl⟩, h⟩
    simp only [Region.wanted, hF.yielded hj hv, beq_eq_false_iff_ne]; exact hn
theorem sx_case {l : List Oper} {p : Prop} [Decidable p] (ht : p → SL q P n W0 ((d, .bool true) :: F) H L ops Q l) (hf : ¬ p → SL q P n W0 ((d, .bool false) :: F) H L ops Q l) : SL q P n W0 ((d, .bool (decide p)) :: F) H L ops Q l := by
  by_cases h : p
  · simpa [h] using ht h
  · simpa [h] using hf h
theorem sx_casen {l : List Oper} {p : Prop} [Decidable p] (ht : ¬ p → SL q P n W0 ((d, .bool true) :: F) H L ops Q l) (hf : p → SL q P n W0 ((d, .bool false) :: F) H L ops Q l) : SL q P n W0 ((d, .bool (!decide p)) :: F) H L ops Q l := by
  by_cases h : p
  · simpa [h] using hf h
  · simpa [h] using ht h
theorem sx_nil (h : Sat n W0 F H L (Q .normal)) : SL q P n W0 F H L ops Q [] := by cases q <;> exact h
/-- the first i operations done -/
def qlisted (n : Nat) : Nat → Array Bool
  | 0 => Array.replicate n false
  | i + 1 => (qlisted n i).setIfInBounds i true
def reads : Op → Bool
  | .move _ | .assign _ | .pick .. | .load .. | .nilCheck _ | .binOp .. | .unOp .. | .convert .. | .slice .. | .fieldAddr .. | .field .. | .indexAddr .. | .index .. | .extract .. | .lookup .. | .call ⟨.builtin .len, _, _⟩ => true
  | _ => false
def quietOk (ops : Array Oper) : Bool :=
  ops.all (fun o => reads o.op) && Region.noSelect ops && (List.range ops.size).all (fun i => Region.free .any ops (qlisted ops.size i) i && (Region.ready .any ops (qlisted ops.size i)).contains i) && (Region.ready .any ops (qlisted ops.size ops.size)).isEmpty
theorem quiet_sound (hok : quietOk ops = true) (hQ : ∀ c a w d v, Q (.panic c) (a.put (some d) v) w → Q (.panic c) a w) : ∀ (rest : List Oper) (i : Nat) (F : Slots), i + rest.length = ops.size → (∀ j, rest[j]? = ops[i + j]?) →
    SQ P n W0 H L ops Q rest F → Sat n W0 F H L (wpAnyH P .any ops Q (fun w => St W0 H w L) rest.length (qlisted ops.size i)) := by
  unfold quietOk at hok
  simp only [Bool.and_eq_true, List.all_eq_true, List.mem_range] at hok
  obtain ⟨⟨⟨_, h1⟩, h2⟩, h3⟩ := hok
  intro rest
  induction rest with
  | nil =>
    intro i F hl _ h a w hF hS
    have : i = ops.size := by simpa using hl
    subst this
    exact wpAnyH_done (List.isEmpty_iff.1 h3) (h a w hF hS) 0
  | cons o r ih =>
    intro i F hl hr h a w hF hS
    obtain ⟨d, v, hd, hdn, hcase, hrest⟩ := h
    have hi : ops[i]? = some o := by have := hr 0; simpa using this.symm
    have hlt : i < ops.size := by simp at hl; omega
    obtain ⟨hf, hc⟩ := h2 i hlt
    have hnext := ih (i + 1) ((d, v) :: F) (by simp at hl; omega) (fun j => by have := hr (j + 1); rw [List.getElem?_cons_succ] at this; rw [this]; congr 1; omega) hrest
    refine wpAnyH_take (i := i) (v := v) hi h1 hf hc (by rw [hd]; exact fun c a w h => hQ c a w d v h) ?_ hS ?_
    · rcases hcase with hcase | ⟨hcase, hv⟩
      · exact .inl ⟨(hcase a w hF hS).1, fun w' hw' => (hcase a w' hF hw').2⟩
      · exact .inr ⟨hcase a w hF hS, hv⟩
    · rw [hd]; exact hnext _ _ (hF.put hdn v) hS
end
class TMix (P : Program) : Prop where
  h : P.follows .mixedOrders = true

/-! ### Code -/
section
variable {P : Program} {n : Nat} {W0 : World} {F : Slots} {H : Heap} {L : List HProp} {Q : Exit → Act → World → Prop}
theorem cx_region {id : Nat} {l : List Oper} (h : SL false P n W0 F H L l.toArray Q l) : Sat n W0 F H L ((Code.region id l.toArray false).wp P Q) := fun a w hF hS => wp_region_lit (h a w hF hS)
theorem cx_quiet [hm : TMix P] {id : Nat} {l : List Oper} (hok : quietOk l.toArray = true) (hQ : ∀ c a w d v, Q (.panic c) (a.put (some d) v) w → Q (.panic c) a w) (h : SL true P n W0 F H L l.toArray Q l) :
    Sat n W0 F H L ((Code.region id l.toArray true).wp P Q) := fun a w hF hS => by
  refine wp_region_held (S := fun w => St W0 H w L) hm.h ?_
  have := quiet_sound hok hQ l 0 F (by simp) (by simp) h a w.drew hF (hS.keep (hS.env.of rfl rfl rfl) rfl)
  simpa [qlisted] using this
theorem cx_seq {x y : Code} (h : ∀ K : Act → World → Prop, (∀ F H L, Sat n W0 F H L (y.wp P Q) → Sat n W0 F H L K) → Sat n W0 F H L (x.wp P (Exit.then K Q))) : Sat n W0 F H L ((Code.seq x y).wp P Q) :=
  fun a w hF hS => wp_seq (h (y.wp P Q) (fun _ _ _ h => h) a w hF hS)
/-- with what stands between stated: whatever x leaves is 'm s' for some s that meets I -/
theorem cx_cut {x y : Code} {σ : Type} (I : σ → Prop) (mF : σ → Slots) (mH : σ → Heap) (mL : σ → List HProp)
    (h : ∀ K : Act → World → Prop, (∀ s, I s → Sat n W0 (mF s) (mH s) (mL s) K) → Sat n W0 F H L (x.wp P (Exit.then K Q))) (h2 : ∀ s, I s → Sat n W0 (mF s) (mH s) (mL s) (y.wp P Q)) : Sat n W0 F H L ((Code.seq x y).wp P Q) :=
  fun a w hF hS => wp_seq (h (y.wp P Q) h2 a w hF hS)
theorem cx_skip (h : Sat n W0 F H L (Q .normal)) : Sat n W0 F H L (Code.skip.wp P Q) := fun a w hF hS => wp_skip (h a w hF hS)
theorem cx_ret (h : Sat n W0 F H L (Q .ret)) : Sat n W0 F H L (Code.ret.wp P Q) := fun a w hF hS => wp_ret (h a w hF hS)
theorem cx_exit {id : Nat} (h : Sat n W0 F H L (Q (.exit id))) : Sat n W0 F H L ((Code.exit id).wp P Q) := fun a w hF hS => wp_exit (h a w hF hS)
theorem cx_block {id : Nat} {c : Code} (h : Sat n W0 F H L (c.wp P (Exit.inBlock id Q))) : Sat n W0 F H L ((Code.block id c).wp P Q) := fun a w hF hS => wp_block (h a w hF hS)
theorem cx_cond {c : Operand} {x y : Code} {t : Bool} (hc : opv F c = some (.bool t)) (ht : t = true → Sat n W0 F H L (x.wp P Q)) (hf : t = false → Sat n W0 F H L (y.wp P Q)) : Sat n W0 F H L ((Code.cond c x y).wp P Q) :=
  fun a w hF hS => wp_cond_split (hF.opv hc) (fun e => ht e a w hF hS) (fun e => hf e a w hF hS)
/-- a loop: at each round's head the state is 'm s' for some s that meets I, and s goes down -/
theorem cx_loop {c : Code} {σ : Type} (I : σ → Prop) (mF : σ → Slots) (mH : σ → Heap) (mL : σ → List HProp) (μ : σ → Nat) (s0 : σ) (h0 : I s0) (hs0 : Sub L (mL s0)) (hf0 : fsub (mF s0) F) (hh0 : mH s0 = H)
    (round : ∀ s, I s → ∀ K : Act → World → Prop, (∀ s', I s' → μ s' < μ s → Sat n W0 (mF s') (mH s') (mL s') K) → Sat n W0 (mF s) (mH s) (mL s) (c.wp P (Exit.then K Q))) :
    Sat n W0 F H L ((Code.loop c).wp P Q) := by
  subst hh0
  refine Sat.sub (F' := mF s0) (L' := mL s0) (fun a w hF hS b k cs => ?_) hs0 hf0
  have key : ∀ m s a w, I s → μ s = m → FrOk n a (mF s) → St W0 (mH s) w (mL s) →
      ∃ e a' w', Q e a' w' ∧ Arrives P (lone (b.at a (.code c :: .inLoop c :: k)) cs w) b k cs e a' w' := by
    intro m
    induction m using Nat.strongRecOn with
    | _ m ih =>
      intro s a w hI hm hF hS
      obtain ⟨e, a₁, w₁, hq, harr⟩ := round s hI (fun a' w' => ∃ s', I s' ∧ μ s' < μ s ∧ FrOk n a' (mF s') ∧ St W0 (mH s') w' (mL s')) (fun s' hI' hs' a' w' hF' hS' => ⟨s', hI', hs', hF', hS'⟩) a w hF hS b (.inLoop c :: k) cs
      cases e with
      | normal =>
        obtain ⟨s', hI', hlt, hF', hS'⟩ := hq
        obtain ⟨e₂, a₂, w₂, hq₂, harr₂⟩ := ih (μ s') (hm ▸ hlt) s' a₁ w₁ hI' rfl hF' hS'
        exact ⟨e₂, a₂, w₂, hq₂, .of_steps (Steps.trans harr (.one step_inLoop)) harr₂⟩
      | exit id => exact ⟨_, a₁, w₁, hq, .pass (x := .inLoop c) rfl (fun _ _ => .inl (by simp)) harr⟩
      | goto l => exact ⟨_, a₁, w₁, hq, .pass (x := .inLoop c) rfl (fun _ _ => .inl (by simp)) harr⟩
      | ret => exact ⟨_, a₁, w₁, hq, .pass (x := .inLoop c) rfl (fun _ _ => .inl (by simp)) harr⟩
      | panic ch => exact ⟨_, a₁, w₁, hq, .pass (x := .inLoop c) rfl (fun _ _ => .inl (by simp)) harr⟩
      | outgrown => exact ⟨_, a₁, w₁, hq, .pass (x := .inLoop c) rfl (fun _ _ => .inl (by simp)) harr⟩
  obtain ⟨e, a', w', hq, harr⟩ := key _ s0 a w h0 rfl hF hS
  exact ⟨e, a', w', hq, .of_steps (.one step_loop) harr⟩
end
end Go.Sx
