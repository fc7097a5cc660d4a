/- The walk's rules, more: numbers, texts, slices; lists of operations, regions, branches, loops, calls, returns. No program in sight. -/
import Derived.Test.YtafhinjggdknjaaDoorPSx2
set_option linter.unusedVariables false
set_option linter.unusedSimpArgs false
namespace Go.Sx
open Go Go.X
section
variable {P : Program} {n : NF} {W0 : GW} {F : Slots} {H : Heap} {L : List HProp} {K : Value → Heap → List HProp → Prop} {dst : Option Tmp} {ty : TypeId} {pos : String} {aft : Array Edge} {g : Option (Nat × Bool)}
def fits (z : Int) : Prop := -9223372036854775808 ≤ z ∧ z ≤ 9223372036854775807
theorem wrap_fits {z : Int} (h : fits z) : IntKind.i64.wrap z = z := by
  obtain ⟨h1, h2⟩ := h
  simp [IntKind.wrap, IntKind.bits, IntKind.signed]
  omega
section
variable {x y : Operand} {k : IntKind} {a b : Int} {T T' : TypeId}
theorem op_add (hx : opv F x = some (.int .i64 a)) (hy : opv F y = some (.int .i64 b)) (hf : fits (a + b)) :
    OpP P n ⟨dst, .binOp .add T x y T', ty, pos, aft, g⟩ F H L (.int .i64 (a + b)) :=
  .mk fun _ w hF _ => by simp only [execOp, hF.opv hx, hF.opv hy]; simp [go_sem, Op.intArith, wrap_fits hf]
theorem op_sub (hx : opv F x = some (.int .i64 a)) (hy : opv F y = some (.int .i64 b)) (hf : fits (a - b)) :
    OpP P n ⟨dst, .binOp .sub T x y T', ty, pos, aft, g⟩ F H L (.int .i64 (a - b)) :=
  .mk fun _ w hF _ => by simp only [execOp, hF.opv hx, hF.opv hy]; simp [go_sem, Op.intArith, wrap_fits hf]
theorem op_mul (hx : opv F x = some (.int .i64 a)) (hy : opv F y = some (.int .i64 b)) (hf : fits (a * b)) :
    OpP P n ⟨dst, .binOp .mul T x y T', ty, pos, aft, g⟩ F H L (.int .i64 (a * b)) :=
  .mk fun _ w hF _ => by simp only [execOp, hF.opv hx, hF.opv hy]; simp [go_sem, Op.intArith, wrap_fits hf]
theorem op_addw (hx : opv F x = some (.int k a)) (hy : opv F y = some (.int k b)) :
    OpP P n ⟨dst, .binOp .add T x y T', ty, pos, aft, g⟩ F H L (.int k (k.wrap (a + b))) :=
  .mk fun _ w hF _ => by simp only [execOp, hF.opv hx, hF.opv hy]; simp [go_sem, Op.intArith]
theorem op_mulw (hx : opv F x = some (.int k a)) (hy : opv F y = some (.int k b)) :
    OpP P n ⟨dst, .binOp .mul T x y T', ty, pos, aft, g⟩ F H L (.int k (k.wrap (a * b))) :=
  .mk fun _ w hF _ => by simp only [execOp, hF.opv hx, hF.opv hy]; simp [go_sem, Op.intArith]
theorem op_quo (hx : opv F x = some (.int .i64 a)) (hy : opv F y = some (.int .i64 b)) (h0 : 0 < b) (hf : fits (a.tdiv b)) :
    OpP P n ⟨dst, .binOp .quo T x y T', ty, pos, aft, g⟩ F H L (.int .i64 (a.tdiv b)) :=
  .mk fun _ w hF _ => by
    have h : b ≠ 0 := by omega
    simp only [execOp, hF.opv hx, hF.opv hy]; simp [go_sem, Op.intDiv, wrap_fits hf, h]
theorem op_rem (hx : opv F x = some (.int k a)) (hy : opv F y = some (.int k b)) (h0 : 0 < b) :
    OpP P n ⟨dst, .binOp .rem T x y T', ty, pos, aft, g⟩ F H L (.int k (a.tmod b)) :=
  .mk fun _ w hF _ => by
    have h : b ≠ 0 := by omega
    simp only [execOp, hF.opv hx, hF.opv hy]; simp [go_sem, Op.intDiv, h]
theorem op_eql (hx : opv F x = some (.int k a)) (hy : opv F y = some (.int k b)) :
    OpP P n ⟨dst, .binOp .eql T x y T', ty, pos, aft, g⟩ F H L (.bool (decide (a = b))) :=
  .mk fun _ w hF _ => by simp only [execOp, hF.opv hx, hF.opv hy]; simp [go_sem, BEq.beq]
theorem op_neq (hx : opv F x = some (.int k a)) (hy : opv F y = some (.int k b)) :
    OpP P n ⟨dst, .binOp .neq T x y T', ty, pos, aft, g⟩ F H L (.bool (!decide (a = b))) :=
  .mk fun _ w hF _ => by simp only [execOp, hF.opv hx, hF.opv hy]; simp [go_sem, bne, BEq.beq]
theorem op_lss (hx : opv F x = some (.int k a)) (hy : opv F y = some (.int k b)) :
    OpP P n ⟨dst, .binOp .lss T x y T', ty, pos, aft, g⟩ F H L (.bool (decide (a < b))) :=
  .mk fun _ w hF _ => by simp only [execOp, hF.opv hx, hF.opv hy]; simp [go_sem]
theorem op_leq (hx : opv F x = some (.int k a)) (hy : opv F y = some (.int k b)) :
    OpP P n ⟨dst, .binOp .leq T x y T', ty, pos, aft, g⟩ F H L (.bool (decide (a ≤ b))) :=
  .mk fun _ w hF _ => by simp only [execOp, hF.opv hx, hF.opv hy]; simp [go_sem]
theorem op_gtr (hx : opv F x = some (.int k a)) (hy : opv F y = some (.int k b)) :
    OpP P n ⟨dst, .binOp .gtr T x y T', ty, pos, aft, g⟩ F H L (.bool (decide (b < a))) :=
  .mk fun _ w hF _ => by simp only [execOp, hF.opv hx, hF.opv hy]; simp [go_sem]
theorem op_geq (hx : opv F x = some (.int k a)) (hy : opv F y = some (.int k b)) :
    OpP P n ⟨dst, .binOp .geq T x y T', ty, pos, aft, g⟩ F H L (.bool (decide (b ≤ a))) :=
  .mk fun _ w hF _ => by simp only [execOp, hF.opv hx, hF.opv hy]; simp [go_sem]
theorem op_neg (hx : opv F x = some (.int .i64 a)) (hf : fits (-a)) :
    OpP P n ⟨dst, .unOp .neg T x, ty, pos, aft, g⟩ F H L (.int .i64 (-a)) :=
  .mk fun _ w hF _ => by simp only [execOp, hF.opv hx]; simp [Op.unary, Op.intArith, wrap_fits hf]
theorem op_not {c : Bool} (hx : opv F x = some (.bool c)) :
    OpP P n ⟨dst, .unOp .not T x, ty, pos, aft, g⟩ F H L (.bool !c) :=
  .mk fun _ w hF _ => by simp only [execOp, hF.opv hx]; simp [Op.unary]
theorem loop_eq (bs : ByteArray) : ∀ (m i : Nat) (r : List UInt8), bs.size - i = m → ByteArray.toList.loop bs i r = r.reverse ++ bs.data.toList.drop i := by
  intro m
  induction m with
  | zero =>
    intro i r h
    unfold ByteArray.toList.loop
    have : ¬ i < bs.size := by omega
    have h2 : bs.data.toList.length ≤ i := by simpa using (Nat.not_lt.1 this)
    simp [this, List.drop_eq_nil_of_le h2]
  | succ m ih =>
    intro i r h
    unfold ByteArray.toList.loop
    have hl : i < bs.size := by omega
    have hl' : i < bs.data.toList.length := by simpa using hl
    rw [if_pos hl, ih (i + 1) _ (by omega), List.drop_eq_getElem_cons hl']
    have : bs.get! i = bs.data.toList[i] := by
      show bs.data[i]! = _
      have hl2 : i < bs.data.size := hl
      simp [getElem!_pos bs.data i hl2]
    simp [this]
theorem bytes_toList (s : ByteArray) : s.toList = s.data.toList := by
  have := loop_eq s s.size 0 [] (by omega)
  simpa [ByteArray.toList] using this
theorem bytes_eq (s t : ByteArray) : (s.toList == t.toList) = decide (s = t) := by
  rw [Bool.eq_iff_iff]
  simp only [beq_iff_eq, decide_eq_true_eq]
  constructor
  · intro h
    rw [bytes_toList, bytes_toList] at h
    exact ByteArray.ext (Array.ext' h)
  · rintro rfl; rfl
def sless (s t : ByteArray) : Bool := Op.bytesLess s.toList t.toList
theorem op_convI [hd : TIt P T' .i64] [hs : TIt P T k] (hx : opv F x = some (.int k a)) (hf : fits a) :
    OpP P n ⟨dst, .convert T T' x, ty, pos, aft, g⟩ F H L (.int .i64 a) :=
  .mk (fun _ w hF _ => by simp only [execOp, hF.opv hx]; simp [convert, run_underlying hd.und, run_underlying hs.und, Conv.intToInt, wrap_fits hf]) fun a hF => calm_convI hd.und hs.und (hF.opv hx)
theorem op_conv {k' : IntKind} [hd : TIt P T' k'] [hs : TIt P T k] (hx : opv F x = some (.int k a)) :
    OpP P n ⟨dst, .convert T T' x, ty, pos, aft, g⟩ F H L (.int k' (k'.wrap a)) :=
  .mk (fun _ w hF _ => by simp only [execOp, hF.opv hx]; simp [convert, run_underlying hd.und, run_underlying hs.und, Conv.intToInt]) fun a hF => calm_convI hd.und hs.und (hF.opv hx)
end
section
variable {x y : Operand} {T e : TypeId}
theorem op_len {base : Option Addr} {m c : Nat} {at_ : Array TypeId} [h : TSl P T e] (ha : at_ = #[T]) (hx : opv F x = some (.slice base m c)) :
    OpP P n ⟨dst, .call ⟨.builtin .len, #[x], at_⟩, ty, pos, aft, g⟩ F H L (.int .i64 m) :=
  .mk fun _ w hF _ => by subst ha; simp only [execOp]; simp [hF.opv hx, resolve, invoke, builtin, Builtin.len_, run_underlying h.und, goInt]
theorem op_indexAddr {b off m c sz : Nat} {i : Int} {k : IntKind} [h : TSl P T e] [hs : TSz P e sz] (hx : opv F x = some (.slice (some ⟨b, off, none⟩) m c)) (hy : opv F y = some (.int k i))
    (h0 : 0 ≤ i) (h1 : i < m) :
    OpP P n ⟨dst, .indexAddr T x y, ty, pos, aft, g⟩ F H L (.pointer (some ⟨b, off + i.toNat * sz, none⟩)) :=
  .mk fun _ w hF _ => by
    simp only [execOp, hF.opv hx, hF.opv hy]; simp [Instr.indexAt, asIntOf, run_underlying h.und, hs.run, h0, h1, Addr.add_lit]
theorem op_indexS {s : ByteArray} {i : Nat} {u : UInt8} {k : IntKind} [h : TSt P T] (hx : opv F x = some (.string s)) (hy : opv F y = some (.int k i)) (hu : s[i]? = some u) :
    OpP P n ⟨dst, .index T x y, ty, pos, aft, g⟩ F H L (.int .u8 u.toNat) :=
  .mk fun _ w hF _ => by simp only [execOp, hF.opv hx, hF.opv hy]; simp [Instr.index, asIntOf, run_underlying h.und, hu]
theorem op_extract {vs : Array Value} {i : Nat} {v : Value} (hx : opv F x = some (.tuple vs)) (hv : vs[i]? = some v) :
    OpP P n ⟨dst, .extract x i, ty, pos, aft, g⟩ F H L v :=
  .mk fun _ w hF _ => by simp only [execOp, hF.opv hx]; simp [Instr.extract, hv]
end
end
def wpListV (P : Program) (ops : Array Oper) (Q : Exit → Act → GW → Prop) : List Oper → Act → GW → Prop
  | [], a, w => Q .normal a w
  | o :: rest, a, w => if Region.wanted o (yielded ops a.tmps) then o.wpV P a w (wpListV P ops Q rest) Q else wpListV P ops Q rest (a.put o.dst undef) w
theorem wpOpsV_list {P : Program} {ops : Array Oper} {Q : Exit → Act → GW → Prop} : ∀ (rest : List Oper) (i : Nat) (a : Act) (w : GW), i + rest.length = ops.size → (∀ j, rest[j]? = ops[i + j]?) → wpListV P ops Q rest a w → wpOpsV P ops Q (List.range' i rest.length) a w := by
  intro rest
  induction rest with
  | nil => intro i a w _ _ h; exact wpOpsV_nil h
  | cons o r ih =>
    intro i a w hl hr h
    have hi : ops[i]? = some o := by have := hr 0; simpa using this.symm
    have hnext := fun a w => ih (i + 1) a w (by simp at hl; omega) (fun j => by have := hr (j + 1); rw [List.getElem?_cons_succ] at this; rw [this]; congr 1; omega)
    rw [List.length_cons, List.range'_succ]
    unfold wpListV at h
    split at h
    · rename_i hw
      exact wpOpsV_cons hi hw (wpV_next h hnext)
    · rename_i hw
      exact wpOpsV_unwanted hi (by simpa using hw) (hnext _ _ h)
theorem wpV_region_lit {P : Program} {id : Nat} {l : List Oper} {Q : Exit → Act → GW → Prop} {a : Act} {w : GW} (h : wpListV P l.toArray Q l a w) : (Code.region id l.toArray false).wpV P Q a w := by
  refine wpV_region ?_
  have := wpOpsV_list l 0 a w (by simp) (by simp) h
  rw [← List.range_eq_range'] at this
  simpa using this
def Fact (P : Program) (n : NF) (W0 : GW) (H : Heap) (L : List HProp) (ops : Array Oper) (o : Oper) (v : Value) (F : Slots) : Prop :=
  (∀ a w, FrOk n a F → StG W0 H w L → Region.wanted o (yielded ops a.tmps) = true ∧ ((o.yV P a.eval w fun v' w' => v' = v ∧ StG W0 H w' L) ∨ o.pkV P a.eval w v)) ∨ ((∀ a, FrOk n a F → Region.wanted o (yielded ops a.tmps) = false) ∧ v = undef)
def SQ (P : Program) (n : NF) (W0 : GW) (H : Heap) (L : List HProp) (ops : Array Oper) (Q : Exit → Act → GW → Prop) : List Oper → Slots → Prop
  | [], F => Sat n W0 F H L (Q .normal)
  | o :: r, F => ∃ d v, o.dst = some d ∧ Nat.blt d n = true ∧ Fact P n W0 H L ops o v F ∧ SQ P n W0 H L ops Q r ((d, v) :: F)
def SL (q : Bool) (P : Program) (n : NF) (W0 : GW) (F : Slots) (H : Heap) (L : List HProp) (ops : Array Oper) (Q : Exit → Act → GW → Prop) (rest : List Oper) : Prop :=
  match q with
  | false => Sat n W0 F H L (wpListV P ops Q rest)
  | true => SQ P n W0 H L ops Q rest F
section
variable {q : Bool} {P : Program} {n : NF} {W0 : GW} {F : Slots} {H : Heap} {L : List HProp} {ops : Array Oper} {Q : Exit → Act → GW → Prop} {rest : List Oper} {op : Op} {ty : TypeId} {pos : String} {aft : Array Edge} {d : Tmp}
theorem sx_some (hd : Nat.blt d n = true) (h : OpW P n W0 ⟨some d, op, ty, pos, aft, none⟩ F H L (fun v H' L' => SL false P n W0 ((d, v) :: F) H' L' ops Q rest)) :
    SL false P n W0 F H L ops Q (⟨some d, op, ty, pos, aft, none⟩ :: rest) := by
  intro a w hF hS
  unfold wpListV
  rw [if_pos (by simp [Region.wanted])]
  exact (h.toV a w _ Q hF hS fun v H' L' w' _ hk hs => hk _ _ (hF.put hd v) hs)
theorem sx_none (h : OpW P n W0 ⟨none, op, ty, pos, aft, none⟩ F H L (fun _ H' L' => SL false P n W0 F H' L' ops Q rest)) :
    SL false P n W0 F H L ops Q (⟨none, op, ty, pos, aft, none⟩ :: rest) := by
  intro a w hF hS
  unfold wpListV
  rw [if_pos (by simp [Region.wanted])]
  exact (h.toV a w _ Q hF hS fun v H' L' w' _ hk hs => hk _ _ (hF.put0 v) hs)
def vb : Value → Option Bool | .bool b => some b | _ => none
theorem FrOk.yielded {a : Act} (hF : FrOk n a F) {j dj : Nat} {v : Value} (hj : (ops[j]?).bind (·.dst) = some dj) (hv : fget F dj = some v) : Go.yielded ops a.tmps j = vb v := by
  have := hF.get dj v hv
  simp only [Go.yielded, hj, Option.bind_some, this]
  cases v <;> rfl
theorem sx_guard {j dj : Nat} {want : Bool} (hj : (ops[j]?).bind (·.dst) = some dj) (hv : fget F dj = some (.bool want)) (hd : Nat.blt d n = true)
    (h : OpW P n W0 ⟨some d, op, ty, pos, aft, some (j, want)⟩ F H L (fun v H' L' => SL false P n W0 ((d, v) :: F) H' L' ops Q rest)) :
    SL false P n W0 F H L ops Q (⟨some d, op, ty, pos, aft, some (j, want)⟩ :: rest) := by
  intro a w hF hS
  unfold wpListV
  rw [if_pos (by simp [Region.wanted, hF.yielded hj hv, vb])]
  exact (h.toV a w _ Q hF hS fun v H' L' w' _ hk hs => hk _ _ (hF.put hd v) hs)
theorem sx_p {v : Value} (hd : Nat.blt d n = true) (h : OpP P n ⟨some d, op, ty, pos, aft, none⟩ F H L v) (hk : SL q P n W0 ((d, v) :: F) H L ops Q rest) :
    SL q P n W0 F H L ops Q (⟨some d, op, ty, pos, aft, none⟩ :: rest) := by
  cases q with
  | false => exact sx_some hd (h.toW hk)
  | true => exact ⟨d, v, rfl, hd, .inl fun a w hF hS => ⟨by simp [Region.wanted], .inl (h.toY hF hS)⟩, hk⟩
theorem sx_pg {v : Value} {j dj : Nat} {want : Bool} (hj : (ops[j]?).bind (·.dst) = some dj) (hv : fget F dj = some (.bool want)) (hd : Nat.blt d n = true)
    (h : OpP P n ⟨some d, op, ty, pos, aft, some (j, want)⟩ F H L v) (hk : SL q P n W0 ((d, v) :: F) H L ops Q rest) :
    SL q P n W0 F H L ops Q (⟨some d, op, ty, pos, aft, some (j, want)⟩ :: rest) := by
  cases q with
  | false => exact sx_guard hj hv hd (h.toW hk)
  | true => exact ⟨d, v, rfl, hd, .inl fun a w hF hS => ⟨by simp [Region.wanted, hF.yielded hj hv, vb], .inl (h.toY hF hS)⟩, hk⟩
def gno (v : Value) (want : Bool) : Bool := match v with | .bool b => b != want | _ => true
theorem sx_skip {j dj : Nat} {want : Bool} {v : Value} (hj : (ops[j]?).bind (·.dst) = some dj) (hv : fget F dj = some v) (hn : gno v want = true) (hd : Nat.blt d n = true)
    (h : SL q P n W0 ((d, undef) :: F) H L ops Q rest) : SL q P n W0 F H L ops Q (⟨some d, op, ty, pos, aft, some (j, want)⟩ :: rest) := by
  have hn : vb v ≠ some want := by
    clear hv
    cases v <;> simp_all [gno, vb]
  cases q with
  | false =>
    intro a w hF hS
    unfold wpListV
    rw [if_neg (by simp only [Region.wanted, hF.yielded hj hv, beq_iff_eq]; exact hn)]
    exact h _ _ (hF.put hd undef) hS
  | true =>
    refine ⟨d, undef, rfl, hd, .inr ⟨fun a hF => ?_, rfl⟩, h⟩
    simp only [Region.wanted, hF.yielded hj hv, beq_eq_false_iff_ne]; exact hn
theorem sx_nil (h : Sat n W0 F H L (Q .normal)) : SL q P n W0 F H L ops Q [] := by cases q <;> exact h
def qlisted (n : Nat) : Nat → Array Bool
  | 0 => Array.replicate n false
  | i + 1 => (qlisted n i).setIfInBounds i true
def flowOk (ops : Array Oper) : Bool :=
  Region.noSelect ops && (List.range ops.size).all fun i => match ops[i]? with
    | some o => o.after.all (fun e => !Region.binds .any e || Nat.blt e.on i) && (List.range ops.size).all fun j => i == j || match ops[j]? with
      | some p => match p.dst with
        | some d => o.dst != some d && (!(o.looksAt ops).contains d || (if Nat.blt j i then o.after.any (fun e => Region.binds .any e && e.on == j) else p.after.any (fun e => Region.binds .any e && e.on == i)))
        | none => false
      | none => true
    | none => true
structure FlowOk (ops : Array Oper) : Prop where
  sel : ∀ (j : Nat) (o : Oper) cs b, ops[j]? = some o → o.op ≠ .select cs b
  back : ∀ (i : Nat) (o : Oper), ops[i]? = some o → ∀ e ∈ o.after, Region.binds .any e = true → e.on < i
  dist : ∀ (i j : Nat) (o p : Oper) (d : Tmp), i ≠ j → ops[i]? = some o → ops[j]? = some p → p.dst = some d → o.dst ≠ some d
  fore : ∀ (i j : Nat) (o p : Oper) (d : Tmp), j < i → ops[i]? = some o → ops[j]? = some p → p.dst = some d → d ∈ o.looksAt ops → ∃ e ∈ o.after, Region.binds .any e = true ∧ e.on = j
  hind : ∀ (i j : Nat) (o p : Oper) (d : Tmp), i < j → ops[i]? = some o → ops[j]? = some p → p.dst = some d → d ∈ o.looksAt ops → ∃ e ∈ p.after, Region.binds .any e = true ∧ e.on = i
theorem FlowOk.of {ops : Array Oper} (h : flowOk ops = true) : FlowOk ops := by
  simp only [flowOk, Bool.and_eq_true, List.all_eq_true, List.mem_range] at h
  obtain ⟨h1, h2⟩ := h
  have at_ : ∀ {i : Nat} {o : Oper}, ops[i]? = some o → i < ops.size := fun h => (Array.getElem?_eq_some_iff.1 h).1
  have two : ∀ {i j : Nat} {o p : Oper} {d : Tmp}, i ≠ j → ops[i]? = some o → ops[j]? = some p → p.dst = some d → (o.dst != some d) = true ∧ ((!(o.looksAt ops).contains d) = true ∨ (if Nat.blt j i then o.after.any (fun e => Region.binds .any e && e.on == j) else p.after.any (fun e => Region.binds .any e && e.on == i)) = true) := by
    intro i j o p d hij ho hp hd
    have := h2 i (at_ ho)
    simp only [ho, Bool.and_eq_true, List.all_eq_true, List.mem_range] at this
    have := this.2 j (at_ hp)
    simpa [hp, hd, hij] using this
  refine ⟨Region.noSelect_spec h1, fun i o ho e he hb => ?_, fun i j o p d hij ho hp hd hod => ?_, fun i j o p d hji ho hp hd hl => ?_, fun i j o p d hij ho hp hd hl => ?_⟩
  · have := h2 i (at_ ho)
    simp only [ho, Bool.and_eq_true] at this
    have := (Array.all_eq_true_iff_forall_mem.1 this.1) e he
    simpa [hb] using this
  · have := (two hij ho hp hd).1
    simp [hod] at this
  · have := (two (by omega) ho hp hd).2
    have hc : (o.looksAt ops).contains d = true := by simpa using hl
    have hlt : Nat.blt j i = true := by simpa using hji
    simp only [hc, Bool.not_true, Bool.false_eq_true, false_or, hlt, if_true, Array.any_eq_true', Bool.and_eq_true, beq_iff_eq] at this
    obtain ⟨e, he, hb, ho⟩ := this
    exact ⟨e, he, hb, ho⟩
  · have := (two (by omega) ho hp hd).2
    have hc : (o.looksAt ops).contains d = true := by simpa using hl
    have hlt : Nat.blt j i = false := by rw [Bool.eq_false_iff]; intro h; rw [Nat.blt_eq] at h; omega
    simp only [hc, Bool.not_true, Bool.false_eq_true, false_or, hlt, if_false, Array.any_eq_true', Bool.and_eq_true, beq_iff_eq] at this
    obtain ⟨e, he, hb, ho⟩ := this
    exact ⟨e, he, hb, ho⟩
def putD (a : Act) (D : List (Tmp × Value)) : Act := D.foldl (fun a p => a.put (some p.1) p.2) a
structure Val (n : NF) (a0 : Act) (D : List (Tmp × Value)) (S : Nat → Bool) (a : Act) : Prop where
  size : a.tmps.size = n
  defs : a.defers = a0.defers
  got : ∀ (j : Nat) d v, D[j]? = some (d, v) → S j = true → a.tmps[d]? = some v
  kept : ∀ t, (∀ (j : Nat) d v, D[j]? = some (d, v) → S j = true → d ≠ t) → a.tmps[t]? = a0.tmps[t]?
theorem Val.put {a0 a : Act} {D : List (Tmp × Value)} {S : Nat → Bool} (h : Val n a0 D S a) (hdist : ∀ (i j : Nat) d v u, i ≠ j → D[i]? = some (d, v) → D[j]? ≠ some (d, u)) {i : Nat} {d : Tmp} {v : Value} (hi : D[i]? = some (d, v)) (hd : d < n) : Val n a0 D (fun j => S j || j == i) (a.put (some d) v) := by
  refine ⟨by simp [Act.put, h.size], by simp [Act.put, h.defs], fun j e u hj hs => ?_, fun t ht => ?_⟩
  · simp only [Act.put, Array.getElem?_setIfInBounds]
    by_cases hji : j = i
    · subst hji
      rw [hi] at hj; cases hj
      simp [h.size, hd]
    · have hne : d ≠ e := by rintro rfl; exact hdist j i d u v hji hj hi
      simp only [hne, if_false]
      exact h.got j e u hj (by simpa [hji] using hs)
  · simp only [Act.put, Array.getElem?_setIfInBounds]
    have : d ≠ t := ht i d v hi (by simp)
    simp only [this, if_false]
    exact h.kept t fun j e u hj hs => ht j e u hj (by simp [hs])
theorem Val.congr {a0 a : Act} {D : List (Tmp × Value)} {S S' : Nat → Bool} (h : Val n a0 D S a) (hs : ∀ j, j < D.length → S j = S' j) : Val n a0 D S' a :=
  ⟨h.size, h.defs, fun j d v hj hS => h.got j d v hj (by rw [hs j (List.getElem?_eq_some_iff.1 hj).1]; exact hS), fun t ht => h.kept t fun j d v hj hS => ht j d v hj (by rw [← hs j (List.getElem?_eq_some_iff.1 hj).1]; exact hS)⟩
theorem Val.agree {a0 a b : Act} {D : List (Tmp × Value)} {S S' : Nat → Bool} (h : Val n a0 D S a) (h' : Val n a0 D S' b) {t : Tmp} (hs : ∀ (j : Nat) v, D[j]? = some (t, v) → S j = S' j) : a.tmps[t]? = b.tmps[t]? := by
  by_cases hex : ∃ (j : Nat) (v : Value), D[j]? = some (t, v) ∧ S j = true
  · obtain ⟨j, v, hj, hS⟩ := hex
    rw [h.got j t v hj hS, h'.got j t v hj (by rw [← hs j v hj]; exact hS)]
  · rw [h.kept t fun j d v hj hS hd => hex ⟨j, v, by rw [hj, hd], hS⟩, h'.kept t fun j d v hj hS hd => hex ⟨j, v, by rw [hj, hd], by rw [hs j v (by rw [hj, hd])]; exact hS⟩]
theorem Val.take {a0 : Act} {D : List (Tmp × Value)} (h0 : a0.tmps.size = n) (hdist : ∀ (i j : Nat) d v u, i ≠ j → D[i]? = some (d, v) → D[j]? ≠ some (d, u)) (hd : ∀ (j : Nat) d v, D[j]? = some (d, v) → d < n) : ∀ i, i ≤ D.length → Val n a0 D (fun j => decide (j < i)) (putD a0 (D.take i))
  | 0, _ => ⟨h0, rfl, fun j d v _ h => by simp at h, fun t _ => rfl⟩
  | i + 1, hi => by
    have hlt : i < D.length := hi
    have e : putD a0 (D.take (i + 1)) = (putD a0 (D.take i)).put (some D[i].1) D[i].2 := by
      unfold putD
      rw [List.take_succ_eq_append_getElem hlt, List.foldl_append]; rfl
    rw [e]
    refine ((Val.take h0 hdist hd i (by omega)).put hdist (i := i) (by simp [hlt]) (hd i _ D[i].2 (by simp [hlt]))).congr fun j _ => ?_
    rw [Bool.eq_iff_iff]; simp; omega
theorem SQ.data : ∀ (rest : List Oper) (F : Slots) (a : Act), SQ P n W0 H L ops Q rest F → FrOk n a F → ∃ D : List (Tmp × Value), D.length = rest.length ∧
    (∀ (k : Nat) o, rest[k]? = some o → ∃ d v, D[k]? = some (d, v) ∧ o.dst = some d ∧ d < n ∧
      ((∀ w, StG W0 H w L → Region.wanted o (yielded ops (putD a (D.take k)).tmps) = true ∧ ((o.yV P (putD a (D.take k)).eval w fun v' w' => v' = v ∧ StG W0 H w' L) ∨ o.pkV P (putD a (D.take k)).eval w v)) ∨ (Region.wanted o (yielded ops (putD a (D.take k)).tmps) = false ∧ v = undef))) ∧
    ∀ w, StG W0 H w L → Q .normal (putD a D) w := by
  intro rest
  induction rest with
  | nil => intro F a h hF; exact ⟨[], rfl, fun k o hk => by simp at hk, fun w hS => h a w hF hS⟩
  | cons o r ih =>
    intro F a h hF
    obtain ⟨d, v, hd, hdn, hcase, hrest⟩ := h
    obtain ⟨D, hl, hk, hq⟩ := ih _ _ hrest (hF.put hdn v)
    refine ⟨(d, v) :: D, by simp [hl], fun k p hp => ?_, fun w hS => hq w hS⟩
    cases k with
    | zero =>
      simp only [List.getElem?_cons_zero, Option.some.injEq] at hp
      subst hp
      exact ⟨d, v, rfl, hd, by simpa using hdn, hcase.imp (fun h w hS => h a w hF hS) fun h => ⟨h.1 a hF, h.2⟩⟩
    | succ k =>
      rw [List.getElem?_cons_succ] at hp
      obtain ⟨d', v', h1, h2, h3, h4⟩ := hk k p hp
      exact ⟨d', v', by simpa using h1, h2, h3, h4⟩
theorem wanted_agree {o : Oper} {a b : Act} (h : ∀ t ∈ o.looksAt ops, a.tmps[t]? = b.tmps[t]?) : Region.wanted o (yielded ops a.tmps) = Region.wanted o (yielded ops b.tmps) := by
  unfold Region.wanted
  cases hg : o.guard with
  | none => rfl
  | some p =>
    obtain ⟨j, want⟩ := p
    have : yielded ops a.tmps j = yielded ops b.tmps j := by
      unfold yielded
      cases hd : (ops[j]?).bind (·.dst) with
      | none => rfl
      | some d =>
        have := h d (by simp [Oper.looksAt, hg, hd])
        simp [this]
    simp only [this]
theorem execOp_agree {o : Oper} {a b : Act} (hs : ∀ cs b, o.op ≠ .select cs b) (h : ∀ t ∈ o.looksAt ops, a.tmps[t]? = b.tmps[t]?) : execOp a.eval o = execOp b.eval o := by
  refine execOp_congr o hs fun x hx => ?_
  cases x with
  | tmp t =>
    have := h t (by simp [Oper.looksAt]; exact .inl ⟨_, hx, rfl⟩)
    simp [Act.eval, Array.getD_eq_getD_getElem?, this]
  | _ => rfl
theorem flow_sound (hok : flowOk ops = true) (h : SQ P n W0 H L ops Q ops.toList F) {a : Act} {w : GW} (hF : FrOk n a F) (hS : StG W0 H w L) (t : Nat) :
    wpOpsV P ops Q (Region.linearise.go .any ops ops.size t (Array.replicate ops.size false) []) a w := by
  have ok := FlowOk.of hok
  obtain ⟨D, hl, hk, hq⟩ := h.data _ _ _ hF
  simp only [Array.length_toList, Array.getElem?_toList] at hl hk
  have hD : ∀ {j : Nat} {d : Tmp} {v : Value}, D[j]? = some (d, v) → ∃ o, ops[j]? = some o ∧ o.dst = some d ∧ d < n := fun {j d v} hj => by
    have hlt : j < ops.size := by have := (List.getElem?_eq_some_iff.1 hj).1; omega
    obtain ⟨d', v', h1, h2, h3, _⟩ := hk j ops[j] (Array.getElem?_eq_getElem hlt)
    rw [hj] at h1; cases h1
    exact ⟨_, Array.getElem?_eq_getElem hlt, h2, h3⟩
  have hdist : ∀ (i j : Nat) d v u, i ≠ j → D[i]? = some (d, v) → D[j]? ≠ some (d, u) := fun i j d v u hij h1 h2 => by
    obtain ⟨o, ho, hod, _⟩ := hD h1
    obtain ⟨p, hp, hpd, _⟩ := hD h2
    exact ok.dist i j o p d hij ho hp hpd hod
  have hdn : ∀ (j : Nat) d v, D[j]? = some (d, v) → d < n := fun j d v hj => let ⟨_, _, _, h⟩ := hD hj; h
  have hT := fun i hi => Val.take (a0 := a) hF.size hdist hdn i hi
  have key : ∀ (fuel t : Nat) (listed : Array Bool) (b : Act) (w : GW), listed.size = ops.size → ((List.range ops.size).filter fun j => !listed.getD j false).length ≤ fuel →
      (∀ (j : Nat) o, ops[j]? = some o → listed.getD j false = true → ∀ e ∈ o.after, Region.binds .any e = true → listed.getD e.on false = true) →
      Val n a D (fun j => listed.getD j false) b → StG W0 H w L → wpOpsV P ops Q (Region.linearise.go .any ops fuel t listed []) b w := by
    have fin : ∀ (listed : Array Bool) (b : Act) (w : GW), (∀ j, j < ops.size → listed.getD j false = true) → Val n a D (fun j => listed.getD j false) b → StG W0 H w L → wpOpsV P ops Q [] b w := by
      intro listed b w hall hV hS
      have hb : b = putD a D := by
        have hT' := hT D.length (Nat.le_refl _)
        rw [List.take_length] at hT'
        have h1 : b.tmps = (putD a D).tmps := Array.ext_getElem? fun t => hV.agree hT' fun j v hj => by
          have := (List.getElem?_eq_some_iff.1 hj).1
          simp only [hall j (by omega), this, decide_true]
        have h2 : b.defers = (putD a D).defers := hV.defs.trans hT'.defs.symm
        cases b; cases hh : putD a D; simp_all
      subst hb
      exact wpOpsV_nil (hq w hS)
    intro fuel
    induction fuel with
    | zero =>
      intro t listed b w hsz hf hcl hV hS
      refine fin listed b w (fun j hj => ?_) hV hS
      have : ((List.range ops.size).filter fun j => !listed.getD j false) = [] := List.length_eq_zero_iff.1 (Nat.le_zero.1 hf)
      have := List.filter_eq_nil_iff.1 this j (List.mem_range.2 hj)
      simpa using this
    | succ fuel ih =>
      intro t listed b w hsz hf hcl hV hS
      simp only [Region.linearise.go]
      change wpOpsV P ops Q (match (Region.ready .any ops listed)[t % (Region.ready .any ops listed).length]? with
        | some i => Region.linearise.go .any ops fuel (t / (Region.ready .any ops listed).length) (listed.setIfInBounds i true) [i]
        | none => [].reverse) b w
      cases hi : (Region.ready .any ops listed)[t % (Region.ready .any ops listed).length]? with
      | none =>
        have hnil : Region.ready .any ops listed = [] := by
          cases hr : Region.ready .any ops listed with
          | nil => rfl
          | cons x xs =>
            rw [hr] at hi
            have hlt : t % (x :: xs).length < (x :: xs).length := Nat.mod_lt _ (by simp)
            simp only [List.getElem?_eq_getElem hlt] at hi
            cases hi
        refine fin listed b w ?_ hV hS
        intro j
        induction j using Nat.strongRecOn with
        | _ j ihj =>
          intro hj
          cases hlj : listed.getD j false with
          | true => rfl
          | false =>
            have : j ∈ Region.ready .any ops listed := mem_ready.2 ⟨by
              have h1 : j < listed.size := by omega
              simp [h1] at hlj ⊢; exact hlj, ops[j], Array.getElem?_eq_getElem hj, fun e he hb => by
              have hlt := ok.back j _ (Array.getElem?_eq_getElem hj) e he hb
              exact ihj e.on hlt (by omega)⟩
            rw [hnil] at this; cases this
      | some i =>
        have hm := List.mem_of_getElem? hi
        obtain ⟨hun, o, ho, hdeps⟩ := mem_ready.1 hm
        have hlt : i < ops.size := (Array.getElem?_eq_some_iff.1 ho).1
        have hun' : listed.getD i false = false := by simp [hsz, hlt] at hun ⊢; exact hun
        simp only []
        rw [linearise_go_acc, List.reverse_singleton, List.singleton_append]
        obtain ⟨d, v, hDi, hod, hdlt, hcase⟩ := hk i o ho
        have hagree : ∀ t ∈ o.looksAt ops, b.tmps[t]? = (putD a (D.take i)).tmps[t]? := fun t ht => hV.agree (hT i (by omega)) fun j u hj => by
          obtain ⟨p, hp, hpd, _⟩ := hD hj
          rcases Nat.lt_trichotomy j i with hji | rfl | hij
          · obtain ⟨e, he, hb, rfl⟩ := ok.fore i j o p t hji ho hp hpd ht
            simp [hdeps e he hb, hji]
          · simp [hun']
          · have : listed.getD j false = false := by
              cases hlj : listed.getD j false with
              | false => rfl
              | true =>
                obtain ⟨e, he, hb, rfl⟩ := ok.hind i j o p t hij ho hp hpd ht
                rw [hcl j p hp hlj e he hb] at hun'; cases hun'
            simp only [this]; simp; omega
        have hw := wanted_agree (ops := ops) (o := o) hagree
        have hx := execOp_agree (ops := ops) (fun cs b => ok.sel i o cs b ho) hagree
        have hset : ∀ j, (listed.setIfInBounds i true).getD j false = (listed.getD j false || j == i) := fun j => by
          by_cases hji : j = i
          · subst hji; simp [hsz, hlt]
          · rw [getD_set_ne false (Ne.symm hji)]; simp [hji]
        have hsz' : (listed.setIfInBounds i true).size = ops.size := by simp [hsz]
        have hV' : Val n a D (fun j => (listed.setIfInBounds i true).getD j false) (b.put o.dst v) := by
          rw [hod]
          exact (hV.put hdist hDi hdlt).congr fun j _ => (hset j).symm
        have hcl' : ∀ (j : Nat) p, ops[j]? = some p → (listed.setIfInBounds i true).getD j false = true → ∀ e ∈ p.after, Region.binds .any e = true → (listed.setIfInBounds i true).getD e.on false = true := by
          intro j p hp hlj e he hb
          rw [hset] at hlj ⊢
          simp only [Bool.or_eq_true, beq_iff_eq] at hlj ⊢
          rcases hlj with hlj | rfl
          · exact .inl (hcl j p hp hlj e he hb)
          · rw [ho] at hp; cases hp
            exact .inl (hdeps e he hb)
        have hf' : ((List.range ops.size).filter fun j => !(listed.setIfInBounds i true).getD j false).length ≤ fuel := by
          have hsub : ((List.range ops.size).filter fun j => !(listed.setIfInBounds i true).getD j false) = ((List.range ops.size).filter fun j => !listed.getD j false).filter fun j => j != i := by
            rw [List.filter_filter]
            congr 1
            funext j
            rw [hset]
            cases listed.getD j false <;> cases h : j == i <;> simp_all [bne]
          rw [hsub]
          have hmem : i ∈ (List.range ops.size).filter fun j => !listed.getD j false := List.mem_filter.2 ⟨List.mem_range.2 hlt, by simp [hun']⟩
          have : (((List.range ops.size).filter fun j => !listed.getD j false).filter fun j => j != i).length < ((List.range ops.size).filter fun j => !listed.getD j false).length :=
            List.length_filter_lt_length_iff_exists.2 ⟨i, hmem, by simp⟩
          omega
        rcases hcase with hcase | ⟨hno, rfl⟩
        · obtain ⟨hwant, hy⟩ := hcase w hS
          refine wpOpsV_cons ho (hw.trans hwant) ?_
          rcases hy with hy | hy
          · have hy' : o.yV P b.eval w fun v' w' => v' = v ∧ StG W0 H w' L := by
              unfold Oper.yV Oper.yX at hy ⊢
              rw [hx]; exact hy
            exact wpV_of_yV (YV.mono hy' fun v' w' ⟨e, hS'⟩ => by subst e; exact ih _ _ _ _ hsz' hf' hcl' hV' hS')
          · have hy' : o.pkV P b.eval w v := by
              unfold Oper.pkV at hy ⊢
              rw [hx]; exact hy
            exact wpV_of_pk hy' (ih _ _ _ _ hsz' hf' hcl' hV' hS)
        · exact wpOpsV_unwanted ho (hw.trans hno) (ih _ _ _ _ hsz' hf' hcl' hV' hS)
  refine key _ _ _ _ _ (by simp) ?_ (fun j o _ hlj => ?_) (Val.congr (S := fun j => decide (j < 0)) (hT 0 (by omega)) fun j _ => ?_) hS
  · exact Nat.le_trans (List.length_filter_le _ _) (by simp)
  · exfalso
    by_cases h : j < ops.size <;> simp [h] at hlj
  · by_cases h : j < ops.size <;> simp [h]
inductive Reach (ops : Array Oper) (m : Nat) : Nat → Prop
  | dep {o : Oper} {e : Edge} : ops[m]? = some o → e ∈ o.after → Region.binds .any e = true → Reach ops m e.on
  | step {j : Nat} {o : Oper} {e : Edge} : Reach ops m j → ops[j]? = some o → e ∈ o.after → Region.binds .any e = true → Reach ops m e.on
end
class TMix (P : Program) : Prop where
  h : P.follows .mixedOrders = true
section
variable {P : Program} {n : NF} {W0 : GW} {F : Slots} {H : Heap} {L : List HProp} {Q : Exit → Act → GW → Prop}
theorem cx_region {id : Nat} {l : List Oper} (h : SL false P n W0 F H L l.toArray Q l) : Sat n W0 F H L ((Code.region id l.toArray false).wpV P Q) := fun a w hF hS => wpV_region_lit (h a w hF hS)
theorem cx_quiet [hm : TMix P] {id : Nat} {l : List Oper} (hok : flowOk l.toArray = true) (h : SL true P n W0 F H L l.toArray Q l) :
    Sat n W0 F H L ((Code.region id l.toArray true).wpV P Q) := fun a w hF hS => wpV_region_draw fun t => by
  simp only [Region.schedule, hm.h, Bool.true_or, if_true]
  exact flow_sound hok h hF hS t
theorem cx_skip (h : Sat n W0 F H L (Q .normal)) : Sat n W0 F H L (Code.skip.wpV P Q) := fun a w hF hS => wpV_skip (h a w hF hS)
theorem cx_ret (h : Sat n W0 F H L (Q .ret)) : Sat n W0 F H L (Code.ret.wpV P Q) := fun a w hF hS => wpV_ret (h a w hF hS)
theorem cx_exit {id : Nat} (h : Sat n W0 F H L (Q (.exit id))) : Sat n W0 F H L ((Code.exit id).wpV P Q) := fun a w hF hS => wpV_exit (h a w hF hS)
theorem cx_block {id : Nat} {c : Code} (h : Sat n W0 F H L (c.wpV P (inBlockX id Q))) : Sat n W0 F H L ((Code.block id c).wpV P Q) := fun a w hF hS => wpV_block (h a w hF hS)
theorem cx_cond {c : Operand} {x y : Code} {t : Bool} (hc : opv F c = some (.bool t)) (ht : t = true → Sat n W0 F H L (x.wpV P Q)) (hf : t = false → Sat n W0 F H L (y.wpV P Q)) : Sat n W0 F H L ((Code.cond c x y).wpV P Q) :=
  fun a w hF hS => wpV_cond_split (hF.opv hc) (fun e => ht e a w hF hS) (fun e => hf e a w hF hS)
theorem cx_loop {c : Code} {σ : Type} (I : σ → Prop) (mF : σ → Slots) (mH : σ → Heap) (mL : σ → List HProp) (μ : σ → Nat) (s0 : σ) (h0 : I s0) (hs0 : Sub L (mL s0)) (hf0 : fsub (mF s0) F) (hh0 : mH s0 = H)
    (round : ∀ s, I s → ∀ K : Act → GW → Prop, (∀ s', I s' → μ s' < μ s → Sat n W0 (mF s') (mH s') (mL s') K) → Sat n W0 (mF s) (mH s) (mL s) (c.wpV P (thenX K Q))) :
    Sat n W0 F H L ((Code.loop c).wpV P Q) := by
  subst hh0
  refine Sat.sub (F' := mF s0) (L' := mL s0) ?_ hs0 hf0
  intro a w hF hS Wr h1 b k cs hb hc
  have key : ∀ m s a (w : GW), I s → μ s = m → FrOk n a (mF s) → StG W0 (mH s) w (mL s) → Sm Wr w → MI P kd Wr.toWorld (SB P Wr) (Go.Conc.G (b.at a (.code c :: .inLoop c :: k)) cs) (xw w) := by
    intro m
    induction m using Nat.strongRecOn with
    | _ m ih =>
      intro s a w hI hm hF hS h1
      refine round s hI (fun a' w' => ∃ s', I s' ∧ μ s' < μ s ∧ FrOk n a' (mF s') ∧ StG W0 (mH s') w' (mL s')) (fun s' hI' hs' a' w' hF' hS' => ⟨s', hI', hs', hF', hS'⟩) a w hF hS Wr h1 b (.inLoop c :: k) cs hb fun e a' x' hq => ?_
      cases e with
      | normal =>
        obtain ⟨w', r, s', hI', hlt, hF', hS'⟩ := hq
        rw [r.eq]
        exact .ctl rfl (fun _ _ => Go.Conc.stepG_inLoop) (ih (μ s') (hm ▸ hlt) s' a' w' hI' rfl hF' hS' r.sm)
      | exit id => exact (hc _ _ _ hq).push rfl (by simp)
      | goto l => exact (hc _ _ _ hq).push (i := .inLoop c) rfl (by simp)
      | ret => exact (hc _ _ _ hq).push (i := .inLoop c) rfl (by simp)
      | panic ch => exact hc _ _ _ hq
      | outgrown => exact hc _ _ _ hq
  exact .ctl rfl (fun _ _ => Go.Conc.stepG_loop) (key _ s0 a w h0 rfl hF hS h1)
end
end Go.Sx
