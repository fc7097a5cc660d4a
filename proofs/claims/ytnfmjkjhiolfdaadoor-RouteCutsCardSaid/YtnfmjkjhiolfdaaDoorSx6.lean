/- The operations that only read and reckon, gathered, so that a walk finds the right rule by itself. No program in sight. -/
import Derived.Test.YtnfmjkjhiolfdaaDoorSx5
namespace Go.Sx
open Go
inductive OpI (P : Program) (F : Slots) : Op → Value → Prop
  | move {x : Operand} {v : Value} : opv F x = some v → OpI P F (.move x) v
  | assign {x : Operand} {v : Value} : opv F x = some v → OpI P F (.assign x) v
  | nilCheck {x : Operand} {p : Addr} : opv F x = some (.pointer (some p)) → OpI P F (.nilCheck x) (.pointer (some p))
  | fieldAddr {s : TypeId} {x : Operand} {f off fo : Nat} {ft : TypeId} {b : Nat} [TFd P s f fo ft] : opv F x = some (.pointer (some ⟨b, off, none⟩)) → OpI P F (.fieldAddr s x f) (.pointer (some ⟨b, off + fo, none⟩))
  | len {x : Operand} {T e : TypeId} {base : Option Addr} {m c : Nat} [TSl P T e] : opv F x = some (.slice base m c) → OpI P F (.call ⟨.builtin .len, #[x], #[T]⟩) (.int .i64 m)
  | lenS {x : Operand} {T : TypeId} {s : ByteArray} [TSt P T] : opv F x = some (.string s) → OpI P F (.call ⟨.builtin .len, #[x], #[T]⟩) (.int .i64 s.size)
  | extract {x : Operand} {vs : Array Value} {i : Nat} {v : Value} : opv F x = some (.tuple vs) → vs[i]? = some v → OpI P F (.extract x i) v
  | not {x : Operand} {c : Bool} {T : TypeId} : opv F x = some (.bool c) → OpI P F (.unOp .not T x) (.bool !c)
theorem OpI.toP {P : Program} {n : Nat} {W0 : World} {F : Slots} {H : Heap} {L : List HProp} {dst : Option Tmp} {ty : TypeId} {pos : String} {aft : Array Edge} {g : Option (Nat × Bool)} {op : Op} {v : Value} (h : OpI P F op v) :
    OpP P n W0 ⟨dst, op, ty, pos, aft, g⟩ F H L v := by
  cases h with
  | move h => exact op_move h
  | assign h => exact op_assign h
  | nilCheck h => exact op_nilCheck h
  | fieldAddr h => exact op_fieldAddr h
  | len h => exact op_len rfl h
  | lenS h => exact op_lenS rfl h
  | extract h h' => exact op_extract h h'
  | not h => exact op_not h
section
variable {q : Bool} {P : Program} {n : Nat} {W0 : World} {F : Slots} {H : Heap} {L : List HProp} {ops : Array Oper} {Q : Exit → Act → World → Prop} {rest : List Oper} {op : Op} {ty : TypeId} {pos : String} {aft : Array Edge} {d : Tmp} {v : Value}
theorem sx_i (hd : Nat.blt d n = true) (h : OpI P F op v) (hk : SL q P n W0 ((d, v) :: F) H L ops Q rest) : SL q P n W0 F H L ops Q (⟨some d, op, ty, pos, aft, none⟩ :: rest) := sx_p hd h.toP hk
theorem sx_ig {j dj : Nat} {want : Bool} (hj : (ops[j]?).bind (·.dst) = some dj) (hv : fget F dj = some (.bool want)) (hd : Nat.blt d n = true) (h : OpI P F op v) (hk : SL q P n W0 ((d, v) :: F) H L ops Q rest) :
    SL q P n W0 F H L ops Q (⟨some d, op, ty, pos, aft, some (j, want)⟩ :: rest) := sx_pg hj hv hd h.toP hk
-- COMBOS: written by program
section
variable {x y : Operand} {k : IntKind} {a b : Int} {T T' e : TypeId}
theorem sx_move {x : Operand} {v : Value} (hx : opv F x = some v) (hd : Nat.blt d n = true) (hk : SL q P n W0 ((d, v) :: F) H L ops Q rest) :
    SL q P n W0 F H L ops Q (⟨some d, .move x, ty, pos, aft, none⟩ :: rest) := sx_p hd (op_move hx) hk
theorem sxg_move {x : Operand} {v : Value} (hx : opv F x = some v) {j dj : Nat} {want : Bool} (hj : (ops[j]?).bind (·.dst) = some dj) (hjv : fget F dj = some (.bool want)) (hd : Nat.blt d n = true) (hk : SL q P n W0 ((d, v) :: F) H L ops Q rest) :
    SL q P n W0 F H L ops Q (⟨some d, .move x, ty, pos, aft, some (j, want)⟩ :: rest) := sx_pg hj hjv hd (op_move hx) hk
theorem sx_assign {x : Operand} {v : Value} (hx : opv F x = some v) (hd : Nat.blt d n = true) (hk : SL q P n W0 ((d, v) :: F) H L ops Q rest) :
    SL q P n W0 F H L ops Q (⟨some d, .assign x, ty, pos, aft, none⟩ :: rest) := sx_p hd (op_assign hx) hk
theorem sxg_assign {x : Operand} {v : Value} (hx : opv F x = some v) {j dj : Nat} {want : Bool} (hj : (ops[j]?).bind (·.dst) = some dj) (hjv : fget F dj = some (.bool want)) (hd : Nat.blt d n = true) (hk : SL q P n W0 ((d, v) :: F) H L ops Q rest) :
    SL q P n W0 F H L ops Q (⟨some d, .assign x, ty, pos, aft, some (j, want)⟩ :: rest) := sx_pg hj hjv hd (op_assign hx) hk
theorem sx_pickT {c x y : Operand} {v : Value} (hc : opv F c = some (.bool true)) (hx : opv F x = some v) (hd : Nat.blt d n = true) (hk : SL q P n W0 ((d, v) :: F) H L ops Q rest) :
    SL q P n W0 F H L ops Q (⟨some d, .pick c x y, ty, pos, aft, none⟩ :: rest) := sx_p hd (op_pickT hc hx) hk
theorem sxg_pickT {c x y : Operand} {v : Value} (hc : opv F c = some (.bool true)) (hx : opv F x = some v) {j dj : Nat} {want : Bool} (hj : (ops[j]?).bind (·.dst) = some dj) (hjv : fget F dj = some (.bool want)) (hd : Nat.blt d n = true) (hk : SL q P n W0 ((d, v) :: F) H L ops Q rest) :
    SL q P n W0 F H L ops Q (⟨some d, .pick c x y, ty, pos, aft, some (j, want)⟩ :: rest) := sx_pg hj hjv hd (op_pickT hc hx) hk
theorem sx_pickF {c x y : Operand} {v : Value} (hc : opv F c = some (.bool false)) (hy : opv F y = some v) (hd : Nat.blt d n = true) (hk : SL q P n W0 ((d, v) :: F) H L ops Q rest) :
    SL q P n W0 F H L ops Q (⟨some d, .pick c x y, ty, pos, aft, none⟩ :: rest) := sx_p hd (op_pickF hc hy) hk
theorem sxg_pickF {c x y : Operand} {v : Value} (hc : opv F c = some (.bool false)) (hy : opv F y = some v) {j dj : Nat} {want : Bool} (hj : (ops[j]?).bind (·.dst) = some dj) (hjv : fget F dj = some (.bool want)) (hd : Nat.blt d n = true) (hk : SL q P n W0 ((d, v) :: F) H L ops Q rest) :
    SL q P n W0 F H L ops Q (⟨some d, .pick c x y, ty, pos, aft, some (j, want)⟩ :: rest) := sx_pg hj hjv hd (op_pickF hc hy) hk
theorem sx_nilCheck {x : Operand} {p : Addr} (hx : opv F x = some (.pointer (some p))) (hd : Nat.blt d n = true) (hk : SL q P n W0 ((d, (.pointer (some p))) :: F) H L ops Q rest) :
    SL q P n W0 F H L ops Q (⟨some d, .nilCheck x, ty, pos, aft, none⟩ :: rest) := sx_p hd (op_nilCheck hx) hk
theorem sxg_nilCheck {x : Operand} {p : Addr} (hx : opv F x = some (.pointer (some p))) {j dj : Nat} {want : Bool} (hj : (ops[j]?).bind (·.dst) = some dj) (hjv : fget F dj = some (.bool want)) (hd : Nat.blt d n = true) (hk : SL q P n W0 ((d, (.pointer (some p))) :: F) H L ops Q rest) :
    SL q P n W0 F H L ops Q (⟨some d, .nilCheck x, ty, pos, aft, some (j, want)⟩ :: rest) := sx_pg hj hjv hd (op_nilCheck hx) hk
theorem sx_fieldAddr {s : TypeId} {x : Operand} {f off fo : Nat} {ft : TypeId} {b : Nat} [hf : TFd P s f fo ft] (hx : opv F x = some (.pointer (some ⟨b, off, none⟩))) (hd : Nat.blt d n = true) (hk : SL q P n W0 ((d, (.pointer (some ⟨b, off + fo, none⟩))) :: F) H L ops Q rest) :
    SL q P n W0 F H L ops Q (⟨some d, .fieldAddr s x f, ty, pos, aft, none⟩ :: rest) := sx_p hd (op_fieldAddr hx) hk
theorem sxg_fieldAddr {s : TypeId} {x : Operand} {f off fo : Nat} {ft : TypeId} {b : Nat} [hf : TFd P s f fo ft] (hx : opv F x = some (.pointer (some ⟨b, off, none⟩))) {j dj : Nat} {want : Bool} (hj : (ops[j]?).bind (·.dst) = some dj) (hjv : fget F dj = some (.bool want)) (hd : Nat.blt d n = true) (hk : SL q P n W0 ((d, (.pointer (some ⟨b, off + fo, none⟩))) :: F) H L ops Q rest) :
    SL q P n W0 F H L ops Q (⟨some d, .fieldAddr s x f, ty, pos, aft, some (j, want)⟩ :: rest) := sx_pg hj hjv hd (op_fieldAddr hx) hk
theorem sx_load {t : TypeId} {x : Operand} {b off : Nat} {T : TypeId} {cs : List Value} {v : Value} {R : List HProp} [ht : TAgg P t false] (hx : opv F x = some (.pointer (some ⟨b, off, none⟩)))
    (hu : Has L (row b T cs) R) (hv : cs[off]? = some v) (hd : Nat.blt d n = true) (hk : SL q P n W0 ((d, v) :: F) H L ops Q rest) :
    SL q P n W0 F H L ops Q (⟨some d, .load t x, ty, pos, aft, none⟩ :: rest) := sx_p hd (op_load hx hu hv) hk
theorem sxg_load {t : TypeId} {x : Operand} {b off : Nat} {T : TypeId} {cs : List Value} {v : Value} {R : List HProp} [ht : TAgg P t false] (hx : opv F x = some (.pointer (some ⟨b, off, none⟩)))
    (hu : Has L (row b T cs) R) (hv : cs[off]? = some v) {j dj : Nat} {want : Bool} (hj : (ops[j]?).bind (·.dst) = some dj) (hjv : fget F dj = some (.bool want)) (hd : Nat.blt d n = true) (hk : SL q P n W0 ((d, v) :: F) H L ops Q rest) :
    SL q P n W0 F H L ops Q (⟨some d, .load t x, ty, pos, aft, some (j, want)⟩ :: rest) := sx_pg hj hjv hd (op_load hx hu hv) hk
theorem sx_loadH {t : TypeId} {x : Operand} {b off : Nat} {v : Value} [ht : TAgg P t false] (hx : opv F x = some (.pointer (some ⟨b, off, none⟩)))
    (hv : hcell H b off = some v) (hd : Nat.blt d n = true) (hk : SL q P n W0 ((d, v) :: F) H L ops Q rest) :
    SL q P n W0 F H L ops Q (⟨some d, .load t x, ty, pos, aft, none⟩ :: rest) := sx_p hd (op_loadH hx hv) hk
theorem sxg_loadH {t : TypeId} {x : Operand} {b off : Nat} {v : Value} [ht : TAgg P t false] (hx : opv F x = some (.pointer (some ⟨b, off, none⟩)))
    (hv : hcell H b off = some v) {j dj : Nat} {want : Bool} (hj : (ops[j]?).bind (·.dst) = some dj) (hjv : fget F dj = some (.bool want)) (hd : Nat.blt d n = true) (hk : SL q P n W0 ((d, v) :: F) H L ops Q rest) :
    SL q P n W0 F H L ops Q (⟨some d, .load t x, ty, pos, aft, some (j, want)⟩ :: rest) := sx_pg hj hjv hd (op_loadH hx hv) hk
theorem sx_loadN {t : TypeId} {x : Operand} {b off k : Nat} {T : TypeId} {cs vs : List Value} {R : List HProp} [ht : TAgg P t true] [hz : TSz P t k] (hx : opv F x = some (.pointer (some ⟨b, off, none⟩)))
    (hu : Has L (row b T cs) R) (hv : Pick cs off k vs) (hd : Nat.blt d n = true) (hk : SL q P n W0 ((d, (.agg vs.toArray)) :: F) H L ops Q rest) :
    SL q P n W0 F H L ops Q (⟨some d, .load t x, ty, pos, aft, none⟩ :: rest) := sx_p hd (op_loadN hx hu hv) hk
theorem sxg_loadN {t : TypeId} {x : Operand} {b off k : Nat} {T : TypeId} {cs vs : List Value} {R : List HProp} [ht : TAgg P t true] [hz : TSz P t k] (hx : opv F x = some (.pointer (some ⟨b, off, none⟩)))
    (hu : Has L (row b T cs) R) (hv : Pick cs off k vs) {j dj : Nat} {want : Bool} (hj : (ops[j]?).bind (·.dst) = some dj) (hjv : fget F dj = some (.bool want)) (hd : Nat.blt d n = true) (hk : SL q P n W0 ((d, (.agg vs.toArray)) :: F) H L ops Q rest) :
    SL q P n W0 F H L ops Q (⟨some d, .load t x, ty, pos, aft, some (j, want)⟩ :: rest) := sx_pg hj hjv hd (op_loadN hx hu hv) hk
theorem sx_loadNH {t : TypeId} {x : Operand} {b off k : Nat} {vs : List Value} [ht : TAgg P t true] [hz : TSz P t k] (hx : opv F x = some (.pointer (some ⟨b, off, none⟩)))
    (hv : HRow H b off vs) (hl : vs.length = k) (hd : Nat.blt d n = true) (hk : SL q P n W0 ((d, (.agg vs.toArray)) :: F) H L ops Q rest) :
    SL q P n W0 F H L ops Q (⟨some d, .load t x, ty, pos, aft, none⟩ :: rest) := sx_p hd (op_loadNH hx hv hl) hk
theorem sxg_loadNH {t : TypeId} {x : Operand} {b off k : Nat} {vs : List Value} [ht : TAgg P t true] [hz : TSz P t k] (hx : opv F x = some (.pointer (some ⟨b, off, none⟩)))
    (hv : HRow H b off vs) (hl : vs.length = k) {j dj : Nat} {want : Bool} (hj : (ops[j]?).bind (·.dst) = some dj) (hjv : fget F dj = some (.bool want)) (hd : Nat.blt d n = true) (hk : SL q P n W0 ((d, (.agg vs.toArray)) :: F) H L ops Q rest) :
    SL q P n W0 F H L ops Q (⟨some d, .load t x, ty, pos, aft, some (j, want)⟩ :: rest) := sx_pg hj hjv hd (op_loadNH hx hv hl) hk
theorem sx_add (hx : opv F x = some (.int .i64 a)) (hy : opv F y = some (.int .i64 b)) (hf : fits (a + b)) (hd : Nat.blt d n = true) (hk : SL q P n W0 ((d, (.int .i64 (a + b))) :: F) H L ops Q rest) :
    SL q P n W0 F H L ops Q (⟨some d, .binOp .add T x y T', ty, pos, aft, none⟩ :: rest) := sx_p hd (op_add hx hy hf) hk
theorem sxg_add (hx : opv F x = some (.int .i64 a)) (hy : opv F y = some (.int .i64 b)) (hf : fits (a + b)) {j dj : Nat} {want : Bool} (hj : (ops[j]?).bind (·.dst) = some dj) (hjv : fget F dj = some (.bool want)) (hd : Nat.blt d n = true) (hk : SL q P n W0 ((d, (.int .i64 (a + b))) :: F) H L ops Q rest) :
    SL q P n W0 F H L ops Q (⟨some d, .binOp .add T x y T', ty, pos, aft, some (j, want)⟩ :: rest) := sx_pg hj hjv hd (op_add hx hy hf) hk
theorem sx_sub (hx : opv F x = some (.int .i64 a)) (hy : opv F y = some (.int .i64 b)) (hf : fits (a - b)) (hd : Nat.blt d n = true) (hk : SL q P n W0 ((d, (.int .i64 (a - b))) :: F) H L ops Q rest) :
    SL q P n W0 F H L ops Q (⟨some d, .binOp .sub T x y T', ty, pos, aft, none⟩ :: rest) := sx_p hd (op_sub hx hy hf) hk
theorem sxg_sub (hx : opv F x = some (.int .i64 a)) (hy : opv F y = some (.int .i64 b)) (hf : fits (a - b)) {j dj : Nat} {want : Bool} (hj : (ops[j]?).bind (·.dst) = some dj) (hjv : fget F dj = some (.bool want)) (hd : Nat.blt d n = true) (hk : SL q P n W0 ((d, (.int .i64 (a - b))) :: F) H L ops Q rest) :
    SL q P n W0 F H L ops Q (⟨some d, .binOp .sub T x y T', ty, pos, aft, some (j, want)⟩ :: rest) := sx_pg hj hjv hd (op_sub hx hy hf) hk
theorem sx_mul (hx : opv F x = some (.int .i64 a)) (hy : opv F y = some (.int .i64 b)) (hf : fits (a * b)) (hd : Nat.blt d n = true) (hk : SL q P n W0 ((d, (.int .i64 (a * b))) :: F) H L ops Q rest) :
    SL q P n W0 F H L ops Q (⟨some d, .binOp .mul T x y T', ty, pos, aft, none⟩ :: rest) := sx_p hd (op_mul hx hy hf) hk
theorem sxg_mul (hx : opv F x = some (.int .i64 a)) (hy : opv F y = some (.int .i64 b)) (hf : fits (a * b)) {j dj : Nat} {want : Bool} (hj : (ops[j]?).bind (·.dst) = some dj) (hjv : fget F dj = some (.bool want)) (hd : Nat.blt d n = true) (hk : SL q P n W0 ((d, (.int .i64 (a * b))) :: F) H L ops Q rest) :
    SL q P n W0 F H L ops Q (⟨some d, .binOp .mul T x y T', ty, pos, aft, some (j, want)⟩ :: rest) := sx_pg hj hjv hd (op_mul hx hy hf) hk
theorem sx_addw (hx : opv F x = some (.int k a)) (hy : opv F y = some (.int k b)) (hd : Nat.blt d n = true) (hk : SL q P n W0 ((d, (.int k (k.wrap (a + b)))) :: F) H L ops Q rest) :
    SL q P n W0 F H L ops Q (⟨some d, .binOp .add T x y T', ty, pos, aft, none⟩ :: rest) := sx_p hd (op_addw hx hy) hk
theorem sxg_addw (hx : opv F x = some (.int k a)) (hy : opv F y = some (.int k b)) {j dj : Nat} {want : Bool} (hj : (ops[j]?).bind (·.dst) = some dj) (hjv : fget F dj = some (.bool want)) (hd : Nat.blt d n = true) (hk : SL q P n W0 ((d, (.int k (k.wrap (a + b)))) :: F) H L ops Q rest) :
    SL q P n W0 F H L ops Q (⟨some d, .binOp .add T x y T', ty, pos, aft, some (j, want)⟩ :: rest) := sx_pg hj hjv hd (op_addw hx hy) hk
theorem sx_subw (hx : opv F x = some (.int k a)) (hy : opv F y = some (.int k b)) (hd : Nat.blt d n = true) (hk : SL q P n W0 ((d, (.int k (k.wrap (a - b)))) :: F) H L ops Q rest) :
    SL q P n W0 F H L ops Q (⟨some d, .binOp .sub T x y T', ty, pos, aft, none⟩ :: rest) := sx_p hd (op_subw hx hy) hk
theorem sxg_subw (hx : opv F x = some (.int k a)) (hy : opv F y = some (.int k b)) {j dj : Nat} {want : Bool} (hj : (ops[j]?).bind (·.dst) = some dj) (hjv : fget F dj = some (.bool want)) (hd : Nat.blt d n = true) (hk : SL q P n W0 ((d, (.int k (k.wrap (a - b)))) :: F) H L ops Q rest) :
    SL q P n W0 F H L ops Q (⟨some d, .binOp .sub T x y T', ty, pos, aft, some (j, want)⟩ :: rest) := sx_pg hj hjv hd (op_subw hx hy) hk
theorem sx_mulw (hx : opv F x = some (.int k a)) (hy : opv F y = some (.int k b)) (hd : Nat.blt d n = true) (hk : SL q P n W0 ((d, (.int k (k.wrap (a * b)))) :: F) H L ops Q rest) :
    SL q P n W0 F H L ops Q (⟨some d, .binOp .mul T x y T', ty, pos, aft, none⟩ :: rest) := sx_p hd (op_mulw hx hy) hk
theorem sxg_mulw (hx : opv F x = some (.int k a)) (hy : opv F y = some (.int k b)) {j dj : Nat} {want : Bool} (hj : (ops[j]?).bind (·.dst) = some dj) (hjv : fget F dj = some (.bool want)) (hd : Nat.blt d n = true) (hk : SL q P n W0 ((d, (.int k (k.wrap (a * b)))) :: F) H L ops Q rest) :
    SL q P n W0 F H L ops Q (⟨some d, .binOp .mul T x y T', ty, pos, aft, some (j, want)⟩ :: rest) := sx_pg hj hjv hd (op_mulw hx hy) hk
theorem sx_quo (hx : opv F x = some (.int .i64 a)) (hy : opv F y = some (.int .i64 b)) (h0 : 0 < b) (hf : fits (a.tdiv b)) (hd : Nat.blt d n = true) (hk : SL q P n W0 ((d, (.int .i64 (a.tdiv b))) :: F) H L ops Q rest) :
    SL q P n W0 F H L ops Q (⟨some d, .binOp .quo T x y T', ty, pos, aft, none⟩ :: rest) := sx_p hd (op_quo hx hy h0 hf) hk
theorem sxg_quo (hx : opv F x = some (.int .i64 a)) (hy : opv F y = some (.int .i64 b)) (h0 : 0 < b) (hf : fits (a.tdiv b)) {j dj : Nat} {want : Bool} (hj : (ops[j]?).bind (·.dst) = some dj) (hjv : fget F dj = some (.bool want)) (hd : Nat.blt d n = true) (hk : SL q P n W0 ((d, (.int .i64 (a.tdiv b))) :: F) H L ops Q rest) :
    SL q P n W0 F H L ops Q (⟨some d, .binOp .quo T x y T', ty, pos, aft, some (j, want)⟩ :: rest) := sx_pg hj hjv hd (op_quo hx hy h0 hf) hk
theorem sx_rem (hx : opv F x = some (.int k a)) (hy : opv F y = some (.int k b)) (h0 : 0 < b) (hd : Nat.blt d n = true) (hk : SL q P n W0 ((d, (.int k (a.tmod b))) :: F) H L ops Q rest) :
    SL q P n W0 F H L ops Q (⟨some d, .binOp .rem T x y T', ty, pos, aft, none⟩ :: rest) := sx_p hd (op_rem hx hy h0) hk
theorem sxg_rem (hx : opv F x = some (.int k a)) (hy : opv F y = some (.int k b)) (h0 : 0 < b) {j dj : Nat} {want : Bool} (hj : (ops[j]?).bind (·.dst) = some dj) (hjv : fget F dj = some (.bool want)) (hd : Nat.blt d n = true) (hk : SL q P n W0 ((d, (.int k (a.tmod b))) :: F) H L ops Q rest) :
    SL q P n W0 F H L ops Q (⟨some d, .binOp .rem T x y T', ty, pos, aft, some (j, want)⟩ :: rest) := sx_pg hj hjv hd (op_rem hx hy h0) hk
theorem sx_eql (hx : opv F x = some (.int k a)) (hy : opv F y = some (.int k b)) (hd : Nat.blt d n = true) (hk : SL q P n W0 ((d, (.bool (decide (a = b)))) :: F) H L ops Q rest) :
    SL q P n W0 F H L ops Q (⟨some d, .binOp .eql T x y T', ty, pos, aft, none⟩ :: rest) := sx_p hd (op_eql hx hy) hk
theorem sxg_eql (hx : opv F x = some (.int k a)) (hy : opv F y = some (.int k b)) {j dj : Nat} {want : Bool} (hj : (ops[j]?).bind (·.dst) = some dj) (hjv : fget F dj = some (.bool want)) (hd : Nat.blt d n = true) (hk : SL q P n W0 ((d, (.bool (decide (a = b)))) :: F) H L ops Q rest) :
    SL q P n W0 F H L ops Q (⟨some d, .binOp .eql T x y T', ty, pos, aft, some (j, want)⟩ :: rest) := sx_pg hj hjv hd (op_eql hx hy) hk
theorem sx_neq (hx : opv F x = some (.int k a)) (hy : opv F y = some (.int k b)) (hd : Nat.blt d n = true) (hk : SL q P n W0 ((d, (.bool (!decide (a = b)))) :: F) H L ops Q rest) :
    SL q P n W0 F H L ops Q (⟨some d, .binOp .neq T x y T', ty, pos, aft, none⟩ :: rest) := sx_p hd (op_neq hx hy) hk
theorem sxg_neq (hx : opv F x = some (.int k a)) (hy : opv F y = some (.int k b)) {j dj : Nat} {want : Bool} (hj : (ops[j]?).bind (·.dst) = some dj) (hjv : fget F dj = some (.bool want)) (hd : Nat.blt d n = true) (hk : SL q P n W0 ((d, (.bool (!decide (a = b)))) :: F) H L ops Q rest) :
    SL q P n W0 F H L ops Q (⟨some d, .binOp .neq T x y T', ty, pos, aft, some (j, want)⟩ :: rest) := sx_pg hj hjv hd (op_neq hx hy) hk
theorem sx_lss (hx : opv F x = some (.int k a)) (hy : opv F y = some (.int k b)) (hd : Nat.blt d n = true) (hk : SL q P n W0 ((d, (.bool (decide (a < b)))) :: F) H L ops Q rest) :
    SL q P n W0 F H L ops Q (⟨some d, .binOp .lss T x y T', ty, pos, aft, none⟩ :: rest) := sx_p hd (op_lss hx hy) hk
theorem sxg_lss (hx : opv F x = some (.int k a)) (hy : opv F y = some (.int k b)) {j dj : Nat} {want : Bool} (hj : (ops[j]?).bind (·.dst) = some dj) (hjv : fget F dj = some (.bool want)) (hd : Nat.blt d n = true) (hk : SL q P n W0 ((d, (.bool (decide (a < b)))) :: F) H L ops Q rest) :
    SL q P n W0 F H L ops Q (⟨some d, .binOp .lss T x y T', ty, pos, aft, some (j, want)⟩ :: rest) := sx_pg hj hjv hd (op_lss hx hy) hk
theorem sx_leq (hx : opv F x = some (.int k a)) (hy : opv F y = some (.int k b)) (hd : Nat.blt d n = true) (hk : SL q P n W0 ((d, (.bool (decide (a ≤ b)))) :: F) H L ops Q rest) :
    SL q P n W0 F H L ops Q (⟨some d, .binOp .leq T x y T', ty, pos, aft, none⟩ :: rest) := sx_p hd (op_leq hx hy) hk
theorem sxg_leq (hx : opv F x = some (.int k a)) (hy : opv F y = some (.int k b)) {j dj : Nat} {want : Bool} (hj : (ops[j]?).bind (·.dst) = some dj) (hjv : fget F dj = some (.bool want)) (hd : Nat.blt d n = true) (hk : SL q P n W0 ((d, (.bool (decide (a ≤ b)))) :: F) H L ops Q rest) :
    SL q P n W0 F H L ops Q (⟨some d, .binOp .leq T x y T', ty, pos, aft, some (j, want)⟩ :: rest) := sx_pg hj hjv hd (op_leq hx hy) hk
theorem sx_gtr (hx : opv F x = some (.int k a)) (hy : opv F y = some (.int k b)) (hd : Nat.blt d n = true) (hk : SL q P n W0 ((d, (.bool (decide (b < a)))) :: F) H L ops Q rest) :
    SL q P n W0 F H L ops Q (⟨some d, .binOp .gtr T x y T', ty, pos, aft, none⟩ :: rest) := sx_p hd (op_gtr hx hy) hk
theorem sxg_gtr (hx : opv F x = some (.int k a)) (hy : opv F y = some (.int k b)) {j dj : Nat} {want : Bool} (hj : (ops[j]?).bind (·.dst) = some dj) (hjv : fget F dj = some (.bool want)) (hd : Nat.blt d n = true) (hk : SL q P n W0 ((d, (.bool (decide (b < a)))) :: F) H L ops Q rest) :
    SL q P n W0 F H L ops Q (⟨some d, .binOp .gtr T x y T', ty, pos, aft, some (j, want)⟩ :: rest) := sx_pg hj hjv hd (op_gtr hx hy) hk
theorem sx_geq (hx : opv F x = some (.int k a)) (hy : opv F y = some (.int k b)) (hd : Nat.blt d n = true) (hk : SL q P n W0 ((d, (.bool (decide (b ≤ a)))) :: F) H L ops Q rest) :
    SL q P n W0 F H L ops Q (⟨some d, .binOp .geq T x y T', ty, pos, aft, none⟩ :: rest) := sx_p hd (op_geq hx hy) hk
theorem sxg_geq (hx : opv F x = some (.int k a)) (hy : opv F y = some (.int k b)) {j dj : Nat} {want : Bool} (hj : (ops[j]?).bind (·.dst) = some dj) (hjv : fget F dj = some (.bool want)) (hd : Nat.blt d n = true) (hk : SL q P n W0 ((d, (.bool (decide (b ≤ a)))) :: F) H L ops Q rest) :
    SL q P n W0 F H L ops Q (⟨some d, .binOp .geq T x y T', ty, pos, aft, some (j, want)⟩ :: rest) := sx_pg hj hjv hd (op_geq hx hy) hk
theorem sx_neg (hx : opv F x = some (.int .i64 a)) (hf : fits (-a)) (hd : Nat.blt d n = true) (hk : SL q P n W0 ((d, (.int .i64 (-a))) :: F) H L ops Q rest) :
    SL q P n W0 F H L ops Q (⟨some d, .unOp .neg T x, ty, pos, aft, none⟩ :: rest) := sx_p hd (op_neg hx hf) hk
theorem sxg_neg (hx : opv F x = some (.int .i64 a)) (hf : fits (-a)) {j dj : Nat} {want : Bool} (hj : (ops[j]?).bind (·.dst) = some dj) (hjv : fget F dj = some (.bool want)) (hd : Nat.blt d n = true) (hk : SL q P n W0 ((d, (.int .i64 (-a))) :: F) H L ops Q rest) :
    SL q P n W0 F H L ops Q (⟨some d, .unOp .neg T x, ty, pos, aft, some (j, want)⟩ :: rest) := sx_pg hj hjv hd (op_neg hx hf) hk
theorem sx_not {c : Bool} (hx : opv F x = some (.bool c)) (hd : Nat.blt d n = true) (hk : SL q P n W0 ((d, (.bool !c)) :: F) H L ops Q rest) :
    SL q P n W0 F H L ops Q (⟨some d, .unOp .not T x, ty, pos, aft, none⟩ :: rest) := sx_p hd (op_not hx) hk
theorem sxg_not {c : Bool} (hx : opv F x = some (.bool c)) {j dj : Nat} {want : Bool} (hj : (ops[j]?).bind (·.dst) = some dj) (hjv : fget F dj = some (.bool want)) (hd : Nat.blt d n = true) (hk : SL q P n W0 ((d, (.bool !c)) :: F) H L ops Q rest) :
    SL q P n W0 F H L ops Q (⟨some d, .unOp .not T x, ty, pos, aft, some (j, want)⟩ :: rest) := sx_pg hj hjv hd (op_not hx) hk
theorem sx_eqlS {s t : ByteArray} (hx : opv F x = some (.string s)) (hy : opv F y = some (.string t)) (hd : Nat.blt d n = true) (hk : SL q P n W0 ((d, (.bool (decide (s = t)))) :: F) H L ops Q rest) :
    SL q P n W0 F H L ops Q (⟨some d, .binOp .eql T x y T', ty, pos, aft, none⟩ :: rest) := sx_p hd (op_eqlS hx hy) hk
theorem sxg_eqlS {s t : ByteArray} (hx : opv F x = some (.string s)) (hy : opv F y = some (.string t)) {j dj : Nat} {want : Bool} (hj : (ops[j]?).bind (·.dst) = some dj) (hjv : fget F dj = some (.bool want)) (hd : Nat.blt d n = true) (hk : SL q P n W0 ((d, (.bool (decide (s = t)))) :: F) H L ops Q rest) :
    SL q P n W0 F H L ops Q (⟨some d, .binOp .eql T x y T', ty, pos, aft, some (j, want)⟩ :: rest) := sx_pg hj hjv hd (op_eqlS hx hy) hk
theorem sx_neqS {s t : ByteArray} (hx : opv F x = some (.string s)) (hy : opv F y = some (.string t)) (hd : Nat.blt d n = true) (hk : SL q P n W0 ((d, (.bool (!decide (s = t)))) :: F) H L ops Q rest) :
    SL q P n W0 F H L ops Q (⟨some d, .binOp .neq T x y T', ty, pos, aft, none⟩ :: rest) := sx_p hd (op_neqS hx hy) hk
theorem sxg_neqS {s t : ByteArray} (hx : opv F x = some (.string s)) (hy : opv F y = some (.string t)) {j dj : Nat} {want : Bool} (hj : (ops[j]?).bind (·.dst) = some dj) (hjv : fget F dj = some (.bool want)) (hd : Nat.blt d n = true) (hk : SL q P n W0 ((d, (.bool (!decide (s = t)))) :: F) H L ops Q rest) :
    SL q P n W0 F H L ops Q (⟨some d, .binOp .neq T x y T', ty, pos, aft, some (j, want)⟩ :: rest) := sx_pg hj hjv hd (op_neqS hx hy) hk
theorem sx_lssS {s t : ByteArray} (hx : opv F x = some (.string s)) (hy : opv F y = some (.string t)) (hd : Nat.blt d n = true) (hk : SL q P n W0 ((d, (.bool (sless s t))) :: F) H L ops Q rest) :
    SL q P n W0 F H L ops Q (⟨some d, .binOp .lss T x y T', ty, pos, aft, none⟩ :: rest) := sx_p hd (op_lssS hx hy) hk
theorem sxg_lssS {s t : ByteArray} (hx : opv F x = some (.string s)) (hy : opv F y = some (.string t)) {j dj : Nat} {want : Bool} (hj : (ops[j]?).bind (·.dst) = some dj) (hjv : fget F dj = some (.bool want)) (hd : Nat.blt d n = true) (hk : SL q P n W0 ((d, (.bool (sless s t))) :: F) H L ops Q rest) :
    SL q P n W0 F H L ops Q (⟨some d, .binOp .lss T x y T', ty, pos, aft, some (j, want)⟩ :: rest) := sx_pg hj hjv hd (op_lssS hx hy) hk
theorem sx_leqS {s t : ByteArray} (hx : opv F x = some (.string s)) (hy : opv F y = some (.string t)) (hd : Nat.blt d n = true) (hk : SL q P n W0 ((d, (.bool (sless s t || decide (s = t)))) :: F) H L ops Q rest) :
    SL q P n W0 F H L ops Q (⟨some d, .binOp .leq T x y T', ty, pos, aft, none⟩ :: rest) := sx_p hd (op_leqS hx hy) hk
theorem sxg_leqS {s t : ByteArray} (hx : opv F x = some (.string s)) (hy : opv F y = some (.string t)) {j dj : Nat} {want : Bool} (hj : (ops[j]?).bind (·.dst) = some dj) (hjv : fget F dj = some (.bool want)) (hd : Nat.blt d n = true) (hk : SL q P n W0 ((d, (.bool (sless s t || decide (s = t)))) :: F) H L ops Q rest) :
    SL q P n W0 F H L ops Q (⟨some d, .binOp .leq T x y T', ty, pos, aft, some (j, want)⟩ :: rest) := sx_pg hj hjv hd (op_leqS hx hy) hk
theorem sx_gtrS {s t : ByteArray} (hx : opv F x = some (.string s)) (hy : opv F y = some (.string t)) (hd : Nat.blt d n = true) (hk : SL q P n W0 ((d, (.bool (!(sless s t || decide (s = t))))) :: F) H L ops Q rest) :
    SL q P n W0 F H L ops Q (⟨some d, .binOp .gtr T x y T', ty, pos, aft, none⟩ :: rest) := sx_p hd (op_gtrS hx hy) hk
theorem sxg_gtrS {s t : ByteArray} (hx : opv F x = some (.string s)) (hy : opv F y = some (.string t)) {j dj : Nat} {want : Bool} (hj : (ops[j]?).bind (·.dst) = some dj) (hjv : fget F dj = some (.bool want)) (hd : Nat.blt d n = true) (hk : SL q P n W0 ((d, (.bool (!(sless s t || decide (s = t))))) :: F) H L ops Q rest) :
    SL q P n W0 F H L ops Q (⟨some d, .binOp .gtr T x y T', ty, pos, aft, some (j, want)⟩ :: rest) := sx_pg hj hjv hd (op_gtrS hx hy) hk
theorem sx_geqS {s t : ByteArray} (hx : opv F x = some (.string s)) (hy : opv F y = some (.string t)) (hd : Nat.blt d n = true) (hk : SL q P n W0 ((d, (.bool (!(sless s t)))) :: F) H L ops Q rest) :
    SL q P n W0 F H L ops Q (⟨some d, .binOp .geq T x y T', ty, pos, aft, none⟩ :: rest) := sx_p hd (op_geqS hx hy) hk
theorem sxg_geqS {s t : ByteArray} (hx : opv F x = some (.string s)) (hy : opv F y = some (.string t)) {j dj : Nat} {want : Bool} (hj : (ops[j]?).bind (·.dst) = some dj) (hjv : fget F dj = some (.bool want)) (hd : Nat.blt d n = true) (hk : SL q P n W0 ((d, (.bool (!(sless s t)))) :: F) H L ops Q rest) :
    SL q P n W0 F H L ops Q (⟨some d, .binOp .geq T x y T', ty, pos, aft, some (j, want)⟩ :: rest) := sx_pg hj hjv hd (op_geqS hx hy) hk
theorem sx_convI [hd : TIt P T' .i64] [hs : TIt P T k] (hx : opv F x = some (.int k a)) (hf : fits a) (hd : Nat.blt d n = true) (hk : SL q P n W0 ((d, (.int .i64 a)) :: F) H L ops Q rest) :
    SL q P n W0 F H L ops Q (⟨some d, .convert T T' x, ty, pos, aft, none⟩ :: rest) := sx_p hd (op_convI hx hf) hk
theorem sxg_convI [hd : TIt P T' .i64] [hs : TIt P T k] (hx : opv F x = some (.int k a)) (hf : fits a) {j dj : Nat} {want : Bool} (hj : (ops[j]?).bind (·.dst) = some dj) (hjv : fget F dj = some (.bool want)) (hd : Nat.blt d n = true) (hk : SL q P n W0 ((d, (.int .i64 a)) :: F) H L ops Q rest) :
    SL q P n W0 F H L ops Q (⟨some d, .convert T T' x, ty, pos, aft, some (j, want)⟩ :: rest) := sx_pg hj hjv hd (op_convI hx hf) hk
theorem sx_conv {k' : IntKind} [hd : TIt P T' k'] [hs : TIt P T k] (hx : opv F x = some (.int k a)) (hd : Nat.blt d n = true) (hk : SL q P n W0 ((d, (.int k' (k'.wrap a))) :: F) H L ops Q rest) :
    SL q P n W0 F H L ops Q (⟨some d, .convert T T' x, ty, pos, aft, none⟩ :: rest) := sx_p hd (op_conv hx) hk
theorem sxg_conv {k' : IntKind} [hd : TIt P T' k'] [hs : TIt P T k] (hx : opv F x = some (.int k a)) {j dj : Nat} {want : Bool} (hj : (ops[j]?).bind (·.dst) = some dj) (hjv : fget F dj = some (.bool want)) (hd : Nat.blt d n = true) (hk : SL q P n W0 ((d, (.int k' (k'.wrap a))) :: F) H L ops Q rest) :
    SL q P n W0 F H L ops Q (⟨some d, .convert T T' x, ty, pos, aft, some (j, want)⟩ :: rest) := sx_pg hj hjv hd (op_conv hx) hk
theorem sx_len {base : Option Addr} {m c : Nat} {at_ : Array TypeId} [h : TSl P T e] (ha : at_ = #[T]) (hx : opv F x = some (.slice base m c)) (hd : Nat.blt d n = true) (hk : SL q P n W0 ((d, (.int .i64 m)) :: F) H L ops Q rest) :
    SL q P n W0 F H L ops Q (⟨some d, .call ⟨.builtin .len, #[x], at_⟩, ty, pos, aft, none⟩ :: rest) := sx_p hd (op_len ha hx) hk
theorem sxg_len {base : Option Addr} {m c : Nat} {at_ : Array TypeId} [h : TSl P T e] (ha : at_ = #[T]) (hx : opv F x = some (.slice base m c)) {j dj : Nat} {want : Bool} (hj : (ops[j]?).bind (·.dst) = some dj) (hjv : fget F dj = some (.bool want)) (hd : Nat.blt d n = true) (hk : SL q P n W0 ((d, (.int .i64 m)) :: F) H L ops Q rest) :
    SL q P n W0 F H L ops Q (⟨some d, .call ⟨.builtin .len, #[x], at_⟩, ty, pos, aft, some (j, want)⟩ :: rest) := sx_pg hj hjv hd (op_len ha hx) hk
theorem sx_lenS {s : ByteArray} {at_ : Array TypeId} [h : TSt P T] (ha : at_ = #[T]) (hx : opv F x = some (.string s)) (hd : Nat.blt d n = true) (hk : SL q P n W0 ((d, (.int .i64 s.size)) :: F) H L ops Q rest) :
    SL q P n W0 F H L ops Q (⟨some d, .call ⟨.builtin .len, #[x], at_⟩, ty, pos, aft, none⟩ :: rest) := sx_p hd (op_lenS ha hx) hk
theorem sxg_lenS {s : ByteArray} {at_ : Array TypeId} [h : TSt P T] (ha : at_ = #[T]) (hx : opv F x = some (.string s)) {j dj : Nat} {want : Bool} (hj : (ops[j]?).bind (·.dst) = some dj) (hjv : fget F dj = some (.bool want)) (hd : Nat.blt d n = true) (hk : SL q P n W0 ((d, (.int .i64 s.size)) :: F) H L ops Q rest) :
    SL q P n W0 F H L ops Q (⟨some d, .call ⟨.builtin .len, #[x], at_⟩, ty, pos, aft, some (j, want)⟩ :: rest) := sx_pg hj hjv hd (op_lenS ha hx) hk
theorem sx_indexAddr {b off m c sz : Nat} {i : Int} {k : IntKind} [h : TSl P T e] [hs : TSz P e sz] (hx : opv F x = some (.slice (some ⟨b, off, none⟩) m c)) (hy : opv F y = some (.int k i))
    (h0 : 0 ≤ i) (h1 : i < m) (hd : Nat.blt d n = true) (hk : SL q P n W0 ((d, (.pointer (some ⟨b, off + i.toNat * sz, none⟩))) :: F) H L ops Q rest) :
    SL q P n W0 F H L ops Q (⟨some d, .indexAddr T x y, ty, pos, aft, none⟩ :: rest) := sx_p hd (op_indexAddr hx hy h0 h1) hk
theorem sxg_indexAddr {b off m c sz : Nat} {i : Int} {k : IntKind} [h : TSl P T e] [hs : TSz P e sz] (hx : opv F x = some (.slice (some ⟨b, off, none⟩) m c)) (hy : opv F y = some (.int k i))
    (h0 : 0 ≤ i) (h1 : i < m) {j dj : Nat} {want : Bool} (hj : (ops[j]?).bind (·.dst) = some dj) (hjv : fget F dj = some (.bool want)) (hd : Nat.blt d n = true) (hk : SL q P n W0 ((d, (.pointer (some ⟨b, off + i.toNat * sz, none⟩))) :: F) H L ops Q rest) :
    SL q P n W0 F H L ops Q (⟨some d, .indexAddr T x y, ty, pos, aft, some (j, want)⟩ :: rest) := sx_pg hj hjv hd (op_indexAddr hx hy h0 h1) hk
theorem sx_indexS {s : ByteArray} {i : Nat} {u : UInt8} {k : IntKind} [h : TSt P T] (hx : opv F x = some (.string s)) (hy : opv F y = some (.int k i)) (hu : s[i]? = some u) (hd : Nat.blt d n = true) (hk : SL q P n W0 ((d, (.int .u8 u.toNat)) :: F) H L ops Q rest) :
    SL q P n W0 F H L ops Q (⟨some d, .index T x y, ty, pos, aft, none⟩ :: rest) := sx_p hd (op_indexS hx hy hu) hk
theorem sxg_indexS {s : ByteArray} {i : Nat} {u : UInt8} {k : IntKind} [h : TSt P T] (hx : opv F x = some (.string s)) (hy : opv F y = some (.int k i)) (hu : s[i]? = some u) {j dj : Nat} {want : Bool} (hj : (ops[j]?).bind (·.dst) = some dj) (hjv : fget F dj = some (.bool want)) (hd : Nat.blt d n = true) (hk : SL q P n W0 ((d, (.int .u8 u.toNat)) :: F) H L ops Q rest) :
    SL q P n W0 F H L ops Q (⟨some d, .index T x y, ty, pos, aft, some (j, want)⟩ :: rest) := sx_pg hj hjv hd (op_indexS hx hy hu) hk
theorem sx_extract {vs : Array Value} {i : Nat} {v : Value} (hx : opv F x = some (.tuple vs)) (hv : vs[i]? = some v) (hd : Nat.blt d n = true) (hk : SL q P n W0 ((d, v) :: F) H L ops Q rest) :
    SL q P n W0 F H L ops Q (⟨some d, .extract x i, ty, pos, aft, none⟩ :: rest) := sx_p hd (op_extract hx hv) hk
theorem sxg_extract {vs : Array Value} {i : Nat} {v : Value} (hx : opv F x = some (.tuple vs)) (hv : vs[i]? = some v) {j dj : Nat} {want : Bool} (hj : (ops[j]?).bind (·.dst) = some dj) (hjv : fget F dj = some (.bool want)) (hd : Nat.blt d n = true) (hk : SL q P n W0 ((d, v) :: F) H L ops Q rest) :
    SL q P n W0 F H L ops Q (⟨some d, .extract x i, ty, pos, aft, some (j, want)⟩ :: rest) := sx_pg hj hjv hd (op_extract hx hv) hk
end
end
end Go.Sx
