/- The engine: the walk's rules with their side conditions found by themselves; what stands behind as a list of frames. No program in sight. -/
import Derived.Test.YtafhinjggdknjaaDoorPSx10
set_option linter.unusedVariables false
set_option linter.unusedSimpArgs false
namespace Go.Sx
open Go Go.X
def readsOp : Op → Bool
  | .move _ | .assign _ | .pick .. | .load .. | .nilCheck _ | .binOp .. | .unOp .. | .convert .. | .slice .. | .fieldAddr .. | .field .. | .indexAddr .. | .index .. | .extract .. | .lookup .. | .call ⟨.builtin .len, _, _⟩ => true
  | _ => false
theorem le_self {H : Heap} : Heap.le H H ↔ True := ⟨fun _ => trivial, fun _ => .refl _⟩
def opvs (F : Slots) : List Operand → Option (List Value)
  | [] => some []
  | x :: r => match opv F x with
    | none => none
    | some v => match opvs F r with
      | none => none
      | some vs => some (v :: vs)
theorem opvs_args {F : Slots} : ∀ {l : List Operand} {vs : List Value}, opvs F l = some vs → Args F l vs
  | [], vs, h => by cases h; exact .nil
  | x :: r, vs, h => by
    simp only [opvs] at h
    split at h
    · cases h
    · next v hv =>
      split at h
      · cases h
      · next us hu => cases h; exact .cons hv (opvs_args hu)
theorem opvs1 {F : Slots} {x : Operand} {v : Value} (h : opvs F [x] = some [v]) : opv F x = some v := by
  cases opvs_args h with | cons h _ => exact h
theorem opvs2 {F : Slots} {x y : Operand} {v u : Value} (h : opvs F [x, y] = some [v, u]) : opv F x = some v ∧ opv F y = some u := by
  cases opvs_args h with | cons h h' => cases h' with | cons h' _ => exact ⟨h, h'⟩
theorem opvs3 {F : Slots} {x y z : Operand} {v u t : Value} (h : opvs F [x, y, z] = some [v, u, t]) : opv F x = some v ∧ opv F y = some u ∧ opv F z = some t := by
  cases opvs_args h with | cons h h' => cases h' with | cons h' h'' => cases h'' with | cons h'' _ => exact ⟨h, h', h''⟩
theorem OpP.cast {P : Program} {n : NF} {F : Slots} {H : Heap} {L : List HProp} {o : Oper} {v v' : Value} (h : OpP P n o F H L v) (e : v = v') : OpP P n o F H L v' := e ▸ h
def opsOf : Op → List Operand
  | .move x => [x]
  | .assign x => [x]
  | .nilCheck x => [x]
  | .fieldAddr _ x _ => [x]
  | .unOp _ _ x => [x]
  | .convert _ _ x => [x]
  | .pick c a b => [c, a, b]
  | .binOp _ _ x y _ => [x, y]
  | .indexAddr _ x y => [x, y]
  | .index _ x y => [x, y]
  | .field _ x _ => [x]
  | .slice _ x none none none => [x]
  | .slice _ x (some l) none none => [x, l]
  | .slice _ x none (some h) none => [x, h]
  | .slice _ x (some l) (some h) none => [x, l, h]
  | .slice _ x (some l) (some h) (some m) => [x, l, h, m]
  | .call c => c.args.toList
  | .makeFunc _ _ c => c.toList
  | _ => []
class POp (P : Program) (op : Op) (vs : List Value) (side : outParam Prop) (v : outParam Value) : Prop where
  run : ∀ {n : NF} {F : Slots} {H : Heap} {L : List HProp} {dst : Option Tmp} {ty : TypeId} {pos : String} {aft : Array Edge} {g : Option (Nat × Bool)}, side → opvs F (opsOf op) = some vs → OpP P n ⟨dst, op, ty, pos, aft, g⟩ F H L v
class BOp (P : Program) (op : Op) (vs : List Value) (p : outParam Prop) (dp : outParam (Decidable p)) : Prop where
  run : ∀ {n : NF} {F : Slots} {H : Heap} {L : List HProp} {dst : Option Tmp} {ty : TypeId} {pos : String} {aft : Array Edge} {g : Option (Nat × Bool)}, opvs F (opsOf op) = some vs → OpP P n ⟨dst, op, ty, pos, aft, g⟩ F H L (.bool (@decide p dp))
class NatOf (i : Int) (j : outParam Nat) : Prop where
  h : i = (j : Int)
instance {k : Nat} : NatOf (k : Int) k := ⟨rfl⟩
section
variable {P : Program} {x y z c : Operand} {v u : Value} {T T' e : TypeId} {k : IntKind} {a b : Int}
instance : POp P (.move x) [v] True v := ⟨fun _ h => op_move (opvs1 h)⟩
instance : POp P (.assign x) [v] True v := ⟨fun _ h => op_assign (opvs1 h)⟩
instance {p : Addr} : POp P (.nilCheck x) [.pointer (some p)] True (.pointer (some p)) := ⟨fun _ h => op_nilCheck (opvs1 h)⟩
instance {s : TypeId} {f off fo : Nat} {ft : TypeId} {b : Nat} [TFd P s f fo ft] : POp P (.fieldAddr s x f) [.pointer (some ⟨b, off, none⟩)] True (.pointer (some ⟨b, off + fo, none⟩)) := ⟨fun _ h => op_fieldAddr (opvs1 h)⟩
instance {s : TypeId} {f fo : Nat} {ft : TypeId} {b : Nat} [TFd P s f fo ft] : POp P (.fieldAddr s x f) [.pointer (some ⟨b, 0, none⟩)] True (.pointer (some ⟨b, fo, none⟩)) := ⟨fun _ h => by
  exact (op_fieldAddr (opvs1 h)).cast (by simp)⟩
instance {v' : Value} : POp P (.pick c x y) [.bool true, v, v'] True v := ⟨fun _ h => op_pickT (opvs3 h).1 (opvs3 h).2.1⟩
instance {v' : Value} : POp P (.pick c x y) [.bool false, v, v'] True v' := ⟨fun _ h => op_pickF (opvs3 h).1 (opvs3 h).2.2⟩
instance : POp P (.binOp .add T x y T') [.int .i64 a, .int .i64 b] (fits (a + b)) (.int .i64 (a + b)) := ⟨fun s h => op_add (opvs2 h).1 (opvs2 h).2 s⟩
instance : POp P (.binOp .sub T x y T') [.int .i64 a, .int .i64 b] (fits (a - b)) (.int .i64 (a - b)) := ⟨fun s h => op_sub (opvs2 h).1 (opvs2 h).2 s⟩
instance : POp P (.binOp .mul T x y T') [.int .i64 a, .int .i64 b] (fits (a * b)) (.int .i64 (a * b)) := ⟨fun s h => op_mul (opvs2 h).1 (opvs2 h).2 s⟩
instance (priority := low) : POp P (.binOp .add T x y T') [.int k a, .int k b] True (.int k (k.wrap (a + b))) := ⟨fun s h => op_addw (opvs2 h).1 (opvs2 h).2⟩
instance (priority := low) : POp P (.binOp .mul T x y T') [.int k a, .int k b] True (.int k (k.wrap (a * b))) := ⟨fun s h => op_mulw (opvs2 h).1 (opvs2 h).2⟩
instance : POp P (.binOp .quo T x y T') [.int .i64 a, .int .i64 b] (0 < b ∧ fits (a.tdiv b)) (.int .i64 (a.tdiv b)) := ⟨fun s h => op_quo (opvs2 h).1 (opvs2 h).2 s.1 s.2⟩
instance : POp P (.binOp .rem T x y T') [.int k a, .int k b] (0 < b) (.int k (a.tmod b)) := ⟨fun s h => op_rem (opvs2 h).1 (opvs2 h).2 s⟩
instance : POp P (.unOp .neg T x) [.int .i64 a] (fits (-a)) (.int .i64 (-a)) := ⟨fun s h => op_neg (opvs1 h) s⟩
instance : POp P (.unOp .not T x) [.bool true] True (.bool false) := ⟨fun s h => op_not (opvs1 h)⟩
instance : POp P (.unOp .not T x) [.bool false] True (.bool true) := ⟨fun s h => op_not (opvs1 h)⟩
instance [TIt P T k] [TIt P T' .i64] : POp P (.convert T T' x) [.int k a] (fits a) (.int .i64 a) := ⟨fun s h => op_convI (opvs1 h) s⟩
instance (priority := low) {k' : IntKind} [TIt P T k] [TIt P T' k'] : POp P (.convert T T' x) [.int k a] True (.int k' (k'.wrap a)) := ⟨fun s h => op_conv (opvs1 h)⟩
instance {base : Option Addr} {m c : Nat} [TSl P T e] : POp P (.call ⟨.builtin .len, #[x], #[T]⟩) [.slice base m c] True (.int .i64 m) := ⟨fun s h => op_len rfl (opvs1 h)⟩
theorem min_if {a b : Int} : min a b = if b < a then b else a := by rw [Int.min_def]; split <;> split <;> omega
theorem max_if {a b : Int} : max a b = if a < b then b else a := by rw [Int.max_def]; split <;> split <;> omega
instance {ts : Array TypeId} : POp P (.call ⟨.builtin .min, #[x, y], ts⟩) [.int k a, .int k b] True (.int k (min a b)) := ⟨fun _ h => op_min (opvs2 h).1 (opvs2 h).2 min_if⟩
instance {ts : Array TypeId} : POp P (.call ⟨.builtin .max, #[x, y], ts⟩) [.int k a, .int k b] True (.int k (max a b)) := ⟨fun _ h => op_max (opvs2 h).1 (opvs2 h).2 max_if⟩
instance {b off m c sz j : Nat} {i : Int} [TSl P T e] [TSz P e sz] [hi : NatOf i j] : POp P (.indexAddr T x y) [.slice (some ⟨b, off, none⟩) m c, .int k i] (j < m) (.pointer (some ⟨b, off + j * sz, none⟩)) := ⟨fun s h => by
  obtain ⟨rfl⟩ := hi; exact op_indexAddr (opvs2 h).1 (opvs2 h).2 (by omega) (by omega)⟩
instance {base : Option Addr} {m cap sz j : Nat} {i : Int} [TSl P T e] [TSz P e sz] [hi : NatOf i j] : POp P (.slice T x none (some y) none) [.slice base m cap, .int k i] (j ≤ cap) (.slice base j cap) := ⟨fun s h => by
  obtain ⟨rfl⟩ := hi; exact op_sliceTo (opvs2 h).1 (opvs2 h).2 (by omega) (by omega)⟩
instance {b off m cap sz j : Nat} {i : Int} [TSl P T e] [TSz P e sz] [hi : NatOf i j] : POp P (.slice T x (some y) none none) [.slice (some ⟨b, off, none⟩) m cap, .int k i] (j ≤ m ∧ m ≤ cap ∧ j < cap) (.slice (some ⟨b, off + j * sz, none⟩) (m - j) (cap - j)) := ⟨fun s h => by
  obtain ⟨rfl⟩ := hi; exact op_sliceFrom (opvs2 h).1 (opvs2 h).2 (by omega) (by omega) s.2.1 (by omega)⟩
instance (priority := low) {b off m c sz : Nat} {i : Int} [TSl P T e] [TSz P e sz] : POp P (.indexAddr T x y) [.slice (some ⟨b, off, none⟩) m c, .int k i] (0 ≤ i ∧ i < m) (.pointer (some ⟨b, off + i.toNat * sz, none⟩)) := ⟨fun s h => op_indexAddr (opvs2 h).1 (opvs2 h).2 s.1 s.2⟩
instance (priority := low) {base : Option Addr} {m cap sz : Nat} {i : Int} [TSl P T e] [TSz P e sz] : POp P (.slice T x none (some y) none) [.slice base m cap, .int k i] (0 ≤ i ∧ i ≤ cap) (.slice base i.toNat cap) := ⟨fun s h => op_sliceTo (opvs2 h).1 (opvs2 h).2 s.1 s.2⟩
instance {f : FuncId} {l : Array Operand} {vs : List Value} : POp P (.makeFunc (.func f) #[] l) vs True (.func (.func f) #[] vs.toArray) := ⟨fun _ h => by
  have := opvs_args h
  rw [show l = l.toList.toArray by simp]; exact op_makeFunc this⟩
instance : BOp P (.binOp .eql T x y T') [.int k a, .int k b] (a = b) inferInstance := ⟨fun h => op_eql (opvs2 h).1 (opvs2 h).2⟩
instance : BOp P (.binOp .neq T x y T') [.int k a, .int k b] (¬ a = b) inferInstance := ⟨fun h => (op_neq (opvs2 h).1 (opvs2 h).2).cast (by simp)⟩
instance : BOp P (.binOp .lss T x y T') [.int k a, .int k b] (a < b) inferInstance := ⟨fun h => op_lss (opvs2 h).1 (opvs2 h).2⟩
instance : BOp P (.binOp .leq T x y T') [.int k a, .int k b] (a ≤ b) inferInstance := ⟨fun h => op_leq (opvs2 h).1 (opvs2 h).2⟩
instance : BOp P (.binOp .gtr T x y T') [.int k a, .int k b] (b < a) inferInstance := ⟨fun h => op_gtr (opvs2 h).1 (opvs2 h).2⟩
instance : BOp P (.binOp .geq T x y T') [.int k a, .int k b] (b ≤ a) inferInstance := ⟨fun h => op_geq (opvs2 h).1 (opvs2 h).2⟩
def SLt (s t : ByteArray) : Prop := sless s t = true
instance {s t : ByteArray} : Decidable (SLt s t) := inferInstanceAs (Decidable (sless s t = true))
instance {p : Prop} {dp : Decidable p} : BOp P (.unOp .not T x) [.bool (@decide p dp)] (¬ p) inferInstance := ⟨fun h => (op_not (opvs1 h)).cast (by simp)⟩
instance [TPt P T] {p : Addr} : POp P (.binOp .eql T x y T') [.pointer (some p), .pointer none] True (.bool false) := ⟨fun _ h => op_eqlPtr (opvs2 h).1 (opvs2 h).2⟩
instance [TSl P T e] {base : Option Addr} {m c : Nat} : BOp P (.binOp .eql T x y T') [.slice base m c, .slice none 0 0] (base = none) inferInstance := ⟨fun h => (op_eqlNil (opvs2 h).1 (opvs2 h).2).cast (by cases base <;> simp)⟩
end
inductive Fr
  | seq (c : Code)
  | blk (id : Nat)
  | cut (K : Act → GW → Prop)
def Kx (P : Program) (Q : Exit → Act → GW → Prop) : List Fr → Exit → Act → GW → Prop
  | [] => Q
  | .seq c :: k => thenX (c.wpV P (Kx P Q k)) (Kx P Q k)
  | .blk id :: k => inBlockX id (Kx P Q k)
  | .cut K :: k => thenX K (Kx P Q k)
section
variable (P : Program) (n : NF) (W0 : GW) (Q : Exit → Act → GW → Prop) (F : Slots) (H : Heap) (L : List HProp)
structure Ex (c : Code) (k : List Fr) : Prop where
  run : Sat n W0 F H L (c.wpV P (Kx P Q k))
structure Ops (q : Bool) (ops : Array Oper) (rest : List Oper) (k : List Fr) : Prop where
  run : SL q P n W0 F H L ops (Kx P Q k) rest
structure Out (e : Exit) (k : List Fr) : Prop where
  run : Sat n W0 F H L (Kx P Q k e)
end
def gval (ops : Array Oper) (F : Slots) : Option (Nat × Bool) → Option (Option (Value × Bool))
  | none => some none
  | some (j, w) => match (ops[j]?).bind (·.dst) with
    | none => none
    | some t => match fget F t with
      | some v => some (some (v, w))
      | none => none
class GOk (g : Option (Value × Bool)) (b : Bool) : Prop where
  h : match g with | none => b = true | some (v, w) => if b then v = .bool w else gno v w = true
instance : GOk none true := ⟨rfl⟩
instance : GOk (some (.bool true, true)) true := ⟨rfl⟩
instance : GOk (some (.bool false, false)) true := ⟨rfl⟩
instance : GOk (some (.bool true, false)) false := ⟨rfl⟩
instance : GOk (some (.bool false, true)) false := ⟨rfl⟩
def layC : List Value → Nat → List Value → Option (List Value)
  | cs, 0, [] => some cs
  | _ :: cs, 0, v :: vs => match layC cs 0 vs with | some us => some (v :: us) | none => none
  | c :: cs, off + 1, vs => match layC cs off vs with | some us => some (c :: us) | none => none
  | [], _, _ => none
theorem layC_lay : ∀ {cs : List Value} {off : Nat} {vs us : List Value}, layC cs off vs = some us → Lay cs off vs us
  | cs, 0, [], us, h => by simp [layC] at h; subst h; exact .done
  | c :: cs, 0, v :: vs, us, h => by
    simp only [layC] at h
    split at h
    · next us hu => cases h; exact .more (layC_lay hu)
    · cases h
  | c :: cs, off + 1, vs, us, h => by
    simp only [layC] at h
    split at h
    · next us hu => cases h; exact .skip (layC_lay hu)
    · cases h
  | [], 0, v :: vs, us, h => by simp [layC] at h
  | [], off + 1, vs, us, h => by simp [layC] at h
def cellsL : Value → List Value
  | .agg a => a.toList
  | v => [v]
theorem cellsL_eq (v : Value) : v.cells = (cellsL v).toArray := by cases v <;> simp [cellsL, Value.cells]
section
variable {q : Bool} {P : Program} {n : NF} {W0 : GW} {Q : Exit → Act → GW → Prop} {F : Slots} {H : Heap} {L : List HProp} {ops : Array Oper} {rest : List Oper} {k : List Fr} {op : Op} {ty : TypeId} {pos : String} {aft : Array Edge} {d : Tmp} {g : Option (Nat × Bool)} {v : Value} {vs : List Value}
theorem gval_spec {j : Nat} {w b : Bool} {gv : Option (Value × Bool)} (h : gval ops F (some (j, w)) = some gv) [hb : GOk gv b] : ∃ dj u, (ops[j]?).bind (·.dst) = some dj ∧ fget F dj = some u ∧ (b = true → u = .bool w) ∧ (b = false → gno u w = true) := by
  simp only [gval] at h
  split at h
  · cases h
  · next dj hj =>
    refine ⟨dj, ?_⟩
    split at h
    · next c hc =>
      cases h
      refine ⟨_, hj, hc, ?_⟩
      have := hb.h
      cases b <;> simp_all
    · cases h
theorem ops_pure {gv : Option (Value × Bool)} (hg : gval ops F g = some gv) [hb : GOk gv true] (hd : Nat.blt d n = true) (h : OpP P n ⟨some d, op, ty, pos, aft, g⟩ F H L v) (hk : Ops P n W0 Q ((d, v) :: F) H L q ops rest k) :
    Ops P n W0 Q F H L q ops (⟨some d, op, ty, pos, aft, g⟩ :: rest) k := by
  cases g with
  | none => exact ⟨sx_p hd h hk.run⟩
  | some jw =>
    obtain ⟨j, w⟩ := jw
    obtain ⟨dj, u, hj, hu, hw, _⟩ := gval_spec (b := true) hg
    rw [hw rfl] at hu
    exact ⟨sx_pg hj hu hd h hk.run⟩
theorem ops_w {gv : Option (Value × Bool)} (hg : gval ops F g = some gv) [hb : GOk gv true] (hd : Nat.blt d n = true) (h : OpW P n W0 ⟨some d, op, ty, pos, aft, g⟩ F H L (fun v H' L' => Ops P n W0 Q ((d, v) :: F) H' L' false ops rest k)) :
    Ops P n W0 Q F H L false ops (⟨some d, op, ty, pos, aft, g⟩ :: rest) k := by
  cases g with
  | none => exact ⟨sx_some hd (h.mono fun _ _ _ _ h => h.run)⟩
  | some jw =>
    obtain ⟨j, w⟩ := jw
    obtain ⟨dj, u, hj, hu, hw, _⟩ := gval_spec (b := true) hg
    rw [hw rfl] at hu
    exact ⟨sx_guard hj hu hd (h.mono fun _ _ _ _ h => h.run)⟩
theorem ops_n (h : OpW P n W0 ⟨none, op, ty, pos, aft, none⟩ F H L (fun v H' L' => Ops P n W0 Q F H' L' false ops rest k)) :
    Ops P n W0 Q F H L false ops (⟨none, op, ty, pos, aft, none⟩ :: rest) k := ⟨sx_none (h.mono fun _ _ _ _ h => h.run)⟩
theorem ops_p {side : Prop} {gv : Option (Value × Bool)} (hg : gval ops F g = some gv) [hb : GOk gv true] (hv : opvs F (opsOf op) = some vs) [hp : POp P op vs side v]
    (hk : Ops P n W0 Q ((d, v) :: F) H L q ops rest k) (hs : side := by first | exact True.intro | omega | assumption | (unfold Go.Sx.fits; omega) | (refine ⟨?_, ?_⟩ <;> (try unfold Go.Sx.fits) <;> omega)) (hd : Nat.blt d n = true := by rfl) : Ops P n W0 Q F H L q ops (⟨some d, op, ty, pos, aft, g⟩ :: rest) k :=
  ops_pure hg hd (hp.run hs hv) hk
theorem ops_T {p : Prop} {dp : Decidable p} {gv : Option (Value × Bool)} (hg : gval ops F g = some gv) [hb : GOk gv true] (hv : opvs F (opsOf op) = some vs) [hp : BOp P op vs p dp]
    (hk : Ops P n W0 Q ((d, .bool true) :: F) H L q ops rest k) (hs : p := by first | assumption | omega) (hd : Nat.blt d n = true := by rfl) : Ops P n W0 Q F H L q ops (⟨some d, op, ty, pos, aft, g⟩ :: rest) k :=
  ops_pure hg hd ((hp.run hv).cast (by simp [hs])) hk
theorem ops_F {p : Prop} {dp : Decidable p} {gv : Option (Value × Bool)} (hg : gval ops F g = some gv) [hb : GOk gv true] (hv : opvs F (opsOf op) = some vs) [hp : BOp P op vs p dp]
    (hk : Ops P n W0 Q ((d, .bool false) :: F) H L q ops rest k) (hs : ¬ p := by first | assumption | omega) (hd : Nat.blt d n = true := by rfl) : Ops P n W0 Q F H L q ops (⟨some d, op, ty, pos, aft, g⟩ :: rest) k :=
  ops_pure hg hd ((hp.run hv).cast (by simp [hs])) hk
theorem ops_B {p : Prop} {dp : Decidable p} {gv : Option (Value × Bool)} (hg : gval ops F g = some gv) [hb : GOk gv true] (hv : opvs F (opsOf op) = some vs) [hp : BOp P op vs p dp]
    (hk : Ops P n W0 Q ((d, .bool (@decide p dp)) :: F) H L q ops rest k) (hd : Nat.blt d n = true := by rfl) : Ops P n W0 Q F H L q ops (⟨some d, op, ty, pos, aft, g⟩ :: rest) k :=
  ops_pure hg hd (hp.run hv) hk
def fillC (F : Slots) (pl : List (Nat × Nat)) : List (Nat × Operand) → List Value → Option (List Value)
  | [], zs => some zs
  | (i, x) :: r, zs => match pl[i]? with
    | none => none
    | some (off, k) => match opv F x with
      | none => none
      | some v => match Nat.beq (cellsL v).length k with
        | false => none
        | true => match layC zs off (cellsL v) with
          | none => none
          | some us => fillC F pl r us
theorem fillC_fill {F : Slots} {pl : List (Nat × Nat)} : ∀ {ps : List (Nat × Operand)} {zs cs : List Value}, fillC F pl ps zs = some cs → FillR F pl ps zs cs
  | [], zs, cs, h => by simp [fillC] at h; subst h; exact .nil
  | (i, x) :: r, zs, cs, h => by
    simp only [fillC] at h
    split at h
    · cases h
    · next off k hp =>
      split at h
      · cases h
      · next v hv =>
        split at h
        · cases h
        · next hk =>
          split at h
          · cases h
          · next us hu => exact .cons hp hv (cellsL_eq v) (by simpa using hk) (layC_lay hu) (fillC_fill h)
theorem ops_bld {t : TypeId} {pl : List (Nat × Nat)} {ps : List (Nat × Operand)} {zs cs : List Value} [hT : TPl P t pl] [hZ : TZL P t zs] {gv : Option (Value × Bool)} (hg : gval ops F g = some gv) [hb : GOk gv true] (hf : fillC F pl ps zs = some cs) (hk : Ops P n W0 Q ((d, .agg cs.toArray) :: F) H L q ops rest k) (hd : Nat.blt d n = true := by rfl) :
    Ops P n W0 Q F H L q ops (⟨some d, .build t ps.toArray, ty, pos, aft, g⟩ :: rest) k := ops_pure hg hd (op_build (fillC_fill hf)) hk
theorem ops_skip {gv : Option (Value × Bool)} (hg : gval ops F g = some gv) [hb : GOk gv false] (hk : Ops P n W0 Q ((d, undef) :: F) H L q ops rest k) (hd : Nat.blt d n = true := by rfl) : Ops P n W0 Q F H L q ops (⟨some d, op, ty, pos, aft, g⟩ :: rest) k := by
  cases g with
  | none => cases hg; exact absurd hb.h (by simp)
  | some jw =>
    obtain ⟨j, w⟩ := jw
    obtain ⟨dj, u, hj, hu, _, hw⟩ := gval_spec (b := false) hg
    exact ⟨sx_skip hj hu (hw rfl) hd hk.run⟩
theorem ops_ext {x : Operand} {us : Array Value} {i : Nat} {gv : Option (Value × Bool)} (hg : gval ops F g = some gv) [hb : GOk gv true] (hx : opv F x = some (.tuple us)) (hi : us.toList[i]? = some v) (hk : Ops P n W0 Q ((d, v) :: F) H L q ops rest k) (hd : Nat.blt d n = true := by rfl) :
    Ops P n W0 Q F H L q ops (⟨some d, .extract x i, ty, pos, aft, g⟩ :: rest) k := ops_pure hg hd (op_extract hx (by simpa using hi)) hk
class HasRow (L : List HProp) (b : Nat) (T : outParam TypeId) (cs : outParam (List Value)) (R : outParam (List HProp)) : Prop where
  has : Has L (row b T cs) R
instance {b T : Nat} {cs : List Value} {R : List HProp} : HasRow (row b T cs :: R) b T cs R := ⟨.here⟩
instance {A : HProp} {b T : Nat} {cs : List Value} {R R' : List HProp} [h : HasRow R b T cs R'] : HasRow (A :: R) b T cs (A :: R') := ⟨.there h.has⟩
instance {b T : Nat} {cs : List Value} {L R : List HProp} [h : HasRow L b T cs R] : HasRow ([] ++ L) b T cs R := ⟨h.has⟩
instance {A : HProp} {b T : Nat} {cs : List Value} {B L R : List HProp} [h : HasRow (A :: (B ++ L)) b T cs R] : HasRow ((A :: B) ++ L) b T cs R := ⟨h.has⟩
theorem ops_ld {x : Operand} {t : TypeId} {b off T : Nat} {cs : List Value} {R : List HProp} [TAgg P t false] {gv : Option (Value × Bool)} (hg : gval ops F g = some gv) [hb : GOk gv true] (hx : opv F x = some (.pointer (some ⟨b, off, none⟩))) [h : HasRow L b T cs R] (hc : cs[off]? = some v)
    (hk : Ops P n W0 Q ((d, v) :: F) H L q ops rest k) (hd : Nat.blt d n = true := by rfl) : Ops P n W0 Q F H L q ops (⟨some d, .load t x, ty, pos, aft, g⟩ :: rest) k :=
  ops_pure hg hd (op_load hx h.has hc) hk
def pickC : List Value → Nat → Nat → Option (List Value)
  | _, 0, 0 => some []
  | c :: cs, 0, k + 1 => match pickC cs 0 k with | some vs => some (c :: vs) | none => none
  | _ :: cs, off + 1, k => pickC cs off k
  | [], _, _ => none
theorem pickC_pick : ∀ {cs : List Value} {off k : Nat} {vs : List Value}, pickC cs off k = some vs → Pick cs off k vs
  | _, 0, 0, vs, h => by simp [pickC] at h; subst h; exact .done
  | c :: cs, 0, k + 1, vs, h => by
    simp only [pickC] at h
    split at h
    · next us hu => cases h; exact .more (pickC_pick hu)
    · cases h
  | _ :: cs, off + 1, k, vs, h => by simp only [pickC] at h; exact .skip (pickC_pick h)
  | [], 0, k + 1, vs, h => by simp [pickC] at h
  | [], off + 1, k, vs, h => by simp [pickC] at h
theorem ops_ldN {x : Operand} {t : TypeId} {b off T m : Nat} {cs us : List Value} {R : List HProp} [TAgg P t true] [TSz P t m] {gv : Option (Value × Bool)} (hg : gval ops F g = some gv) [hb : GOk gv true] (hx : opv F x = some (.pointer (some ⟨b, off, none⟩))) [h : HasRow L b T cs R] (hc : pickC cs off m = some us)
    (hk : Ops P n W0 Q ((d, .agg us.toArray) :: F) H L q ops rest k) (hd : Nat.blt d n = true := by rfl) : Ops P n W0 Q F H L q ops (⟨some d, .load t x, ty, pos, aft, g⟩ :: rest) k :=
  ops_pure hg hd (op_loadN hx h.has (pickC_pick hc)) hk
theorem hrow_cell {b off o : Nat} {cs : List Value} (h : HRow H b off cs) (i : Nat) (ho : off + i = o) (hc : cs[i]? = some v) : hcell H b o = some v := ho ▸ h i v hc
theorem ops_ldH {x : Operand} {t : TypeId} {b off o i : Nat} {cs : List Value} [TAgg P t false] {gv : Option (Value × Bool)} (hg : gval ops F g = some gv) [hb : GOk gv true] (hx : opv F x = some (.pointer (some ⟨b, o, none⟩))) (h : HRow H b off cs) (ho : o = off + i) (hc : cs[i]? = some v)
    (hk : Ops P n W0 Q ((d, v) :: F) H L q ops rest k) (hd : Nat.blt d n = true := by rfl) : Ops P n W0 Q F H L q ops (⟨some d, .load t x, ty, pos, aft, g⟩ :: rest) k :=
  ops_pure hg hd (op_loadH hx (hrow_cell h i ho.symm hc)) hk
theorem ops_ldH0 {x : Operand} {t : TypeId} {b off : Nat} {cs : List Value} [TAgg P t false] {gv : Option (Value × Bool)} (hg : gval ops F g = some gv) [hb : GOk gv true] (hx : opv F x = some (.pointer (some ⟨b, off, none⟩))) (h : HRow H b off cs) (hc : cs[0]? = some v)
    (hk : Ops P n W0 Q ((d, v) :: F) H L q ops rest k) (hd : Nat.blt d n = true := by rfl) : Ops P n W0 Q F H L q ops (⟨some d, .load t x, ty, pos, aft, g⟩ :: rest) k :=
  ops_pure hg hd (op_loadH hx (hrow_cell h 0 rfl hc)) hk
theorem ops_ldNH {x : Operand} {t : TypeId} {b off m : Nat} {cs : List Value} [TAgg P t true] [TSz P t m] {gv : Option (Value × Bool)} (hg : gval ops F g = some gv) [hb : GOk gv true] (hx : opv F x = some (.pointer (some ⟨b, off, none⟩))) (h : HRow H b off cs) (hl : cs.length = m)
    (hk : Ops P n W0 Q ((d, .agg cs.toArray) :: F) H L q ops rest k) (hd : Nat.blt d n = true := by rfl) : Ops P n W0 Q F H L q ops (⟨some d, .load t x, ty, pos, aft, g⟩ :: rest) k :=
  ops_pure hg hd (op_loadNH hx h hl) hk
class PutRow (L : List HProp) (b : Nat) (cs' : List Value) (T : outParam TypeId) (cs : outParam (List Value)) (L' : outParam (List HProp)) : Prop where
  up : Upd L (row b T cs) (row b T cs') L'
instance {b T : Nat} {cs cs' : List Value} {R : List HProp} : PutRow (row b T cs :: R) b cs' T cs (row b T cs' :: R) := ⟨.here⟩
instance {A : HProp} {b T : Nat} {cs cs' : List Value} {R R' : List HProp} [h : PutRow R b cs' T cs R'] : PutRow (A :: R) b cs' T cs (A :: R') := ⟨.there h.up⟩
instance {b T : Nat} {cs cs' : List Value} {L R : List HProp} [h : PutRow L b cs' T cs R] : PutRow ([] ++ L) b cs' T cs R := ⟨h.up⟩
instance {A : HProp} {b T : Nat} {cs cs' : List Value} {B L R : List HProp} [h : PutRow (A :: (B ++ L)) b cs' T cs R] : PutRow ((A :: B) ++ L) b cs' T cs R := ⟨h.up⟩
class CellsI (v : Value) (us : outParam (List Value)) : Prop where
  h : v.cells = us.toArray
instance {l : List Value} : CellsI (.agg l.toArray) l := ⟨rfl⟩
instance {k : IntKind} {n : Int} : CellsI (.int k n) [.int k n] := ⟨rfl⟩
instance {b : Bool} : CellsI (.bool b) [.bool b] := ⟨rfl⟩
instance {p : Option Addr} : CellsI (.pointer p) [.pointer p] := ⟨rfl⟩
instance {p : Option Addr} {m c : Nat} : CellsI (.slice p m c) [.slice p m c] := ⟨rfl⟩
theorem ops_st {x y : Operand} {t : TypeId} {b off T m : Nat} {cs us cs' : List Value} {R L' : List HProp} [TSz P t m] (hv : opvs F [x, y] = some [.pointer (some ⟨b, off, none⟩), v]) [h : HasRow L b T cs R] [hu : CellsI v us] (hc : layC cs off us = some cs') [hL : PutRow L b cs' T cs L']
    (h1 : us.all (·.oneCell') = true) (hl : us.length = m)
    (hk : Ops P n W0 Q F H L' false ops rest k) : Ops P n W0 Q F H L false ops (⟨none, .store t x y, ty, pos, aft, none⟩ :: rest) k :=
  ops_n (op_store (opvs2 hv).1 (opvs2 hv).2 hu.h hl h1 hL.up (layC_lay hc) hk)
theorem ops_box {x : Operand} {T : TypeId} {us : List Value} {gv : Option (Value × Bool)} (hg : gval ops F g = some gv) [hb : GOk gv true] (hx : opv F x = some v) [hu : CellsI v us] (hk : ∀ b, H b = none → Ops P n W0 Q ((d, .pointer (some ⟨b, 0, none⟩)) :: F) H (row b T us :: L) false ops rest k)
    (hd : Nat.blt d n = true := by rfl) : Ops P n W0 Q F H L false ops (⟨some d, .box T x, ty, pos, aft, g⟩ :: rest) k :=
  ops_w hg hd (op_box hx hu.h hk)
theorem ops_alloc {T : TypeId} {us : List Value} [TZL P T us] {gv : Option (Value × Bool)} (hg : gval ops F g = some gv) [hb : GOk gv true] (hk : ∀ b, H b = none → Ops P n W0 Q ((d, .pointer (some ⟨b, 0, none⟩)) :: F) H (row b T us :: L) false ops rest k)
    (hd : Nat.blt d n = true := by rfl) : Ops P n W0 Q F H L false ops (⟨some d, .alloc T, ty, pos, aft, g⟩ :: rest) k :=
  ops_w hg hd (op_alloc hk)
theorem ops_nil (h : Out P n W0 Q F H L .normal k) : Ops P n W0 Q F H L q ops [] k := ⟨sx_nil h.run⟩
theorem ops_call {f : FuncId} {l : List Operand} {ts : Array TypeId} {A R : List HProp} {Post : Value → Heap → List HProp → Prop} [TFn P f] {gv : Option (Value × Bool)} (hg : gval ops F g = some gv) [hb : GOk gv true] (ha : opvs F l = some vs) (hs : Ct P f vs.toArray W0 H A Post)
    (hk : ∀ r H' B, H.le H' → Post r H' B → Ops P n W0 Q ((d, r) :: F) H' (B ++ R) false ops rest k) (ht : Take L A R := by repeat (first | exact Go.Sx.Take.nil | (apply Go.Sx.Take.cons; focus (repeat (first | exact Go.Sx.Has.here | apply Go.Sx.Has.there)))))
    (hd : Nat.blt d n = true := by rfl) : Ops P n W0 Q F H L false ops (⟨some d, .call ⟨.value (.func f), l.toArray, ts⟩, ty, pos, aft, g⟩ :: rest) k :=
  ops_w hg hd (op_call (opvs_args ha) hs ht hk)
theorem ex_seq {x y : Code} (h : Ex P n W0 Q F H L x (.seq y :: k)) : Ex P n W0 Q F H L (.seq x y) k := ⟨fun a w hF hS => wpV_seq (h.run a w hF hS)⟩
theorem ex_reg {id : Nat} {l : List Oper} (h : Ops P n W0 Q F H L false l.toArray l k) : Ex P n W0 Q F H L (.region id l.toArray false) k := ⟨cx_region h.run⟩
theorem ex_quiet [TMix P] {id : Nat} {l : List Oper} (hok : flowOk l.toArray = true) (h : Ops P n W0 Q F H L true l.toArray l k) : Ex P n W0 Q F H L (.region id l.toArray true) k := ⟨cx_quiet hok h.run⟩
theorem ex_quietW [TMix P] {id : Nat} {l : List Oper} (hok : (flowOk l.toArray && l.all fun o => readsOp o.op) = true) (h : Ops P n W0 Q F H L true l.toArray l k) : Ex P n W0 Q F H L (.region id l.toArray true) k := ex_quiet (by simp only [Bool.and_eq_true] at hok; exact hok.1) h
theorem ex_skip (h : Out P n W0 Q F H L .normal k) : Ex P n W0 Q F H L .skip k := ⟨cx_skip h.run⟩
theorem ex_ret (h : Out P n W0 Q F H L .ret k) : Ex P n W0 Q F H L .ret k := ⟨cx_ret h.run⟩
theorem ex_exit {id : Nat} (h : Out P n W0 Q F H L (.exit id) k) : Ex P n W0 Q F H L (.exit id) k := ⟨cx_exit h.run⟩
theorem ex_blk {id : Nat} {c : Code} (h : Ex P n W0 Q F H L c (.blk id :: k)) : Ex P n W0 Q F H L (.block id c) k := ⟨cx_block h.run⟩
class IsT (v : Value) (b : outParam Bool) : Prop where
  h : v = .bool b
instance : IsT (.bool true) true := ⟨rfl⟩
instance : IsT (.bool false) false := ⟨rfl⟩
def sel (b : Bool) (x y : Code) : Code := match b with | true => x | false => y
theorem ex_c {c : Operand} {x y : Code} {b : Bool} (hc : opv F c = some v) [hb : IsT v b] (h : Ex P n W0 Q F H L (sel b x y) k) : Ex P n W0 Q F H L (.cond c x y) k := by
  obtain ⟨rfl⟩ := hb
  cases b <;> exact ⟨cx_cond hc (fun e => by cases e <;> exact h.run) (fun e => by cases e <;> exact h.run)⟩
theorem ex_sT {x y : Code} (h : Ex P n W0 Q F H L x k) : Ex P n W0 Q F H L (sel true x y) k := h
theorem ex_sF {x y : Code} (h : Ex P n W0 Q F H L y k) : Ex P n W0 Q F H L (sel false x y) k := h
theorem ex_if {c : Operand} {x y : Code} {p : Prop} {dp : Decidable p} (hc : opv F c = some (.bool (@decide p dp))) (ht : p → Ex P n W0 Q F H L x k) (hf : ¬ p → Ex P n W0 Q F H L y k) : Ex P n W0 Q F H L (.cond c x y) k :=
  ⟨cx_cond hc (fun e => (ht (by simpa using e)).run) (fun e => (hf (by simpa using e)).run)⟩
theorem out_seq {c : Code} (h : Ex P n W0 Q F H L c k) : Out P n W0 Q F H L .normal (.seq c :: k) := ⟨h.run⟩
theorem out_blk {id : Nat} (h : Out P n W0 Q F H L .normal k) : Out P n W0 Q F H L .normal (.blk id :: k) := ⟨h.run⟩
theorem out_rseq {c : Code} (h : Out P n W0 Q F H L .ret k) : Out P n W0 Q F H L .ret (.seq c :: k) := ⟨h.run⟩
theorem out_rblk {id : Nat} (h : Out P n W0 Q F H L .ret k) : Out P n W0 Q F H L .ret (.blk id :: k) := ⟨h.run⟩
theorem out_rcut {K : Act → GW → Prop} (h : Out P n W0 Q F H L .ret k) : Out P n W0 Q F H L .ret (.cut K :: k) := ⟨h.run⟩
theorem out_eseq {id : Nat} {c : Code} (h : Out P n W0 Q F H L (.exit id) k) : Out P n W0 Q F H L (.exit id) (.seq c :: k) := ⟨h.run⟩
theorem out_ecut {id : Nat} {K : Act → GW → Prop} (h : Out P n W0 Q F H L (.exit id) k) : Out P n W0 Q F H L (.exit id) (.cut K :: k) := ⟨h.run⟩
theorem out_eblk {id : Nat} (h : Out P n W0 Q F H L .normal k) : Out P n W0 Q F H L (.exit id) (.blk id :: k) := ⟨q_bexit h.run⟩
theorem out_epass {id id' : Nat} (hne : Nat.beq id' id = false) (h : Out P n W0 Q F H L (.exit id') k) : Out P n W0 Q F H L (.exit id') (.blk id :: k) := ⟨q_bpass hne h.run⟩
theorem ex_loop {c : Code} {σ : Type} (I : σ → Prop) (mF : σ → Slots) (mH : σ → Heap) (mL : σ → List HProp) (μ : σ → Nat) (s0 : σ) (h0 : I s0)
    (round : ∀ s, I s → ∀ K : Act → GW → Prop, (∀ s', I s' → μ s' < μ s → Sat n W0 (mF s') (mH s') (mL s') K) → Ex P n W0 Q (mF s) (mH s) (mL s) c (.cut K :: k))
    (hs0 : Sub L (mL s0) := by (try dsimp only); (repeat (first | exact Go.Sx.Sub.refl _ | exact Go.Sx.Sub.nil _ | (apply Go.Sx.sub_pick; (repeat (first | exact Go.Sx.Has.here | apply Go.Sx.Has.there)); skip) | apply Go.Sx.Sub.drop)))
    (hf0 : fsub (mF s0) F := by (try dsimp only); repeat (first | exact Go.Sx.fsub_nil _ | refine Go.Sx.fsub_cons rfl ?_)) (hh0 : mH s0 = H := by rfl) :
    Ex P n W0 Q F H L (.loop c) k := ⟨cx_loop I mF mH mL μ s0 h0 hs0 hf0 hh0 fun s hs K hK => (round s hs K hK).run⟩
theorem out_next {σ : Type} {I : σ → Prop} {mF : σ → Slots} {mH : σ → Heap} {mL : σ → List HProp} {μ : σ → Nat} {s : σ} {K : Act → GW → Prop} (hL : ∀ s', I s' → μ s' < μ s → Sat n W0 (mF s') (mH s') (mL s') K) (s' : σ) (hI : I s') (hμ : μ s' < μ s := by (try dsimp only); omega)
    (hs : Sub L (mL s') := by (try dsimp only); (repeat (first | exact Go.Sx.Sub.refl _ | exact Go.Sx.Sub.nil _ | (apply Go.Sx.sub_pick; (repeat (first | exact Go.Sx.Has.here | apply Go.Sx.Has.there)); skip) | apply Go.Sx.Sub.drop)))
    (hf : fsub (mF s') F := by (try dsimp only); repeat (first | exact Go.Sx.fsub_nil _ | refine Go.Sx.fsub_cons rfl ?_)) (hh : mH s' = H := by rfl) : Out P n W0 Q F H L .normal (.cut K :: k) := by
  subst hh; exact ⟨(hL s' hI hμ).sub hs hf⟩
theorem out_to {σ : Type} {I : σ → Prop} {mF : σ → Slots} {mH : σ → Heap} {mL : σ → List HProp} {K : Act → GW → Prop} (hL : ∀ s', I s' → Sat n W0 (mF s') (mH s') (mL s') K) (s' : σ) (hI : I s')
    (hs : Sub L (mL s') := by (try dsimp only); (repeat (first | exact Go.Sx.Sub.refl _ | exact Go.Sx.Sub.nil _ | (apply Go.Sx.sub_pick; (repeat (first | exact Go.Sx.Has.here | apply Go.Sx.Has.there)); skip) | apply Go.Sx.Sub.drop)))
    (hf : fsub (mF s') F := by (try dsimp only); repeat (first | exact Go.Sx.fsub_nil _ | refine Go.Sx.fsub_cons rfl ?_)) (hh : mH s' = H := by rfl) : Out P n W0 Q F H L .normal (.cut K :: k) := by
  subst hh; exact ⟨(hL s' hI).sub hs hf⟩
end
class TBody (P : Program) (f : FuncId) (fn : outParam Func) (c : outParam Code) (n : outParam Nat) : Prop where
  get : P.funcs[f]? = some fn
  body : fn.body = some c
  ntmps : fn.ntmps = n
def parF : Nat → List Value → Slots
  | _, [] => []
  | i, v :: vs => (i, v) :: parF (i + 1) vs
theorem parF_params : ∀ (i : Nat) (vs : List Value), Params i vs (parF i vs)
  | _, [] => .nil
  | i, _ :: vs => .cons (parF_params (i + 1) vs)
section
variable {P : Program} {n : NF} {W0 : GW} {F : Slots} {H H0 : Heap} {L : List HProp} {Q : Exit → Act → GW → Prop}
theorem Ct.go {n : Nat} {f : FuncId} {fn : Func} {c : Code} {vs : List Value} {A : List HProp} {Post : Value → Heap → List HProp → Prop} [hb : TBody P f fn c n]
    (h : ∀ R, Ex P ⟨n, []⟩ W0 (bodyPostV P fn (RetOk W0 H Post R)) (parF 0 vs) H (A ++ R) c []) (hl : Nat.ble vs.length n = true := by rfl) : Ct P f vs.toArray W0 H A Post :=
  Ct.of_body hb.get hb.body hb.ntmps rfl (parF_params 0 vs) hl fun R => (h R).run
theorem tup_one {v : Value} : tup [v] = v := rfl
theorem tup_many {u v : Value} {r : List Value} : tup (u :: v :: r) = .tuple (u :: v :: r).toArray := rfl
theorem fin0 {fn : Func} {Post : Value → Heap → List HProp → Prop} {R : List HProp} {rs : List ResultVar} {vs : List Value} {v : Value} (hp : Post v H []) (hfn : fn.results = rs.toArray := by rfl)
    (hr : ResR P F L rs vs := by repeat (first | exact Go.Sx.ResR.nil | (apply Go.Sx.ResR.tmp; (exact rfl)) | (apply Go.Sx.ResR.cell1; (exact inferInstance); (exact rfl); (repeat (first | exact Go.Sx.Has.here | apply Go.Sx.Has.there)); (exact rfl)) | (apply Go.Sx.ResR.cellN; (exact inferInstance); (exact inferInstance); (exact rfl); (repeat (first | exact Go.Sx.Has.here | apply Go.Sx.Has.there)); (exact Go.Sx.pickC_pick rfl))))
    (hv : tup vs = v := by first | exact Go.Sx.tup_one | exact Go.Sx.tup_many | rfl) (hl : H0.le H := by first | exact Go.Sx.Heap.le.refl _ | assumption | ((try simp only [Go.Sx.le_self] at *); (repeat (first | exact Go.Sx.Heap.le.refl _ | assumption | refine Go.Sx.Heap.le.trans ?_ ‹Go.Sx.Heap.le _ _›))))
    (hs : Sub L R := by (try dsimp only [List.nil_append, List.cons_append, List.append_nil]); (repeat (first | exact Go.Sx.Sub.refl _ | exact Go.Sx.Sub.nil _ | (apply Go.Sx.sub_pick; (repeat (first | exact Go.Sx.Has.here | apply Go.Sx.Has.there)); skip) | apply Go.Sx.Sub.drop))) (hD : n.D = [] := by rfl) :
    Out P n W0 (bodyPostV P fn (RetOk W0 H0 Post R)) F H L .ret [] := ⟨ret_ret (B := []) hfn hr hv hl hp hs hD⟩
theorem finB {fn : Func} {Post : Value → Heap → List HProp → Prop} {R : List HProp} {rs : List ResultVar} {vs : List Value} {v : Value} (B : List HProp) (hp : Post v H B) (hfn : fn.results = rs.toArray := by rfl)
    (hr : ResR P F L rs vs := by repeat (first | exact Go.Sx.ResR.nil | (apply Go.Sx.ResR.tmp; (exact rfl)) | (apply Go.Sx.ResR.cell1; (exact inferInstance); (exact rfl); (repeat (first | exact Go.Sx.Has.here | apply Go.Sx.Has.there)); (exact rfl)) | (apply Go.Sx.ResR.cellN; (exact inferInstance); (exact inferInstance); (exact rfl); (repeat (first | exact Go.Sx.Has.here | apply Go.Sx.Has.there)); (exact Go.Sx.pickC_pick rfl))))
    (hv : tup vs = v := by first | exact Go.Sx.tup_one | exact Go.Sx.tup_many | rfl) (hl : H0.le H := by first | exact Go.Sx.Heap.le.refl _ | assumption | ((try simp only [Go.Sx.le_self] at *); (repeat (first | exact Go.Sx.Heap.le.refl _ | assumption | refine Go.Sx.Heap.le.trans ?_ ‹Go.Sx.Heap.le _ _›))))
    (hs : Sub L (B ++ R) := by (try dsimp only [List.nil_append, List.cons_append, List.append_nil]); (repeat (first | exact Go.Sx.Sub.refl _ | exact Go.Sx.Sub.nil _ | (apply Go.Sx.sub_pick; (repeat (first | exact Go.Sx.Has.here | apply Go.Sx.Has.there)); skip) | apply Go.Sx.Sub.drop))) (hD : n.D = [] := by rfl) :
    Out P n W0 (bodyPostV P fn (RetOk W0 H0 Post R)) F H L .ret [] := ⟨ret_ret hfn hr hv hl hp hs hD⟩
theorem endn0 {fn : Func} {Post : Value → Heap → List HProp → Prop} {R : List HProp} {rs : List ResultVar} {vs : List Value} {v : Value} (hp : Post v H []) (hfn : fn.results = rs.toArray := by rfl)
    (hr : ResR P F L rs vs := by repeat (first | exact Go.Sx.ResR.nil | (apply Go.Sx.ResR.tmp; (exact rfl)) | (apply Go.Sx.ResR.cell1; (exact inferInstance); (exact rfl); (repeat (first | exact Go.Sx.Has.here | apply Go.Sx.Has.there)); (exact rfl)) | (apply Go.Sx.ResR.cellN; (exact inferInstance); (exact inferInstance); (exact rfl); (repeat (first | exact Go.Sx.Has.here | apply Go.Sx.Has.there)); (exact Go.Sx.pickC_pick rfl))))
    (hv : tup vs = v := by first | exact Go.Sx.tup_one | exact Go.Sx.tup_many | rfl) (hl : H0.le H := by first | exact Go.Sx.Heap.le.refl _ | assumption | ((try simp only [Go.Sx.le_self] at *); (repeat (first | exact Go.Sx.Heap.le.refl _ | assumption | refine Go.Sx.Heap.le.trans ?_ ‹Go.Sx.Heap.le _ _›))))
    (hs : Sub L R := by (try dsimp only [List.nil_append, List.cons_append, List.append_nil]); (repeat (first | exact Go.Sx.Sub.refl _ | exact Go.Sx.Sub.nil _ | (apply Go.Sx.sub_pick; (repeat (first | exact Go.Sx.Has.here | apply Go.Sx.Has.there)); skip) | apply Go.Sx.Sub.drop))) (hD : n.D = [] := by rfl) :
    Out P n W0 (bodyPostV P fn (RetOk W0 H0 Post R)) F H L .normal [] := ⟨ret_end (B := []) hfn hr hv hl hp hs hD⟩
theorem endnB {fn : Func} {Post : Value → Heap → List HProp → Prop} {R : List HProp} {rs : List ResultVar} {vs : List Value} {v : Value} (B : List HProp) (hp : Post v H B) (hfn : fn.results = rs.toArray := by rfl)
    (hr : ResR P F L rs vs := by repeat (first | exact Go.Sx.ResR.nil | (apply Go.Sx.ResR.tmp; (exact rfl)) | (apply Go.Sx.ResR.cell1; (exact inferInstance); (exact rfl); (repeat (first | exact Go.Sx.Has.here | apply Go.Sx.Has.there)); (exact rfl)) | (apply Go.Sx.ResR.cellN; (exact inferInstance); (exact inferInstance); (exact rfl); (repeat (first | exact Go.Sx.Has.here | apply Go.Sx.Has.there)); (exact Go.Sx.pickC_pick rfl))))
    (hv : tup vs = v := by first | exact Go.Sx.tup_one | exact Go.Sx.tup_many | rfl) (hl : H0.le H := by first | exact Go.Sx.Heap.le.refl _ | assumption | ((try simp only [Go.Sx.le_self] at *); (repeat (first | exact Go.Sx.Heap.le.refl _ | assumption | refine Go.Sx.Heap.le.trans ?_ ‹Go.Sx.Heap.le _ _›))))
    (hs : Sub L (B ++ R) := by (try dsimp only [List.nil_append, List.cons_append, List.append_nil]); (repeat (first | exact Go.Sx.Sub.refl _ | exact Go.Sx.Sub.nil _ | (apply Go.Sx.sub_pick; (repeat (first | exact Go.Sx.Has.here | apply Go.Sx.Has.there)); skip) | apply Go.Sx.Sub.drop))) (hD : n.D = [] := by rfl) :
    Out P n W0 (bodyPostV P fn (RetOk W0 H0 Post R)) F H L .normal [] := ⟨ret_end hfn hr hv hl hp hs hD⟩
end
class R1 {α : Type} (R : Rd α) (val : outParam (α → Value)) (ok : outParam (α → Prop)) : Prop where
  h : ∀ {H : Heap} {c : List Value} {x : α}, R H c x → c = [val x] ∧ ok x
instance : R1 rInt (fun x => .int .i64 x) fits := ⟨fun h => h⟩
instance : R1 rStr (fun x => .string x) (fun x => x.size ≤ cap47) := ⟨fun h => h⟩
section
variable {q : Bool} {P : Program} {n : NF} {W0 : GW} {Q : Exit → Act → GW → Prop} {F : Slots} {H : Heap} {L : List HProp} {ops : Array Oper} {rest : List Oper} {k : List Fr} {op : Op} {ty ty' : TypeId} {pos pos' : String} {aft aft' : Array Edge} {d d' : Tmp} {g g' : Option (Nat × Bool)} {v : Value} {vs : List Value}
theorem ops_ixp {α : Type} {R : Rd α} {sz : Nat} {T e : TypeId} {x y : Operand} {xs : List α} {i : Int} {j : Nat} {kd : IntKind} {gv : Option (Value × Bool)} [hR : RdOk R sz] [TSl P T e] [TSz P e sz] (hg : gval ops F g = some gv) [hb : GOk gv true] (hv : opvs F [x, y] = some [v, .int kd i]) [hi : NatOf i j]
    (hs : SlR R sz H v xs) (hj : j < xs.length) (hk : ∀ b off c, HRow H b off c → R H c (xs[j]'hj) → Ops P n W0 Q ((d, .pointer (some ⟨b, off, none⟩)) :: F) H L q ops rest k) (hd : Nat.blt d n = true := by rfl) :
    Ops P n W0 Q F H L q ops (⟨some d, .indexAddr T x y, ty, pos, aft, g⟩ :: rest) k := by
  obtain ⟨rfl⟩ := hi
  obtain ⟨base, cap, rfl, h1, h2⟩ := hs.shape
  obtain ⟨b, off, c, rfl, h3, h4, h5⟩ := hs.get hj
  exact ops_pure hg hd (op_indexAddr (opvs2 hv).1 (opvs2 hv).2 (by omega) (by omega)) (hk b _ c h4 h5)
theorem fsub_new {F : Slots} {d d' : Tmp} {u v : Value} (h : fget F d = none) : fsub ((d', v) :: F) ((d', v) :: (d, u) :: F) := fun t w ht => by
  rw [fget_cons] at ht ⊢
  split at ht
  · rename_i e; rw [if_pos e]; exact ht
  · rename_i e
    rw [if_neg e, fget_cons]
    split
    · rename_i e'; subst e'; rw [h] at ht; cases ht
    · exact ht
theorem gval_new {ops : Array Oper} {F : Slots} {g : Option (Nat × Bool)} {gv : Option (Value × Bool)} {d : Tmp} {u : Value} (h : fget F d = none) (hg : gval ops F g = some gv) : gval ops ((d, u) :: F) g = some gv := by
  cases g with
  | none => exact hg
  | some jw =>
    obtain ⟨j, w⟩ := jw
    simp only [gval] at hg ⊢
    split at hg
    · cases hg
    · next dj hj =>
      split at hg
      · next c hc =>
        have : fget ((d, u) :: F) dj = some c := by
          rw [fget_cons]; split
          · rename_i e'; subst e'; rw [h] at hc; cases hc
          · exact hc
        rw [this]; exact hg
      · cases hg
theorem sq_sub : ∀ {r : List Oper} {F F' : Slots}, fsub F F' → SQ P n W0 H L ops (Kx P Q k) r F → SQ P n W0 H L ops (Kx P Q k) r F'
  | [], F, F', hs, h => fun a w hF hS => h a w (hF.sub hs) hS
  | o :: r, F, F', hs, ⟨d, v, h1, h2, h3, h4⟩ => ⟨d, v, h1, h2, h3.imp (fun h a w hF hS => h a w (hF.sub hs) hS) (fun h => ⟨fun a hF => h.1 a (hF.sub hs), h.2⟩), sq_sub (fun t u ht => by
      rw [fget_cons] at ht ⊢
      split at ht
      · rename_i e; rw [if_pos e]; exact ht
      · rename_i e; rw [if_neg e]; exact hs t u ht) h4⟩
theorem ops_fsub {F' : Slots} (hs : fsub F F') (h : Ops P n W0 Q F H L q ops rest k) : Ops P n W0 Q F' H L q ops rest k := by
  cases q with
  | false => exact ⟨Sat.sub h.run (Sub.refl _) hs⟩
  | true => exact ⟨sq_sub hs h.run⟩
theorem ops_ix {α : Type} {R : Rd α} {val : α → Value} {ok : α → Prop} {T e t : TypeId} {x y : Operand} {xs : List α} {i : Int} {j : Nat} {kd : IntKind} {gv gv' : Option (Value × Bool)} [h1 : R1 R val ok] [hR : RdOk R 1] [TSl P T e] [TSz P e 1] [TAgg P t false] (hg : gval ops F g = some gv) [hb : GOk gv true]
    (hg' : gval ops F g' = some gv') [hb' : GOk gv' true] (hv : opvs F [x, y] = some [v, .int kd i]) [hi : NatOf i j] (hs : SlR R 1 H v xs) (hj : j < xs.length) (hk : Ops P n W0 Q ((d', val (xs[j]'hj)) :: F) H L q ops rest k) (hn : fget F d = none := by rfl) (hd : Nat.blt d n = true := by rfl) (hd' : Nat.blt d' n = true := by rfl) :
    Ops P n W0 Q F H L q ops (⟨some d, .indexAddr T x y, ty, pos, aft, g⟩ :: ⟨some d', .load t (.tmp d), ty', pos', aft', g'⟩ :: rest) k := by
  refine ops_ixp hg hv hs hj (fun b off c hr hc => ?_) hd
  obtain ⟨rfl, ho⟩ := h1.h hc
  refine ops_pure (gval_new hn hg') hd' (op_loadH (b := b) (off := off) (by simp [opv, fget]) (hr 0 _ rfl)) (ops_fsub (fsub_new hn) hk)
theorem RL.all {α : Type} {R : Rd α} {p : α → Prop} (hp : ∀ H c x, R H c x → p x) : ∀ {cs : List Value} {xs : List α}, RL R H cs xs → ∀ x ∈ xs, p x
  | _, [], _, x, hx => by cases hx
  | _, y :: ys, ⟨c, r, e, h1, h2⟩, x, hx => by
    rcases List.mem_cons.1 hx with rfl | hx
    · exact hp _ _ _ h1
    · exact RL.all hp h2 x hx
theorem SlR.all {α : Type} {R : Rd α} {sz : Nat} {p : α → Prop} {xs : List α} (h : SlR R sz H v xs) (hp : ∀ H c x, R H c x → p x) : ∀ x ∈ xs, p x := by obtain ⟨cs, _, h⟩ := h; exact RL.all hp h
theorem SlR.fits {xs : List Int} (h : SlR rInt 1 H v xs) : ∀ x ∈ xs, Sx.fits x := h.all fun _ _ _ h => h.2
end
structure Held (q : Prop) : Prop where
  out : q
theorem walk {p q : Prop} (hq : q) (h : Held q → p := by
    intro hq
    repeat (first
      | refine Go.Sx.ops_p rfl rfl ?_ | refine Go.Sx.ops_ld rfl rfl rfl ?_ | refine Go.Sx.ops_T rfl rfl ?_ | refine Go.Sx.ops_F rfl rfl ?_ | refine Go.Sx.ops_B rfl rfl ?_ | refine Go.Sx.ops_skip rfl ?_
      | refine Go.Sx.ops_st rfl rfl rfl rfl ?_ | refine Go.Sx.ops_ldN rfl rfl rfl ?_ | refine Go.Sx.ops_ext rfl rfl rfl ?_ | refine Go.Sx.ops_bld rfl rfl ?_ | refine Go.Sx.ops_ldH rfl rfl ‹Go.Sx.HRow _ _ _ _› rfl rfl ?_ | refine Go.Sx.ops_ldH0 rfl rfl ‹Go.Sx.HRow _ _ _ _› rfl ?_ | refine Go.Sx.ops_ix rfl rfl rfl ‹Go.Sx.SlR _ _ _ _ _› (by omega) ?_
      | refine Go.Sx.ops_nil ?_ | refine Go.Sx.ex_seq ?_ | refine Go.Sx.ex_reg ?_ | refine Go.Sx.out_seq ?_ | refine Go.Sx.ex_c rfl ?_ | refine Go.Sx.ex_sT ?_ | refine Go.Sx.ex_sF ?_ | refine Go.Sx.ex_blk ?_ | refine Go.Sx.out_blk ?_
      | refine Go.Sx.ex_skip ?_ | refine Go.Sx.ex_exit ?_ | refine Go.Sx.ex_ret ?_ | refine Go.Sx.out_eseq ?_ | refine Go.Sx.out_eblk ?_ | refine Go.Sx.out_ecut ?_ | refine Go.Sx.out_epass rfl ?_ | refine Go.Sx.out_rseq ?_ | refine Go.Sx.out_rblk ?_ | refine Go.Sx.out_rcut ?_
      | refine Go.Sx.ex_quietW (by decide +kernel) ?_)
    exact hq.out) : p := h ⟨hq⟩
/-- a part of what is held -/
theorem subA {L L' : List HProp} (h : Sub L L' := by (repeat (first | exact Sub.refl _ | exact Sub.nil _ | (apply sub_pick; (repeat (first | exact Has.here | apply Has.there)); skip) | apply Sub.drop))) : Sub L L' := h
end Go.Sx
