/- Which operations are calm. No program in sight. -/
import Derived.Test.YtafhinjggdknjaaDoorPXA
import GoSem.Dispatch
set_option linter.unusedVariables false
set_option linter.unusedSimpArgs false
namespace Go.X
open Go
section
variable {α β : Type} {P : Program}
theorem calm_bind {e : Sem α} {f : α → Sem β} (h : e.Calm P) (hf : ∀ a, (f a).Calm P) : (e >>= f).Calm P := Sem.Calm.bind h hf
theorem calm_pure (a : α) : (pure a : Sem α).Calm P := trivial
theorem calm_map {e : Sem α} {f : α → β} (h : e.Calm P) : (f <$> e).Calm P := Sem.Calm.bind h fun _ => trivial
theorem calm_halt (h : Halt) : (Sem.halt h : Sem α).Calm P := trivial
theorem calm_ite {c : Prop} [Decidable c] {x y : Sem α} (h1 : x.Calm P) (h2 : y.Calm P) : (if c then x else y).Calm P := by split <;> assumption
theorem calm_load (a : Addr) (m : Mode) : (load a m).Calm P := fun _ => trivial
theorem calm_store (a : Addr) (v : Value) (m : Mode) : (store a v m).Calm P := trivial
theorem calm_newObj (o : Obj) : (newObj o).Calm P := fun _ => trivial
theorem calm_getObj (r : Nat) : (getObj r).Calm P := fun _ => trivial
theorem calm_setObj (r : Nat) (o : Obj) : (setObj r o).Calm P := trivial
theorem calm_choose (q : Question) : (choose q).Calm P := fun _ => trivial
theorem calm_program : program.Calm P := trivial
theorem calm_stuck (s : String) : (stuck s : Sem α).Calm P := trivial
theorem calm_unsupported (s : Unsupported) : (unsupported s : Sem α).Calm P := trivial
theorem calm_goPanic (v : Value) : (goPanic v : Sem α).Calm P := trivial
theorem calm_askRoom (n : Nat) : (askRoom n).Calm P := by unfold askRoom; split <;> first | exact ⟨rfl, trivial⟩ | trivial
theorem calm_und {t : TypeId} {d : TypeDesc} {f : TypeDesc → Sem β} (hu : P.underlying t = some d) (h : (f d).Calm P) : (underlying t >>= f).Calm P := by
  have : (underlying t >>= f) = Sem.program fun p => ((match p.underlying t with | some d => (pure d : Sem TypeDesc) | none => stuck "no such type").bind f) := rfl
  rw [this]
  show ((match P.underlying t with | some d => (pure d : Sem TypeDesc) | none => stuck "no such type").bind f).Calm P
  rw [hu]
  exact h
end
theorem dead_bind {α β : Type} {e : Sem α} {f : α → Sem β} (h : ∀ a, (f a).Dead) : (e >>= f).Dead := by
  show (Sem.bind e f).Dead
  induction e with
  | pure a => exact h a
  | load m a k ih => exact fun v => ih v
  | store m a v k ih => exact ih
  | new o k ih => exact fun r => ih r
  | shape r k ih => exact fun r => ih r
  | freeze a n k ih => exact ih
  | frozen a k ih => exact fun r => ih r
  | getObj r k ih => exact fun o => ih o
  | setObj r o k ih => exact ih
  | choose q k ih => exact fun n => ih n
  | sys c k ih => exact fun r => ih r
  | program k ih => exact fun p => ih p
  | mark m k ih => exact ih
  | halt h => trivial
section
variable {P : Program}
theorem calm_typeInfo (t : TypeId) : (typeInfo t).Calm P := by unfold typeInfo; (repeat' (first | exact calm_pure _ | exact calm_halt _ | exact calm_load _ _ | exact calm_store _ _ _ | exact calm_newObj _ | exact calm_getObj _ | exact calm_setObj _ _ | exact calm_choose _ | exact calm_program | exact calm_stuck _ | exact calm_unsupported _ | exact calm_goPanic _ | exact calm_askRoom _ | assumption | (apply_assumption; done) | refine calm_bind ?_ fun _ => ?_ | refine calm_map ?_ | refine calm_ite ?_ ?_ | split | dsimp only))
theorem calm_underlying (t : TypeId) : (underlying t).Calm P := by unfold underlying; (repeat' (first | exact calm_pure _ | exact calm_halt _ | exact calm_load _ _ | exact calm_store _ _ _ | exact calm_newObj _ | exact calm_getObj _ | exact calm_setObj _ _ | exact calm_choose _ | exact calm_program | exact calm_stuck _ | exact calm_unsupported _ | exact calm_goPanic _ | exact calm_askRoom _ | assumption | (apply_assumption; done) | refine calm_bind ?_ fun _ => ?_ | refine calm_map ?_ | refine calm_ite ?_ ?_ | split | dsimp only))
theorem calm_zeroValue (t : TypeId) : (zeroValue t).Calm P := by unfold zeroValue; refine calm_bind (calm_typeInfo _) fun _ => ?_; (repeat' (first | exact calm_pure _ | exact calm_halt _ | exact calm_load _ _ | exact calm_store _ _ _ | exact calm_newObj _ | exact calm_getObj _ | exact calm_setObj _ _ | exact calm_choose _ | exact calm_program | exact calm_stuck _ | exact calm_unsupported _ | exact calm_goPanic _ | exact calm_askRoom _ | assumption | (apply_assumption; done) | refine calm_bind ?_ fun _ => ?_ | refine calm_map ?_ | refine calm_ite ?_ ?_ | split | dsimp only))
theorem calm_sizeOf (t : TypeId) : (sizeOf t).Calm P := by unfold sizeOf; exact calm_bind (calm_typeInfo _) fun _ => calm_pure _
theorem calm_isAgg (t : TypeId) : (isAgg t).Calm P := by unfold isAgg; refine calm_bind (calm_underlying _) fun _ => ?_; (repeat' (first | exact calm_pure _ | exact calm_halt _ | exact calm_load _ _ | exact calm_store _ _ _ | exact calm_newObj _ | exact calm_getObj _ | exact calm_setObj _ _ | exact calm_choose _ | exact calm_program | exact calm_stuck _ | exact calm_unsupported _ | exact calm_goPanic _ | exact calm_askRoom _ | assumption | (apply_assumption; done) | refine calm_bind ?_ fun _ => ?_ | refine calm_map ?_ | refine calm_ite ?_ ?_ | split | dsimp only))
theorem calm_elemOf (t : TypeId) : (elemOf t).Calm P := by unfold elemOf; refine calm_bind (calm_underlying _) fun _ => ?_; (repeat' (first | exact calm_pure _ | exact calm_halt _ | exact calm_load _ _ | exact calm_store _ _ _ | exact calm_newObj _ | exact calm_getObj _ | exact calm_setObj _ _ | exact calm_choose _ | exact calm_program | exact calm_stuck _ | exact calm_unsupported _ | exact calm_goPanic _ | exact calm_askRoom _ | assumption | (apply_assumption; done) | refine calm_bind ?_ fun _ => ?_ | refine calm_map ?_ | refine calm_ite ?_ ?_ | split | dsimp only))
theorem calm_loadCellsFrom (a : Addr) : ∀ (n i : Nat) (acc : Array Value), (loadCellsFrom a i n acc).Calm P
  | 0, _, _ => calm_pure _
  | n + 1, _, _ => calm_bind (calm_load _ _) fun _ => calm_loadCellsFrom a n _ _
theorem calm_loadCells (a : Addr) (n : Nat) : (loadCells a n).Calm P := calm_loadCellsFrom a n 0 #[]
theorem calm_storeCells (a : Addr) : ∀ (vs : List Value) (i : Nat), (storeCells a vs i).Calm P
  | [], _ => calm_pure _
  | _ :: vs, _ => calm_bind (calm_store _ _ _) fun _ => calm_storeCells a vs _
theorem calm_loadVar (t : TypeId) (a : Addr) : (loadVar t a).Calm P := by
  unfold loadVar; refine calm_bind (calm_isAgg _) fun _ => calm_ite (calm_bind (calm_sizeOf _) fun _ => calm_bind (calm_loadCells _ _) fun _ => calm_pure _) (calm_load _ _)
theorem calm_storeVar (t : TypeId) (a : Addr) (v : Value) : (storeVar t a v).Calm P := by
  unfold storeVar
  refine calm_bind (calm_sizeOf _) fun _ => ?_
  have := fun vs i => calm_storeCells (P := P) a vs i
  (repeat' (first | exact calm_pure _ | exact calm_halt _ | exact calm_load _ _ | exact calm_store _ _ _ | exact calm_newObj _ | exact calm_getObj _ | exact calm_setObj _ _ | exact calm_choose _ | exact calm_program | exact calm_stuck _ | exact calm_unsupported _ | exact calm_goPanic _ | exact calm_askRoom _ | assumption | (apply_assumption; done) | refine calm_bind ?_ fun _ => ?_ | refine calm_map ?_ | refine calm_ite ?_ ?_ | split | dsimp only))
theorem calm_newRow (t : TypeId) (v : Array Value) : (newRow t v).Calm P := by unfold newRow; (repeat' (first | exact calm_pure _ | exact calm_halt _ | exact calm_load _ _ | exact calm_store _ _ _ | exact calm_newObj _ | exact calm_getObj _ | exact calm_setObj _ _ | exact calm_choose _ | exact calm_program | exact calm_stuck _ | exact calm_unsupported _ | exact calm_goPanic _ | exact calm_askRoom _ | assumption | (apply_assumption; done) | refine calm_bind ?_ fun _ => ?_ | refine calm_map ?_ | refine calm_ite ?_ ?_ | split | dsimp only))
theorem calm_newVar (t : TypeId) (v : Value) : (newVar t v).Calm P := by unfold newVar newRow; (repeat' (first | exact calm_pure _ | exact calm_halt _ | exact calm_load _ _ | exact calm_store _ _ _ | exact calm_newObj _ | exact calm_getObj _ | exact calm_setObj _ _ | exact calm_choose _ | exact calm_program | exact calm_stuck _ | exact calm_unsupported _ | exact calm_goPanic _ | exact calm_askRoom _ | assumption | (apply_assumption; done) | refine calm_bind ?_ fun _ => ?_ | refine calm_map ?_ | refine calm_ite ?_ ?_ | split | dsimp only))
theorem calm_runtimePanic {α : Type} (e : RuntimeError) : (runtimePanic e : Sem α).Calm P := by
  unfold runtimePanic
  have h := fun t => calm_elemOf (P := P) t; have h2 := fun t v => calm_newVar (P := P) t v
  refine calm_bind calm_program fun p => ?_
  cases e <;> first
    | exact calm_goPanic _
    | (refine calm_bind (calm_elemOf _) fun _ => calm_bind (calm_newVar _ _) fun _ => calm_goPanic _)
theorem calm_asIntOf (v : Value) : (asIntOf v).Calm P := by unfold asIntOf; (repeat' (first | exact calm_pure _ | exact calm_halt _ | exact calm_load _ _ | exact calm_store _ _ _ | exact calm_newObj _ | exact calm_getObj _ | exact calm_setObj _ _ | exact calm_choose _ | exact calm_program | exact calm_stuck _ | exact calm_unsupported _ | exact calm_goPanic _ | exact calm_askRoom _ | assumption | (apply_assumption; done) | refine calm_bind ?_ fun _ => ?_ | refine calm_map ?_ | refine calm_ite ?_ ?_ | split | dsimp only))
theorem calm_asInt (v : Value) : (asInt v).Calm P := by unfold asInt; have h := fun v => calm_asIntOf (P := P) v; (repeat' (first | exact calm_pure _ | exact calm_halt _ | exact calm_load _ _ | exact calm_store _ _ _ | exact calm_newObj _ | exact calm_getObj _ | exact calm_setObj _ _ | exact calm_choose _ | exact calm_program | exact calm_stuck _ | exact calm_unsupported _ | exact calm_goPanic _ | exact calm_askRoom _ | assumption | (apply_assumption; done) | refine calm_bind ?_ fun _ => ?_ | refine calm_map ?_ | refine calm_ite ?_ ?_ | split | dsimp only))
theorem calm_asBool (v : Value) : (asBool v).Calm P := by unfold asBool; (repeat' (first | exact calm_pure _ | exact calm_halt _ | exact calm_load _ _ | exact calm_store _ _ _ | exact calm_newObj _ | exact calm_getObj _ | exact calm_setObj _ _ | exact calm_choose _ | exact calm_program | exact calm_stuck _ | exact calm_unsupported _ | exact calm_goPanic _ | exact calm_askRoom _ | assumption | (apply_assumption; done) | refine calm_bind ?_ fun _ => ?_ | refine calm_map ?_ | refine calm_ite ?_ ?_ | split | dsimp only))
theorem calm_asAddr (v : Value) : (asAddr v).Calm P := by
  unfold asAddr
  have := fun (e : RuntimeError) => calm_runtimePanic (P := P) (α := Addr) e
  (repeat' (first | exact calm_pure _ | exact calm_halt _ | exact calm_load _ _ | exact calm_store _ _ _ | exact calm_newObj _ | exact calm_getObj _ | exact calm_setObj _ _ | exact calm_choose _ | exact calm_program | exact calm_stuck _ | exact calm_unsupported _ | exact calm_goPanic _ | exact calm_askRoom _ | assumption | (apply_assumption; done) | refine calm_bind ?_ fun _ => ?_ | refine calm_map ?_ | refine calm_ite ?_ ?_ | split | dsimp only))
theorem calm_asAgg (v : Value) : (asAgg v).Calm P := by unfold asAgg; (repeat' (first | exact calm_pure _ | exact calm_halt _ | exact calm_load _ _ | exact calm_store _ _ _ | exact calm_newObj _ | exact calm_getObj _ | exact calm_setObj _ _ | exact calm_choose _ | exact calm_program | exact calm_stuck _ | exact calm_unsupported _ | exact calm_goPanic _ | exact calm_askRoom _ | assumption | (apply_assumption; done) | refine calm_bind ?_ fun _ => ?_ | refine calm_map ?_ | refine calm_ite ?_ ?_ | split | dsimp only))
theorem calm_sureAddr (v : Value) : (Instr.sureAddr v).Calm P := by unfold Instr.sureAddr; (repeat' (first | exact calm_pure _ | exact calm_halt _ | exact calm_load _ _ | exact calm_store _ _ _ | exact calm_newObj _ | exact calm_getObj _ | exact calm_setObj _ _ | exact calm_choose _ | exact calm_program | exact calm_stuck _ | exact calm_unsupported _ | exact calm_goPanic _ | exact calm_askRoom _ | assumption | (apply_assumption; done) | refine calm_bind ?_ fun _ => ?_ | refine calm_map ?_ | refine calm_ite ?_ ?_ | split | dsimp only))
theorem calm_loadAt (t : TypeId) (v : Value) : (Instr.loadAt t v).Calm P := calm_bind (calm_sureAddr _) fun _ => calm_loadVar _ _
theorem calm_storeAt (t : TypeId) (v x : Value) : (Instr.storeAt t v x).Calm P := calm_bind (calm_sureAddr _) fun _ => calm_storeVar _ _ _
theorem calm_alloc (t : TypeId) (h : Bool) (v : Value) : (Instr.alloc t h v).Calm P := by
  unfold Instr.alloc
  refine calm_bind (calm_zeroValue _) fun _ => ?_
  split
  · exact calm_bind (calm_storeVar _ _ _) fun _ => calm_pure _
  · exact calm_bind (calm_newVar _ _) fun _ => calm_pure _
theorem calm_box (t : TypeId) (v : Value) : (Instr.box t v).Calm P := calm_bind (calm_newVar _ _) fun _ => calm_pure _
theorem calm_part (t : TypeId) (c : Array Value) (i : Nat) : (part t c i).Calm P := by
  unfold part
  have h1 := fun t => calm_isAgg (P := P) t; have h2 := fun t => calm_sizeOf (P := P) t
  (repeat' (first | exact calm_pure _ | exact calm_halt _ | exact calm_load _ _ | exact calm_store _ _ _ | exact calm_newObj _ | exact calm_getObj _ | exact calm_setObj _ _ | exact calm_choose _ | exact calm_program | exact calm_stuck _ | exact calm_unsupported _ | exact calm_goPanic _ | exact calm_askRoom _ | assumption | (apply_assumption; done) | refine calm_bind ?_ fun _ => ?_ | refine calm_map ?_ | refine calm_ite ?_ ?_ | split | dsimp only))
theorem calm_field (t : TypeId) (v : Value) (i : Nat) : (Instr.field t v i).Calm P := by
  unfold Instr.field
  have h1 := fun t => calm_underlying (P := P) t; have h2 := fun t c i => calm_part (P := P) t c i; have h3 := fun v => calm_asAgg (P := P) v
  (repeat' (first | exact calm_pure _ | exact calm_halt _ | exact calm_load _ _ | exact calm_store _ _ _ | exact calm_newObj _ | exact calm_getObj _ | exact calm_setObj _ _ | exact calm_choose _ | exact calm_program | exact calm_stuck _ | exact calm_unsupported _ | exact calm_goPanic _ | exact calm_askRoom _ | assumption | (apply_assumption; done) | refine calm_bind ?_ fun _ => ?_ | refine calm_map ?_ | refine calm_ite ?_ ?_ | split | dsimp only))
theorem calm_bounds {α : Type} (k : IntKind) (i : Int) (n : Nat) (c : BoundsCode) : (boundsPanic k i n c : Sem α).Calm P := by
  unfold boundsPanic
  have := fun (e : RuntimeError) => calm_runtimePanic (P := P) (α := α) e
  (repeat' (first | exact calm_pure _ | exact calm_halt _ | exact calm_load _ _ | exact calm_store _ _ _ | exact calm_newObj _ | exact calm_getObj _ | exact calm_setObj _ _ | exact calm_choose _ | exact calm_program | exact calm_stuck _ | exact calm_unsupported _ | exact calm_goPanic _ | exact calm_askRoom _ | assumption | (apply_assumption; done) | refine calm_bind ?_ fun _ => ?_ | refine calm_map ?_ | refine calm_ite ?_ ?_ | split | dsimp only))
theorem calm_indexAt (t : TypeId) (v i : Value) : (Instr.indexAt t v i).Calm P := by
  unfold Instr.indexAt
  have h1 := fun t => calm_underlying (P := P) t; have h2 := fun t => calm_sizeOf (P := P) t; have h3 := fun v => calm_asIntOf (P := P) v; have h4 := fun v => calm_sureAddr (P := P) v
  have h5 := fun k i n c => calm_bounds (P := P) (α := Value) k i n c
  (repeat' (first | exact calm_pure _ | exact calm_halt _ | exact calm_load _ _ | exact calm_store _ _ _ | exact calm_newObj _ | exact calm_getObj _ | exact calm_setObj _ _ | exact calm_choose _ | exact calm_program | exact calm_stuck _ | exact calm_unsupported _ | exact calm_goPanic _ | exact calm_askRoom _ | assumption | (apply_assumption; done) | refine calm_bind ?_ fun _ => ?_ | refine calm_map ?_ | refine calm_ite ?_ ?_ | split | dsimp only))
theorem calm_index (t : TypeId) (v i : Value) : (Instr.index t v i).Calm P := by
  unfold Instr.index
  have h1 := fun t => calm_underlying (P := P) t; have h2 := fun t => calm_sizeOf (P := P) t; have h3 := fun v => calm_asIntOf (P := P) v; have h4 := fun t c i => calm_part (P := P) t c i
  have h5 := fun k i n c => calm_bounds (P := P) (α := Value) k i n c
  (repeat' (first | exact calm_pure _ | exact calm_halt _ | exact calm_load _ _ | exact calm_store _ _ _ | exact calm_newObj _ | exact calm_getObj _ | exact calm_setObj _ _ | exact calm_choose _ | exact calm_program | exact calm_stuck _ | exact calm_unsupported _ | exact calm_goPanic _ | exact calm_askRoom _ | assumption | (apply_assumption; done) | refine calm_bind ?_ fun _ => ?_ | refine calm_map ?_ | refine calm_ite ?_ ?_ | split | dsimp only))
theorem calm_sliceBound (v : Value) (y : Nat) (c : BoundsCode) : (Instr.sliceBound v y c).Calm P := by
  unfold Instr.sliceBound
  have h3 := fun v => calm_asIntOf (P := P) v
  have h5 := fun k i n c => calm_bounds (P := P) (α := Nat) k i n c
  (repeat' (first | exact calm_pure _ | exact calm_halt _ | exact calm_load _ _ | exact calm_store _ _ _ | exact calm_newObj _ | exact calm_getObj _ | exact calm_setObj _ _ | exact calm_choose _ | exact calm_program | exact calm_stuck _ | exact calm_unsupported _ | exact calm_goPanic _ | exact calm_askRoom _ | assumption | (apply_assumption; done) | refine calm_bind ?_ fun _ => ?_ | refine calm_map ?_ | refine calm_ite ?_ ?_ | split | dsimp only))
theorem calm_sliceBounds (b : Bool) (l c : Nat) (x y z : Option Value) : (Instr.sliceBounds b l c x y z).Calm P := by
  unfold Instr.sliceBounds
  have h := fun v y c => calm_sliceBound (P := P) v y c
  (repeat' (first | exact calm_pure _ | exact calm_halt _ | exact calm_load _ _ | exact calm_store _ _ _ | exact calm_newObj _ | exact calm_getObj _ | exact calm_setObj _ _ | exact calm_choose _ | exact calm_program | exact calm_stuck _ | exact calm_unsupported _ | exact calm_goPanic _ | exact calm_askRoom _ | assumption | (apply_assumption; done) | refine calm_bind ?_ fun _ => ?_ | refine calm_map ?_ | refine calm_ite ?_ ?_ | split | dsimp only))
theorem calm_slice (t : TypeId) (v : Value) (x y z : Option Value) : (Instr.slice t v x y z).Calm P := by
  unfold Instr.slice
  have h1 := fun t => calm_underlying (P := P) t; have h2 := fun t => calm_sizeOf (P := P) t; have h3 := fun b l c x y z => calm_sliceBounds (P := P) b l c x y z; have h4 := fun v => calm_asAddr (P := P) v
  (repeat' (first | exact calm_pure _ | exact calm_halt _ | exact calm_load _ _ | exact calm_store _ _ _ | exact calm_newObj _ | exact calm_getObj _ | exact calm_setObj _ _ | exact calm_choose _ | exact calm_program | exact calm_stuck _ | exact calm_unsupported _ | exact calm_goPanic _ | exact calm_askRoom _ | assumption | (apply_assumption; done) | refine calm_bind ?_ fun _ => ?_ | refine calm_map ?_ | refine calm_ite ?_ ?_ | split | dsimp only))
theorem calm_sliceAt (t : TypeId) (v : Value) (x y z : Option Value) : (Instr.sliceAt t v x y z).Calm P := by
  unfold Instr.sliceAt
  have h1 := fun t => calm_underlying (P := P) t; have h2 := fun t => calm_sizeOf (P := P) t; have h3 := fun b l c x y z => calm_sliceBounds (P := P) b l c x y z; have h4 := fun v => calm_sureAddr (P := P) v
  have h5 := fun t v x y z => calm_slice (P := P) t v x y z
  (repeat' (first | exact calm_pure _ | exact calm_halt _ | exact calm_load _ _ | exact calm_store _ _ _ | exact calm_newObj _ | exact calm_getObj _ | exact calm_setObj _ _ | exact calm_choose _ | exact calm_program | exact calm_stuck _ | exact calm_unsupported _ | exact calm_goPanic _ | exact calm_askRoom _ | assumption | (apply_assumption; done) | refine calm_bind ?_ fun _ => ?_ | refine calm_map ?_ | refine calm_ite ?_ ?_ | split | dsimp only))
theorem calm_extract (v : Value) (i : Nat) : (Instr.extract v i).Calm P := by unfold Instr.extract; (repeat' (first | exact calm_pure _ | exact calm_halt _ | exact calm_load _ _ | exact calm_store _ _ _ | exact calm_newObj _ | exact calm_getObj _ | exact calm_setObj _ _ | exact calm_choose _ | exact calm_program | exact calm_stuck _ | exact calm_unsupported _ | exact calm_goPanic _ | exact calm_askRoom _ | assumption | (apply_assumption; done) | refine calm_bind ?_ fun _ => ?_ | refine calm_map ?_ | refine calm_ite ?_ ?_ | split | dsimp only))
theorem calm_makeFunc (f : Fn) (x y : Array Value) : (Instr.makeFunc f x y).Calm P := calm_pure _
theorem calm_makeMap (t : TypeId) (v : Option Value) : (Instr.makeMap t v).Calm P := by
  unfold Instr.makeMap
  have h1 := fun t => calm_underlying (P := P) t; have h2 := fun v => calm_asInt (P := P) v
  (repeat' (first | exact calm_pure _ | exact calm_halt _ | exact calm_load _ _ | exact calm_store _ _ _ | exact calm_newObj _ | exact calm_getObj _ | exact calm_setObj _ _ | exact calm_choose _ | exact calm_program | exact calm_stuck _ | exact calm_unsupported _ | exact calm_goPanic _ | exact calm_askRoom _ | assumption | (apply_assumption; done) | refine calm_bind ?_ fun _ => ?_ | refine calm_map ?_ | refine calm_ite ?_ ?_ | split | dsimp only))
theorem calm_makeSlice (t : TypeId) (x y : Value) : (Instr.makeSlice t x y).Calm P := by
  unfold Instr.makeSlice
  have h1 := fun t => calm_underlying (P := P) t; have h2 := fun v => calm_asInt (P := P) v; have h3 := fun t => calm_typeInfo (P := P) t; have h4 := fun t => calm_sizeOf (P := P) t; have h5 := fun t => calm_zeroValue (P := P) t
  have h6 := fun (e : RuntimeError) => calm_runtimePanic (P := P) (α := PUnit) e; have h7 := fun t c => calm_newRow (P := P) t c
  have h8 := fun (e : RuntimeError) => calm_runtimePanic (P := P) (α := Value) e
  (repeat' (first | exact calm_pure _ | exact calm_halt _ | exact calm_load _ _ | exact calm_store _ _ _ | exact calm_newObj _ | exact calm_getObj _ | exact calm_setObj _ _ | exact calm_choose _ | exact calm_program | exact calm_stuck _ | exact calm_unsupported _ | exact calm_goPanic _ | exact calm_askRoom _ | assumption | (apply_assumption; done) | refine calm_bind ?_ fun _ => ?_ | refine calm_map ?_ | refine calm_ite ?_ ?_ | split | dsimp only))
theorem calm_makeChan (t : TypeId) (x : Value) : (Instr.makeChan t x).Calm P := by
  unfold Instr.makeChan
  have h1 := fun t => calm_underlying (P := P) t; have h2 := fun v => calm_asInt (P := P) v; have h3 := fun t => calm_typeInfo (P := P) t
  have h6 := fun (e : RuntimeError) => calm_runtimePanic (P := P) (α := PUnit) e
  have h8 := fun (e : RuntimeError) => calm_runtimePanic (P := P) (α := Value) e
  (repeat' (first | exact calm_pure _ | exact calm_halt _ | exact calm_load _ _ | exact calm_store _ _ _ | exact calm_newObj _ | exact calm_getObj _ | exact calm_setObj _ _ | exact calm_choose _ | exact calm_program | exact calm_stuck _ | exact calm_unsupported _ | exact calm_goPanic _ | exact calm_askRoom _ | assumption | (apply_assumption; done) | refine calm_bind ?_ fun _ => ?_ | refine calm_map ?_ | refine calm_ite ?_ ?_ | split | dsimp only))
theorem calm_len (ts : Array TypeId) (t : TypeId) (vs : Array Value) : (Builtin.len_ ts t vs).Calm P := by
  unfold Builtin.len_
  have h1 := fun t => calm_underlying (P := P) t
  (repeat' (first | exact calm_pure _ | exact calm_halt _ | exact calm_load _ _ | exact calm_store _ _ _ | exact calm_newObj _ | exact calm_getObj _ | exact calm_setObj _ _ | exact calm_choose _ | exact calm_program | exact calm_stuck _ | exact calm_unsupported _ | exact calm_goPanic _ | exact calm_askRoom _ | assumption | (apply_assumption; done) | refine calm_bind ?_ fun _ => ?_ | refine calm_map ?_ | refine calm_ite ?_ ?_ | split | dsimp only))
theorem calm_cap (ts : Array TypeId) (t : TypeId) (vs : Array Value) : (Builtin.cap_ ts t vs).Calm P := by
  unfold Builtin.cap_
  have h1 := fun t => calm_underlying (P := P) t
  (repeat' (first | exact calm_pure _ | exact calm_halt _ | exact calm_load _ _ | exact calm_store _ _ _ | exact calm_newObj _ | exact calm_getObj _ | exact calm_setObj _ _ | exact calm_choose _ | exact calm_program | exact calm_stuck _ | exact calm_unsupported _ | exact calm_goPanic _ | exact calm_askRoom _ | assumption | (apply_assumption; done) | refine calm_bind ?_ fun _ => ?_ | refine calm_map ?_ | refine calm_ite ?_ ?_ | split | dsimp only))
theorem calm_mapM {α β : Type} {f : α → Sem β} (h : ∀ a, (f a).Calm P) : ∀ l : List α, (l.mapM f).Calm P
  | [] => by rw [List.mapM_nil]; exact calm_pure _
  | a :: l => by rw [List.mapM_cons]; exact calm_bind (h a) fun _ => calm_bind (calm_mapM h l) fun _ => calm_pure _
theorem calm_mapA {α β : Type} {f : α → Sem β} (h : ∀ a, (f a).Calm P) (l : Array α) : (l.mapM f).Calm P := by
  rw [Array.mapM_eq_mapM_toList]; exact calm_map (calm_mapM h _)
theorem calm_build (t : TypeId) (ps : Array (Nat × Value)) : (Instr.build t ps).Calm P := by
  unfold Instr.build
  have h1 := fun t => calm_underlying (P := P) t; have h2 := fun t => calm_sizeOf (P := P) t; have h3 := fun t => calm_zeroValue (P := P) t
  refine calm_bind (calm_zeroValue _) fun _ => calm_bind (calm_underlying _) fun _ => ?_
  split
  · refine calm_bind (calm_mapA (fun _ => calm_bind (calm_sizeOf _) fun _ => calm_pure _) _) fun _ => ?_
    (repeat' (first | exact calm_pure _ | exact calm_halt _ | exact calm_load _ _ | exact calm_store _ _ _ | exact calm_newObj _ | exact calm_getObj _ | exact calm_setObj _ _ | exact calm_choose _ | exact calm_program | exact calm_stuck _ | exact calm_unsupported _ | exact calm_goPanic _ | exact calm_askRoom _ | assumption | (apply_assumption; done) | refine calm_bind ?_ fun _ => ?_ | refine calm_map ?_ | refine calm_ite ?_ ?_ | split | dsimp only))
  · (repeat' (first | exact calm_pure _ | exact calm_halt _ | exact calm_load _ _ | exact calm_store _ _ _ | exact calm_newObj _ | exact calm_getObj _ | exact calm_setObj _ _ | exact calm_choose _ | exact calm_program | exact calm_stuck _ | exact calm_unsupported _ | exact calm_goPanic _ | exact calm_askRoom _ | assumption | (apply_assumption; done) | refine calm_bind ?_ fun _ => ?_ | refine calm_map ?_ | refine calm_ite ?_ ?_ | split | dsimp only))
  · (repeat' (first | exact calm_pure _ | exact calm_halt _ | exact calm_load _ _ | exact calm_store _ _ _ | exact calm_newObj _ | exact calm_getObj _ | exact calm_setObj _ _ | exact calm_choose _ | exact calm_program | exact calm_stuck _ | exact calm_unsupported _ | exact calm_goPanic _ | exact calm_askRoom _ | assumption | (apply_assumption; done) | refine calm_bind ?_ fun _ => ?_ | refine calm_map ?_ | refine calm_ite ?_ ?_ | split | dsimp only))
theorem calm_buildSlice (t : TypeId) (n : Nat) (ps : Array (Nat × Value)) : (Instr.buildSlice t n ps).Calm P := by
  unfold Instr.buildSlice
  have h1 := fun t => calm_underlying (P := P) t; have h2 := fun t => calm_sizeOf (P := P) t; have h3 := fun t => calm_zeroValue (P := P) t; have h4 := fun t v => calm_newRow (P := P) t v
  (repeat' (first | exact calm_pure _ | exact calm_halt _ | exact calm_load _ _ | exact calm_store _ _ _ | exact calm_newObj _ | exact calm_getObj _ | exact calm_setObj _ _ | exact calm_choose _ | exact calm_program | exact calm_stuck _ | exact calm_unsupported _ | exact calm_goPanic _ | exact calm_askRoom _ | assumption | (apply_assumption; done) | refine calm_bind ?_ fun _ => ?_ | refine calm_map ?_ | refine calm_ite ?_ ?_ | split | dsimp only))
theorem calm_lenOf (v : Value) : (Builtin.lenOf v).Calm P := by unfold Builtin.lenOf; (repeat' (first | exact calm_pure _ | exact calm_halt _ | exact calm_load _ _ | exact calm_store _ _ _ | exact calm_newObj _ | exact calm_getObj _ | exact calm_setObj _ _ | exact calm_choose _ | exact calm_program | exact calm_stuck _ | exact calm_unsupported _ | exact calm_goPanic _ | exact calm_askRoom _ | assumption | (apply_assumption; done) | refine calm_bind ?_ fun _ => ?_ | refine calm_map ?_ | refine calm_ite ?_ ?_ | split | dsimp only))
theorem calm_firstCells (s n : Nat) (v : Value) : (Builtin.firstCells s n v).Calm P := by
  unfold Builtin.firstCells
  have h := fun a n => calm_loadCells (P := P) a n
  (repeat' (first | exact calm_pure _ | exact calm_halt _ | exact calm_load _ _ | exact calm_store _ _ _ | exact calm_newObj _ | exact calm_getObj _ | exact calm_setObj _ _ | exact calm_choose _ | exact calm_program | exact calm_stuck _ | exact calm_unsupported _ | exact calm_goPanic _ | exact calm_askRoom _ | assumption | (apply_assumption; done) | refine calm_bind ?_ fun _ => ?_ | refine calm_map ?_ | refine calm_ite ?_ ?_ | split | dsimp only))
def Idle {α : Type} (P : Program) (e : Sem α) : Prop := ∀ (β : Type) (g : α → Sem β), (∀ a, (g a).Dead ∧ (g a).Calm P) → (e >>= g).Calm P
theorem idle_pure {α : Type} (a : α) : Idle P (pure a : Sem α) := fun _ _ h => (h a).2
theorem idle_shape (r : Nat) : Idle P (shape r) := fun _ _ h r => (h r).1
theorem idle_frozen (a : Addr) : Idle P (frozen a) := fun _ _ h r => (h r).1
theorem idle_bind {α β : Type} {e : Sem α} {k : α → Sem β} (he : Idle P e) (hk : ∀ a, Idle P (k a)) : Idle P (e >>= k) := fun β g h => by
  have e1 : (e >>= k >>= g) = (e >>= fun a => k a >>= g) := bind_assoc _ _ _
  rw [e1]
  exact he _ _ fun a => ⟨dead_bind fun b => (h b).1, hk a _ g h⟩
theorem idle_ite {α : Type} {c : Prop} [Decidable c] {x y : Sem α} (h1 : Idle P x) (h2 : Idle P y) : Idle P (if c then x else y) := by split <;> assumption
theorem idle_holds (a : Addr) (n : Nat) : Idle P (Builtin.holdsCells a n) := by
  unfold Builtin.holdsCells
  refine idle_bind (idle_shape _) fun r => ?_
  cases r <;> exact idle_pure _
theorem idle_mayShare (size sLen n : Nat) (base : Option Addr) (x : Value) : Idle P (Builtin.mayShare size sLen n base x) := by
  have h := fun a n => idle_holds (P := P) a n
  unfold Builtin.mayShare
  extract_lets jp
  have hj : ∀ t, Idle P (jp t) := fun t => by
    refine idle_ite (idle_pure _) ?_
    repeat' (first | exact idle_pure _ | exact h _ _ | refine idle_bind ?_ fun _ => ?_ | split)
  cases base with
  | none => exact idle_bind (idle_pure _) fun _ => hj _
  | some a => exact idle_bind (h _ _) fun _ => idle_bind (idle_frozen _) fun _ => idle_bind (idle_pure _) fun _ => hj _
theorem calm_append (ts : Array TypeId) (t : TypeId) (vs : Array Value) : (Builtin.append_ ts t vs).Calm P := by
  unfold Builtin.append_
  have h1 := fun t => calm_underlying (P := P) t; have h2 := fun v => calm_asInt (P := P) v; have h3 := fun t => calm_typeInfo (P := P) t; have h4 := fun t => calm_sizeOf (P := P) t; have h5 := fun t => calm_zeroValue (P := P) t
  have h6 := fun (e : RuntimeError) => calm_runtimePanic (P := P) (α := PUnit) e; have h7 := fun t c => calm_newRow (P := P) t c
  have h8 := fun (e : RuntimeError) => calm_runtimePanic (P := P) (α := Value) e; have h9 := fun s n v => calm_firstCells (P := P) s n v; have h10 := fun v => calm_lenOf (P := P) v
  have h11 := fun a vs i => calm_storeCells (P := P) a vs i
  have hm : ∀ (size sLen n : Nat) (base : Option Addr) (x : Value) (g : Bool → Sem Value), (∀ b, (g b).Dead ∧ (g b).Calm P) → (Builtin.mayShare size sLen n base x >>= g).Calm P := fun size sLen n base x g hg => idle_mayShare size sLen n base x _ g hg
  split
  rotate_left
  · exact calm_stuck _
  refine calm_bind (h1 _) fun _ => ?_
  split
  rotate_left
  · exact calm_stuck _
  split
  rotate_left
  · exact calm_stuck _
  refine calm_bind (h4 _) fun size => ?_
  extract_lets jx jp0
  have hj0 : ∀ z, (jp0 z).Calm P := by
    intro zeros
    unfold jp0
    extract_lets jp1
    have hj1 : ∀ n, (jp1 n).Calm P := by
      intro n
      unfold jp1
      extract_lets appended need jpS jp3 jp2
      have ha : appended.Calm P := by unfold appended; (repeat' (first | exact calm_pure _ | exact calm_halt _ | exact calm_load _ _ | exact calm_store _ _ _ | exact calm_newObj _ | exact calm_getObj _ | exact calm_setObj _ _ | exact calm_choose _ | exact calm_program | exact calm_stuck _ | exact calm_unsupported _ | exact calm_goPanic _ | exact calm_askRoom _ | assumption | (apply_assumption; done) | refine calm_bind ?_ fun _ => ?_ | refine calm_map ?_ | refine calm_ite ?_ ?_ | split | dsimp only))
      clear_value appended
      have hj3 : ∀ u, (jp3 u).Calm P := by
        intro u
        unfold jp3
        (repeat' (first | exact calm_pure _ | exact calm_halt _ | exact calm_load _ _ | exact calm_store _ _ _ | exact calm_newObj _ | exact calm_getObj _ | exact calm_setObj _ _ | exact calm_choose _ | exact calm_program | exact calm_stuck _ | exact calm_unsupported _ | exact calm_goPanic _ | exact calm_askRoom _ | assumption | (apply_assumption; done) | refine calm_bind ?_ fun _ => ?_ | refine calm_map ?_ | refine calm_ite ?_ ?_ | split | dsimp only))
      clear_value jp3
      have hj2 : ∀ u, (jp2 u).Calm P := by
        intro u
        unfold jp2
        refine calm_bind (h3 _) fun tj => ?_
        refine calm_ite ?_ (hj3 _)
        refine calm_bind (calm_ite (h6 _) ?_) fun _ => hj3 _
        refine idle_mayShare _ _ _ _ _ _ _ fun b => ⟨?_, ?_⟩
        · cases b <;> trivial
        · cases b
          · exact ⟨rfl, trivial⟩
          · trivial
      clear_value jp2
      refine calm_ite ?_ ?_
      · (repeat' (first | exact calm_pure _ | exact calm_halt _ | exact calm_load _ _ | exact calm_store _ _ _ | exact calm_newObj _ | exact calm_getObj _ | exact calm_setObj _ _ | exact calm_choose _ | exact calm_program | exact calm_stuck _ | exact calm_unsupported _ | exact calm_goPanic _ | exact calm_askRoom _ | assumption | (apply_assumption; done) | refine calm_bind ?_ fun _ => ?_ | refine calm_map ?_ | refine calm_ite ?_ ?_ | split | dsimp only))
      · refine calm_bind (h3 _) fun ti => ?_
        exact calm_ite (calm_bind (h6 _) fun _ => hj2 _) (hj2 _)
    clear_value jp1
    refine calm_ite ?_ ?_
    · refine calm_bind (h2 _) fun l => ?_
      extract_lets l' jp5 jp4
      have hj5 : ∀ u, (jp5 u).Calm P := by
        intro u
        unfold jp5
        (repeat' (first | exact calm_pure _ | exact calm_halt _ | exact calm_load _ _ | exact calm_store _ _ _ | exact calm_newObj _ | exact calm_getObj _ | exact calm_setObj _ _ | exact calm_choose _ | exact calm_program | exact calm_stuck _ | exact calm_unsupported _ | exact calm_goPanic _ | exact calm_askRoom _ | assumption | (apply_assumption; done) | refine calm_bind ?_ fun _ => ?_ | refine calm_map ?_ | refine calm_ite ?_ ?_ | split | dsimp only))
      clear_value jp5
      have hj4 : ∀ u, (jp4 u).Calm P := by
        intro u
        unfold jp4
        (repeat' (first | exact calm_pure _ | exact calm_halt _ | exact calm_load _ _ | exact calm_store _ _ _ | exact calm_newObj _ | exact calm_getObj _ | exact calm_setObj _ _ | exact calm_choose _ | exact calm_program | exact calm_stuck _ | exact calm_unsupported _ | exact calm_goPanic _ | exact calm_askRoom _ | assumption | (apply_assumption; done) | refine calm_bind ?_ fun _ => ?_ | refine calm_map ?_ | refine calm_ite ?_ ?_ | split | dsimp only))
      clear_value jp4
      (repeat' (first | exact calm_pure _ | exact calm_halt _ | exact calm_load _ _ | exact calm_store _ _ _ | exact calm_newObj _ | exact calm_getObj _ | exact calm_setObj _ _ | exact calm_choose _ | exact calm_program | exact calm_stuck _ | exact calm_unsupported _ | exact calm_goPanic _ | exact calm_askRoom _ | assumption | (apply_assumption; done) | refine calm_bind ?_ fun _ => ?_ | refine calm_map ?_ | refine calm_ite ?_ ?_ | split | dsimp only))
    · (repeat' (first | exact calm_pure _ | exact calm_halt _ | exact calm_load _ _ | exact calm_store _ _ _ | exact calm_newObj _ | exact calm_getObj _ | exact calm_setObj _ _ | exact calm_choose _ | exact calm_program | exact calm_stuck _ | exact calm_unsupported _ | exact calm_goPanic _ | exact calm_askRoom _ | assumption | (apply_assumption; done) | refine calm_bind ?_ fun _ => ?_ | refine calm_map ?_ | refine calm_ite ?_ ?_ | split | dsimp only))
  clear_value jp0
  split
  · refine calm_bind (h1 _) fun _ => calm_bind (calm_pure _) fun _ => hj0 _
  · exact calm_bind (calm_pure _) fun _ => hj0 _
theorem calm_clear (ts : Array TypeId) (t : TypeId) (vs : Array Value) : (Builtin.clear_ ts t vs).Calm P := by
  unfold Builtin.clear_
  have h1 := fun t => calm_underlying (P := P) t; have h2 := fun t => calm_zeroValue (P := P) t; have h3 := fun a vs i => calm_storeCells (P := P) a vs i
  (repeat' (first | exact calm_pure _ | exact calm_halt _ | exact calm_load _ _ | exact calm_store _ _ _ | exact calm_newObj _ | exact calm_getObj _ | exact calm_setObj _ _ | exact calm_choose _ | exact calm_program | exact calm_stuck _ | exact calm_unsupported _ | exact calm_goPanic _ | exact calm_askRoom _ | assumption | (apply_assumption; done) | refine calm_bind ?_ fun _ => ?_ | refine calm_map ?_ | refine calm_ite ?_ ?_ | split | dsimp only))
theorem calm_copy (ts : Array TypeId) (t : TypeId) (vs : Array Value) : (Builtin.copy_ ts t vs).Calm P := by
  unfold Builtin.copy_
  have h1 := fun t => calm_underlying (P := P) t; have h2 := fun t => calm_sizeOf (P := P) t; have h3 := fun a vs i => calm_storeCells (P := P) a vs i; have h4 := fun v => calm_lenOf (P := P) v; have h5 := fun s n v => calm_firstCells (P := P) s n v
  (repeat' (first | exact calm_pure _ | exact calm_halt _ | exact calm_load _ _ | exact calm_store _ _ _ | exact calm_newObj _ | exact calm_getObj _ | exact calm_setObj _ _ | exact calm_choose _ | exact calm_program | exact calm_stuck _ | exact calm_unsupported _ | exact calm_goPanic _ | exact calm_askRoom _ | assumption | (apply_assumption; done) | refine calm_bind ?_ fun _ => ?_ | refine calm_map ?_ | refine calm_ite ?_ ?_ | split | dsimp only))
theorem calm_foldlM {α β : Type} {f : β → α → Sem β} (h : ∀ b a, (f b a).Calm P) : ∀ (l : List α) (b : β), (l.foldlM f b).Calm P
  | [], _ => calm_pure _
  | a :: l, b => calm_bind (h b a) fun _ => calm_foldlM h l _
theorem calm_min (ts : Array TypeId) (t : TypeId) (vs : Array Value) : (Builtin.min_ ts t vs).Calm P := by
  unfold Builtin.min_
  have h1 := fun v => calm_asBool (P := P) v
  split
  · exact calm_stuck _
  · refine calm_foldlM (fun a b => ?_) _ _
    unfold Builtin.min2 Op.stringOp
    (repeat' (first | exact calm_pure _ | exact calm_halt _ | exact calm_load _ _ | exact calm_store _ _ _ | exact calm_newObj _ | exact calm_getObj _ | exact calm_setObj _ _ | exact calm_choose _ | exact calm_program | exact calm_stuck _ | exact calm_unsupported _ | exact calm_goPanic _ | exact calm_askRoom _ | assumption | (apply_assumption; done) | refine calm_bind ?_ fun _ => ?_ | refine calm_map ?_ | refine calm_ite ?_ ?_ | split | dsimp only))
theorem calm_max (ts : Array TypeId) (t : TypeId) (vs : Array Value) : (Builtin.max_ ts t vs).Calm P := by
  unfold Builtin.max_
  have h1 := fun v => calm_asBool (P := P) v
  split
  · exact calm_stuck _
  · refine calm_foldlM (fun a b => ?_) _ _
    unfold Builtin.max2 Op.stringOp
    (repeat' (first | exact calm_pure _ | exact calm_halt _ | exact calm_load _ _ | exact calm_store _ _ _ | exact calm_newObj _ | exact calm_getObj _ | exact calm_setObj _ _ | exact calm_choose _ | exact calm_program | exact calm_stuck _ | exact calm_unsupported _ | exact calm_goPanic _ | exact calm_askRoom _ | assumption | (apply_assumption; done) | refine calm_bind ?_ fun _ => ?_ | refine calm_map ?_ | refine calm_ite ?_ ?_ | split | dsimp only))
def calmOp : Op → Bool
  | .move _ | .assign _ | .pick .. | .alloc _ | .box .. | .build .. | .buildSlice .. | .load .. | .store .. | .makeFunc .. | .makeMap .. | .makeChan .. | .makeSlice .. | .slice .. | .indexAddr .. | .index .. | .field .. | .extract .. => true
  | .call ⟨.builtin .len, _, _⟩ | .call ⟨.builtin .append, _, _⟩ | .call ⟨.builtin .cap, _, _⟩ | .call ⟨.builtin .clear, _, _⟩ | .call ⟨.builtin .copy, _, _⟩ | .call ⟨.builtin .min, _, _⟩ | .call ⟨.builtin .max, _, _⟩ => true
  | _ => false
theorem calm_static {o : Oper} (h : calmOp o.op = true) (ρ : Operand → Value) : (execOp ρ o).Calm P := by
  obtain ⟨dst, op, ty, pos, aft, g⟩ := o
  have v : ∀ {s : Sem Value}, s.Calm P → (do pure (.value (← s)) : Sem Next).Calm P := fun h => calm_bind h fun _ => calm_pure _
  have u : ∀ {s : Sem Unit}, s.Calm P → (do s; pure .skip : Sem Next).Calm P := fun h => calm_bind h fun _ => calm_pure _
  cases op <;> first | (cases h; done) | skip
  case move x => exact calm_pure _
  case assign x => exact calm_pure _
  case pick => exact calm_bind (calm_asBool _) fun _ => calm_pure _
  case alloc => exact v (calm_alloc _ _ _)
  case box => exact v (calm_box _ _)
  case build => exact v (calm_build _ _)
  case buildSlice => exact v (calm_buildSlice _ _ _)
  case load => exact v (calm_loadAt _ _)
  case store => exact u (calm_storeAt _ _ _)
  case makeFunc => exact v (calm_makeFunc _ _ _)
  case makeMap => exact v (calm_makeMap _ _)
  case makeChan => exact v (calm_makeChan _ _)
  case makeSlice => exact v (calm_makeSlice _ _ _)
  case slice => exact v (calm_sliceAt _ _ _ _ _)
  case field => exact v (calm_field _ _ _)
  case indexAddr => exact v (calm_indexAt _ _ _)
  case index => exact v (calm_index _ _ _)
  case extract => exact v (calm_extract _ _)
  case call c =>
    obtain ⟨callee, args, ts⟩ := c
    cases callee <;> first | (cases h; done) | skip
    rename_i b
    cases b <;> first | (cases h; done) | skip
    · exact v (calm_append _ _ _)
    · exact v (calm_cap _ _ _)
    · exact v (calm_clear _ _ _)
    · exact v (calm_copy _ _ _)
    · exact v (calm_len _ _ _)
    · exact v (calm_max _ _ _)
    · exact v (calm_min _ _ _)
section
variable {ρ : Operand → Value} {x y : Operand} {op : BinOp} {T T' : TypeId} {dst : Option Tmp} {ty : TypeId} {pos : String} {aft : Array Edge} {g : Option (Nat × Bool)}
theorem calm_eqGuardI (op : BinOp) (T : TypeId) (x y : Operand) (k k' : IntKind) (a b : Int) : (eqGuard op T x y (.int k a) (.int k' b)).Calm P := by unfold eqGuard; (repeat' (first | exact calm_pure _ | exact calm_halt _ | exact calm_load _ _ | exact calm_store _ _ _ | exact calm_newObj _ | exact calm_getObj _ | exact calm_setObj _ _ | exact calm_choose _ | exact calm_program | exact calm_stuck _ | exact calm_unsupported _ | exact calm_goPanic _ | exact calm_askRoom _ | assumption | (apply_assumption; done) | refine calm_bind ?_ fun _ => ?_ | refine calm_map ?_ | refine calm_ite ?_ ?_ | split | dsimp only))
theorem calm_eqGuardS (op : BinOp) (T : TypeId) (x y : Operand) (a b : ByteArray) : (eqGuard op T x y (.string a) (.string b)).Calm P := by unfold eqGuard; (repeat' (first | exact calm_pure _ | exact calm_halt _ | exact calm_load _ _ | exact calm_store _ _ _ | exact calm_newObj _ | exact calm_getObj _ | exact calm_setObj _ _ | exact calm_choose _ | exact calm_program | exact calm_stuck _ | exact calm_unsupported _ | exact calm_goPanic _ | exact calm_askRoom _ | assumption | (apply_assumption; done) | refine calm_bind ?_ fun _ => ?_ | refine calm_map ?_ | refine calm_ite ?_ ?_ | split | dsimp only))
theorem calm_int {k k' : IntKind} {a b : Int} (hx : ρ x = .int k a) (hy : ρ y = .int k' b) : (execOp ρ ⟨dst, .binOp op T x y T', ty, pos, aft, g⟩).Calm P := by
  have h1 := fun (e : RuntimeError) => calm_runtimePanic (P := P) (α := Value) e
  have h2 := fun (e : RuntimeError) => calm_runtimePanic (P := P) (α := PUnit) e
  simp only [execOp, hx, hy]
  refine calm_bind (calm_bind (calm_eqGuardI _ _ _ _ _ _ _ _) fun _ => ?_) fun _ => calm_pure _
  cases op <;> simp only [binOp, Op.shift, Op.intArith, Op.intDiv, Op.intBits, Op.intCmp] <;> (repeat' (first | exact calm_pure _ | exact calm_halt _ | exact calm_load _ _ | exact calm_store _ _ _ | exact calm_newObj _ | exact calm_getObj _ | exact calm_setObj _ _ | exact calm_choose _ | exact calm_program | exact calm_stuck _ | exact calm_unsupported _ | exact calm_goPanic _ | exact calm_askRoom _ | assumption | (apply_assumption; done) | refine calm_bind ?_ fun _ => ?_ | refine calm_map ?_ | refine calm_ite ?_ ?_ | split | dsimp only))
theorem calm_str {a b : ByteArray} (hx : ρ x = .string a) (hy : ρ y = .string b) : (execOp ρ ⟨dst, .binOp op T x y T', ty, pos, aft, g⟩).Calm P := by
  simp only [execOp, hx, hy]
  refine calm_bind (calm_bind (calm_eqGuardS _ _ _ _ _ _) fun _ => ?_) fun _ => calm_pure _
  cases op <;> simp only [binOp, Op.stringOp] <;> (repeat' (first | exact calm_pure _ | exact calm_halt _ | exact calm_load _ _ | exact calm_store _ _ _ | exact calm_newObj _ | exact calm_getObj _ | exact calm_setObj _ _ | exact calm_choose _ | exact calm_program | exact calm_stuck _ | exact calm_unsupported _ | exact calm_goPanic _ | exact calm_askRoom _ | assumption | (apply_assumption; done) | refine calm_bind ?_ fun _ => ?_ | refine calm_map ?_ | refine calm_ite ?_ ?_ | split | dsimp only))
theorem calm_unI {u : UnOp} {k : IntKind} {a : Int} (hx : ρ x = .int k a) : (execOp ρ ⟨dst, .unOp u T x, ty, pos, aft, g⟩).Calm P := by
  simp only [execOp, hx]
  refine calm_bind ?_ fun _ => calm_pure _
  cases u <;> simp only [Op.unary, Op.intArith] <;> (repeat' (first | exact calm_pure _ | exact calm_halt _ | exact calm_load _ _ | exact calm_store _ _ _ | exact calm_newObj _ | exact calm_getObj _ | exact calm_setObj _ _ | exact calm_choose _ | exact calm_program | exact calm_stuck _ | exact calm_unsupported _ | exact calm_goPanic _ | exact calm_askRoom _ | assumption | (apply_assumption; done) | refine calm_bind ?_ fun _ => ?_ | refine calm_map ?_ | refine calm_ite ?_ ?_ | split | dsimp only))
theorem calm_unB {u : UnOp} {a : Bool} (hx : ρ x = .bool a) : (execOp ρ ⟨dst, .unOp u T x, ty, pos, aft, g⟩).Calm P := by
  simp only [execOp, hx]
  refine calm_bind ?_ fun _ => calm_pure _
  cases u <;> simp only [Op.unary] <;> (repeat' (first | exact calm_pure _ | exact calm_halt _ | exact calm_load _ _ | exact calm_store _ _ _ | exact calm_newObj _ | exact calm_getObj _ | exact calm_setObj _ _ | exact calm_choose _ | exact calm_program | exact calm_stuck _ | exact calm_unsupported _ | exact calm_goPanic _ | exact calm_askRoom _ | assumption | (apply_assumption; done) | refine calm_bind ?_ fun _ => ?_ | refine calm_map ?_ | refine calm_ite ?_ ?_ | split | dsimp only))
theorem calm_convI {k k' : IntKind} {a : Int} (hd : P.underlying T' = some (.int k')) (hs : P.underlying T = some (.int k)) (hx : ρ x = .int k a) : (execOp ρ ⟨dst, .convert T T' x, ty, pos, aft, g⟩).Calm P := by
  simp only [execOp, hx]
  refine calm_bind ?_ fun _ => calm_pure _
  unfold convert
  refine calm_und hs (calm_und hd ?_)
  exact calm_pure _
end
section
variable {ρ : Operand → Value} {x y : Operand} {op : BinOp} {T T' : TypeId} {dst : Option Tmp} {ty : TypeId} {pos : String} {aft : Array Edge} {g : Option (Nat × Bool)}
theorem calm_eqOf {a b : Value} (hop : op = .eql ∨ op = .neq) (hx : ρ x = a) (hy : ρ y = b) (hn : ∀ o, binOp o T a b = match o with | .eql => (do pure (.bool (← Op.equal T a b)) : Sem Value) | .neq => (do pure (.bool (!(← Op.equal T a b)))) | _ => binOp o T a b) (hg : (eqGuard op T x y a b).Calm P) (he : (Op.equal T a b).Calm P) :
    (execOp ρ ⟨dst, .binOp op T x y T', ty, pos, aft, g⟩).Calm P := by
  simp only [execOp, hx, hy]
  refine calm_bind (calm_bind hg fun _ => ?_) fun _ => calm_pure _
  rcases hop with rfl | rfl
  · rw [hn]; exact calm_bind he fun _ => calm_pure _
  · rw [hn]; exact calm_bind he fun _ => calm_pure _
theorem calm_eqNil {p : Option Addr} {e : TypeId} (hu : P.underlying T = some (.pointer e)) (hop : op = .eql ∨ op = .neq) (hx : ρ x = .pointer p) (hy : ρ y = .pointer none) : (execOp ρ ⟨dst, .binOp op T x y T', ty, pos, aft, g⟩).Calm P := by
  refine calm_eqOf hop hx hy (fun o => by cases o <;> rfl) ?_ ?_
  · unfold eqGuard; (repeat' (first | exact calm_pure _ | exact calm_halt _ | exact calm_load _ _ | exact calm_store _ _ _ | exact calm_newObj _ | exact calm_getObj _ | exact calm_setObj _ _ | exact calm_choose _ | exact calm_program | exact calm_stuck _ | exact calm_unsupported _ | exact calm_goPanic _ | exact calm_askRoom _ | assumption | (apply_assumption; done) | refine calm_bind ?_ fun _ => ?_ | refine calm_map ?_ | refine calm_ite ?_ ?_ | split | dsimp only))
  · unfold Op.equal Op.maxDepth Op.equalIn
    refine calm_und hu ?_
    cases p <;> exact calm_pure _
theorem calm_eqSl {base : Option Addr} {m c : Nat} {e : TypeId} (hu : P.underlying T = some (.slice e)) (hop : op = .eql ∨ op = .neq) (hx : ρ x = .slice base m c) (hy : ρ y = .slice none 0 0) : (execOp ρ ⟨dst, .binOp op T x y T', ty, pos, aft, g⟩).Calm P := by
  refine calm_eqOf hop hx hy (fun o => by cases o <;> rfl) ?_ ?_
  · unfold eqGuard; (repeat' (first | exact calm_pure _ | exact calm_halt _ | exact calm_load _ _ | exact calm_store _ _ _ | exact calm_newObj _ | exact calm_getObj _ | exact calm_setObj _ _ | exact calm_choose _ | exact calm_program | exact calm_stuck _ | exact calm_unsupported _ | exact calm_goPanic _ | exact calm_askRoom _ | assumption | (apply_assumption; done) | refine calm_bind ?_ fun _ => ?_ | refine calm_map ?_ | refine calm_ite ?_ ?_ | split | dsimp only))
  · unfold Op.equal Op.maxDepth Op.equalIn
    refine calm_und hu ?_
    cases base <;> exact calm_pure _
end
theorem calm_results (fn : Func) (tmps : Array Value) : (results fn tmps).Calm P := by
  unfold results
  refine calm_bind (calm_mapA (fun r => ?_) _) fun _ => calm_pure _
  cases r with
  | tmp t => exact calm_pure _
  | cell x t => exact calm_bind (calm_asAddr _) fun _ => calm_loadVar _ _
end
end Go.X
