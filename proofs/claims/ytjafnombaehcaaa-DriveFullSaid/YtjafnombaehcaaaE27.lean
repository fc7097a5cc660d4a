/- Structs of three numbers compared. Parts taken one by one out of many. No program in sight. -/
import Derived.Test.YtjafnombaehcaaaE26
import Derived.Laws.StructEq
set_option linter.unusedVariables false
set_option linter.unusedSimpArgs false
namespace Go.Sx
open Go
/-- a struct of three numbers that may be compared -/
class TEq3 (P : Program) (t : TypeId) : Prop where
  guard : P.eqGuardType P.depth t = false
  eq : ∀ (a b c d e f : Int) (w : World), (Op.equalIn 10000 t (.agg #[.int .i64 a, .int .i64 b, .int .i64 c]) (.agg #[.int .i64 d, .int .i64 e, .int .i64 f])).run P w = .ok (decide (a = d ∧ b = e ∧ c = f)) w
section
variable {P : Program} {x y : Operand} {T T' : TypeId} [hT : TEq3 P T] {a b c d e f : Int}
theorem op_eqlA3 {n : Nat} {W0 : World} {F : Slots} {H : Heap} {L : List HProp} {dst : Option Tmp} {ty : TypeId} {pos : String} {aft : Array Edge} {g : Option (Nat × Bool)} (hx : opv F x = some (.agg #[.int .i64 a, .int .i64 b, .int .i64 c])) (hy : opv F y = some (.agg #[.int .i64 d, .int .i64 e, .int .i64 f])) :
    OpP P n W0 ⟨dst, .binOp .eql T x y T', ty, pos, aft, g⟩ F H L (.bool (decide (a = d ∧ b = e ∧ c = f))) :=
  .mk fun _ w hF _ => by
    simp only [execOp, hF.opv hx, hF.opv hy]
    simp only [Sem.run_bind, run_eqGuard_agg _ _ _ _ _ _ _ hT.guard, run_eql_struct, hT.eq, Result.andThen_ok]
    simp
theorem op_neqA3 {n : Nat} {W0 : World} {F : Slots} {H : Heap} {L : List HProp} {dst : Option Tmp} {ty : TypeId} {pos : String} {aft : Array Edge} {g : Option (Nat × Bool)} (hx : opv F x = some (.agg #[.int .i64 a, .int .i64 b, .int .i64 c])) (hy : opv F y = some (.agg #[.int .i64 d, .int .i64 e, .int .i64 f])) :
    OpP P n W0 ⟨dst, .binOp .neq T x y T', ty, pos, aft, g⟩ F H L (.bool (!decide (a = d ∧ b = e ∧ c = f))) :=
  .mk fun _ w hF _ => by
    simp only [execOp, hF.opv hx, hF.opv hy]
    simp only [Sem.run_bind, run_eqGuard_agg _ _ _ _ _ _ _ hT.guard, run_neq_struct, hT.eq, Result.andThen_ok]
    simp
instance : BOp P (.binOp .eql T x y T') [.agg #[.int .i64 a, .int .i64 b, .int .i64 c], .agg #[.int .i64 d, .int .i64 e, .int .i64 f]] (a = d ∧ b = e ∧ c = f) inferInstance := ⟨fun h => op_eqlA3 (opvs2 h).1 (opvs2 h).2⟩
instance : BOp P (.binOp .neq T x y T') [.agg #[.int .i64 a, .int .i64 b, .int .i64 c], .agg #[.int .i64 d, .int .i64 e, .int .i64 f]] (¬ (a = d ∧ b = e ∧ c = f)) inferInstance := ⟨fun h => (op_neqA3 (opvs2 h).1 (opvs2 h).2).cast (by simp)⟩
end
/-! ### Many parts -/
/-- a part for each -/
def bigL {ι : Type} (A : ι → HProp) (l : List ι) : HProp := big (l.map A)
section
variable {ι : Type} {A : ι → HProp} {l l1 l2 : List ι} {x y : ι} {L : List HProp}
theorem big_one {B : HProp} {h : Heap} (hb : B h) : big [B] h := ⟨h, Heap.empty, hb, trivial, fun _ => .inr rfl, .refl _, fun _ _ h => by simp [Heap.empty] at h⟩
theorem bigL_open : Sub (bigL A l :: L) (l.map A ++ L) := sub_open fun _ h => h
theorem bigL_shut : Sub (l.map A ++ L) (bigL A l :: L) := sub_shut fun _ h => h
theorem sub_mid {M N : List HProp} {B : HProp} : Sub (M ++ B :: N) (B :: (M ++ N)) := by
  induction M with
  | nil => exact Sub.refl _
  | cons a M ih => exact (Sub.cons ih).trans fun _ => big_swap
theorem sub_unmid {M N : List HProp} {B : HProp} : Sub (B :: (M ++ N)) (M ++ B :: N) := by
  induction M with
  | nil => exact Sub.refl _
  | cons a M ih => exact Sub.trans (fun _ => big_swap) (Sub.cons ih)
/-- one is taken out -/
theorem bigL_out : Sub (bigL A (l1 ++ x :: l2) :: L) (A x :: bigL A (l1 ++ l2) :: L) := by
  refine bigL_open.trans ?_
  rw [List.map_append, List.map_cons, List.append_assoc, List.cons_append]
  refine sub_mid.trans (Sub.cons ?_)
  rw [← List.append_assoc, ← List.map_append]
  exact bigL_shut
/-- and put back, as it may be now -/
theorem bigL_in : Sub (A x :: bigL A (l1 ++ l2) :: L) (bigL A (l1 ++ x :: l2) :: L) := by
  refine Sub.trans (Sub.cons bigL_open) ?_
  rw [List.map_append, List.append_assoc]
  refine sub_unmid.trans ?_
  have : l1.map A ++ A x :: (l2.map A ++ L) = (l1 ++ x :: l2).map A ++ L := by simp
  rw [this]
  exact bigL_shut
theorem bigL_nil : Sub L (bigL A [] :: L) := fun h hb => ⟨Heap.empty, h, trivial, hb, fun _ => .inl rfl, fun _ _ h => by simp [Heap.empty] at h, .refl _⟩
theorem split_at {k : Nat} (hk : k < l.length) : l = l.take k ++ l[k] :: l.drop (k + 1) := by
  rw [← List.drop_eq_getElem_cons hk, List.take_append_drop]
theorem bigL_get {k : Nat} (hk : k < l.length) : Sub (bigL A l :: L) (A l[k] :: bigL A (l.take k ++ l.drop (k + 1)) :: L) := by
  have h := bigL_out (A := A) (l1 := l.take k) (x := l[k]) (l2 := l.drop (k + 1)) (L := L)
  rwa [← split_at hk] at h
theorem bigL_set {k : Nat} (hk : k < l.length) : Sub (A y :: bigL A (l.take k ++ l.drop (k + 1)) :: L) (bigL A (l.set k y) :: L) := by
  have h := bigL_in (A := A) (l1 := l.take k) (x := y) (l2 := l.drop (k + 1)) (L := L)
  rw [List.set_eq_take_append_cons_drop, if_pos hk]; exact h
end
section
variable {P : Program} {n : Nat} {W0 : World} {Q : Exit → Act → World → Prop} {F : Slots} {H : Heap} {L : List HProp} {ops : Array Oper} {rest : List Oper} {q : Bool} {k : List Fr} {y : Code}
/-- operations, and what stands behind their piece of code, whose ends meet -/
theorem ops_cut0 {σ : Type} (I : σ → Prop) (mF : σ → Slots) (mH : σ → Heap) (mL : σ → List HProp)
    (h : ∀ K : Act → World → Prop, (∀ s, I s → Sat n W0 (mF s) (mH s) (mL s) K) → Ops P n W0 Q F H L q ops rest (.cut K :: k)) (h2 : ∀ s, I s → Ex P n W0 Q (mF s) (mH s) (mL s) y k) : Ops P n W0 Q F H L q ops rest (.seq y :: k) :=
  ⟨(h (y.wp P (Kx P Q k)) fun s hs => (h2 s hs).run).run⟩
theorem ops_cut1 {c : Code} {σ : Type} (I : σ → Prop) (mF : σ → Slots) (mH : σ → Heap) (mL : σ → List HProp)
    (h : ∀ K : Act → World → Prop, (∀ s, I s → Sat n W0 (mF s) (mH s) (mL s) K) → Ops P n W0 Q F H L q ops rest (.seq c :: .cut K :: k)) (h2 : ∀ s, I s → Ex P n W0 Q (mF s) (mH s) (mL s) y k) : Ops P n W0 Q F H L q ops rest (.seq c :: .seq y :: k) :=
  ⟨(h (y.wp P (Kx P Q k)) fun s hs => (h2 s hs).run).run⟩
theorem ex_cut1 {x c : Code} {σ : Type} (I : σ → Prop) (mF : σ → Slots) (mH : σ → Heap) (mL : σ → List HProp)
    (h : ∀ K : Act → World → Prop, (∀ s, I s → Sat n W0 (mF s) (mH s) (mL s) K) → Ex P n W0 Q F H L x (.seq c :: .cut K :: k)) (h2 : ∀ s, I s → Ex P n W0 Q (mF s) (mH s) (mL s) y k) : Ex P n W0 Q F H L x (.seq c :: .seq y :: k) :=
  ⟨(h (y.wp P (Kx P Q k)) fun s hs => (h2 s hs).run).run⟩
theorem owp_mono {P : Program} {o : Oper} {a : Act} {w : World} {K K' : Act → World → Prop} {Q Q' : Exit → Act → World → Prop} (hq : ∀ e a w, Q e a w → Q' e a w) (h : ∀ a w, K a w → K' a w)
    (hh : o.wp P a w K Q) : o.wp P a w K' Q' := by
  unfold Oper.wp at *
  generalize (execOp a.eval o).run P w = r at *
  cases r with
  | ok n w' =>
    cases n <;> simp only [Oper.upon] at hh ⊢ <;>
      first
        | exact h _ _ hh
        | exact Calls.mono hh (fun e w'' he => by cases e <;> first | exact h _ _ he | exact hq _ _ _ he | exact (let ⟨a', w', x⟩ := he; ⟨a', w', hq _ _ _ x⟩))
        | exact Rows.mono hh (fun _ _ he => h _ _ he)
  | halt x w' => cases x <;> simp only [Oper.upon] at hh ⊢ <;> first | exact hq _ _ _ hh | exact hh | exact (let ⟨a', w', x⟩ := hh; ⟨a', w', hq _ _ _ x⟩)
theorem wpList_mono {P : Program} {ops : Array Oper} {Q Q' : Exit → Act → World → Prop} (hq : ∀ e a w, Q e a w → Q' e a w) : ∀ {rest : List Oper} {a : Act} {w : World}, wpList P ops Q rest a w → wpList P ops Q' rest a w
  | [], a, w, h => hq _ _ _ h
  | o :: rest, a, w, h => by
    simp only [wpList] at h ⊢
    split at h
    · next hw =>
      rw [if_pos hw]
      rcases h with h | ⟨h, a', w', h'⟩
      · exact .inl (owp_mono hq (fun _ _ => wpList_mono hq) h)
      · exact .inr ⟨h, a', w', hq _ _ _ h'⟩
    · next hw =>
      rw [if_neg hw]
      exact wpList_mono hq h
theorem kx_seq {x y : Code} {e : Exit} {a : Act} {w : World} (h : Kx P Q (.seq x :: .seq y :: k) e a w) : Kx P Q (.seq (x.seq y) :: k) e a w := by
  cases e <;> first | exact wp_seq h | exact h
theorem kx_mono {f : Fr} {k' k'' : List Fr} (h : ∀ e a w, Kx P Q k' e a w → Kx P Q k'' e a w) {e : Exit} {a : Act} {w : World} (hh : Kx P Q (f :: k') e a w) : Kx P Q (f :: k'') e a w := by
  cases f with
  | seq c => cases e <;> first | exact wp_mono hh h | exact h _ _ _ hh
  | blk id => cases e <;> first | exact h _ _ _ hh | (simp only [Kx, Exit.inBlock] at hh ⊢; split at hh <;> split <;> first | exact h _ _ _ hh | contradiction)
  | cut K => cases e <;> first | exact hh | exact h _ _ _ hh
theorem ops_k {k' : List Fr} (h : ∀ e a w, Kx P Q k' e a w → Kx P Q k e a w) (hh : Ops P n W0 Q F H L false ops rest k') : Ops P n W0 Q F H L false ops rest k :=
  ⟨fun a w hF hS => wpList_mono h (hh.run a w hF hS)⟩
theorem ops_cut2 {x : Code} {σ : Type} (I : σ → Prop) (mF : σ → Slots) (mH : σ → Heap) (mL : σ → List HProp)
    (h : ∀ K : Act → World → Prop, (∀ s, I s → Sat n W0 (mF s) (mH s) (mL s) K) → Ops P n W0 Q F H L false ops rest (.seq x :: .cut K :: k)) (h2 : ∀ s, I s → Ex P n W0 Q (mF s) (mH s) (mL s) y k) : Ops P n W0 Q F H L false ops rest (.seq (x.seq y) :: k) :=
  ops_k (fun _ _ _ => kx_seq) (ops_cut1 I mF mH mL h h2)
theorem ops_cut3 {x z : Code} {σ : Type} (I : σ → Prop) (mF : σ → Slots) (mH : σ → Heap) (mL : σ → List HProp)
    (h : ∀ K : Act → World → Prop, (∀ s, I s → Sat n W0 (mF s) (mH s) (mL s) K) → Ops P n W0 Q F H L false ops rest (.seq x :: .seq z :: .cut K :: k)) (h2 : ∀ s, I s → Ex P n W0 Q (mF s) (mH s) (mL s) y k) : Ops P n W0 Q F H L false ops rest (.seq (x.seq (z.seq y)) :: k) := by
  refine ops_k (fun _ _ _ => kx_seq) ?_
  refine ops_k (k' := .seq x :: .seq z :: .seq y :: k) (fun _ _ _ h => kx_mono (fun _ _ _ => kx_seq) h) ?_
  exact ⟨(h (y.wp P (Kx P Q k)) fun s hs => (h2 s hs).run).run⟩
end
end Go.Sx
